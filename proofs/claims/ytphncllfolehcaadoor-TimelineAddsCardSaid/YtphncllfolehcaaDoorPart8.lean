/- Part8: Fn0. -/
import Derived.Test.YtphncllfolehcaaDoorProg
import Derived.Test.YtphncllfolehcaaDoorPart7
namespace Go.Lift
open Go.Proofs
noncomputable section
set_option maxRecDepth 100000
set_option linter.unusedVariables false

abbrev zq0 := (Int × (Int × List UInt8))
abbrev zq1 : Ty := (.prod (.int .i64) (.prod (.int .i64) .str))
abbrev zq2 := (List (List UInt8 × Int) × (List (Int × (Int × (Int × Int))) × (List zq0 × List (Int × (Int × Int)))))
abbrev zq3 : Ty := (.prod (.slice (.prod .str (.int .i64))) (.prod (.slice (.prod (.int .i64) (.prod (.int .i64) (.prod (.int .i64) (.int .i64))))) (.prod (.slice zq1) (.slice (.prod (.int .i64) (.prod (.int .i64) (.int .i64)))))))
abbrev api_Row := (Int × ((Int × Int) × List Int))
abbrev zq4 : Ty := (.prod (.int .i64) (.prod (.prod (.int .i64) (.int .i64)) (.slice (.int .i64))))

def tab : List (Nat × TI) := [
  (3, ⟨false, 1, 8, [.int .i64 (0 : Int)], [], none, none, (some (.int .i64)), (some .i64), false, false, none, none⟩),
  (4, ⟨false, 1, 1, [.bool false], [], none, none, (some .bool), none, true, false, none, none⟩),
  (5, ⟨false, 1, 1, [.int .u8 (0 : Int)], [], none, none, (some (.int .u8)), (some .u8), false, false, none, none⟩),
  (9, ⟨false, 1, 16, [.str ([] : List UInt8)], [], none, none, (some .str), none, false, true, none, none⟩),
  (22, ⟨false, 1, 24, [.nils], [], (some 3), none, (some (.slice (.int .i64))), none, false, false, none, none⟩),
  (27, ⟨false, 1, 24, [.nils], [], (some 36), none, (some (.slice (.prod .str (.int .i64)))), none, false, false, none, none⟩),
  (28, ⟨false, 1, 24, [.nils], [], (some 54), none, (some (.slice (.prod (.int .i64) (.prod (.int .i64) (.prod (.int .i64) (.int .i64)))))), none, false, false, none, none⟩),
  (29, ⟨false, 1, 24, [.nils], [], (some 49), none, (some (.slice zq1)), none, false, false, none, none⟩),
  (30, ⟨false, 1, 24, [.nils], [], (some 60), none, (some (.slice (.prod (.int .i64) (.prod (.int .i64) (.int .i64))))), none, false, false, none, none⟩),
  (32, ⟨true, 4, 96, [.nils, .nils, .nils, .nils], [(0, 1, false), (1, 1, false), (2, 1, false), (3, 1, false)], none, none, (some zq3), none, false, false, none, none⟩),
  (36, ⟨true, 2, 24, [.str ([] : List UInt8), .int .i64 (0 : Int)], [(0, 1, false), (1, 1, false)], none, none, (some (.prod .str (.int .i64))), none, false, false, (some [.s, .i]), none⟩),
  (37, ⟨false, 1, 24, [.nils], [], (some 46), none, (some (.slice zq4)), none, false, false, none, none⟩),
  (44, ⟨true, 2, 16, [.int .i64 (0 : Int), .int .i64 (0 : Int)], [(0, 1, false), (1, 1, false)], none, none, (some (.prod (.int .i64) (.int .i64))), none, false, false, (some [.i, .i]), none⟩),
  (46, ⟨true, 4, 48, [.int .i64 (0 : Int), .int .i64 (0 : Int), .int .i64 (0 : Int), .nils], [(0, 1, false), (1, 2, true), (3, 1, false)], none, none, (some zq4), none, false, false, none, none⟩),
  (49, ⟨true, 3, 32, [.int .i64 (0 : Int), .int .i64 (0 : Int), .str ([] : List UInt8)], [(0, 1, false), (1, 1, false), (2, 1, false)], none, none, (some zq1), none, false, false, (some [.i, .i, .s]), none⟩),
  (54, ⟨true, 4, 32, [.int .i64 (0 : Int), .int .i64 (0 : Int), .int .i64 (0 : Int), .int .i64 (0 : Int)], [(0, 1, false), (1, 1, false), (2, 1, false), (3, 1, false)], none, none, (some (.prod (.int .i64) (.prod (.int .i64) (.prod (.int .i64) (.int .i64))))), none, false, false, (some [.i, .i, .i, .i]), none⟩),
  (56, ⟨true, 2, 32, [.nils, .int .i64 (0 : Int)], [(0, 1, false), (1, 1, false)], none, none, (some (.prod (.slice (.int .i64)) (.int .i64))), none, false, false, none, none⟩),
  (57, ⟨false, 1, 24, [.nils], [], (some 9), none, (some (.slice .str)), none, false, false, none, none⟩),
  (60, ⟨true, 3, 24, [.int .i64 (0 : Int), .int .i64 (0 : Int), .int .i64 (0 : Int)], [(0, 1, false), (1, 1, false), (2, 1, false)], none, none, (some (.prod (.int .i64) (.prod (.int .i64) (.int .i64)))), none, false, false, (some [.i, .i, .i]), none⟩),
  (68, ⟨true, 2, 32, [.nilp, .nils], [(0, 1, false), (1, 1, false)], none, none, none, none, false, false, none, none⟩),
  (81, ⟨false, 1, 24, [.nils], [], (some 22), none, (some (.slice (.slice (.int .i64)))), none, false, false, none, none⟩),
  (82, ⟨false, 1, 24, [.nils], [], (some 22), none, (some (.slice (.slice (.int .i64)))), none, false, false, none, none⟩),
  (85, ⟨false, 1, 8, [.junk], [], none, none, none, none, false, false, none, (some (3, 4))⟩),
  (87, ⟨false, 1, 24, [.nils], [], (some 44), none, (some (.slice (.prod (.int .i64) (.int .i64)))), none, false, false, none, none⟩),
  (90, ⟨false, 1, 8, [.junk], [], none, none, none, none, false, false, none, (some (93, 4))⟩),
  (91, ⟨false, 1, 24, [.nils], [], (some 93), none, (some (.slice (.prod (.int .i64) (.int .i64)))), none, false, false, none, none⟩),
  (93, ⟨true, 2, 16, [.int .i64 (0 : Int), .int .i64 (0 : Int)], [], (some 3), (some 2), (some (.prod (.int .i64) (.int .i64))), none, false, false, (some [.i, .i]), none⟩),
  (106, ⟨false, 1, 24, [.nils], [], (some 123), none, (some (.slice (.prod (.int .i64) (.prod (.int .i64) (.int .i64))))), none, false, false, none, none⟩),
  (123, ⟨true, 3, 24, [.int .i64 (0 : Int), .int .i64 (0 : Int), .int .i64 (0 : Int)], [(0, 1, false), (1, 1, false), (2, 1, false)], none, none, (some (.prod (.int .i64) (.prod (.int .i64) (.int .i64)))), none, false, false, (some [.i, .i, .i]), none⟩)]

theorem tab_ok : TOk Tryd.prog (look tab) := TOk_of (by kernel_rfl)
theorem mixed : Tryd.prog.follows .mixedOrders = true := by kernel_rfl

/-- pagewatch/pagewatchmade.Light -/
abbrev zq5 := {β : Type} → (List Int) → (Bool → Option β) → Option β
def zq6 (c : zq5) : Spec :=
  ⟨[(false, [.data (.slice (.int .i64))])], [], [(false, [.data .bool])], [], fun x k => c x.1.1.1 (fun r0 => k (((r0, ()), ()), ()))⟩
section
@[reducible] def made_Light_X : Ctx := ⟨look tab, pick1 [], false, false, false, false⟩
def zq7 {β : Type} (l : List Int) (k : (Bool → Option β)) : Option β :=
  let t : Bool := (decide ((List.length l : Int) ≤ (500 : Int)));
  k t
theorem zq8 (hΓ : ΓOk Tryd.prog made_Light_X.Γ) : SpecOk Tryd.prog 5 (zq6 (zq7)) :=
  spec_exec (X := made_Light_X) (Λ := pick1 []) (rs := [.tmp 2]) (c := bodyOf Tryd.f5) mixed tab_ok hΓ Tryd.func5 (by kernel_rfl) (by kernel_rfl) (by kernel_rfl) (by kernel_rfl) CutsOk_nil (fun x k r h => Eq.trans (b := (zq6 (zq7)).run x k) (by kernel_rfl) h)
end
theorem zq9Γ : ΓOk Tryd.prog (pick1 []) := ΓOk_nil
def zqa : zq5 := zq7
theorem zqb : SpecOk Tryd.prog 5 (zq6 zqa) := zq8 zq9Γ

/-- pagewatch/pagewatchmade.Roll -/
abbrev zqc := {β : Type} → (List Int) → ((List Int × Int) → Option β) → Option β
def zqd (c : zqc) : Spec :=
  ⟨[(false, [.data (.slice (.int .i64))])], [], [(false, [.ptr 0 0])], [.cells 56 [.data (.prod (.slice (.int .i64)) (.int .i64))]], fun x k => c x.1.1.1 (fun r0 => k (((), ()), ((r0, ()), ())))⟩
section
@[reducible] def made_Roll_X : Ctx := ⟨look tab, pick1 [], false, false, false, false⟩
def zqe {β : Type} (l : List Int) (k : ((List Int × Int) → Option β)) : Option β :=
  k (l, (0 : Int))
theorem zqf (hΓ : ΓOk Tryd.prog made_Roll_X.Γ) : SpecOk Tryd.prog 7 (zqd (zqe)) :=
  spec_exec (X := made_Roll_X) (Λ := pick1 []) (rs := [.tmp 2]) (c := bodyOf Tryd.f7) mixed tab_ok hΓ Tryd.func7 (by kernel_rfl) (by kernel_rfl) (by kernel_rfl) (by kernel_rfl) CutsOk_nil (fun x k r h => Eq.trans (b := (zqd (zqe)).run x k) (by kernel_rfl) h)
end
theorem zqgΓ : ΓOk Tryd.prog (pick1 []) := ΓOk_nil
def zqh : zqc := zqe
theorem zqi : SpecOk Tryd.prog 7 (zqd zqh) := zqf zqgΓ

/-- (*pagewatch/pagewatchmade.Dice).Next -/
abbrev zqj := {β : Type} → Int → (List Int × Int) → (Int → (List Int × Int) → Option β) → Option β
def zqk (c : zqj) : Spec :=
  ⟨[(false, [.ptr 0 0]), (false, [.data (.int .i64)])], [.cells 56 [.data (.prod (.slice (.int .i64)) (.int .i64))]], [(false, [.data (.int .i64)])], [.cells 56 [.data (.prod (.slice (.int .i64)) (.int .i64))]], fun x k => c x.1.2.1.1 x.2.1.1 (fun r0 r1 => k (((r0, ()), ()), ((r1, ()), ())))⟩
section
@[reducible] def made_Dice_Next_X : Ctx := ⟨look tab, pick1 [], false, false, false, false⟩
def zql {β : Type} (n : Int) (d : (List Int × Int)) (k : (Int → (List Int × Int) → Option β)) : Option β :=
  cond (decide ((List.length d.1 : Int) ≤ d.2))
  (k (0 : Int) d)
  (cond (decide (n < (1 : Int)))
  (k (0 : Int) d)
  (cond (decide (0 ≤ d.2) && decide (d.2 < (List.length d.1 : Int)))
  (let e : Int := List.getD d.1 (Int.toNat d.2) (0 : Int);
  cond (!decide (n = 0))
  (cond (decide ((Int.tmod e n) < (0 : Int)))
  (let x : Int := (IntKind.i64.wrap ((Int.tmod e n) + n));
  k x (d.1, (IntKind.i64.wrap (d.2 + (1 : Int)))))
  (k (Int.tmod e n) (d.1, (IntKind.i64.wrap (d.2 + (1 : Int))))))
  none)
  none))
theorem zqm (hΓ : ΓOk Tryd.prog made_Dice_Next_X.Γ) : SpecOk Tryd.prog 11 (zqk (zql)) :=
  spec_exec (X := made_Dice_Next_X) (Λ := pick1 []) (rs := [.tmp 4]) (c := bodyOf Tryd.f11) mixed tab_ok hΓ Tryd.func11 (by kernel_rfl) (by kernel_rfl) (by kernel_rfl) (by kernel_rfl) CutsOk_nil (fun x k r h => Eq.trans (b := (zqk (zql)).run x k) (by kernel_rfl) h)
end
theorem zqnΓ : ΓOk Tryd.prog (pick1 []) := ΓOk_nil
def zqo : zqj := zql
theorem zqp : SpecOk Tryd.prog 11 (zqk zqo) := zqm zqnΓ

/-- (*pagewatch/pagewatchmade.Dice).One -/
abbrev zqq := {β : Type} → (List Int) → (List Int × Int) → (Int → (List Int × Int) → Option β) → Option β
def zqr (c : zqq) : Spec :=
  ⟨[(false, [.ptr 0 0]), (false, [.data (.slice (.int .i64))])], [.cells 56 [.data (.prod (.slice (.int .i64)) (.int .i64))]], [(false, [.data (.int .i64)])], [.cells 56 [.data (.prod (.slice (.int .i64)) (.int .i64))]], fun x k => c x.1.2.1.1 x.2.1.1 (fun r0 r1 => k (((r0, ()), ()), ((r1, ()), ())))⟩
section
variable (c_made_Dice_Next : zqj)
@[reducible] def made_Dice_One_X : Ctx := ⟨look tab, pick1 [(11, .spec (zqk c_made_Dice_Next))], false, false, false, false⟩
def zqs {β : Type} (l : List Int) (d : (List Int × Int)) (k : (Int → (List Int × Int) → Option β)) : Option β :=
  c_made_Dice_Next (List.length l : Int) d (fun (rNext : Int) (mrNext : (List Int × Int)) =>
  cond (decide (0 ≤ rNext) && decide (rNext < (List.length l : Int)))
  (let e : Int := List.getD l (Int.toNat rNext) (0 : Int);
  k e mrNext)
  none)
theorem zqt (hΓ : ΓOk Tryd.prog (made_Dice_One_X c_made_Dice_Next).Γ) : SpecOk Tryd.prog 14 (zqr (zqs c_made_Dice_Next)) :=
  spec_exec (X := (made_Dice_One_X c_made_Dice_Next)) (Λ := pick1 []) (rs := [.tmp 4]) (c := bodyOf Tryd.f14) mixed tab_ok hΓ Tryd.func14 (by kernel_rfl) (by kernel_rfl) (by kernel_rfl) (by kernel_rfl) CutsOk_nil (fun x k r h => Eq.trans (b := (zqr (zqs c_made_Dice_Next)).run x k) (by kernel_rfl) h)
end
theorem zquΓ : ΓOk Tryd.prog (pick1 [(11, .spec (zqk zqo))]) := (ΓOk_cons zqp ΓOk_nil)
def zqv : zqq := zqs zqo
theorem zqw : SpecOk Tryd.prog 14 (zqr zqv) := zqt zqo zquΓ

/-- pagewatch/timeline.printed -/
abbrev zqx := {β : Type} → (List UInt8) → Int → (Bool → Option β) → Option β
def zqy (c : zqx) : Spec :=
  ⟨[(false, [.data .str]), (false, [.data (.int .u8)])], [], [(false, [.data .bool])], [], fun x k => c x.1.1.1 x.1.2.1.1 (fun r0 => k (((r0, ()), ()), ()))⟩
noncomputable def timeline_printed_p1_code : Code := codeAt 26 (bodyOf Tryd.f18)
abbrev zqz (β : Type) := Bool → Option β
abbrev zq10 (β : Type) := (List UInt8) → Option β
abbrev zq11 := {β : Type} → zqz β → zq10 β → (List UInt8) → Int → Int → Int → Option β
def zq12 : View := ⟨0, [0, 1, 7, 8], [(false, [.data .str]), (false, [.data (.int .u8)]), (false, [.data (.int .i64)]), (false, [.data (.int .i64)])], []⟩
def zq13 : List (AExit × View) := [(.ret, ⟨0, [4], [(false, [.data .bool])], []⟩), (.exit 0, ⟨0, [0], [(false, [.data .str])], []⟩)]
@[reducible] def timeline_printed_p1_G (p : zq11) {β : Type} (d : zq12.den) (ks : Outs.K β zq13) : Option β :=
  p (fun a0 => ks.1 (((a0, ()), ()), ())) (fun a0 => ks.2.1 (((a0, ()), ()), ())) d.1.1.1 d.1.2.1.1 d.1.2.2.1.1 d.1.2.2.2.1.1
section
@[reducible] def timeline_printed_X : Ctx := ⟨look tab, pick1 [], false, false, false, false⟩
def zq14 {β : Type} (rec : (List UInt8) → Int → Int → Int → Option β) (k1 : zqz β) (k2 : zq10 β) (s : List UInt8) (least : Int) (t7 : Int) (t8 : Int) : Option β :=
  cond (decide (t8 < t7))
  (cond (decide (0 ≤ t8) && decide (t8 < (List.length s : Int)))
  (cond (decide (((List.getD s (Int.toNat t8) 0).toNat : Int) < least))
  (k1 false)
  (cond (decide (0 ≤ t8) && decide (t8 < (List.length s : Int)))
  (cond (decide ((126 : Int) < ((List.getD s (Int.toNat t8) 0).toNat : Int)))
  (k1 false)
  (rec s least t7 (IntKind.i64.wrap (t8 + (1 : Int)))))
  none))
  none)
  (k2 s)
def zq15 {β : Type} : Nat → zqz β → zq10 β → (List UInt8) → Int → Int → Int → Option β
  | 0 => fun _ _ _ _ _ _ => none
  | i + 1 => fun k1 k2 s least t7 t8 => zq14 (zq15 i k1 k2) k1 k2 s least t7 t8
theorem zq16 (hΓ : ΓOk Tryd.prog timeline_printed_X.Γ) (i : Nat) : PieceOk Tryd.prog 25 0 timeline_printed_p1_code zq12 zq13 (timeline_printed_p1_G (zq15 i)) := by
  rw [show timeline_printed_p1_code = .loop (loopBody timeline_printed_p1_code) by kernel_rfl]
  exact piece_loop (X := timeline_printed_X) (p := 1) (Λ := pick1 []) (G := fun i => @fun β d ks => timeline_printed_p1_G (zq15 i) d ks) mixed tab_ok hΓ rfl (by kernel_rfl) CutsOk_nil (fun _ _ => rfl) (fun i => @fun β d ks r h => Eq.trans (b := timeline_printed_p1_G (zq15 (i + 1)) d ks) (by kernel_rfl) h) i
def zq17 (p1 : zq11) {β : Type} (s : List UInt8) (least : Int) (k : (Bool → Option β)) : Option β :=
  p1 (fun (t4 : Bool) =>
  k t4) (fun (s2 : List UInt8) =>
  let t : Bool := (!decide (s2 = ([] : List UInt8)));
  k t) s least (List.length s : Int) (0 : Int)
theorem zq18 (hΓ : ΓOk Tryd.prog timeline_printed_X.Γ) (p1 : zq11) (hp1 : PieceOk Tryd.prog 25 0 timeline_printed_p1_code zq12 zq13 (timeline_printed_p1_G p1)) : SpecOk Tryd.prog 18 (zqy (zq17 p1)) :=
  spec_exec (X := timeline_printed_X) (Λ := pick1 [(26, pieceCut zq12 zq13 (timeline_printed_p1_G p1))]) (rs := [.tmp 4]) (c := bodyOf Tryd.f18) mixed tab_ok hΓ Tryd.func18 (by kernel_rfl) (by kernel_rfl) (by kernel_rfl) (by kernel_rfl) (CutsOk_cons (q := 26) (c' := timeline_printed_p1_code) (by kernel_rfl) rfl hp1 CutsOk_nil) (fun x k r h => Eq.trans (b := (zqy (zq17 p1)).run x k) (by kernel_rfl) h)
end
theorem zq19Γ : ΓOk Tryd.prog (pick1 []) := ΓOk_nil
def zq1a (m : Nat) : zq11 := zq15 m
theorem zq1b {β : Type} (i : Nat) (k1 k2 s least t7 t8) : (zq1a (i + 1) k1 k2 s least t7 t8 : Option β) = zq14 (zq1a i k1 k2) k1 k2 s least t7 t8 := rfl
def zq1c : zq11 := zq1a fuel
theorem zq1d : PieceOk Tryd.prog 25 0 timeline_printed_p1_code zq12 zq13 (timeline_printed_p1_G zq1c) := zq16 zq19Γ fuel
def zq1e : zqx := zq17 zq1c
theorem zq1f : SpecOk Tryd.prog 18 (zqy zq1e) := zq18 zq19Γ zq1c zq1d

/-- (*strings.Builder).WriteString -/
def zq1g : Shelf.Ren :=
      { 
      f := fun x =>
        match x with
        | 166 => 19
        | 240 => 37
        | 276 => 56
        | n => n,
      t := fun x =>
        match x with
        | 70 => 65
        | 9 => 9
        | 0 => 0
        | 72 => 68
        | 37 => 66
        | 127 => 99
        | 3 => 3
        | 5 => 5
        | 80 => 76
        | 4 => 4
        | 164 => 117
        | 20 => 20
        | 75 => 71
        | n => n,
      g := fun x => x }
theorem zq1h : Go.Proofs.Lays.n166 Tryd.prog zq1g :=
  { mixed := by kernel_rfl,
    f166 := Eq.trans Tryd.func19 (congrArg some (by kernel_rfl)),
    f240 := Eq.trans Tryd.func37 (congrArg some (by kernel_rfl)),
    f276 := Eq.trans Tryd.func56 (congrArg some (by kernel_rfl)),
    t0 := Tryd.underlying0,
    a0 := Tryd.isAgg0,
    z0 := Tryd.sizeOf0,
    v0 := Tryd.zeroValue0,
    t3 := Tryd.underlying3,
    a3 := Tryd.isAgg3,
    z3 := Tryd.sizeOf3,
    v3 := Tryd.zeroValue3,
    t4 := Tryd.underlying4,
    a4 := Tryd.isAgg4,
    z4 := Tryd.sizeOf4,
    v4 := Tryd.zeroValue4,
    t9 := Tryd.underlying9,
    a9 := Tryd.isAgg9,
    z9 := Tryd.sizeOf9,
    v9 := Tryd.zeroValue9,
    t20 := Tryd.underlying20,
    a20 := Tryd.isAgg20,
    z20 := Tryd.sizeOf20,
    v20 := Tryd.zeroValue20,
    t37 := Tryd.underlying66,
    a37 := Tryd.isAgg66,
    z37 := Tryd.sizeOf66,
    v37 := Tryd.zeroValue66,
    t70 := Tryd.underlying65,
    a70 := Tryd.isAgg65,
    z70 := Tryd.sizeOf65,
    v70 := Tryd.zeroValue65,
    t72 := Tryd.underlying68,
    a72 := Tryd.isAgg68,
    z72 := Tryd.sizeOf68,
    v72 := Tryd.zeroValue68,
    t75 := Tryd.underlying71,
    a75 := Tryd.isAgg71,
    z75 := Tryd.sizeOf71,
    v75 := Tryd.zeroValue71,
    t164 := Tryd.underlying117,
    a164 := Tryd.isAgg117,
    z164 := Tryd.sizeOf117,
    v164 := Tryd.zeroValue117 }
def zq1i : BldF := ⟨68, 5, 0⟩
theorem zq1j : BldOk Tryd.prog 19 zq1i :=
  bldWrite_ok zq1h { sizeBuilder := by kernel_rfl, liesBuilder := by kernel_rfl, t5 := Tryd.underlying5, a5 := Tryd.isAgg5, z5 := Tryd.sizeOf5, v5 := Tryd.zeroValue5, infoByte := by kernel_rfl, cellsByte := by kernel_rfl, sizeByte := by kernel_rfl, neB5 := by decide } rfl rfl rfl ⟨_, Tryd.func19, by kernel_rfl, by kernel_rfl⟩

/-- strconv.Itoa -/
def zq1k : Shelf.Ren :=
      { 
      f := fun x =>
        match x with
        | 171 => 20
        | 243 => 38
        | 246 => 57
        | 283 => 75
        | 284 => 76
        | 285 => 77
        | 286 => 78
        | 129 => 72
        | 317 => 92
        | 318 => 93
        | 319 => 94
        | 320 => 95
        | 337 => 99
        | 338 => 100
        | n => n,
      t := fun x =>
        match x with
        | 3 => 3
        | 9 => 9
        | 2 => 2
        | 4 => 4
        | 171 => 141
        | 0 => 0
        | 53 => 138
        | 37 => 66
        | 5 => 5
        | 173 => 143
        | 212 => 159
        | 51 => 136
        | 20 => 20
        | 213 => 160
        | 46 => 114
        | 232 => 165
        | 233 => 166
        | n => n,
      g := fun x =>
        match x with
        | 17 => 0
        | 18 => 1
        | 19 => 2
        | n => n }
theorem zq1l : Go.Proofs.LaysM.n171 Tryd.prog zq1k :=
  { mixed := by kernel_rfl,
    f129 := Eq.trans Tryd.func72 (congrArg some (by kernel_rfl)),
    f171 := Eq.trans Tryd.func20 (congrArg some (by kernel_rfl)),
    f243 := Eq.trans Tryd.func38 (congrArg some (by kernel_rfl)),
    f246 := Eq.trans Tryd.func57 (congrArg some (by kernel_rfl)),
    f283 := Eq.trans Tryd.func75 (congrArg some (by kernel_rfl)),
    f284 := Eq.trans Tryd.func76 (congrArg some (by kernel_rfl)),
    f285 := Eq.trans Tryd.func77 (congrArg some (by kernel_rfl)),
    f286 := Eq.trans Tryd.func78 (congrArg some (by kernel_rfl)),
    f317 := Eq.trans Tryd.func92 (congrArg some (by kernel_rfl)),
    f318 := Eq.trans Tryd.func93 (congrArg some (by kernel_rfl)),
    f319 := Eq.trans Tryd.func94 (congrArg some (by kernel_rfl)),
    f320 := Eq.trans Tryd.func95 (congrArg some (by kernel_rfl)),
    f337 := Eq.trans Tryd.func99 (congrArg some (by kernel_rfl)),
    f338 := Eq.trans Tryd.func100 (congrArg some (by kernel_rfl)),
    t0 := Tryd.underlying0,
    a0 := Tryd.isAgg0,
    z0 := Tryd.sizeOf0,
    v0 := Tryd.zeroValue0,
    t2 := Tryd.underlying2,
    a2 := Tryd.isAgg2,
    z2 := Tryd.sizeOf2,
    v2 := Tryd.zeroValue2,
    t3 := Tryd.underlying3,
    a3 := Tryd.isAgg3,
    z3 := Tryd.sizeOf3,
    v3 := Tryd.zeroValue3,
    t4 := Tryd.underlying4,
    a4 := Tryd.isAgg4,
    z4 := Tryd.sizeOf4,
    v4 := Tryd.zeroValue4,
    t5 := Tryd.underlying5,
    a5 := Tryd.isAgg5,
    z5 := Tryd.sizeOf5,
    v5 := Tryd.zeroValue5,
    t9 := Tryd.underlying9,
    a9 := Tryd.isAgg9,
    z9 := Tryd.sizeOf9,
    v9 := Tryd.zeroValue9,
    t20 := Tryd.underlying20,
    a20 := Tryd.isAgg20,
    z20 := Tryd.sizeOf20,
    v20 := Tryd.zeroValue20,
    t37 := Tryd.underlying66,
    a37 := Tryd.isAgg66,
    z37 := Tryd.sizeOf66,
    v37 := Tryd.zeroValue66,
    t46 := Tryd.underlying114,
    a46 := Tryd.isAgg114,
    z46 := Tryd.sizeOf114,
    v46 := Tryd.zeroValue114,
    t51 := Tryd.underlying136,
    a51 := Tryd.isAgg136,
    z51 := Tryd.sizeOf136,
    v51 := Tryd.zeroValue136,
    t53 := Tryd.underlying138,
    a53 := Tryd.isAgg138,
    z53 := Tryd.sizeOf138,
    v53 := Tryd.zeroValue138,
    t171 := Tryd.underlying141,
    a171 := Tryd.isAgg141,
    z171 := Tryd.sizeOf141,
    v171 := Tryd.zeroValue141,
    t173 := Tryd.underlying143,
    a173 := Tryd.isAgg143,
    z173 := Tryd.sizeOf143,
    v173 := Tryd.zeroValue143,
    t212 := Tryd.underlying159,
    a212 := Tryd.isAgg159,
    z212 := Tryd.sizeOf159,
    v212 := Tryd.zeroValue159,
    t213 := Tryd.underlying160,
    a213 := Tryd.isAgg160,
    z213 := Tryd.sizeOf160,
    t232 := Tryd.underlying165,
    a232 := Tryd.isAgg165,
    z232 := Tryd.sizeOf165,
    v232 := Tryd.zeroValue165,
    t233 := Tryd.underlying166,
    a233 := Tryd.isAgg166,
    z233 := Tryd.sizeOf166,
    v233 := Tryd.zeroValue166,
    g17 := by kernel_rfl,
    g18 := by kernel_rfl,
    g19 := by kernel_rfl,
    i0 := by kernel_rfl,
    i2 := by kernel_rfl,
    i3 := by kernel_rfl,
    i4 := by kernel_rfl,
    i5 := by kernel_rfl,
    i9 := by kernel_rfl,
    i20 := by kernel_rfl,
    i37 := by kernel_rfl,
    i46 := by kernel_rfl,
    i51 := by kernel_rfl,
    i53 := by kernel_rfl,
    i171 := by kernel_rfl,
    i173 := by kernel_rfl,
    i212 := by kernel_rfl,
    i232 := by kernel_rfl,
    i233 := by kernel_rfl,
    m17 := by kernel_rfl,
    m18 := by kernel_rfl,
    m19 := by kernel_rfl }
abbrev zq1m := itoaT
def zq1n (c : zq1m) : Spec := itoaS c
def zq1o : zq1m := fun x k => itoaF x k
theorem zq1p : SpecOk Tryd.prog 20 (zq1n zq1o) :=
  itoa_ok zq1l rfl (g := 0) (by kernel_rfl) ⟨_, Tryd.func20, by kernel_rfl, by kernel_rfl⟩

/-- (*strings.Builder).Len -/
def zq1q : Shelf.Ren :=
      { 
      f := fun x =>
        match x with
        | 170 => 21
        | n => n,
      t := fun x =>
        match x with
        | 70 => 65
        | 3 => 3
        | 0 => 0
        | 72 => 68
        | 37 => 66
        | 5 => 5
        | n => n,
      g := fun x => x }
theorem zq1r : Go.Proofs.Lays.n170 Tryd.prog zq1q :=
  { mixed := by kernel_rfl,
    f170 := Eq.trans Tryd.func21 (congrArg some (by kernel_rfl)),
    t0 := Tryd.underlying0,
    a0 := Tryd.isAgg0,
    z0 := Tryd.sizeOf0,
    v0 := Tryd.zeroValue0,
    t3 := Tryd.underlying3,
    a3 := Tryd.isAgg3,
    z3 := Tryd.sizeOf3,
    v3 := Tryd.zeroValue3,
    t37 := Tryd.underlying66,
    a37 := Tryd.isAgg66,
    z37 := Tryd.sizeOf66,
    v37 := Tryd.zeroValue66,
    t70 := Tryd.underlying65,
    a70 := Tryd.isAgg65,
    z70 := Tryd.sizeOf65,
    v70 := Tryd.zeroValue65,
    t72 := Tryd.underlying68,
    a72 := Tryd.isAgg68,
    z72 := Tryd.sizeOf68,
    v72 := Tryd.zeroValue68 }
def zq1s : BldF := ⟨68, 5, 2⟩
theorem zq1t : BldOk Tryd.prog 21 zq1s :=
  bldLen_ok zq1r rfl rfl rfl ⟨_, Tryd.func21, by kernel_rfl, by kernel_rfl⟩

/-- (*strings.Builder).String -/
def zq1u : Shelf.Ren :=
      { 
      f := fun x =>
        match x with
        | 169 => 22
        | n => n,
      t := fun x =>
        match x with
        | 70 => 65
        | 9 => 9
        | 0 => 0
        | 72 => 68
        | 37 => 66
        | 127 => 99
        | 3 => 3
        | 5 => 5
        | n => n,
      g := fun x => x }
theorem zq1v : Go.Proofs.Lays.n169 Tryd.prog zq1u :=
  { mixed := by kernel_rfl,
    f169 := Eq.trans Tryd.func22 (congrArg some (by kernel_rfl)),
    t0 := Tryd.underlying0,
    a0 := Tryd.isAgg0,
    z0 := Tryd.sizeOf0,
    v0 := Tryd.zeroValue0,
    t3 := Tryd.underlying3,
    a3 := Tryd.isAgg3,
    z3 := Tryd.sizeOf3,
    v3 := Tryd.zeroValue3,
    t9 := Tryd.underlying9,
    a9 := Tryd.isAgg9,
    z9 := Tryd.sizeOf9,
    v9 := Tryd.zeroValue9,
    t37 := Tryd.underlying66,
    a37 := Tryd.isAgg66,
    z37 := Tryd.sizeOf66,
    v37 := Tryd.zeroValue66,
    t70 := Tryd.underlying65,
    a70 := Tryd.isAgg65,
    z70 := Tryd.sizeOf65,
    v70 := Tryd.zeroValue65,
    t72 := Tryd.underlying68,
    a72 := Tryd.isAgg68,
    z72 := Tryd.sizeOf68,
    v72 := Tryd.zeroValue68,
    t127 := Tryd.underlying99,
    a127 := Tryd.isAgg99,
    z127 := Tryd.sizeOf99,
    v127 := Tryd.zeroValue99 }
def zq1w : BldF := ⟨68, 5, 1⟩
theorem zq1x : BldOk Tryd.prog 22 zq1w :=
  bldString_ok zq1v { sizeBuilder := by kernel_rfl, liesBuilder := by kernel_rfl, t5 := Tryd.underlying5, a5 := Tryd.isAgg5, z5 := Tryd.sizeOf5, v5 := Tryd.zeroValue5, infoByte := by kernel_rfl, cellsByte := by kernel_rfl, sizeByte := by kernel_rfl, neB5 := by decide } rfl rfl rfl ⟨_, Tryd.func22, by kernel_rfl, by kernel_rfl⟩

/-- pagewatch/timeline.in -/
abbrev zq1y := {β : Type} → Int → Int → Int → (Bool → Option β) → Option β
def zq1z (c : zq1y) : Spec :=
  ⟨[(false, [.data (.int .i64)]), (false, [.data (.int .i64)]), (false, [.data (.int .i64)])], [], [(false, [.data .bool])], [], fun x k => c x.1.1.1 x.1.2.1.1 x.1.2.2.1.1 (fun r0 => k (((r0, ()), ()), ()))⟩
section
@[reducible] def timeline_in_X : Ctx := ⟨look tab, pick1 [], false, false, false, false⟩
def zq20 {β : Type} (n : Int) (low : Int) (high : Int) (k : (Bool → Option β)) : Option β :=
  cond (decide (low ≤ n))
  (k (decide (n ≤ high)))
  (k false)
theorem zq21 (hΓ : ΓOk Tryd.prog timeline_in_X.Γ) : SpecOk Tryd.prog 24 (zq1z (zq20)) :=
  spec_exec (X := timeline_in_X) (Λ := pick1 []) (rs := [.tmp 6]) (c := bodyOf Tryd.f24) mixed tab_ok hΓ Tryd.func24 (by kernel_rfl) (by kernel_rfl) (by kernel_rfl) (by kernel_rfl) CutsOk_nil (fun x k r h => Eq.trans (b := (zq1z (zq20)).run x k) (by kernel_rfl) h)
end
theorem zq22Γ : ΓOk Tryd.prog (pick1 []) := ΓOk_nil
def zq23 : zq1y := zq20
theorem zq24 : SpecOk Tryd.prog 24 (zq1z zq23) := zq21 zq22Γ

/-- pagewatch/timeline.sized -/
abbrev zq25 := {β : Type} → zq2 → (zq2 → Int → Option β) → Option β
def zq26 (c : zq25) : Spec :=
  ⟨[(true, [.data zq3])], [], [(true, [.data zq3]), (false, [.data (.int .i64)])], [], fun x k => c x.1.1.1 (fun r0 r1 => k (((r0, ()), (r1, ()), ()), ()))⟩
section
@[reducible] def timeline_sized_X : Ctx := ⟨look tab, pick1 [], false, false, false, false⟩
def zq27 {β : Type} (r_ : zq2) (k : (zq2 → Int → Option β)) : Option β :=
  cond (decide ((8 : Int) < (List.length r_.1 : Int)))
  (k (([] : List (List UInt8 × Int)), (([] : List (Int × (Int × (Int × Int)))), (([] : List zq0), ([] : List (Int × (Int × Int)))))) (5 : Int))
  (cond (decide ((64 : Int) < (List.length r_.2.1 : Int)))
  (k (([] : List (List UInt8 × Int)), (([] : List (Int × (Int × (Int × Int)))), (([] : List zq0), ([] : List (Int × (Int × Int)))))) (5 : Int))
  (cond (decide ((40 : Int) < (List.length r_.2.2.1 : Int)))
  (k (([] : List (List UInt8 × Int)), (([] : List (Int × (Int × (Int × Int)))), (([] : List zq0), ([] : List (Int × (Int × Int)))))) (5 : Int))
  (cond (decide ((64 : Int) < (List.length r_.2.2.2 : Int)))
  (k (([] : List (List UInt8 × Int)), (([] : List (Int × (Int × (Int × Int)))), (([] : List zq0), ([] : List (Int × (Int × Int)))))) (5 : Int))
  (k r_ (0 : Int)))))
theorem zq28 (hΓ : ΓOk Tryd.prog timeline_sized_X.Γ) : SpecOk Tryd.prog 26 (zq26 (zq27)) :=
  spec_exec (X := timeline_sized_X) (Λ := pick1 []) (rs := [.cell 2 32, .tmp 3]) (c := bodyOf Tryd.f26) mixed tab_ok hΓ Tryd.func26 (by kernel_rfl) (by kernel_rfl) (by kernel_rfl) (by kernel_rfl) CutsOk_nil (fun x k r h => Eq.trans (b := (zq26 (zq27)).run x k) (by kernel_rfl) h)
end
theorem zq29Γ : ΓOk Tryd.prog (pick1 []) := ΓOk_nil
def zq2a : zq25 := zq27
theorem zq2b : SpecOk Tryd.prog 26 (zq26 zq2a) := zq28 zq29Γ

/-- (pagewatch/order.matrix).before -/
abbrev zq2c := {β : Type} → (List (List Int)) → Int → Int → (Bool → Option β) → Option β
def zq2d (c : zq2c) : Spec :=
  ⟨[(false, [.data (.slice (.slice (.int .i64)))]), (false, [.data (.int .i64)]), (false, [.data (.int .i64)])], [], [(false, [.data .bool])], [], fun x k => c x.1.1.1 x.1.2.1.1 x.1.2.2.1.1 (fun r0 => k (((r0, ()), ()), ()))⟩
section
@[reducible] def order_matrix_before_X : Ctx := ⟨look tab, pick1 [], false, false, false, false⟩
def zq2e {β : Type} (m : List (List Int)) (a : Int) (b : Int) (k : (Bool → Option β)) : Option β :=
  cond (decide (0 ≤ (IntKind.i64.wrap (b + (1 : Int)))) && decide ((IntKind.i64.wrap (b + (1 : Int))) < (List.length m : Int)))
  (let e : List Int := List.getD m (Int.toNat (IntKind.i64.wrap (b + (1 : Int)))) ([] : List Int);
  cond (decide (0 ≤ (IntKind.i64.wrap (a + (1 : Int)))) && decide ((IntKind.i64.wrap (a + (1 : Int))) < (List.length e : Int)))
  (let e2 : Int := List.getD e (Int.toNat (IntKind.i64.wrap (a + (1 : Int)))) (0 : Int);
  let t : Bool := (decide (e2 ≤ (-1 : Int)));
  k t)
  none)
  none
theorem zq2f (hΓ : ΓOk Tryd.prog order_matrix_before_X.Γ) : SpecOk Tryd.prog 28 (zq2d (zq2e)) :=
  spec_exec (X := order_matrix_before_X) (Λ := pick1 []) (rs := [.tmp 6]) (c := bodyOf Tryd.f28) mixed tab_ok hΓ Tryd.func28 (by kernel_rfl) (by kernel_rfl) (by kernel_rfl) (by kernel_rfl) CutsOk_nil (fun x k r h => Eq.trans (b := (zq2d (zq2e)).run x k) (by kernel_rfl) h)
end
theorem zq2gΓ : ΓOk Tryd.prog (pick1 []) := ΓOk_nil
def zq2h : zq2c := zq2e
theorem zq2i : SpecOk Tryd.prog 28 (zq2d zq2h) := zq2f zq2gΓ

/-- slices.Sort[[]int,int] -/
def zq2j : Shelf.Ren :=
      { 
      f := fun x =>
        match x with
        | 189 => 32
        | 125 => 51
        | 257 => 50
        | 128 => 71
        | 129 => 72
        | 294 => 62
        | 295 => 63
        | 296 => 64
        | 297 => 65
        | 298 => 66
        | 299 => 67
        | 216 => 68
        | 300 => 69
        | 301 => 70
        | 328 => 86
        | 329 => 87
        | 330 => 88
        | 331 => 89
        | 332 => 90
        | 215 => 91
        | 343 => 98
        | n => n,
      t := fun x =>
        match x with
        | 28 => 22
        | 3 => 3
        | 46 => 114
        | 0 => 0
        | 51 => 136
        | 53 => 138
        | 4 => 4
        | 183 => 129
        | 182 => 128
        | 131 => 133
        | 5 => 5
        | 9 => 9
        | 218 => 152
        | 222 => 156
        | 228 => 163
        | 229 => 148
        | n => n,
      g := fun x => x }
theorem zq2k : Go.Proofs.Lays.n189 Tryd.prog zq2j :=
  { mixed := by kernel_rfl,
    f125 := Eq.trans Tryd.func51 (congrArg some (by kernel_rfl)),
    f128 := Eq.trans Tryd.func71 (congrArg some (by kernel_rfl)),
    f129 := Eq.trans Tryd.func72 (congrArg some (by kernel_rfl)),
    f189 := Eq.trans Tryd.func32 (congrArg some (by kernel_rfl)),
    f215 := Eq.trans Tryd.func91 (congrArg some (by kernel_rfl)),
    f216 := Eq.trans Tryd.func68 (congrArg some (by kernel_rfl)),
    f257 := Eq.trans Tryd.func50 (congrArg some (by kernel_rfl)),
    f294 := Eq.trans Tryd.func62 (congrArg some (by kernel_rfl)),
    f295 := Eq.trans Tryd.func63 (congrArg some (by kernel_rfl)),
    f296 := Eq.trans Tryd.func64 (congrArg some (by kernel_rfl)),
    f297 := Eq.trans Tryd.func65 (congrArg some (by kernel_rfl)),
    f298 := Eq.trans Tryd.func66 (congrArg some (by kernel_rfl)),
    f299 := Eq.trans Tryd.func67 (congrArg some (by kernel_rfl)),
    f300 := Eq.trans Tryd.func69 (congrArg some (by kernel_rfl)),
    f301 := Eq.trans Tryd.func70 (congrArg some (by kernel_rfl)),
    f328 := Eq.trans Tryd.func86 (congrArg some (by kernel_rfl)),
    f329 := Eq.trans Tryd.func87 (congrArg some (by kernel_rfl)),
    f330 := Eq.trans Tryd.func88 (congrArg some (by kernel_rfl)),
    f331 := Eq.trans Tryd.func89 (congrArg some (by kernel_rfl)),
    f332 := Eq.trans Tryd.func90 (congrArg some (by kernel_rfl)),
    f343 := Eq.trans Tryd.func98 (congrArg some (by kernel_rfl)),
    t0 := Tryd.underlying0,
    a0 := Tryd.isAgg0,
    z0 := Tryd.sizeOf0,
    v0 := Tryd.zeroValue0,
    t3 := Tryd.underlying3,
    a3 := Tryd.isAgg3,
    z3 := Tryd.sizeOf3,
    v3 := Tryd.zeroValue3,
    t4 := Tryd.underlying4,
    a4 := Tryd.isAgg4,
    z4 := Tryd.sizeOf4,
    v4 := Tryd.zeroValue4,
    t5 := Tryd.underlying5,
    a5 := Tryd.isAgg5,
    z5 := Tryd.sizeOf5,
    v5 := Tryd.zeroValue5,
    t9 := Tryd.underlying9,
    a9 := Tryd.isAgg9,
    z9 := Tryd.sizeOf9,
    v9 := Tryd.zeroValue9,
    t28 := Tryd.underlying22,
    a28 := Tryd.isAgg22,
    z28 := Tryd.sizeOf22,
    v28 := Tryd.zeroValue22,
    t46 := Tryd.underlying114,
    a46 := Tryd.isAgg114,
    z46 := Tryd.sizeOf114,
    v46 := Tryd.zeroValue114,
    t51 := Tryd.underlying136,
    a51 := Tryd.isAgg136,
    z51 := Tryd.sizeOf136,
    v51 := Tryd.zeroValue136,
    t53 := Tryd.underlying138,
    a53 := Tryd.isAgg138,
    z53 := Tryd.sizeOf138,
    v53 := Tryd.zeroValue138,
    t131 := Tryd.underlying133,
    a131 := Tryd.isAgg133,
    z131 := Tryd.sizeOf133,
    v131 := Tryd.zeroValue133,
    t182 := Tryd.underlying128,
    a182 := Tryd.isAgg128,
    z182 := Tryd.sizeOf128,
    v182 := Tryd.zeroValue128,
    t183 := Tryd.underlying129,
    a183 := Tryd.isAgg129,
    z183 := Tryd.sizeOf129,
    v183 := Tryd.zeroValue129,
    t218 := Tryd.underlying152,
    a218 := Tryd.isAgg152,
    z218 := Tryd.sizeOf152,
    v218 := Tryd.zeroValue152,
    t222 := Tryd.underlying156,
    a222 := Tryd.isAgg156,
    z222 := Tryd.sizeOf156,
    v222 := Tryd.zeroValue156,
    t228 := Tryd.underlying163,
    a228 := Tryd.isAgg163,
    z228 := Tryd.sizeOf163,
    v228 := Tryd.zeroValue163,
    t229 := Tryd.underlying148,
    a229 := Tryd.isAgg148,
    z229 := Tryd.sizeOf148,
    v229 := Tryd.zeroValue148 }
def zq2l : RowF := sortF 3
theorem zq2m : RowOk Tryd.prog 32 zq2l :=
  sort_rowok zq2k rfl ⟨_, Tryd.func32, by kernel_rfl, by kernel_rfl⟩

/-- slices.Equal[[]int,int] -/
abbrev zq2n := {β : Type} → (List Int) → (List Int) → (Bool → Option β) → Option β
def zq2o (c : zq2n) : Spec :=
  ⟨[(false, [.data (.slice (.int .i64))]), (false, [.data (.slice (.int .i64))])], [], [(false, [.data .bool])], [], fun x k => c x.1.1.1 x.1.2.1.1 (fun r0 => k (((r0, ()), ()), ()))⟩
noncomputable def slices_Equal_int_int_p1_code : Code := codeAt 58 (bodyOf Tryd.f36)
abbrev zq2p (β : Type) := Bool → Option β
abbrev zq2q (β : Type) := Unit → Option β
abbrev zq2r := {β : Type} → zq2p β → zq2q β → (List Int) → (List Int) → Int → Int → Option β
def zq2s : View := ⟨0, [0, 1, 12, 13], [(false, [.data (.slice (.int .i64))]), (false, [.data (.slice (.int .i64))]), (false, [.data (.int .i64)]), (false, [.data (.int .i64)])], []⟩
def zq2t : List (AExit × View) := [(.ret, ⟨0, [4], [(false, [.data .bool])], []⟩), (.exit 0, ⟨0, [], [], []⟩)]
@[reducible] def slices_Equal_int_int_p1_G (p : zq2r) {β : Type} (d : zq2s.den) (ks : Outs.K β zq2t) : Option β :=
  p (fun a0 => ks.1 (((a0, ()), ()), ())) (fun _ => ks.2.1 ((), ())) d.1.1.1 d.1.2.1.1 d.1.2.2.1.1 d.1.2.2.2.1.1
section
@[reducible] def slices_Equal_int_int_X : Ctx := ⟨look tab, pick1 [], false, false, false, false⟩
def zq2u {β : Type} (rec : (List Int) → (List Int) → Int → Int → Option β) (k1 : zq2p β) (k2 : zq2q β) (s1 : List Int) (s2 : List Int) (t12 : Int) (t13 : Int) : Option β :=
  cond (decide (t13 < t12))
  (cond (decide (0 ≤ t13) && decide (t13 < (List.length s1 : Int)))
  (let e : Int := List.getD s1 (Int.toNat t13) (0 : Int);
  cond (decide (0 ≤ t13) && decide (t13 < (List.length s2 : Int)))
  (let e2 : Int := List.getD s2 (Int.toNat t13) (0 : Int);
  cond (!decide (e = e2))
  (k1 false)
  (rec s1 s2 t12 (IntKind.i64.wrap (t13 + (1 : Int)))))
  none)
  none)
  (k2 ())
def zq2v {β : Type} : Nat → zq2p β → zq2q β → (List Int) → (List Int) → Int → Int → Option β
  | 0 => fun _ _ _ _ _ _ => none
  | i + 1 => fun k1 k2 s1 s2 t12 t13 => zq2u (zq2v i k1 k2) k1 k2 s1 s2 t12 t13
theorem zq2w (hΓ : ΓOk Tryd.prog slices_Equal_int_int_X.Γ) (i : Nat) : PieceOk Tryd.prog 26 0 slices_Equal_int_int_p1_code zq2s zq2t (slices_Equal_int_int_p1_G (zq2v i)) := by
  rw [show slices_Equal_int_int_p1_code = .loop (loopBody slices_Equal_int_int_p1_code) by kernel_rfl]
  exact piece_loop (X := slices_Equal_int_int_X) (p := 1) (Λ := pick1 []) (G := fun i => @fun β d ks => slices_Equal_int_int_p1_G (zq2v i) d ks) mixed tab_ok hΓ rfl (by kernel_rfl) CutsOk_nil (fun _ _ => rfl) (fun i => @fun β d ks r h => Eq.trans (b := slices_Equal_int_int_p1_G (zq2v (i + 1)) d ks) (by kernel_rfl) h) i
def zq2x (p1 : zq2r) {β : Type} (s1 : List Int) (s2 : List Int) (k : (Bool → Option β)) : Option β :=
  cond (!decide ((List.length s1 : Int) = (List.length s2 : Int)))
  (k false)
  (p1 (fun (t4 : Bool) =>
  k t4) (fun (_ : Unit) =>
  k true) s1 s2 (List.length s1 : Int) (0 : Int))
theorem zq2y (hΓ : ΓOk Tryd.prog slices_Equal_int_int_X.Γ) (p1 : zq2r) (hp1 : PieceOk Tryd.prog 26 0 slices_Equal_int_int_p1_code zq2s zq2t (slices_Equal_int_int_p1_G p1)) : SpecOk Tryd.prog 36 (zq2o (zq2x p1)) :=
  spec_exec (X := slices_Equal_int_int_X) (Λ := pick1 [(58, pieceCut zq2s zq2t (slices_Equal_int_int_p1_G p1))]) (rs := [.tmp 4]) (c := bodyOf Tryd.f36) mixed tab_ok hΓ Tryd.func36 (by kernel_rfl) (by kernel_rfl) (by kernel_rfl) (by kernel_rfl) (CutsOk_cons (q := 58) (c' := slices_Equal_int_int_p1_code) (by kernel_rfl) rfl hp1 CutsOk_nil) (fun x k r h => Eq.trans (b := (zq2o (zq2x p1)).run x k) (by kernel_rfl) h)
end
theorem zq2zΓ : ΓOk Tryd.prog (pick1 []) := ΓOk_nil
def zq30 (m : Nat) : zq2r := zq2v m
theorem zq31 {β : Type} (i : Nat) (k1 k2 s1 s2 t12 t13) : (zq30 (i + 1) k1 k2 s1 s2 t12 t13 : Option β) = zq2u (zq30 i k1 k2) k1 k2 s1 s2 t12 t13 := rfl
def zq32 : zq2r := zq30 fuel
theorem zq33 : PieceOk Tryd.prog 26 0 slices_Equal_int_int_p1_code zq2s zq2t (slices_Equal_int_int_p1_G zq32) := zq2w zq2zΓ fuel
def zq34 : zq2n := zq2x zq32
theorem zq35 : SpecOk Tryd.prog 36 (zq2o zq34) := zq2y zq2zΓ zq32 zq33

/-- pagewatch/clock.in -/
abbrev zq36 := {β : Type} → Int → Int → Int → (Bool → Option β) → Option β
def zq37 (c : zq36) : Spec :=
  ⟨[(false, [.data (.int .i64)]), (false, [.data (.int .i64)]), (false, [.data (.int .i64)])], [], [(false, [.data .bool])], [], fun x k => c x.1.1.1 x.1.2.1.1 x.1.2.2.1.1 (fun r0 => k (((r0, ()), ()), ()))⟩
section
@[reducible] def clock_in_X : Ctx := ⟨look tab, pick1 [], false, false, false, false⟩
def zq38 {β : Type} (n : Int) (low : Int) (high : Int) (k : (Bool → Option β)) : Option β :=
  cond (decide (low ≤ n))
  (k (decide (n ≤ high)))
  (k false)
theorem zq39 (hΓ : ΓOk Tryd.prog clock_in_X.Γ) : SpecOk Tryd.prog 39 (zq37 (zq38)) :=
  spec_exec (X := clock_in_X) (Λ := pick1 []) (rs := [.tmp 6]) (c := bodyOf Tryd.f39) mixed tab_ok hΓ Tryd.func39 (by kernel_rfl) (by kernel_rfl) (by kernel_rfl) (by kernel_rfl) CutsOk_nil (fun x k r h => Eq.trans (b := (zq37 (zq38)).run x k) (by kernel_rfl) h)
end
theorem zq3aΓ : ΓOk Tryd.prog (pick1 []) := ΓOk_nil
def zq3b : zq36 := zq38
theorem zq3c : SpecOk Tryd.prog 39 (zq37 zq3b) := zq39 zq3aΓ

/-- pagewatch/clock.instant -/
abbrev zq3d := {β : Type} → Int → (Bool → Option β) → Option β
def zq3e (c : zq3d) : Spec :=
  ⟨[(false, [.data (.int .i64)])], [], [(false, [.data .bool])], [], fun x k => c x.1.1.1 (fun r0 => k (((r0, ()), ()), ()))⟩
section
variable (c_clock_in : zq36)
@[reducible] def clock_instant_X : Ctx := ⟨look tab, pick1 [(39, .spec (zq37 c_clock_in))], false, false, false, false⟩
def zq3f {β : Type} (n : Int) (k : (Bool → Option β)) : Option β :=
  c_clock_in n (0 : Int) (8589934592 : Int) (fun (rin : Bool) =>
  k rin)
theorem zq3g (hΓ : ΓOk Tryd.prog (clock_instant_X c_clock_in).Γ) : SpecOk Tryd.prog 41 (zq3e (zq3f c_clock_in)) :=
  spec_exec (X := (clock_instant_X c_clock_in)) (Λ := pick1 []) (rs := [.tmp 2]) (c := bodyOf Tryd.f41) mixed tab_ok hΓ Tryd.func41 (by kernel_rfl) (by kernel_rfl) (by kernel_rfl) (by kernel_rfl) CutsOk_nil (fun x k r h => Eq.trans (b := (zq3e (zq3f c_clock_in)).run x k) (by kernel_rfl) h)
end
theorem zq3hΓ : ΓOk Tryd.prog (pick1 [(39, .spec (zq37 zq3b))]) := (ΓOk_cons zq3c ΓOk_nil)
def zq3i : zq3d := zq3f zq3b
theorem zq3j : SpecOk Tryd.prog 41 (zq3e zq3i) := zq3g zq3b zq3hΓ

/-- slices.Clone[[]pagewatch/api.Host,pagewatch/api.Host] -/
abbrev zq3k := {β : Type} → (List (List UInt8 × Int)) → ((List (List UInt8 × Int)) → Option β) → Option β
def zq3l (c : zq3k) : Spec :=
  ⟨[(false, [.data (.slice (.prod .str (.int .i64)))])], [], [(false, [.rowh 0])], [.row 36 (.prod .str (.int .i64))], fun x k => c x.1.1.1 (fun r0 => k (((), ()), (r0, ())))⟩
def zq3m : zq3k := fun l k => cloneF (.prod .str (.int .i64)) 24 l k
theorem zq3n : SpecOk Tryd.prog 42 (zq3l zq3m) :=
  clone_ok (et := 36) (e := (.prod .str (.int .i64))) (bytes := 24) (by kernel_rfl)
    (spec_exec (X := ⟨look tab, pick1 [], false, false, false, false⟩) (Λ := pick1 []) (rs := [.tmp 2]) (c := bodyOf Tryd.f42) mixed tab_ok ΓOk_nil Tryd.func42 (by kernel_rfl) (by kernel_rfl) (by kernel_rfl) (by kernel_rfl) CutsOk_nil (fun x k r h => Eq.trans (b := (clone1S 36 (.prod .str (.int .i64)) 24).run x k) (by kernel_rfl) h))
    (spec_exec (X := ⟨look tab, pick1 [], false, false, false, false⟩) (Λ := pick1 []) (rs := [.tmp 2]) (c := bodyOf Tryd.f42) mixed tab_ok ΓOk_nil Tryd.func42 (by kernel_rfl) (by kernel_rfl) (by kernel_rfl) (by kernel_rfl) CutsOk_nil (fun x k r h => Eq.trans (b := (clone2S 36 (.prod .str (.int .i64))).run x k) (by kernel_rfl) h))

/-- slices.Clone[[]pagewatch/api.Sync,pagewatch/api.Sync] -/
abbrev zq3o := {β : Type} → (List (Int × (Int × (Int × Int)))) → ((List (Int × (Int × (Int × Int)))) → Option β) → Option β
def zq3p (c : zq3o) : Spec :=
  ⟨[(false, [.data (.slice (.prod (.int .i64) (.prod (.int .i64) (.prod (.int .i64) (.int .i64)))))])], [], [(false, [.rowh 0])], [.row 54 (.prod (.int .i64) (.prod (.int .i64) (.prod (.int .i64) (.int .i64))))], fun x k => c x.1.1.1 (fun r0 => k (((), ()), (r0, ())))⟩
def zq3q : zq3o := fun l k => cloneF (.prod (.int .i64) (.prod (.int .i64) (.prod (.int .i64) (.int .i64)))) 32 l k
theorem zq3r : SpecOk Tryd.prog 43 (zq3p zq3q) :=
  clone_ok (et := 54) (e := (.prod (.int .i64) (.prod (.int .i64) (.prod (.int .i64) (.int .i64))))) (bytes := 32) (by kernel_rfl)
    (spec_exec (X := ⟨look tab, pick1 [], false, false, false, false⟩) (Λ := pick1 []) (rs := [.tmp 2]) (c := bodyOf Tryd.f43) mixed tab_ok ΓOk_nil Tryd.func43 (by kernel_rfl) (by kernel_rfl) (by kernel_rfl) (by kernel_rfl) CutsOk_nil (fun x k r h => Eq.trans (b := (clone1S 54 (.prod (.int .i64) (.prod (.int .i64) (.prod (.int .i64) (.int .i64)))) 32).run x k) (by kernel_rfl) h))
    (spec_exec (X := ⟨look tab, pick1 [], false, false, false, false⟩) (Λ := pick1 []) (rs := [.tmp 2]) (c := bodyOf Tryd.f43) mixed tab_ok ΓOk_nil Tryd.func43 (by kernel_rfl) (by kernel_rfl) (by kernel_rfl) (by kernel_rfl) CutsOk_nil (fun x k r h => Eq.trans (b := (clone2S 54 (.prod (.int .i64) (.prod (.int .i64) (.prod (.int .i64) (.int .i64))))).run x k) (by kernel_rfl) h))

/-- slices.Clone[[]pagewatch/api.Event,pagewatch/api.Event] -/
abbrev zq3s := {β : Type} → (List zq0) → ((List zq0) → Option β) → Option β
def zq3t (c : zq3s) : Spec :=
  ⟨[(false, [.data (.slice zq1)])], [], [(false, [.rowh 0])], [.row 49 zq1], fun x k => c x.1.1.1 (fun r0 => k (((), ()), (r0, ())))⟩
def zq3u : zq3s := fun l k => cloneF zq1 32 l k
theorem zq3v : SpecOk Tryd.prog 44 (zq3t zq3u) :=
  clone_ok (et := 49) (e := zq1) (bytes := 32) (by kernel_rfl)
    (spec_exec (X := ⟨look tab, pick1 [], false, false, false, false⟩) (Λ := pick1 []) (rs := [.tmp 2]) (c := bodyOf Tryd.f44) mixed tab_ok ΓOk_nil Tryd.func44 (by kernel_rfl) (by kernel_rfl) (by kernel_rfl) (by kernel_rfl) CutsOk_nil (fun x k r h => Eq.trans (b := (clone1S 49 zq1 32).run x k) (by kernel_rfl) h))
    (spec_exec (X := ⟨look tab, pick1 [], false, false, false, false⟩) (Λ := pick1 []) (rs := [.tmp 2]) (c := bodyOf Tryd.f44) mixed tab_ok ΓOk_nil Tryd.func44 (by kernel_rfl) (by kernel_rfl) (by kernel_rfl) (by kernel_rfl) CutsOk_nil (fun x k r h => Eq.trans (b := (clone2S 49 zq1).run x k) (by kernel_rfl) h))

/-- slices.Clone[[]pagewatch/api.Link,pagewatch/api.Link] -/
abbrev zq3w := {β : Type} → (List (Int × (Int × Int))) → ((List (Int × (Int × Int))) → Option β) → Option β
def zq3x (c : zq3w) : Spec :=
  ⟨[(false, [.data (.slice (.prod (.int .i64) (.prod (.int .i64) (.int .i64))))])], [], [(false, [.rowh 0])], [.row 60 (.prod (.int .i64) (.prod (.int .i64) (.int .i64)))], fun x k => c x.1.1.1 (fun r0 => k (((), ()), (r0, ())))⟩
def zq3y : zq3w := fun l k => cloneF (.prod (.int .i64) (.prod (.int .i64) (.int .i64))) 24 l k
theorem zq3z : SpecOk Tryd.prog 45 (zq3x zq3y) :=
  clone_ok (et := 60) (e := (.prod (.int .i64) (.prod (.int .i64) (.int .i64)))) (bytes := 24) (by kernel_rfl)
    (spec_exec (X := ⟨look tab, pick1 [], false, false, false, false⟩) (Λ := pick1 []) (rs := [.tmp 2]) (c := bodyOf Tryd.f45) mixed tab_ok ΓOk_nil Tryd.func45 (by kernel_rfl) (by kernel_rfl) (by kernel_rfl) (by kernel_rfl) CutsOk_nil (fun x k r h => Eq.trans (b := (clone1S 60 (.prod (.int .i64) (.prod (.int .i64) (.int .i64))) 24).run x k) (by kernel_rfl) h))
    (spec_exec (X := ⟨look tab, pick1 [], false, false, false, false⟩) (Λ := pick1 []) (rs := [.tmp 2]) (c := bodyOf Tryd.f45) mixed tab_ok ΓOk_nil Tryd.func45 (by kernel_rfl) (by kernel_rfl) (by kernel_rfl) (by kernel_rfl) CutsOk_nil (fun x k r h => Eq.trans (b := (clone2S 60 (.prod (.int .i64) (.prod (.int .i64) (.int .i64)))).run x k) (by kernel_rfl) h))

/-- (pagewatch/order.matrix).when -/
abbrev zq40 := {β : Type} → (List (List Int)) → Int → ((Int × Int) → Option β) → Option β
def zq41 (c : zq40) : Spec :=
  ⟨[(false, [.data (.slice (.slice (.int .i64)))]), (false, [.data (.int .i64)])], [], [(true, [.data (.prod (.int .i64) (.int .i64))])], [], fun x k => c x.1.1.1 x.1.2.1.1 (fun r0 => k (((r0, ()), ()), ()))⟩
section
@[reducible] def order_matrix_when_X : Ctx := ⟨look tab, pick1 [], false, false, false, false⟩
def zq42 {β : Type} (m : List (List Int)) (i_ : Int) (k : ((Int × Int) → Option β)) : Option β :=
  cond (decide (0 ≤ (IntKind.i64.wrap (i_ + (1 : Int)))) && decide ((IntKind.i64.wrap (i_ + (1 : Int))) < (List.length m : Int)))
  (let e : List Int := List.getD m (Int.toNat (IntKind.i64.wrap (i_ + (1 : Int)))) ([] : List Int);
  cond (decide (0 ≤ (0 : Int)) && decide ((0 : Int) < (List.length e : Int)))
  (let e2 : Int := List.getD e (Int.toNat (0 : Int)) (0 : Int);
  cond (decide (0 ≤ (0 : Int)) && decide ((0 : Int) < (List.length m : Int)))
  (let e3 : List Int := List.getD m (Int.toNat (0 : Int)) ([] : List Int);
  cond (decide (0 ≤ (IntKind.i64.wrap (i_ + (1 : Int)))) && decide ((IntKind.i64.wrap (i_ + (1 : Int))) < (List.length e3 : Int)))
  (let e4 : Int := List.getD e3 (Int.toNat (IntKind.i64.wrap (i_ + (1 : Int)))) (0 : Int);
  k ((IntKind.i64.wrap (0 - e2)), e4))
  none)
  none)
  none)
  none
theorem zq43 (hΓ : ΓOk Tryd.prog order_matrix_when_X.Γ) : SpecOk Tryd.prog 48 (zq41 (zq42)) :=
  spec_exec (X := order_matrix_when_X) (Λ := pick1 []) (rs := [.cell 4 44]) (c := bodyOf Tryd.f48) mixed tab_ok hΓ Tryd.func48 (by kernel_rfl) (by kernel_rfl) (by kernel_rfl) (by kernel_rfl) CutsOk_nil (fun x k r h => Eq.trans (b := (zq41 (zq42)).run x k) (by kernel_rfl) h)
end
theorem zq44Γ : ΓOk Tryd.prog (pick1 []) := ΓOk_nil
def zq45 : zq40 := zq42
theorem zq46 : SpecOk Tryd.prog 48 (zq41 zq45) := zq43 zq44Γ

/-- (pagewatch/order.matrix).open -/
abbrev zq47 := {β : Type} → (List (List Int)) → Int → Int → (Bool → Option β) → Option β
def zq48 (c : zq47) : Spec :=
  ⟨[(false, [.data (.slice (.slice (.int .i64)))]), (false, [.data (.int .i64)]), (false, [.data (.int .i64)])], [], [(false, [.data .bool])], [], fun x k => c x.1.1.1 x.1.2.1.1 x.1.2.2.1.1 (fun r0 => k (((r0, ()), ()), ()))⟩
section
variable (c_order_matrix_before : zq2c)
@[reducible] def order_matrix_open_X : Ctx := ⟨look tab, pick1 [(28, .spec (zq2d c_order_matrix_before))], false, false, false, false⟩
def zq49 {β : Type} (m : List (List Int)) (a : Int) (b : Int) (k : (Bool → Option β)) : Option β :=
  c_order_matrix_before m a b (fun (rbefore : Bool) =>
  cond (!rbefore)
  (c_order_matrix_before m b a (fun (rbefore2 : Bool) =>
  k (!rbefore2)))
  (k false))
theorem zq4a (hΓ : ΓOk Tryd.prog (order_matrix_open_X c_order_matrix_before).Γ) : SpecOk Tryd.prog 49 (zq48 (zq49 c_order_matrix_before)) :=
  spec_exec (X := (order_matrix_open_X c_order_matrix_before)) (Λ := pick1 []) (rs := [.tmp 6]) (c := bodyOf Tryd.f49) mixed tab_ok hΓ Tryd.func49 (by kernel_rfl) (by kernel_rfl) (by kernel_rfl) (by kernel_rfl) CutsOk_nil (fun x k r h => Eq.trans (b := (zq48 (zq49 c_order_matrix_before)).run x k) (by kernel_rfl) h)
end
theorem zq4bΓ : ΓOk Tryd.prog (pick1 [(28, .spec (zq2d zq2h))]) := (ΓOk_cons zq2i ΓOk_nil)
def zq4c : zq47 := zq49 zq2h
theorem zq4d : SpecOk Tryd.prog 49 (zq48 zq4c) := zq4a zq2h zq4bΓ

/-- pagewatch/order.in -/
abbrev zq4e := {β : Type} → Int → Int → Int → (Bool → Option β) → Option β
def zq4f (c : zq4e) : Spec :=
  ⟨[(false, [.data (.int .i64)]), (false, [.data (.int .i64)]), (false, [.data (.int .i64)])], [], [(false, [.data .bool])], [], fun x k => c x.1.1.1 x.1.2.1.1 x.1.2.2.1.1 (fun r0 => k (((r0, ()), ()), ()))⟩
section
@[reducible] def order_in_X : Ctx := ⟨look tab, pick1 [], false, false, false, false⟩
def zq4g {β : Type} (n : Int) (low : Int) (high : Int) (k : (Bool → Option β)) : Option β :=
  cond (decide (low ≤ n))
  (k (decide (n ≤ high)))
  (k false)
theorem zq4h (hΓ : ΓOk Tryd.prog order_in_X.Γ) : SpecOk Tryd.prog 52 (zq4f (zq4g)) :=
  spec_exec (X := order_in_X) (Λ := pick1 []) (rs := [.tmp 6]) (c := bodyOf Tryd.f52) mixed tab_ok hΓ Tryd.func52 (by kernel_rfl) (by kernel_rfl) (by kernel_rfl) (by kernel_rfl) CutsOk_nil (fun x k r h => Eq.trans (b := (zq4f (zq4g)).run x k) (by kernel_rfl) h)
end
theorem zq4iΓ : ΓOk Tryd.prog (pick1 []) := ΓOk_nil
def zq4j : zq4e := zq4g
theorem zq4k : SpecOk Tryd.prog 52 (zq4f zq4j) := zq4h zq4iΓ

/-- pagewatch/order.Allows$1 -/
abbrev zq4l := {β : Type} → Int → (List (List Int)) → Int → (Bool → (List (List Int)) → Int → Option β) → Option β
def zq4m (c : zq4l) : Spec :=
  ⟨[(false, [.data (.int .i64)]), (false, [.ptr 0 0]), (false, [.ptr 1 0])], [.cells 82 [.data (.slice (.slice (.int .i64)))], .cells 3 [.data (.int .i64)]], [(false, [.data .bool])], [.cells 82 [.data (.slice (.slice (.int .i64)))], .cells 3 [.data (.int .i64)]], fun x k => c x.1.1.1 x.2.1.1 x.2.2.1.1 (fun r0 r1 r2 => k (((r0, ()), ()), ((r1, ()), (r2, ()), ())))⟩
section
variable (c_order_matrix_before : zq2c)
@[reducible] def order_Allows_f1_X : Ctx := ⟨look tab, pick1 [(28, .spec (zq2d c_order_matrix_before))], false, false, false, false⟩
def zq4n {β : Type} (y : Int) (t1 : List (List Int)) (t2 : Int) (k : (Bool → (List (List Int)) → Int → Option β)) : Option β :=
  c_order_matrix_before t1 t2 y (fun (rbefore : Bool) =>
  k rbefore t1 t2)
theorem zq4o (hΓ : ΓOk Tryd.prog (order_Allows_f1_X c_order_matrix_before).Γ) : SpecOk Tryd.prog 55 (zq4m (zq4n c_order_matrix_before)) :=
  spec_exec (X := (order_Allows_f1_X c_order_matrix_before)) (Λ := pick1 []) (rs := [.tmp 4]) (c := bodyOf Tryd.f55) mixed tab_ok hΓ Tryd.func55 (by kernel_rfl) (by kernel_rfl) (by kernel_rfl) (by kernel_rfl) CutsOk_nil (fun x k r h => Eq.trans (b := (zq4m (zq4n c_order_matrix_before)).run x k) (by kernel_rfl) h)
end
theorem zq4pΓ : ΓOk Tryd.prog (pick1 [(28, .spec (zq2d zq2h))]) := (ΓOk_cons zq2i ΓOk_nil)
def zq4q : zq4l := zq4n zq2h
theorem zq4r : SpecOk Tryd.prog 55 (zq4m zq4q) := zq4o zq2h zq4pΓ

/-- pagewatch/constraint.direct -/
abbrev zq4s := {β : Type} → Int → (List (Int × (Int × Int))) → ((List (List Int)) → Option β) → Option β
def zq4t (c : zq4s) : Spec :=
  ⟨[(false, [.data (.int .i64)]), (false, [.data (.slice (.prod (.int .i64) (.prod (.int .i64) (.int .i64))))])], [], [(false, [.math 0])], [.mat 22 3 (.int .i64)], fun x k => c x.1.1.1 x.1.2.1.1 (fun r0 => k (((), ()), (r0, ())))⟩
noncomputable def constraint_direct_p2_code : Code := codeAt 58 (bodyOf Tryd.f61)
noncomputable def constraint_direct_p3_code : Code := codeAt 122 (bodyOf Tryd.f61)
noncomputable def constraint_direct_p1_code : Code := codeAt 462 (loopBody constraint_direct_p2_code)
abbrev zq4u (β : Type) := Int → (List (Int × (Int × Int))) → Int → Int → (List (List Int)) → Option β
abbrev zq4v := {β : Type} → zq4u β → Int → (List (Int × (Int × Int))) → Int → Int → Int → Int → Int → (List (List Int)) → Option β
def zq4w : View := ⟨0, [0, 1, 5, 6, 13, 14, 26, 27], [(false, [.data (.int .i64)]), (false, [.data (.slice (.prod (.int .i64) (.prod (.int .i64) (.int .i64))))]), (false, [.math 0]), (false, [.data (.int .i64)]), (false, [.data (.int .i64)]), (false, [.data (.int .i64)]), (false, [.data (.int .i64)]), (false, [.data (.int .i64)])], [.mat 22 3 (.int .i64)]⟩
def zq4x : List (AExit × View) := [(.exit 2, ⟨0, [0, 1, 5, 13, 14], [(false, [.data (.int .i64)]), (false, [.data (.slice (.prod (.int .i64) (.prod (.int .i64) (.int .i64))))]), (false, [.math 0]), (false, [.data (.int .i64)]), (false, [.data (.int .i64)])], [.mat 22 3 (.int .i64)]⟩)]
@[reducible] def constraint_direct_p1_G (p : zq4v) {β : Type} (d : zq4w.den) (ks : Outs.K β zq4x) : Option β :=
  p (fun a0 a1 a2 a3 a4 => ks.1 (((a0, ()), (a1, ()), (), (a2, ()), (a3, ()), ()), (a4, ()))) d.1.1.1 d.1.2.1.1 d.1.2.2.2.1.1 d.1.2.2.2.2.1.1 d.1.2.2.2.2.2.1.1 d.1.2.2.2.2.2.2.1.1 d.1.2.2.2.2.2.2.2.1.1 d.2.1
abbrev zq4y (β : Type) := (List (Int × (Int × Int))) → (List (List Int)) → Option β
abbrev zq4z := {β : Type} → zq4y β → Int → (List (Int × (Int × Int))) → Int → Int → (List (List Int)) → Option β
def zq50 : View := ⟨0, [0, 1, 5, 13, 14], [(false, [.data (.int .i64)]), (false, [.data (.slice (.prod (.int .i64) (.prod (.int .i64) (.int .i64))))]), (false, [.math 0]), (false, [.data (.int .i64)]), (false, [.data (.int .i64)])], [.mat 22 3 (.int .i64)]⟩
def zq51 : List (AExit × View) := [(.exit 0, ⟨0, [1, 5], [(false, [.data (.slice (.prod (.int .i64) (.prod (.int .i64) (.int .i64))))]), (false, [.math 0])], [.mat 22 3 (.int .i64)]⟩)]
@[reducible] def constraint_direct_p2_G (p : zq4z) {β : Type} (d : zq50.den) (ks : Outs.K β zq51) : Option β :=
  p (fun a0 a1 => ks.1 (((a0, ()), (), ()), (a1, ()))) d.1.1.1 d.1.2.1.1 d.1.2.2.2.1.1 d.1.2.2.2.2.1.1 d.2.1
abbrev zq52 (β : Type) := (List (List Int)) → Option β
abbrev zq53 := {β : Type} → zq52 β → (List (Int × (Int × Int))) → Int → Int → (List (List Int)) → Option β
def zq54 : View := ⟨0, [5, 38, 39, 40], [(false, [.math 0]), (false, [.data (.slice (.prod (.int .i64) (.prod (.int .i64) (.int .i64))))]), (false, [.data (.int .i64)]), (false, [.data (.int .i64)])], [.mat 22 3 (.int .i64)]⟩
def zq55 : List (AExit × View) := [(.exit 4, ⟨0, [5], [(false, [.math 0])], [.mat 22 3 (.int .i64)]⟩)]
@[reducible] def constraint_direct_p3_G (p : zq53) {β : Type} (d : zq54.den) (ks : Outs.K β zq55) : Option β :=
  p (fun a0 => ks.1 (((), ()), (a0, ()))) d.1.2.1.1 d.1.2.2.1.1 d.1.2.2.2.1.1 d.2.1
section
@[reducible] def constraint_direct_X : Ctx := ⟨look tab, pick1 [], true, false, false, false⟩
def zq56 {β : Type} (rec : Int → (List (Int × (Int × Int))) → Int → Int → Int → Int → Int → (List (List Int)) → Option β) (k1 : zq4u β) (n : Int) (l : List (Int × (Int × Int))) (i_ : Int) (t13 : Int) (t14 : Int) (t26 : Int) (t27 : Int) (out : List (List Int)) : Option β :=
  cond (decide (t27 < t26))
  (cond (decide (0 ≤ i_) && decide (i_ < (List.length out : Int)))
  (cond (decide (0 ≤ t27) && decide (t27 < (List.length (List.getD out (Int.toNat i_) []) : Int)))
  (let m_ : List (List Int) := (List.set out (Int.toNat i_) (List.set (List.getD out (Int.toNat i_) []) (Int.toNat t27) (1099511627776 : Int)));
  rec n l i_ t13 t14 t26 (IntKind.i64.wrap (t27 + (1 : Int))) m_)
  none)
  none)
  (k1 n l t13 t14 out)
def zq57 {β : Type} : Nat → zq4u β → Int → (List (Int × (Int × Int))) → Int → Int → Int → Int → Int → (List (List Int)) → Option β
  | 0 => fun _ _ _ _ _ _ _ _ _ => none
  | i + 1 => fun k1 n l i_ t13 t14 t26 t27 out => zq56 (zq57 i k1) k1 n l i_ t13 t14 t26 t27 out
theorem zq58 (hΓ : ΓOk Tryd.prog constraint_direct_X.Γ) (i : Nat) : PieceOk Tryd.prog 66 0 constraint_direct_p1_code zq4w zq4x (constraint_direct_p1_G (zq57 i)) := by
  rw [show constraint_direct_p1_code = .loop (loopBody constraint_direct_p1_code) by kernel_rfl]
  exact piece_loop (X := constraint_direct_X) (p := 1) (Λ := pick1 []) (G := fun i => @fun β d ks => constraint_direct_p1_G (zq57 i) d ks) mixed tab_ok hΓ rfl (by kernel_rfl) CutsOk_nil (fun _ _ => rfl) (fun i => @fun β d ks r h => Eq.trans (b := constraint_direct_p1_G (zq57 (i + 1)) d ks) (by kernel_rfl) h) i
def zq59 (p1 : zq4v) {β : Type} (rec : Int → (List (Int × (Int × Int))) → Int → Int → (List (List Int)) → Option β) (k1 : zq4y β) (n : Int) (l : List (Int × (Int × Int))) (t13 : Int) (t14 : Int) (out : List (List Int)) : Option β :=
  cond (decide (t14 < t13))
  (cond (decide (0 ≤ n) && (decide (n = n) && (decide (Int.toNat n * 8 ≤ roomMax) && decide (n ≤ 9223372036854775807))))
  (let l2 : List Int := (List.replicate (Int.toNat n) (0 : Int));
  cond (decide (0 ≤ t14) && decide (t14 < (List.length out : Int)))
  (let m_ : List (List Int) := (List.set out (Int.toNat t14) l2);
  cond (decide (0 ≤ t14) && decide (t14 < (List.length m_ : Int)))
  (p1 (fun (n2 : Int) (l3 : List (Int × (Int × Int))) (t132 : Int) (t142 : Int) (out2 : List (List Int)) =>
  rec n2 l3 t132 (IntKind.i64.wrap (t142 + (1 : Int))) out2) n l t14 t13 t14 (List.length (List.getD m_ (Int.toNat t14) []) : Int) (0 : Int) m_)
  none)
  none)
  none)
  (k1 l out)
def zq5a (p1 : zq4v) {β : Type} : Nat → zq4y β → Int → (List (Int × (Int × Int))) → Int → Int → (List (List Int)) → Option β
  | 0 => fun _ _ _ _ _ _ => none
  | i + 1 => fun k1 n l t13 t14 out => zq59 p1 (zq5a p1 i k1) k1 n l t13 t14 out
theorem zq5b (hΓ : ΓOk Tryd.prog constraint_direct_X.Γ) (p1 : zq4v) (hp1 : PieceOk Tryd.prog 66 0 constraint_direct_p1_code zq4w zq4x (constraint_direct_p1_G p1)) (i : Nat) : PieceOk Tryd.prog 66 0 constraint_direct_p2_code zq50 zq51 (constraint_direct_p2_G (zq5a p1 i)) := by
  rw [show constraint_direct_p2_code = .loop (loopBody constraint_direct_p2_code) by kernel_rfl]
  exact piece_loop (X := constraint_direct_X) (p := 1) (Λ := pick1 [(462, pieceCut zq4w zq4x (constraint_direct_p1_G p1))]) (G := fun i => @fun β d ks => constraint_direct_p2_G (zq5a p1 i) d ks) mixed tab_ok hΓ rfl (by kernel_rfl) (CutsOk_cons (q := 462) (c' := constraint_direct_p1_code) (by kernel_rfl) rfl hp1 CutsOk_nil) (fun _ _ => rfl) (fun i => @fun β d ks r h => Eq.trans (b := constraint_direct_p2_G (zq5a p1 (i + 1)) d ks) (by kernel_rfl) h) i
def zq5c {β : Type} (rec : (List (Int × (Int × Int))) → Int → Int → (List (List Int)) → Option β) (k1 : zq52 β) (t38 : List (Int × (Int × Int))) (t39 : Int) (t40 : Int) (out : List (List Int)) : Option β :=
  cond (decide (t40 < t39))
  (cond (decide (0 ≤ t40) && decide (t40 < (List.length t38 : Int)))
  (let e : (Int × (Int × Int)) := List.getD t38 (Int.toNat t40) ((0 : Int), ((0 : Int), (0 : Int)));
  cond (decide (0 ≤ e.1) && decide (e.1 < (List.length out : Int)))
  (cond (decide (0 ≤ e.1) && decide (e.1 < (List.length out : Int)))
  (cond (decide (0 ≤ e.2.1) && decide (e.2.1 < (List.length (List.getD out (Int.toNat e.1) []) : Int)))
  (cond (decide (0 ≤ e.2.1) && decide (e.2.1 < (List.length (List.getD out (Int.toNat e.1) []) : Int)))
  (let m_ : List (List Int) := (List.set out (Int.toNat e.1) (List.set (List.getD out (Int.toNat e.1) []) (Int.toNat e.2.1) (if e.2.2 < (List.getD (List.getD out (Int.toNat e.1) []) (Int.toNat e.2.1) (0 : Int)) then e.2.2 else (List.getD (List.getD out (Int.toNat e.1) []) (Int.toNat e.2.1) (0 : Int)))));
  rec t38 t39 (IntKind.i64.wrap (t40 + (1 : Int))) m_)
  none)
  none)
  none)
  none)
  none)
  (k1 out)
def zq5d {β : Type} : Nat → zq52 β → (List (Int × (Int × Int))) → Int → Int → (List (List Int)) → Option β
  | 0 => fun _ _ _ _ _ => none
  | i + 1 => fun k1 t38 t39 t40 out => zq5c (zq5d i k1) k1 t38 t39 t40 out
theorem zq5e (hΓ : ΓOk Tryd.prog constraint_direct_X.Γ) (i : Nat) : PieceOk Tryd.prog 66 0 constraint_direct_p3_code zq54 zq55 (constraint_direct_p3_G (zq5d i)) := by
  rw [show constraint_direct_p3_code = .loop (loopBody constraint_direct_p3_code) by kernel_rfl]
  exact piece_loop (X := constraint_direct_X) (p := 1) (Λ := pick1 []) (G := fun i => @fun β d ks => constraint_direct_p3_G (zq5d i) d ks) mixed tab_ok hΓ rfl (by kernel_rfl) CutsOk_nil (fun _ _ => rfl) (fun i => @fun β d ks r h => Eq.trans (b := constraint_direct_p3_G (zq5d (i + 1)) d ks) (by kernel_rfl) h) i
def zq5f (p2 : zq4z) (p3 : zq53) {β : Type} (n : Int) (l : List (Int × (Int × Int))) (k : ((List (List Int)) → Option β)) : Option β :=
  cond (decide (0 ≤ n) && (decide (n = n) && (decide (Int.toNat n * 24 ≤ roomMax) && decide (n ≤ 9223372036854775807))))
  (let m_ : List (List Int) := (List.replicate (Int.toNat n) ([] : List Int));
  p2 (fun (l2 : List (Int × (Int × Int))) (out : List (List Int)) =>
  p3 (fun (out2 : List (List Int)) =>
  k out2) l2 (List.length l2 : Int) (0 : Int) out) n l (List.length m_ : Int) (0 : Int) m_)
  none
theorem zq5g (hΓ : ΓOk Tryd.prog constraint_direct_X.Γ) (p2 : zq4z) (p3 : zq53) (hp2 : PieceOk Tryd.prog 66 0 constraint_direct_p2_code zq50 zq51 (constraint_direct_p2_G p2)) (hp3 : PieceOk Tryd.prog 66 0 constraint_direct_p3_code zq54 zq55 (constraint_direct_p3_G p3)) : SpecOk Tryd.prog 61 (zq4t (zq5f p2 p3)) :=
  spec_exec (X := constraint_direct_X) (Λ := pick1 [(58, pieceCut zq50 zq51 (constraint_direct_p2_G p2)), (122, pieceCut zq54 zq55 (constraint_direct_p3_G p3))]) (rs := [.tmp 4]) (c := bodyOf Tryd.f61) mixed tab_ok hΓ Tryd.func61 (by kernel_rfl) (by kernel_rfl) (by kernel_rfl) (by kernel_rfl) (CutsOk_cons (q := 58) (c' := constraint_direct_p2_code) (by kernel_rfl) rfl hp2 (CutsOk_cons (q := 122) (c' := constraint_direct_p3_code) (by kernel_rfl) rfl hp3 CutsOk_nil)) (fun x k r h => Eq.trans (b := (zq4t (zq5f p2 p3)).run x k) (by kernel_rfl) h)
end
theorem zq5hΓ : ΓOk Tryd.prog (pick1 []) := ΓOk_nil
def zq5i (m : Nat) : zq4v := zq57 m
theorem zq5j {β : Type} (i : Nat) (k1 n l i_ t13 t14 t26 t27 out) : (zq5i (i + 1) k1 n l i_ t13 t14 t26 t27 out : Option β) = zq56 (zq5i i k1) k1 n l i_ t13 t14 t26 t27 out := rfl
def zq5k : zq4v := zq5i fuel
theorem zq5l : PieceOk Tryd.prog 66 0 constraint_direct_p1_code zq4w zq4x (constraint_direct_p1_G zq5k) := zq58 zq5hΓ fuel
def zq5m (m : Nat) : zq4z := zq5a zq5k m
theorem zq5n {β : Type} (i : Nat) (k1 n l t13 t14 out) : (zq5m (i + 1) k1 n l t13 t14 out : Option β) = zq59 zq5k (zq5m i k1) k1 n l t13 t14 out := rfl
def zq5o : zq4z := zq5m fuel
theorem zq5p : PieceOk Tryd.prog 66 0 constraint_direct_p2_code zq50 zq51 (constraint_direct_p2_G zq5o) := zq5b zq5hΓ zq5k zq5l fuel
def zq5q (m : Nat) : zq53 := zq5d m
theorem zq5r {β : Type} (i : Nat) (k1 t38 t39 t40 out) : (zq5q (i + 1) k1 t38 t39 t40 out : Option β) = zq5c (zq5q i k1) k1 t38 t39 t40 out := rfl
def zq5s : zq53 := zq5q fuel
theorem zq5t : PieceOk Tryd.prog 66 0 constraint_direct_p3_code zq54 zq55 (constraint_direct_p3_G zq5s) := zq5e zq5hΓ fuel
def zq5u : zq4s := zq5f zq5o zq5s
theorem zq5v : SpecOk Tryd.prog 61 (zq4t zq5u) := zq5g zq5hΓ zq5o zq5s zq5p zq5t

/-- slices.Index[[]int,int] -/
abbrev zq5w := {β : Type} → (List Int) → Int → (Int → Option β) → Option β
def zq5x (c : zq5w) : Spec :=
  ⟨[(false, [.data (.slice (.int .i64))]), (false, [.data (.int .i64)])], [], [(false, [.data (.int .i64)])], [], fun x k => c x.1.1.1 x.1.2.1.1 (fun r0 => k (((r0, ()), ()), ()))⟩
noncomputable def slices_Index_int_int_p1_code : Code := codeAt 26 (bodyOf Tryd.f73)
abbrev zq5y (β : Type) := Int → Option β
abbrev zq5z (β : Type) := Unit → Option β
abbrev zq60 := {β : Type} → zq5y β → zq5z β → (List Int) → Int → Int → Int → Option β
def zq61 : View := ⟨0, [0, 1, 7, 8], [(false, [.data (.slice (.int .i64))]), (false, [.data (.int .i64)]), (false, [.data (.int .i64)]), (false, [.data (.int .i64)])], []⟩
def zq62 : List (AExit × View) := [(.ret, ⟨0, [4], [(false, [.data (.int .i64)])], []⟩), (.exit 0, ⟨0, [], [], []⟩)]
@[reducible] def slices_Index_int_int_p1_G (p : zq60) {β : Type} (d : zq61.den) (ks : Outs.K β zq62) : Option β :=
  p (fun a0 => ks.1 (((a0, ()), ()), ())) (fun _ => ks.2.1 ((), ())) d.1.1.1 d.1.2.1.1 d.1.2.2.1.1 d.1.2.2.2.1.1
section
@[reducible] def slices_Index_int_int_X : Ctx := ⟨look tab, pick1 [], false, false, false, false⟩
def zq63 {β : Type} (rec : (List Int) → Int → Int → Int → Option β) (k1 : zq5y β) (k2 : zq5z β) (s : List Int) (v : Int) (t7 : Int) (t8 : Int) : Option β :=
  cond (decide (t8 < t7))
  (cond (decide (0 ≤ t8) && decide (t8 < (List.length s : Int)))
  (let e : Int := List.getD s (Int.toNat t8) (0 : Int);
  cond (decide (v = e))
  (k1 t8)
  (rec s v t7 (IntKind.i64.wrap (t8 + (1 : Int)))))
  none)
  (k2 ())
def zq64 {β : Type} : Nat → zq5y β → zq5z β → (List Int) → Int → Int → Int → Option β
  | 0 => fun _ _ _ _ _ _ => none
  | i + 1 => fun k1 k2 s v t7 t8 => zq63 (zq64 i k1 k2) k1 k2 s v t7 t8
theorem zq65 (hΓ : ΓOk Tryd.prog slices_Index_int_int_X.Γ) (i : Nat) : PieceOk Tryd.prog 19 0 slices_Index_int_int_p1_code zq61 zq62 (slices_Index_int_int_p1_G (zq64 i)) := by
  rw [show slices_Index_int_int_p1_code = .loop (loopBody slices_Index_int_int_p1_code) by kernel_rfl]
  exact piece_loop (X := slices_Index_int_int_X) (p := 1) (Λ := pick1 []) (G := fun i => @fun β d ks => slices_Index_int_int_p1_G (zq64 i) d ks) mixed tab_ok hΓ rfl (by kernel_rfl) CutsOk_nil (fun _ _ => rfl) (fun i => @fun β d ks r h => Eq.trans (b := slices_Index_int_int_p1_G (zq64 (i + 1)) d ks) (by kernel_rfl) h) i
def zq66 (p1 : zq60) {β : Type} (s : List Int) (v : Int) (k : (Int → Option β)) : Option β :=
  p1 (fun (t4 : Int) =>
  k t4) (fun (_ : Unit) =>
  k (-1 : Int)) s v (List.length s : Int) (0 : Int)
theorem zq67 (hΓ : ΓOk Tryd.prog slices_Index_int_int_X.Γ) (p1 : zq60) (hp1 : PieceOk Tryd.prog 19 0 slices_Index_int_int_p1_code zq61 zq62 (slices_Index_int_int_p1_G p1)) : SpecOk Tryd.prog 73 (zq5x (zq66 p1)) :=
  spec_exec (X := slices_Index_int_int_X) (Λ := pick1 [(26, pieceCut zq61 zq62 (slices_Index_int_int_p1_G p1))]) (rs := [.tmp 4]) (c := bodyOf Tryd.f73) mixed tab_ok hΓ Tryd.func73 (by kernel_rfl) (by kernel_rfl) (by kernel_rfl) (by kernel_rfl) (CutsOk_cons (q := 26) (c' := slices_Index_int_int_p1_code) (by kernel_rfl) rfl hp1 CutsOk_nil) (fun x k r h => Eq.trans (b := (zq5x (zq66 p1)).run x k) (by kernel_rfl) h)
end
theorem zq68Γ : ΓOk Tryd.prog (pick1 []) := ΓOk_nil
def zq69 (m : Nat) : zq60 := zq64 m
theorem zq6a {β : Type} (i : Nat) (k1 k2 s v t7 t8) : (zq69 (i + 1) k1 k2 s v t7 t8 : Option β) = zq63 (zq69 i k1 k2) k1 k2 s v t7 t8 := rfl
def zq6b : zq60 := zq69 fuel
theorem zq6c : PieceOk Tryd.prog 19 0 slices_Index_int_int_p1_code zq61 zq62 (slices_Index_int_int_p1_G zq6b) := zq65 zq68Γ fuel
def zq6d : zq5w := zq66 zq6b
theorem zq6e : SpecOk Tryd.prog 73 (zq5x zq6d) := zq67 zq68Γ zq6b zq6c

/-- pagewatch/clock.Meet -/
abbrev zq6f := {β : Type} → (Int × Int) → (Int × Int) → ((Int × Int) → Option β) → Option β
def zq6g (c : zq6f) : Spec :=
  ⟨[(true, [.data (.prod (.int .i64) (.int .i64))]), (true, [.data (.prod (.int .i64) (.int .i64))])], [], [(true, [.data (.prod (.int .i64) (.int .i64))])], [], fun x k => c x.1.1.1 x.1.2.1.1 (fun r0 => k (((r0, ()), ()), ()))⟩
section
@[reducible] def clock_Meet_X : Ctx := ⟨look tab, pick1 [], false, false, false, false⟩
def zq6h {β : Type} (a : (Int × Int)) (b : (Int × Int)) (k : ((Int × Int) → Option β)) : Option β :=
  k ((if b.1 > a.1 then b.1 else a.1), (if b.2 < a.2 then b.2 else a.2))
theorem zq6i (hΓ : ΓOk Tryd.prog clock_Meet_X.Γ) : SpecOk Tryd.prog 79 (zq6g (zq6h)) :=
  spec_exec (X := clock_Meet_X) (Λ := pick1 []) (rs := [.cell 4 44]) (c := bodyOf Tryd.f79) mixed tab_ok hΓ Tryd.func79 (by kernel_rfl) (by kernel_rfl) (by kernel_rfl) (by kernel_rfl) CutsOk_nil (fun x k r h => Eq.trans (b := (zq6g (zq6h)).run x k) (by kernel_rfl) h)
end
theorem zq6jΓ : ΓOk Tryd.prog (pick1 []) := ΓOk_nil
def zq6k : zq6f := zq6h
theorem zq6l : SpecOk Tryd.prog 79 (zq6g zq6k) := zq6i zq6jΓ

/-- pagewatch/clock.Empty -/
abbrev zq6m := {β : Type} → (Int × Int) → (Bool → Option β) → Option β
def zq6n (c : zq6m) : Spec :=
  ⟨[(true, [.data (.prod (.int .i64) (.int .i64))])], [], [(false, [.data .bool])], [], fun x k => c x.1.1.1 (fun r0 => k (((r0, ()), ()), ()))⟩
section
@[reducible] def clock_Empty_X : Ctx := ⟨look tab, pick1 [], false, false, false, false⟩
def zq6o {β : Type} (a : (Int × Int)) (k : (Bool → Option β)) : Option β :=
  k (decide (a.2 < a.1))
theorem zq6p (hΓ : ΓOk Tryd.prog clock_Empty_X.Γ) : SpecOk Tryd.prog 81 (zq6n (zq6o)) :=
  spec_exec (X := clock_Empty_X) (Λ := pick1 []) (rs := [.tmp 2]) (c := bodyOf Tryd.f81) mixed tab_ok hΓ Tryd.func81 (by kernel_rfl) (by kernel_rfl) (by kernel_rfl) (by kernel_rfl) CutsOk_nil (fun x k r h => Eq.trans (b := (zq6n (zq6o)).run x k) (by kernel_rfl) h)
end
theorem zq6qΓ : ΓOk Tryd.prog (pick1 []) := ΓOk_nil
def zq6r : zq6m := zq6o
theorem zq6s : SpecOk Tryd.prog 81 (zq6n zq6r) := zq6p zq6qΓ

/-- pagewatch/constraint.in -/
abbrev zq6t := {β : Type} → Int → Int → Int → (Bool → Option β) → Option β
def zq6u (c : zq6t) : Spec :=
  ⟨[(false, [.data (.int .i64)]), (false, [.data (.int .i64)]), (false, [.data (.int .i64)])], [], [(false, [.data .bool])], [], fun x k => c x.1.1.1 x.1.2.1.1 x.1.2.2.1.1 (fun r0 => k (((r0, ()), ()), ()))⟩
section
@[reducible] def constraint_in_X : Ctx := ⟨look tab, pick1 [], false, false, false, false⟩
def zq6v {β : Type} (n : Int) (low : Int) (high : Int) (k : (Bool → Option β)) : Option β :=
  cond (decide (low ≤ n))
  (k (decide (n ≤ high)))
  (k false)
theorem zq6w (hΓ : ΓOk Tryd.prog constraint_in_X.Γ) : SpecOk Tryd.prog 83 (zq6u (zq6v)) :=
  spec_exec (X := constraint_in_X) (Λ := pick1 []) (rs := [.tmp 6]) (c := bodyOf Tryd.f83) mixed tab_ok hΓ Tryd.func83 (by kernel_rfl) (by kernel_rfl) (by kernel_rfl) (by kernel_rfl) CutsOk_nil (fun x k r h => Eq.trans (b := (zq6u (zq6v)).run x k) (by kernel_rfl) h)
end
theorem zq6xΓ : ΓOk Tryd.prog (pick1 []) := ΓOk_nil
def zq6y : zq6t := zq6v
theorem zq6z : SpecOk Tryd.prog 83 (zq6u zq6y) := zq6w zq6xΓ

/-- pagewatch/constraint.Valid$1 -/
abbrev zq70 := {β : Type} → (Int × (Int × Int)) → Int → (Bool → Int → Option β) → Option β
def zq71 (c : zq70) : Spec :=
  ⟨[(true, [.data (.prod (.int .i64) (.prod (.int .i64) (.int .i64)))]), (false, [.ptr 0 0])], [.cells 3 [.data (.int .i64)]], [(false, [.data .bool])], [.cells 3 [.data (.int .i64)]], fun x k => c x.1.1.1 x.2.1.1 (fun r0 r1 => k (((r0, ()), ()), ((r1, ()), ())))⟩
section
variable (c_constraint_in : zq6t)
@[reducible] def constraint_Valid_f1_X : Ctx := ⟨look tab, pick1 [(83, .spec (zq6u c_constraint_in))], false, false, false, false⟩
def zq72 {β : Type} (d : (Int × (Int × Int))) (t1 : Int) (k : (Bool → Int → Option β)) : Option β :=
  c_constraint_in d.1 (0 : Int) (IntKind.i64.wrap (t1 - (1 : Int))) (fun (rin : Bool) =>
  cond (!rin)
  (k true t1)
  (c_constraint_in d.2.1 (0 : Int) (IntKind.i64.wrap (t1 - (1 : Int))) (fun (rin2 : Bool) =>
  cond (!rin2)
  (k true t1)
  (c_constraint_in d.2.2 (-17179869184 : Int) (17179869184 : Int) (fun (rin3 : Bool) =>
  k (!rin3) t1)))))
theorem zq73 (hΓ : ΓOk Tryd.prog (constraint_Valid_f1_X c_constraint_in).Γ) : SpecOk Tryd.prog 85 (zq71 (zq72 c_constraint_in)) :=
  spec_exec (X := (constraint_Valid_f1_X c_constraint_in)) (Λ := pick1 []) (rs := [.tmp 3]) (c := bodyOf Tryd.f85) mixed tab_ok hΓ Tryd.func85 (by kernel_rfl) (by kernel_rfl) (by kernel_rfl) (by kernel_rfl) CutsOk_nil (fun x k r h => Eq.trans (b := (zq71 (zq72 c_constraint_in)).run x k) (by kernel_rfl) h)
end
theorem zq74Γ : ΓOk Tryd.prog (pick1 [(83, .spec (zq6u zq6y))]) := (ΓOk_cons zq6z ΓOk_nil)
def zq75 : zq70 := zq72 zq6y
theorem zq76 : SpecOk Tryd.prog 85 (zq71 zq75) := zq73 zq6y zq74Γ

/-- pagewatch/clock.Elapsed$1 -/
abbrev zq77 := {β : Type} → Int → Int → (Int → Option β) → Option β
def zq78 (c : zq77) : Spec :=
  ⟨[(false, [.data (.int .i64)]), (false, [.data (.int .i64)])], [], [(false, [.data (.int .i64)])], [], fun x k => c x.1.1.1 x.1.2.1.1 (fun r0 => k (((r0, ()), ()), ()))⟩
section
@[reducible] def clock_Elapsed_f1_X : Ctx := ⟨look tab, pick1 [], false, false, false, false⟩
def zq79 {β : Type} (a : Int) (b : Int) (k : (Int → Option β)) : Option β :=
  cond (!decide (b = 0))
  (let t : Int := (IntKind.i64.wrap (Int.tdiv (IntKind.i64.wrap ((IntKind.i64.wrap (a + b)) - (1 : Int))) b));
  k t)
  none
theorem zq7a (hΓ : ΓOk Tryd.prog clock_Elapsed_f1_X.Γ) : SpecOk Tryd.prog 96 (zq78 (zq79)) :=
  spec_exec (X := clock_Elapsed_f1_X) (Λ := pick1 []) (rs := [.tmp 4]) (c := bodyOf Tryd.f96) mixed tab_ok hΓ Tryd.func96 (by kernel_rfl) (by kernel_rfl) (by kernel_rfl) (by kernel_rfl) CutsOk_nil (fun x k r h => Eq.trans (b := (zq78 (zq79)).run x k) (by kernel_rfl) h)
end
theorem zq7bΓ : ΓOk Tryd.prog (pick1 []) := ΓOk_nil
def zq7c : zq77 := zq79
theorem zq7d : SpecOk Tryd.prog 96 (zq78 zq7c) := zq7a zq7bΓ

/-- (*pagewatch/pagewatchmade.Dice).Record -/
abbrev zq7e := {β : Type} → Int → (List Int × Int) → (zq2 → (List Int × Int) → (List Int) → Option β) → Option β
def zq7f (c : zq7e) : Spec :=
  ⟨[(false, [.ptr 0 0]), (false, [.data (.int .i64)])], [.cells 56 [.data (.prod (.slice (.int .i64)) (.int .i64))]], [(true, [.data zq3]), (false, [.rowh 1])], [.cells 56 [.data (.prod (.slice (.int .i64)) (.int .i64))], .row 3 (.int .i64)], fun x k => c x.1.2.1.1 x.2.1.1 (fun r0 r1 r2 => k (((r0, ()), (), ()), ((r1, ()), r2, ())))⟩
noncomputable def made_Dice_Record_p1_code : Code := codeAt 122 (bodyOf Tryd.f8)
noncomputable def made_Dice_Record_p2_code : Code := codeAt 250 (bodyOf Tryd.f8)
noncomputable def made_Dice_Record_p3_code : Code := codeAt 1018 (bodyOf Tryd.f8)
noncomputable def made_Dice_Record_p5_code : Code := codeAt 2042 (bodyOf Tryd.f8)
noncomputable def made_Dice_Record_p4_code : Code := codeAt 51 (loopBody made_Dice_Record_p5_code)
abbrev zq7g (β : Type) := Int → (List Int) → Int → (List Int) → (List (List UInt8 × Int)) → (List (Int × (Int × (Int × Int)))) → (List zq0) → (List (Int × (Int × Int))) → (List (List UInt8 × Int)) → (List (Int × (Int × (Int × Int)))) → (List zq0) → (List (Int × (Int × Int))) → Option β
abbrev zq7h := {β : Type} → zq7g β → Int → Int → (List Int) → Int → (List Int) → (List (List UInt8 × Int)) → (List (Int × (Int × (Int × Int)))) → (List zq0) → (List (Int × (Int × Int))) → (List (List UInt8 × Int)) → (List (Int × (Int × (Int × Int)))) → (List zq0) → (List (Int × (Int × Int))) → Option β
def zq7i : View := ⟨1, [0, 1, 4, 6, 7, 8], [(false, [.ptr 0 0]), (false, [.data (.int .i64)]), (false, [.ptr 1 0]), (false, [.ptr 2 0]), (false, [.rowh 3]), (false, [.data (.int .i64)])], [.cells 56 [.data (.slice (.int .i64)), .data (.int .i64)], .cells 32 [.rowh 4, .rowh 5, .rowh 6, .rowh 7], .cells 32 [.rowh 8, .rowh 9, .rowh 10, .rowh 11], .row 3 (.int .i64), .row 36 (.prod .str (.int .i64)), .row 54 (.prod (.int .i64) (.prod (.int .i64) (.prod (.int .i64) (.int .i64)))), .row 49 zq1, .row 60 (.prod (.int .i64) (.prod (.int .i64) (.int .i64))), .row 36 (.prod .str (.int .i64)), .row 54 (.prod (.int .i64) (.prod (.int .i64) (.prod (.int .i64) (.int .i64)))), .row 49 zq1, .row 60 (.prod (.int .i64) (.prod (.int .i64) (.int .i64)))]⟩
def zq7j : List (AExit × View) := [(.exit 0, ⟨1, [0, 1, 4, 6, 7], [(false, [.ptr 0 0]), (false, [.data (.int .i64)]), (false, [.ptr 1 0]), (false, [.ptr 2 0]), (false, [.rowh 3])], [.cells 56 [.data (.slice (.int .i64)), .data (.int .i64)], .cells 32 [.rowh 4, .rowh 5, .rowh 6, .rowh 7], .cells 32 [.rowh 8, .rowh 9, .rowh 10, .rowh 11], .row 3 (.int .i64), .row 36 (.prod .str (.int .i64)), .row 54 (.prod (.int .i64) (.prod (.int .i64) (.prod (.int .i64) (.int .i64)))), .row 49 zq1, .row 60 (.prod (.int .i64) (.prod (.int .i64) (.int .i64))), .row 36 (.prod .str (.int .i64)), .row 54 (.prod (.int .i64) (.prod (.int .i64) (.prod (.int .i64) (.int .i64)))), .row 49 zq1, .row 60 (.prod (.int .i64) (.prod (.int .i64) (.int .i64)))]⟩)]
@[reducible] def made_Dice_Record_p1_G (p : zq7h) {β : Type} (d : zq7i.den) (ks : Outs.K β zq7j) : Option β :=
  p (fun a0 a1 a2 a3 a4 a5 a6 a7 a8 a9 a10 a11 => ks.1 (((), (a0, ()), (), (), (), ()), ((a1, a2, ()), (), (), a3, a4, a5, a6, a7, a8, a9, a10, a11, ()))) d.1.2.1.1 d.1.2.2.2.2.2.1.1 d.2.1.1 d.2.1.2.1 d.2.2.2.2.1 d.2.2.2.2.2.1 d.2.2.2.2.2.2.1 d.2.2.2.2.2.2.2.1 d.2.2.2.2.2.2.2.2.1 d.2.2.2.2.2.2.2.2.2.1 d.2.2.2.2.2.2.2.2.2.2.1 d.2.2.2.2.2.2.2.2.2.2.2.1 d.2.2.2.2.2.2.2.2.2.2.2.2.1
abbrev zq7k (β : Type) := Int → (List Int) → Int → (List Int) → (List (List UInt8 × Int)) → (List (Int × (Int × (Int × Int)))) → (List zq0) → (List (Int × (Int × Int))) → (List (List UInt8 × Int)) → (List (Int × (Int × (Int × Int)))) → (List zq0) → (List (Int × (Int × Int))) → Option β
abbrev zq7l := {β : Type} → zq7k β → Int → Int → (List Int) → Int → (List Int) → (List (List UInt8 × Int)) → (List (Int × (Int × (Int × Int)))) → (List zq0) → (List (Int × (Int × Int))) → (List (List UInt8 × Int)) → (List (Int × (Int × (Int × Int)))) → (List zq0) → (List (Int × (Int × Int))) → Option β
def zq7m : View := ⟨1, [0, 1, 4, 6, 7, 9], [(false, [.ptr 0 0]), (false, [.data (.int .i64)]), (false, [.ptr 1 0]), (false, [.ptr 2 0]), (false, [.rowh 3]), (false, [.data (.int .i64)])], [.cells 56 [.data (.slice (.int .i64)), .data (.int .i64)], .cells 32 [.rowh 4, .rowh 5, .rowh 6, .rowh 7], .cells 32 [.rowh 8, .rowh 9, .rowh 10, .rowh 11], .row 3 (.int .i64), .row 36 (.prod .str (.int .i64)), .row 54 (.prod (.int .i64) (.prod (.int .i64) (.prod (.int .i64) (.int .i64)))), .row 49 zq1, .row 60 (.prod (.int .i64) (.prod (.int .i64) (.int .i64))), .row 36 (.prod .str (.int .i64)), .row 54 (.prod (.int .i64) (.prod (.int .i64) (.prod (.int .i64) (.int .i64)))), .row 49 zq1, .row 60 (.prod (.int .i64) (.prod (.int .i64) (.int .i64)))]⟩
def zq7n : List (AExit × View) := [(.exit 2, ⟨1, [0, 1, 4, 6, 7], [(false, [.ptr 0 0]), (false, [.data (.int .i64)]), (false, [.ptr 1 0]), (false, [.ptr 2 0]), (false, [.rowh 3])], [.cells 56 [.data (.slice (.int .i64)), .data (.int .i64)], .cells 32 [.rowh 4, .rowh 5, .rowh 6, .rowh 7], .cells 32 [.rowh 8, .rowh 9, .rowh 10, .rowh 11], .row 3 (.int .i64), .row 36 (.prod .str (.int .i64)), .row 54 (.prod (.int .i64) (.prod (.int .i64) (.prod (.int .i64) (.int .i64)))), .row 49 zq1, .row 60 (.prod (.int .i64) (.prod (.int .i64) (.int .i64))), .row 36 (.prod .str (.int .i64)), .row 54 (.prod (.int .i64) (.prod (.int .i64) (.prod (.int .i64) (.int .i64)))), .row 49 zq1, .row 60 (.prod (.int .i64) (.prod (.int .i64) (.int .i64)))]⟩)]
@[reducible] def made_Dice_Record_p2_G (p : zq7l) {β : Type} (d : zq7m.den) (ks : Outs.K β zq7n) : Option β :=
  p (fun a0 a1 a2 a3 a4 a5 a6 a7 a8 a9 a10 a11 => ks.1 (((), (a0, ()), (), (), (), ()), ((a1, a2, ()), (), (), a3, a4, a5, a6, a7, a8, a9, a10, a11, ()))) d.1.2.1.1 d.1.2.2.2.2.2.1.1 d.2.1.1 d.2.1.2.1 d.2.2.2.2.1 d.2.2.2.2.2.1 d.2.2.2.2.2.2.1 d.2.2.2.2.2.2.2.1 d.2.2.2.2.2.2.2.2.1 d.2.2.2.2.2.2.2.2.2.1 d.2.2.2.2.2.2.2.2.2.2.1 d.2.2.2.2.2.2.2.2.2.2.2.1 d.2.2.2.2.2.2.2.2.2.2.2.2.1
abbrev zq7o (β : Type) := (List Int) → Int → (List Int) → (List (List UInt8 × Int)) → (List (Int × (Int × (Int × Int)))) → (List zq0) → (List (Int × (Int × Int))) → (List (List UInt8 × Int)) → (List (Int × (Int × (Int × Int)))) → (List zq0) → (List (Int × (Int × Int))) → Option β
abbrev zq7p := {β : Type} → zq7o β → Int → (List Int) → Int → (List Int) → (List Int) → (List (List UInt8 × Int)) → (List (Int × (Int × (Int × Int)))) → (List zq0) → (List (Int × (Int × Int))) → (List (List UInt8 × Int)) → (List (Int × (Int × (Int × Int)))) → (List zq0) → (List (Int × (Int × Int))) → Option β
def zq7q : View := ⟨1, [0, 4, 6, 7, 12, 13], [(false, [.ptr 0 0]), (false, [.ptr 1 0]), (false, [.ptr 2 0]), (false, [.rowh 3]), (false, [.rowh 4]), (false, [.data (.int .i64)])], [.cells 56 [.data (.slice (.int .i64)), .data (.int .i64)], .cells 32 [.rowh 5, .rowh 6, .rowh 7, .rowh 8], .cells 32 [.rowh 9, .rowh 10, .rowh 11, .rowh 12], .row 3 (.int .i64), .row 3 (.int .i64), .row 36 (.prod .str (.int .i64)), .row 54 (.prod (.int .i64) (.prod (.int .i64) (.prod (.int .i64) (.int .i64)))), .row 49 zq1, .row 60 (.prod (.int .i64) (.prod (.int .i64) (.int .i64))), .row 36 (.prod .str (.int .i64)), .row 54 (.prod (.int .i64) (.prod (.int .i64) (.prod (.int .i64) (.int .i64)))), .row 49 zq1, .row 60 (.prod (.int .i64) (.prod (.int .i64) (.int .i64)))]⟩
def zq7r : List (AExit × View) := [(.exit 4, ⟨1, [0, 4, 6, 12], [(false, [.ptr 0 0]), (false, [.ptr 1 0]), (false, [.ptr 2 0]), (false, [.rowh 3])], [.cells 56 [.data (.slice (.int .i64)), .data (.int .i64)], .cells 32 [.rowh 4, .rowh 5, .rowh 6, .rowh 7], .cells 32 [.rowh 8, .rowh 9, .rowh 10, .rowh 11], .row 3 (.int .i64), .row 36 (.prod .str (.int .i64)), .row 54 (.prod (.int .i64) (.prod (.int .i64) (.prod (.int .i64) (.int .i64)))), .row 49 zq1, .row 60 (.prod (.int .i64) (.prod (.int .i64) (.int .i64))), .row 36 (.prod .str (.int .i64)), .row 54 (.prod (.int .i64) (.prod (.int .i64) (.prod (.int .i64) (.int .i64)))), .row 49 zq1, .row 60 (.prod (.int .i64) (.prod (.int .i64) (.int .i64)))]⟩)]
@[reducible] def made_Dice_Record_p3_G (p : zq7p) {β : Type} (d : zq7q.den) (ks : Outs.K β zq7r) : Option β :=
  p (fun a0 a1 a2 a3 a4 a5 a6 a7 a8 a9 a10 => ks.1 (((), (), (), (), ()), ((a0, a1, ()), (), (), a2, a3, a4, a5, a6, a7, a8, a9, a10, ()))) d.1.2.2.2.2.2.1.1 d.2.1.1 d.2.1.2.1 d.2.2.2.2.1 d.2.2.2.2.2.1 d.2.2.2.2.2.2.1 d.2.2.2.2.2.2.2.1 d.2.2.2.2.2.2.2.2.1 d.2.2.2.2.2.2.2.2.2.1 d.2.2.2.2.2.2.2.2.2.2.1 d.2.2.2.2.2.2.2.2.2.2.2.1 d.2.2.2.2.2.2.2.2.2.2.2.2.1 d.2.2.2.2.2.2.2.2.2.2.2.2.2.1
abbrev zq7s (β : Type) := Int → (List Int) → Int → (List Int) → (List (List UInt8 × Int)) → (List (Int × (Int × (Int × Int)))) → (List zq0) → (List (Int × (Int × Int))) → (List (List UInt8 × Int)) → (List (Int × (Int × (Int × Int)))) → (List zq0) → (List (Int × (Int × Int))) → Option β
abbrev zq7t := {β : Type} → zq7s β → Int → Int → Int → Bool → (List Int) → Int → (List Int) → (List (List UInt8 × Int)) → (List (Int × (Int × (Int × Int)))) → (List zq0) → (List (Int × (Int × Int))) → (List (List UInt8 × Int)) → (List (Int × (Int × (Int × Int)))) → (List zq0) → (List (Int × (Int × Int))) → Option β
def zq7u : View := ⟨1, [0, 4, 6, 12, 16, 17, 18, 154], [(false, [.ptr 0 0]), (false, [.ptr 1 0]), (false, [.ptr 2 0]), (false, [.rowh 3]), (false, [.data (.int .i64)]), (false, [.data (.int .i64)]), (false, [.data (.int .i64)]), (false, [.data .bool])], [.cells 56 [.data (.slice (.int .i64)), .data (.int .i64)], .cells 32 [.rowh 4, .rowh 5, .rowh 6, .rowh 7], .cells 32 [.rowh 8, .rowh 9, .rowh 10, .rowh 11], .row 3 (.int .i64), .row 36 (.prod .str (.int .i64)), .row 54 (.prod (.int .i64) (.prod (.int .i64) (.prod (.int .i64) (.int .i64)))), .row 49 zq1, .row 60 (.prod (.int .i64) (.prod (.int .i64) (.int .i64))), .row 36 (.prod .str (.int .i64)), .row 54 (.prod (.int .i64) (.prod (.int .i64) (.prod (.int .i64) (.int .i64)))), .row 49 zq1, .row 60 (.prod (.int .i64) (.prod (.int .i64) (.int .i64)))]⟩
def zq7v : List (AExit × View) := [(.normal, ⟨1, [0, 4, 6, 12, 16], [(false, [.ptr 0 0]), (false, [.ptr 1 0]), (false, [.ptr 2 0]), (false, [.rowh 3]), (false, [.data (.int .i64)])], [.cells 56 [.data (.slice (.int .i64)), .data (.int .i64)], .cells 32 [.rowh 4, .rowh 5, .rowh 6, .rowh 7], .cells 32 [.rowh 8, .rowh 9, .rowh 10, .rowh 11], .row 3 (.int .i64), .row 36 (.prod .str (.int .i64)), .row 54 (.prod (.int .i64) (.prod (.int .i64) (.prod (.int .i64) (.int .i64)))), .row 49 zq1, .row 60 (.prod (.int .i64) (.prod (.int .i64) (.int .i64))), .row 36 (.prod .str (.int .i64)), .row 54 (.prod (.int .i64) (.prod (.int .i64) (.prod (.int .i64) (.int .i64)))), .row 49 zq1, .row 60 (.prod (.int .i64) (.prod (.int .i64) (.int .i64)))]⟩)]
@[reducible] def made_Dice_Record_p4_G (p : zq7t) {β : Type} (d : zq7u.den) (ks : Outs.K β zq7v) : Option β :=
  p (fun a0 a1 a2 a3 a4 a5 a6 a7 a8 a9 a10 a11 => ks.1 (((), (), (), (), (a0, ()), ()), ((a1, a2, ()), (), (), a3, a4, a5, a6, a7, a8, a9, a10, a11, ()))) d.1.2.2.2.2.1.1 d.1.2.2.2.2.2.1.1 d.1.2.2.2.2.2.2.1.1 d.1.2.2.2.2.2.2.2.1.1 d.2.1.1 d.2.1.2.1 d.2.2.2.2.1 d.2.2.2.2.2.1 d.2.2.2.2.2.2.1 d.2.2.2.2.2.2.2.1 d.2.2.2.2.2.2.2.2.1 d.2.2.2.2.2.2.2.2.2.1 d.2.2.2.2.2.2.2.2.2.2.1 d.2.2.2.2.2.2.2.2.2.2.2.1 d.2.2.2.2.2.2.2.2.2.2.2.2.1
abbrev zq7w (β : Type) := (List Int) → Int → (List Int) → (List (List UInt8 × Int)) → (List (Int × (Int × (Int × Int)))) → (List zq0) → (List (Int × (Int × Int))) → (List (List UInt8 × Int)) → (List (Int × (Int × (Int × Int)))) → (List zq0) → (List (Int × (Int × Int))) → Option β
abbrev zq7x := {β : Type} → zq7w β → Int → (List Int) → Int → (List Int) → (List (List UInt8 × Int)) → (List (Int × (Int × (Int × Int)))) → (List zq0) → (List (Int × (Int × Int))) → (List (List UInt8 × Int)) → (List (Int × (Int × (Int × Int)))) → (List zq0) → (List (Int × (Int × Int))) → Option β
def zq7y : View := ⟨1, [0, 4, 6, 12, 16], [(false, [.ptr 0 0]), (false, [.ptr 1 0]), (false, [.ptr 2 0]), (false, [.rowh 3]), (false, [.data (.int .i64)])], [.cells 56 [.data (.slice (.int .i64)), .data (.int .i64)], .cells 32 [.rowh 4, .rowh 5, .rowh 6, .rowh 7], .cells 32 [.rowh 8, .rowh 9, .rowh 10, .rowh 11], .row 3 (.int .i64), .row 36 (.prod .str (.int .i64)), .row 54 (.prod (.int .i64) (.prod (.int .i64) (.prod (.int .i64) (.int .i64)))), .row 49 zq1, .row 60 (.prod (.int .i64) (.prod (.int .i64) (.int .i64))), .row 36 (.prod .str (.int .i64)), .row 54 (.prod (.int .i64) (.prod (.int .i64) (.prod (.int .i64) (.int .i64)))), .row 49 zq1, .row 60 (.prod (.int .i64) (.prod (.int .i64) (.int .i64)))]⟩
def zq7z : List (AExit × View) := [(.exit 6, ⟨1, [4, 6, 12], [(false, [.ptr 1 0]), (false, [.ptr 2 0]), (false, [.rowh 3])], [.cells 56 [.data (.slice (.int .i64)), .data (.int .i64)], .cells 32 [.rowh 4, .rowh 5, .rowh 6, .rowh 7], .cells 32 [.rowh 8, .rowh 9, .rowh 10, .rowh 11], .row 3 (.int .i64), .row 36 (.prod .str (.int .i64)), .row 54 (.prod (.int .i64) (.prod (.int .i64) (.prod (.int .i64) (.int .i64)))), .row 49 zq1, .row 60 (.prod (.int .i64) (.prod (.int .i64) (.int .i64))), .row 36 (.prod .str (.int .i64)), .row 54 (.prod (.int .i64) (.prod (.int .i64) (.prod (.int .i64) (.int .i64)))), .row 49 zq1, .row 60 (.prod (.int .i64) (.prod (.int .i64) (.int .i64)))]⟩)]
@[reducible] def made_Dice_Record_p5_G (p : zq7x) {β : Type} (d : zq7y.den) (ks : Outs.K β zq7z) : Option β :=
  p (fun a0 a1 a2 a3 a4 a5 a6 a7 a8 a9 a10 => ks.1 (((), (), (), ()), ((a0, a1, ()), (), (), a2, a3, a4, a5, a6, a7, a8, a9, a10, ()))) d.1.2.2.2.2.1.1 d.2.1.1 d.2.1.2.1 d.2.2.2.2.1 d.2.2.2.2.2.1 d.2.2.2.2.2.2.1 d.2.2.2.2.2.2.2.1 d.2.2.2.2.2.2.2.2.1 d.2.2.2.2.2.2.2.2.2.1 d.2.2.2.2.2.2.2.2.2.2.1 d.2.2.2.2.2.2.2.2.2.2.2.1 d.2.2.2.2.2.2.2.2.2.2.2.2.1
section
variable (c_made_Dice_Next : zqj) (c_made_Dice_One : zqq)
@[reducible] def made_Dice_Record_X : Ctx := ⟨look tab, pick1 [(11, .spec (zqk c_made_Dice_Next)), (14, .spec (zqr c_made_Dice_One))], false, false, false, false⟩
def zq80 {β : Type} (rec : Int → Int → (List Int) → Int → (List Int) → (List (List UInt8 × Int)) → (List (Int × (Int × (Int × Int)))) → (List zq0) → (List (Int × (Int × Int))) → (List (List UInt8 × Int)) → (List (Int × (Int × (Int × Int)))) → (List zq0) → (List (Int × (Int × Int))) → Option β) (k1 : zq7g β) (n : Int) (i_ : Int) (d : List Int) (d2 : Int) (ahead : List Int) (b4_ : List (List UInt8 × Int)) (b5_ : List (Int × (Int × (Int × Int)))) (b6_ : List zq0) (b7_ : List (Int × (Int × Int))) (b8_ : List (List UInt8 × Int)) (b9_ : List (Int × (Int × (Int × Int)))) (b10_ : List zq0) (b11_ : List (Int × (Int × Int))) : Option β :=
  cond (decide ((0 : Int) < i_))
  (let l : List (List UInt8) := ([([100, 98] : List UInt8), ([119, 101, 98] : List UInt8), ([108, 98] : List UInt8)] : List (List UInt8));
  cond (decide (0 ≤ (List.length b8_ : Int)) && decide ((List.length b8_ : Int) < (List.length l : Int)))
  (let l2 : List Int := ([(0 : Int), (0 : Int), (100 : Int), (50000 : Int), (500000 : Int)] : List Int);
  c_made_Dice_One l2 (d, d2) (fun (rOne : Int) (mrOne : (List Int × Int)) =>
  let l3 : List (List UInt8 × Int) := ([((List.getD l (Int.toNat (List.length b8_ : Int)) ([] : List UInt8)), rOne)] : List (List UInt8 × Int));
  cond (decide ((List.length b8_ + List.length l3) * 24 ≤ roomMax))
  (let l4 : List (List UInt8 × Int) := (b8_ ++ l3);
  let l5 : List Int := ([(0 : Int), (7 : Int), (100 : Int)] : List Int);
  c_made_Dice_One l5 mrOne (fun (rOne2 : Int) (mrOne2 : (List Int × Int)) =>
  let l6 : List Int := ([rOne2] : List Int);
  cond (decide ((List.length ahead + List.length l6) * 8 ≤ roomMax))
  (let l7 : List Int := (ahead ++ l6);
  let i_2 : Int := (IntKind.i64.wrap (i_ - (1 : Int)));
  rec n i_2 mrOne2.1 mrOne2.2 l7 b4_ b5_ b6_ b7_ l4 b9_ b10_ b11_)
  none))
  none))
  none)
  (k1 n d d2 ahead b4_ b5_ b6_ b7_ b8_ b9_ b10_ b11_)
def zq81 {β : Type} : Nat → zq7g β → Int → Int → (List Int) → Int → (List Int) → (List (List UInt8 × Int)) → (List (Int × (Int × (Int × Int)))) → (List zq0) → (List (Int × (Int × Int))) → (List (List UInt8 × Int)) → (List (Int × (Int × (Int × Int)))) → (List zq0) → (List (Int × (Int × Int))) → Option β
  | 0 => fun _ _ _ _ _ _ _ _ _ _ _ _ _ _ => none
  | i + 1 => fun k1 n i_ d d2 ahead b4_ b5_ b6_ b7_ b8_ b9_ b10_ b11_ => zq80 c_made_Dice_One (zq81 i k1) k1 n i_ d d2 ahead b4_ b5_ b6_ b7_ b8_ b9_ b10_ b11_
theorem zq82 (hΓ : ΓOk Tryd.prog (made_Dice_Record_X c_made_Dice_Next c_made_Dice_One).Γ) (i : Nat) : PieceOk Tryd.prog 177 1 made_Dice_Record_p1_code zq7i zq7j (made_Dice_Record_p1_G (zq81 c_made_Dice_One i)) := by
  rw [show made_Dice_Record_p1_code = .loop (loopBody made_Dice_Record_p1_code) by kernel_rfl]
  exact piece_loop (X := (made_Dice_Record_X c_made_Dice_Next c_made_Dice_One)) (p := 1) (Λ := pick1 []) (G := fun i => @fun β d ks => made_Dice_Record_p1_G (zq81 c_made_Dice_One i) d ks) mixed tab_ok hΓ rfl (by kernel_rfl) CutsOk_nil (fun _ _ => rfl) (fun i => @fun β d ks r h => Eq.trans (b := made_Dice_Record_p1_G (zq81 c_made_Dice_One (i + 1)) d ks) (by kernel_rfl) h) i
def zq83 {β : Type} (rec : Int → Int → (List Int) → Int → (List Int) → (List (List UInt8 × Int)) → (List (Int × (Int × (Int × Int)))) → (List zq0) → (List (Int × (Int × Int))) → (List (List UInt8 × Int)) → (List (Int × (Int × (Int × Int)))) → (List zq0) → (List (Int × (Int × Int))) → Option β) (k1 : zq7k β) (n : Int) (i_ : Int) (d : List Int) (d2 : Int) (ahead : List Int) (b4_ : List (List UInt8 × Int)) (b5_ : List (Int × (Int × (Int × Int)))) (b6_ : List zq0) (b7_ : List (Int × (Int × Int))) (b8_ : List (List UInt8 × Int)) (b9_ : List (Int × (Int × (Int × Int)))) (b10_ : List zq0) (b11_ : List (Int × (Int × Int))) : Option β :=
  cond (decide ((0 : Int) < i_))
  (c_made_Dice_Next (List.length b8_ : Int) (d, d2) (fun (rNext : Int) (mrNext : (List Int × Int)) =>
  c_made_Dice_Next (400 : Int) mrNext (fun (rNext2 : Int) (mrNext2 : (List Int × Int)) =>
  let t : Int := (IntKind.i64.wrap ((864000 : Int) + rNext2));
  cond (decide (0 ≤ rNext) && decide (rNext < (List.length ahead : Int)))
  (let l : List Int := ([(0 : Int), (3 : Int), (20 : Int)] : List Int);
  c_made_Dice_One l mrNext2 (fun (rOne : Int) (mrOne : (List Int × Int)) =>
  let l2 : List Int := ([(0 : Int), (2 : Int), (15 : Int)] : List Int);
  c_made_Dice_One l2 mrOne (fun (rOne2 : Int) (mrOne2 : (List Int × Int)) =>
  let l3 : List (Int × (Int × (Int × Int))) := ([(rNext, ((IntKind.i64.wrap (t + (List.getD ahead (Int.toNat rNext) (0 : Int)))), ((IntKind.i64.wrap (t - rOne)), (IntKind.i64.wrap (t + rOne2)))))] : List (Int × (Int × (Int × Int))));
  cond (decide ((List.length b9_ + List.length l3) * 32 ≤ roomMax))
  (let l4 : List (Int × (Int × (Int × Int))) := (b9_ ++ l3);
  let i_2 : Int := (IntKind.i64.wrap (i_ - (1 : Int)));
  rec n i_2 mrOne2.1 mrOne2.2 ahead b4_ b5_ b6_ b7_ b8_ l4 b10_ b11_)
  none)))
  none)))
  (k1 n d d2 ahead b4_ b5_ b6_ b7_ b8_ b9_ b10_ b11_)
def zq84 {β : Type} : Nat → zq7k β → Int → Int → (List Int) → Int → (List Int) → (List (List UInt8 × Int)) → (List (Int × (Int × (Int × Int)))) → (List zq0) → (List (Int × (Int × Int))) → (List (List UInt8 × Int)) → (List (Int × (Int × (Int × Int)))) → (List zq0) → (List (Int × (Int × Int))) → Option β
  | 0 => fun _ _ _ _ _ _ _ _ _ _ _ _ _ _ => none
  | i + 1 => fun k1 n i_ d d2 ahead b4_ b5_ b6_ b7_ b8_ b9_ b10_ b11_ => zq83 c_made_Dice_Next c_made_Dice_One (zq84 i k1) k1 n i_ d d2 ahead b4_ b5_ b6_ b7_ b8_ b9_ b10_ b11_
theorem zq85 (hΓ : ΓOk Tryd.prog (made_Dice_Record_X c_made_Dice_Next c_made_Dice_One).Γ) (i : Nat) : PieceOk Tryd.prog 177 1 made_Dice_Record_p2_code zq7m zq7n (made_Dice_Record_p2_G (zq84 c_made_Dice_Next c_made_Dice_One i)) := by
  rw [show made_Dice_Record_p2_code = .loop (loopBody made_Dice_Record_p2_code) by kernel_rfl]
  exact piece_loop (X := (made_Dice_Record_X c_made_Dice_Next c_made_Dice_One)) (p := 1) (Λ := pick1 []) (G := fun i => @fun β d ks => made_Dice_Record_p2_G (zq84 c_made_Dice_Next c_made_Dice_One i) d ks) mixed tab_ok hΓ rfl (by kernel_rfl) CutsOk_nil (fun _ _ => rfl) (fun i => @fun β d ks r h => Eq.trans (b := made_Dice_Record_p2_G (zq84 c_made_Dice_Next c_made_Dice_One (i + 1)) d ks) (by kernel_rfl) h) i
def zq86 {β : Type} (rec : Int → (List Int) → Int → (List Int) → (List Int) → (List (List UInt8 × Int)) → (List (Int × (Int × (Int × Int)))) → (List zq0) → (List (Int × (Int × Int))) → (List (List UInt8 × Int)) → (List (Int × (Int × (Int × Int)))) → (List zq0) → (List (Int × (Int × Int))) → Option β) (k1 : zq7o β) (i_ : Int) (d : List Int) (d2 : Int) (ahead : List Int) (times : List Int) (b5_ : List (List UInt8 × Int)) (b6_ : List (Int × (Int × (Int × Int)))) (b7_ : List zq0) (b8_ : List (Int × (Int × Int))) (b9_ : List (List UInt8 × Int)) (b10_ : List (Int × (Int × (Int × Int)))) (b11_ : List zq0) (b12_ : List (Int × (Int × Int))) : Option β :=
  cond (decide ((0 : Int) < i_))
  (c_made_Dice_Next (List.length b9_ : Int) (d, d2) (fun (rNext : Int) (mrNext : (List Int × Int)) =>
  c_made_Dice_Next (300 : Int) mrNext (fun (rNext2 : Int) (mrNext2 : (List Int × Int)) =>
  let t : Int := (IntKind.i64.wrap ((864000 : Int) + rNext2));
  cond (decide (0 ≤ rNext) && decide (rNext < (List.length ahead : Int)))
  (let l : List (List UInt8) := ([([117, 112] : List UInt8), ([100, 111, 119, 110] : List UInt8), ([115, 108, 111, 119] : List UInt8)] : List (List UInt8));
  c_made_Dice_Next (3 : Int) mrNext2 (fun (rNext3 : Int) (mrNext3 : (List Int × Int)) =>
  cond (decide (0 ≤ rNext3) && decide (rNext3 < (List.length l : Int)))
  (let l2 : List zq0 := ([(rNext, ((IntKind.i64.wrap (t + (List.getD ahead (Int.toNat rNext) (0 : Int)))), (List.getD l (Int.toNat rNext3) ([] : List UInt8))))] : List zq0);
  cond (decide ((List.length b11_ + List.length l2) * 32 ≤ roomMax))
  (let l3 : List zq0 := (b11_ ++ l2);
  let l4 : List Int := ([t] : List Int);
  cond (decide ((List.length times + List.length l4) * 8 ≤ roomMax))
  (let l5 : List Int := (times ++ l4);
  let i_2 : Int := (IntKind.i64.wrap (i_ - (1 : Int)));
  rec i_2 mrNext3.1 mrNext3.2 ahead l5 b5_ b6_ b7_ b8_ b9_ b10_ l3 b12_)
  none)
  none)
  none))
  none)))
  (k1 d d2 times b5_ b6_ b7_ b8_ b9_ b10_ b11_ b12_)
def zq87 {β : Type} : Nat → zq7o β → Int → (List Int) → Int → (List Int) → (List Int) → (List (List UInt8 × Int)) → (List (Int × (Int × (Int × Int)))) → (List zq0) → (List (Int × (Int × Int))) → (List (List UInt8 × Int)) → (List (Int × (Int × (Int × Int)))) → (List zq0) → (List (Int × (Int × Int))) → Option β
  | 0 => fun _ _ _ _ _ _ _ _ _ _ _ _ _ _ => none
  | i + 1 => fun k1 i_ d d2 ahead times b5_ b6_ b7_ b8_ b9_ b10_ b11_ b12_ => zq86 c_made_Dice_Next (zq87 i k1) k1 i_ d d2 ahead times b5_ b6_ b7_ b8_ b9_ b10_ b11_ b12_
theorem zq88 (hΓ : ΓOk Tryd.prog (made_Dice_Record_X c_made_Dice_Next c_made_Dice_One).Γ) (i : Nat) : PieceOk Tryd.prog 177 1 made_Dice_Record_p3_code zq7q zq7r (made_Dice_Record_p3_G (zq87 c_made_Dice_Next i)) := by
  rw [show made_Dice_Record_p3_code = .loop (loopBody made_Dice_Record_p3_code) by kernel_rfl]
  exact piece_loop (X := (made_Dice_Record_X c_made_Dice_Next c_made_Dice_One)) (p := 1) (Λ := pick1 []) (G := fun i => @fun β d ks => made_Dice_Record_p3_G (zq87 c_made_Dice_Next i) d ks) mixed tab_ok hΓ rfl (by kernel_rfl) CutsOk_nil (fun _ _ => rfl) (fun i => @fun β d ks r h => Eq.trans (b := made_Dice_Record_p3_G (zq87 c_made_Dice_Next (i + 1)) d ks) (by kernel_rfl) h) i
def zq89 {β : Type} (k1 : zq7s β) (i_ : Int) (a : Int) (b : Int) (t154 : Bool) (d : List Int) (d2 : Int) (times : List Int) (b4_ : List (List UInt8 × Int)) (b5_ : List (Int × (Int × (Int × Int)))) (b6_ : List zq0) (b7_ : List (Int × (Int × Int))) (b8_ : List (List UInt8 × Int)) (b9_ : List (Int × (Int × (Int × Int)))) (b10_ : List zq0) (b11_ : List (Int × (Int × Int))) : Option β :=
  cond t154
  (cond (decide (0 ≤ b) && decide (b < (List.length times : Int)))
  (cond (decide (0 ≤ a) && decide (a < (List.length times : Int)))
  (c_made_Dice_Next (IntKind.i64.wrap ((IntKind.i64.wrap ((List.getD times (Int.toNat b) (0 : Int)) - (List.getD times (Int.toNat a) (0 : Int)))) + (1 : Int))) (d, d2) (fun (rNext : Int) (mrNext : (List Int × Int)) =>
  let l : List (Int × (Int × Int)) := ([(a, (b, rNext))] : List (Int × (Int × Int)));
  cond (decide ((List.length b11_ + List.length l) * 24 ≤ roomMax))
  (let l2 : List (Int × (Int × Int)) := (b11_ ++ l);
  k1 i_ mrNext.1 mrNext.2 times b4_ b5_ b6_ b7_ b8_ b9_ b10_ l2)
  none))
  none)
  none)
  (k1 i_ d d2 times b4_ b5_ b6_ b7_ b8_ b9_ b10_ b11_)
def zq8a {β : Type} (k1 : zq7s β) (i_ : Int) (a : Int) (b : Int) (t154 : Bool) (d : List Int) (d2 : Int) (times : List Int) (b4_ : List (List UInt8 × Int)) (b5_ : List (Int × (Int × (Int × Int)))) (b6_ : List zq0) (b7_ : List (Int × (Int × Int))) (b8_ : List (List UInt8 × Int)) (b9_ : List (Int × (Int × (Int × Int)))) (b10_ : List zq0) (b11_ : List (Int × (Int × Int))) : Option β := zq89 c_made_Dice_Next k1 i_ a b t154 d d2 times b4_ b5_ b6_ b7_ b8_ b9_ b10_ b11_
theorem zq8b (hΓ : ΓOk Tryd.prog (made_Dice_Record_X c_made_Dice_Next c_made_Dice_One).Γ) : PieceOk Tryd.prog 177 1 made_Dice_Record_p4_code zq7u zq7v (made_Dice_Record_p4_G (zq8a c_made_Dice_Next)) :=
  piece_exec (X := (made_Dice_Record_X c_made_Dice_Next c_made_Dice_One)) (p := 51) (Λ := pick1 []) mixed tab_ok hΓ (by kernel_rfl) CutsOk_nil (fun d ks r h => Eq.trans (b := made_Dice_Record_p4_G (zq8a c_made_Dice_Next) d ks) (by kernel_rfl) h)
def zq8c (p4 : zq7t) {β : Type} (rec : Int → (List Int) → Int → (List Int) → (List (List UInt8 × Int)) → (List (Int × (Int × (Int × Int)))) → (List zq0) → (List (Int × (Int × Int))) → (List (List UInt8 × Int)) → (List (Int × (Int × (Int × Int)))) → (List zq0) → (List (Int × (Int × Int))) → Option β) (k1 : zq7w β) (i_ : Int) (d : List Int) (d2 : Int) (times : List Int) (b4_ : List (List UInt8 × Int)) (b5_ : List (Int × (Int × (Int × Int)))) (b6_ : List zq0) (b7_ : List (Int × (Int × Int))) (b8_ : List (List UInt8 × Int)) (b9_ : List (Int × (Int × (Int × Int)))) (b10_ : List zq0) (b11_ : List (Int × (Int × Int))) : Option β :=
  cond (decide ((0 : Int) < i_))
  (cond (decide ((1 : Int) < (List.length times : Int)))
  (c_made_Dice_Next (List.length times : Int) (d, d2) (fun (rNext : Int) (mrNext : (List Int × Int)) =>
  c_made_Dice_Next (List.length times : Int) mrNext (fun (rNext2 : Int) (mrNext2 : (List Int × Int)) =>
  cond (!decide (rNext = rNext2))
  (cond (decide (0 ≤ rNext) && decide (rNext < (List.length times : Int)))
  (cond (decide (0 ≤ rNext2) && decide (rNext2 < (List.length times : Int)))
  (p4 (fun (i_2 : Int) (d3 : List Int) (d4 : Int) (times2 : List Int) (b4_2 : List (List UInt8 × Int)) (b5_2 : List (Int × (Int × (Int × Int)))) (b6_2 : List zq0) (b7_2 : List (Int × (Int × Int))) (b8_2 : List (List UInt8 × Int)) (b9_2 : List (Int × (Int × (Int × Int)))) (b10_2 : List zq0) (b11_2 : List (Int × (Int × Int))) =>
  let i_3 : Int := (IntKind.i64.wrap (i_2 - (1 : Int)));
  rec i_3 d3 d4 times2 b4_2 b5_2 b6_2 b7_2 b8_2 b9_2 b10_2 b11_2) i_ rNext rNext2 (decide ((List.getD times (Int.toNat rNext) (0 : Int)) ≤ (List.getD times (Int.toNat rNext2) (0 : Int)))) mrNext2.1 mrNext2.2 times b4_ b5_ b6_ b7_ b8_ b9_ b10_ b11_)
  none)
  none)
  (p4 (fun (i_2 : Int) (d3 : List Int) (d4 : Int) (times2 : List Int) (b4_2 : List (List UInt8 × Int)) (b5_2 : List (Int × (Int × (Int × Int)))) (b6_2 : List zq0) (b7_2 : List (Int × (Int × Int))) (b8_2 : List (List UInt8 × Int)) (b9_2 : List (Int × (Int × (Int × Int)))) (b10_2 : List zq0) (b11_2 : List (Int × (Int × Int))) =>
  let i_3 : Int := (IntKind.i64.wrap (i_2 - (1 : Int)));
  rec i_3 d3 d4 times2 b4_2 b5_2 b6_2 b7_2 b8_2 b9_2 b10_2 b11_2) i_ rNext rNext2 false mrNext2.1 mrNext2.2 times b4_ b5_ b6_ b7_ b8_ b9_ b10_ b11_))))
  (k1 d d2 times b4_ b5_ b6_ b7_ b8_ b9_ b10_ b11_))
  (k1 d d2 times b4_ b5_ b6_ b7_ b8_ b9_ b10_ b11_)
def zq8d (p4 : zq7t) {β : Type} : Nat → zq7w β → Int → (List Int) → Int → (List Int) → (List (List UInt8 × Int)) → (List (Int × (Int × (Int × Int)))) → (List zq0) → (List (Int × (Int × Int))) → (List (List UInt8 × Int)) → (List (Int × (Int × (Int × Int)))) → (List zq0) → (List (Int × (Int × Int))) → Option β
  | 0 => fun _ _ _ _ _ _ _ _ _ _ _ _ _ => none
  | i + 1 => fun k1 i_ d d2 times b4_ b5_ b6_ b7_ b8_ b9_ b10_ b11_ => zq8c c_made_Dice_Next p4 (zq8d p4 i k1) k1 i_ d d2 times b4_ b5_ b6_ b7_ b8_ b9_ b10_ b11_
theorem zq8e (hΓ : ΓOk Tryd.prog (made_Dice_Record_X c_made_Dice_Next c_made_Dice_One).Γ) (p4 : zq7t) (hp4 : PieceOk Tryd.prog 177 1 made_Dice_Record_p4_code zq7u zq7v (made_Dice_Record_p4_G p4)) (i : Nat) : PieceOk Tryd.prog 177 1 made_Dice_Record_p5_code zq7y zq7z (made_Dice_Record_p5_G (zq8d c_made_Dice_Next p4 i)) := by
  rw [show made_Dice_Record_p5_code = .loop (loopBody made_Dice_Record_p5_code) by kernel_rfl]
  exact piece_loop (X := (made_Dice_Record_X c_made_Dice_Next c_made_Dice_One)) (p := 1) (Λ := pick1 [(51, pieceCut zq7u zq7v (made_Dice_Record_p4_G p4))]) (G := fun i => @fun β d ks => made_Dice_Record_p5_G (zq8d c_made_Dice_Next p4 i) d ks) mixed tab_ok hΓ rfl (by kernel_rfl) (CutsOk_cons (q := 51) (c' := made_Dice_Record_p4_code) (by kernel_rfl) rfl hp4 CutsOk_nil) (fun _ _ => rfl) (fun i => @fun β d ks r h => Eq.trans (b := made_Dice_Record_p5_G (zq8d c_made_Dice_Next p4 (i + 1)) d ks) (by kernel_rfl) h) i
def zq8f (p1 : zq7h) (p2 : zq7l) (p3 : zq7p) (p5 : zq7x) {β : Type} (n : Int) (d : (List Int × Int)) (k : (zq2 → (List Int × Int) → (List Int) → Option β)) : Option β :=
  c_made_Dice_Next (3 : Int) d (fun (rNext : Int) (mrNext : (List Int × Int)) =>
  let i_ : Int := (IntKind.i64.wrap ((1 : Int) + rNext));
  p1 (fun (n2 : Int) (d2 : List Int) (d3 : Int) (ahead : List Int) (b4_ : List (List UInt8 × Int)) (b5_ : List (Int × (Int × (Int × Int)))) (b6_ : List zq0) (b7_ : List (Int × (Int × Int))) (b8_ : List (List UInt8 × Int)) (b9_ : List (Int × (Int × (Int × Int)))) (b10_ : List zq0) (b11_ : List (Int × (Int × Int))) =>
  c_made_Dice_Next (5 : Int) (d2, d3) (fun (rNext2 : Int) (mrNext2 : (List Int × Int)) =>
  p2 (fun (n3 : Int) (d4 : List Int) (d5 : Int) (ahead2 : List Int) (b4_2 : List (List UInt8 × Int)) (b5_2 : List (Int × (Int × (Int × Int)))) (b6_2 : List zq0) (b7_2 : List (Int × (Int × Int))) (b8_2 : List (List UInt8 × Int)) (b9_2 : List (Int × (Int × (Int × Int)))) (b10_2 : List zq0) (b11_2 : List (Int × (Int × Int))) =>
  c_made_Dice_Next (IntKind.i64.wrap (n3 + (1 : Int))) (d4, d5) (fun (rNext3 : Int) (mrNext3 : (List Int × Int)) =>
  p3 (fun (d6 : List Int) (d7 : Int) (times : List Int) (b4_3 : List (List UInt8 × Int)) (b5_3 : List (Int × (Int × (Int × Int)))) (b6_3 : List zq0) (b7_3 : List (Int × (Int × Int))) (b8_3 : List (List UInt8 × Int)) (b9_3 : List (Int × (Int × (Int × Int)))) (b10_3 : List zq0) (b11_3 : List (Int × (Int × Int))) =>
  c_made_Dice_Next (4 : Int) (d6, d7) (fun (rNext4 : Int) (mrNext4 : (List Int × Int)) =>
  p5 (fun (b0_ : List Int) (b0_2 : Int) (times2 : List Int) (b4_4 : List (List UInt8 × Int)) (b5_4 : List (Int × (Int × (Int × Int)))) (b6_4 : List zq0) (b7_4 : List (Int × (Int × Int))) (b8_4 : List (List UInt8 × Int)) (b9_4 : List (Int × (Int × (Int × Int)))) (b10_4 : List zq0) (b11_4 : List (Int × (Int × Int))) =>
  k (b8_4, (b9_4, (b10_4, b11_4))) (b0_, b0_2) times2) rNext4 mrNext4.1 mrNext4.2 times b4_3 b5_3 b6_3 b7_3 b8_3 b9_3 b10_3 b11_3)) rNext3 mrNext3.1 mrNext3.2 ahead2 ([] : List Int) b4_2 b5_2 b6_2 b7_2 b8_2 b9_2 b10_2 b11_2)) n2 rNext2 mrNext2.1 mrNext2.2 ahead b4_ b5_ b6_ b7_ b8_ b9_ b10_ b11_)) n i_ mrNext.1 mrNext.2 ([] : List Int) ([] : List (List UInt8 × Int)) ([] : List (Int × (Int × (Int × Int)))) ([] : List zq0) ([] : List (Int × (Int × Int))) ([] : List (List UInt8 × Int)) ([] : List (Int × (Int × (Int × Int)))) ([] : List zq0) ([] : List (Int × (Int × Int))))
theorem zq8g (hΓ : ΓOk Tryd.prog (made_Dice_Record_X c_made_Dice_Next c_made_Dice_One).Γ) (p1 : zq7h) (p2 : zq7l) (p3 : zq7p) (p5 : zq7x) (hp1 : PieceOk Tryd.prog 177 1 made_Dice_Record_p1_code zq7i zq7j (made_Dice_Record_p1_G p1)) (hp2 : PieceOk Tryd.prog 177 1 made_Dice_Record_p2_code zq7m zq7n (made_Dice_Record_p2_G p2)) (hp3 : PieceOk Tryd.prog 177 1 made_Dice_Record_p3_code zq7q zq7r (made_Dice_Record_p3_G p3)) (hp5 : PieceOk Tryd.prog 177 1 made_Dice_Record_p5_code zq7y zq7z (made_Dice_Record_p5_G p5)) : SpecOk Tryd.prog 8 (zq7f (zq8f c_made_Dice_Next p1 p2 p3 p5)) :=
  spec_exec (X := (made_Dice_Record_X c_made_Dice_Next c_made_Dice_One)) (Λ := pick1 [(122, pieceCut zq7i zq7j (made_Dice_Record_p1_G p1)), (250, pieceCut zq7m zq7n (made_Dice_Record_p2_G p2)), (1018, pieceCut zq7q zq7r (made_Dice_Record_p3_G p3)), (2042, pieceCut zq7y zq7z (made_Dice_Record_p5_G p5))]) (rs := [.cell 4 32, .tmp 5]) (c := bodyOf Tryd.f8) mixed tab_ok hΓ Tryd.func8 (by kernel_rfl) (by kernel_rfl) (by kernel_rfl) (by kernel_rfl) (CutsOk_cons (q := 122) (c' := made_Dice_Record_p1_code) (by kernel_rfl) rfl hp1 (CutsOk_cons (q := 250) (c' := made_Dice_Record_p2_code) (by kernel_rfl) rfl hp2 (CutsOk_cons (q := 1018) (c' := made_Dice_Record_p3_code) (by kernel_rfl) rfl hp3 (CutsOk_cons (q := 2042) (c' := made_Dice_Record_p5_code) (by kernel_rfl) rfl hp5 CutsOk_nil)))) (fun x k r h => Eq.trans (b := (zq7f (zq8f c_made_Dice_Next p1 p2 p3 p5)).run x k) (by kernel_rfl) h)
end
theorem zq8hΓ : ΓOk Tryd.prog (pick1 [(11, .spec (zqk zqo)), (14, .spec (zqr zqv))]) := (ΓOk_cons zqp (ΓOk_cons zqw ΓOk_nil))
def zq8i (m : Nat) : zq7h := zq81 zqv m
theorem zq8j {β : Type} (i : Nat) (k1 n i_ d d2 ahead b4_ b5_ b6_ b7_ b8_ b9_ b10_ b11_) : (zq8i (i + 1) k1 n i_ d d2 ahead b4_ b5_ b6_ b7_ b8_ b9_ b10_ b11_ : Option β) = zq80 zqv (zq8i i k1) k1 n i_ d d2 ahead b4_ b5_ b6_ b7_ b8_ b9_ b10_ b11_ := rfl
def zq8k : zq7h := zq8i fuel
theorem zq8l : PieceOk Tryd.prog 177 1 made_Dice_Record_p1_code zq7i zq7j (made_Dice_Record_p1_G zq8k) := zq82 zqo zqv zq8hΓ fuel
def zq8m (m : Nat) : zq7l := zq84 zqo zqv m
theorem zq8n {β : Type} (i : Nat) (k1 n i_ d d2 ahead b4_ b5_ b6_ b7_ b8_ b9_ b10_ b11_) : (zq8m (i + 1) k1 n i_ d d2 ahead b4_ b5_ b6_ b7_ b8_ b9_ b10_ b11_ : Option β) = zq83 zqo zqv (zq8m i k1) k1 n i_ d d2 ahead b4_ b5_ b6_ b7_ b8_ b9_ b10_ b11_ := rfl
def zq8o : zq7l := zq8m fuel
theorem zq8p : PieceOk Tryd.prog 177 1 made_Dice_Record_p2_code zq7m zq7n (made_Dice_Record_p2_G zq8o) := zq85 zqo zqv zq8hΓ fuel
def zq8q (m : Nat) : zq7p := zq87 zqo m
theorem zq8r {β : Type} (i : Nat) (k1 i_ d d2 ahead times b5_ b6_ b7_ b8_ b9_ b10_ b11_ b12_) : (zq8q (i + 1) k1 i_ d d2 ahead times b5_ b6_ b7_ b8_ b9_ b10_ b11_ b12_ : Option β) = zq86 zqo (zq8q i k1) k1 i_ d d2 ahead times b5_ b6_ b7_ b8_ b9_ b10_ b11_ b12_ := rfl
def zq8s : zq7p := zq8q fuel
theorem zq8t : PieceOk Tryd.prog 177 1 made_Dice_Record_p3_code zq7q zq7r (made_Dice_Record_p3_G zq8s) := zq88 zqo zqv zq8hΓ fuel
def zq8u : zq7t := zq8a zqo
theorem zq8v : PieceOk Tryd.prog 177 1 made_Dice_Record_p4_code zq7u zq7v (made_Dice_Record_p4_G zq8u) := zq8b zqo zqv zq8hΓ
def zq8w (m : Nat) : zq7x := zq8d zqo zq8u m
theorem zq8x {β : Type} (i : Nat) (k1 i_ d d2 times b4_ b5_ b6_ b7_ b8_ b9_ b10_ b11_) : (zq8w (i + 1) k1 i_ d d2 times b4_ b5_ b6_ b7_ b8_ b9_ b10_ b11_ : Option β) = zq8c zqo zq8u (zq8w i k1) k1 i_ d d2 times b4_ b5_ b6_ b7_ b8_ b9_ b10_ b11_ := rfl
def zq8y : zq7x := zq8w fuel
theorem zq8z : PieceOk Tryd.prog 177 1 made_Dice_Record_p5_code zq7y zq7z (made_Dice_Record_p5_G zq8y) := zq8e zqo zqv zq8hΓ zq8u zq8v fuel
def zq90 : zq7e := zq8f zqo zq8k zq8o zq8s zq8y
theorem zq91 : SpecOk Tryd.prog 8 (zq7f zq90) := zq8g zqo zqv zq8hΓ zq8k zq8o zq8s zq8y zq8l zq8p zq8t zq8z

/-- pagewatch/timeline.copied -/
abbrev zq92 := {β : Type} → zq2 → ((List (List UInt8 × Int)) → (List (Int × (Int × (Int × Int)))) → (List zq0) → (List (Int × (Int × Int))) → Option β) → Option β
def zq93 (c : zq92) : Spec :=
  ⟨[(true, [.data zq3])], [], [(true, [.rowh 0, .rowh 1, .rowh 2, .rowh 3])], [.row 36 (.prod .str (.int .i64)), .row 54 (.prod (.int .i64) (.prod (.int .i64) (.prod (.int .i64) (.int .i64)))), .row 49 zq1, .row 60 (.prod (.int .i64) (.prod (.int .i64) (.int .i64)))], fun x k => c x.1.1.1 (fun r0 r1 r2 r3 => k (((), ()), (r0, r1, r2, r3, ())))⟩
section
variable (c_slices_Clone_api_Event_api_Event : zq3s) (c_slices_Clone_api_Host_api_Host : zq3k) (c_slices_Clone_api_Link_api_Link : zq3w) (c_slices_Clone_api_Sync_api_Sync : zq3o)
@[reducible] def timeline_copied_X : Ctx := ⟨look tab, pick1 [(44, .spec (zq3t c_slices_Clone_api_Event_api_Event)), (42, .spec (zq3l c_slices_Clone_api_Host_api_Host)), (45, .spec (zq3x c_slices_Clone_api_Link_api_Link)), (43, .spec (zq3p c_slices_Clone_api_Sync_api_Sync))], false, false, false, false⟩
def zq94 {β : Type} (r_ : zq2) (k : ((List (List UInt8 × Int)) → (List (Int × (Int × (Int × Int)))) → (List zq0) → (List (Int × (Int × Int))) → Option β)) : Option β :=
  c_slices_Clone_api_Host_api_Host r_.1 (fun (lrHost : List (List UInt8 × Int)) =>
  c_slices_Clone_api_Sync_api_Sync r_.2.1 (fun (lrSync : List (Int × (Int × (Int × Int)))) =>
  c_slices_Clone_api_Event_api_Event r_.2.2.1 (fun (lrEvent : List zq0) =>
  c_slices_Clone_api_Link_api_Link r_.2.2.2 (fun (lrLink : List (Int × (Int × Int))) =>
  k lrHost lrSync lrEvent lrLink))))
theorem zq95 (hΓ : ΓOk Tryd.prog (timeline_copied_X c_slices_Clone_api_Event_api_Event c_slices_Clone_api_Host_api_Host c_slices_Clone_api_Link_api_Link c_slices_Clone_api_Sync_api_Sync).Γ) : SpecOk Tryd.prog 25 (zq93 (zq94 c_slices_Clone_api_Event_api_Event c_slices_Clone_api_Host_api_Host c_slices_Clone_api_Link_api_Link c_slices_Clone_api_Sync_api_Sync)) :=
  spec_exec (X := (timeline_copied_X c_slices_Clone_api_Event_api_Event c_slices_Clone_api_Host_api_Host c_slices_Clone_api_Link_api_Link c_slices_Clone_api_Sync_api_Sync)) (Λ := pick1 []) (rs := [.cell 2 32]) (c := bodyOf Tryd.f25) mixed tab_ok hΓ Tryd.func25 (by kernel_rfl) (by kernel_rfl) (by kernel_rfl) (by kernel_rfl) CutsOk_nil (fun x k r h => Eq.trans (b := (zq93 (zq94 c_slices_Clone_api_Event_api_Event c_slices_Clone_api_Host_api_Host c_slices_Clone_api_Link_api_Link c_slices_Clone_api_Sync_api_Sync)).run x k) (by kernel_rfl) h)
end
theorem zq96Γ : ΓOk Tryd.prog (pick1 [(44, .spec (zq3t zq3u)), (42, .spec (zq3l zq3m)), (45, .spec (zq3x zq3y)), (43, .spec (zq3p zq3q))]) := (ΓOk_cons zq3v (ΓOk_cons zq3n (ΓOk_cons zq3z (ΓOk_cons zq3r ΓOk_nil))))
def zq97 : zq92 := zq94 zq3u zq3m zq3y zq3q
theorem zq98 : SpecOk Tryd.prog 25 (zq93 zq97) := zq95 zq3u zq3m zq3y zq3q zq96Γ

/-- (pagewatch/order.matrix).earlier -/
abbrev zq99 := {β : Type} → (List (List Int)) → Int → Int → (Bool → Option β) → Option β
def zq9a (c : zq99) : Spec :=
  ⟨[(false, [.data (.slice (.slice (.int .i64)))]), (false, [.data (.int .i64)]), (false, [.data (.int .i64)])], [], [(false, [.data .bool])], [], fun x k => c x.1.1.1 x.1.2.1.1 x.1.2.2.1.1 (fun r0 => k (((r0, ()), ()), ()))⟩
section
variable (c_order_matrix_when : zq40)
@[reducible] def order_matrix_earlier_X : Ctx := ⟨look tab, pick1 [(48, .spec (zq41 c_order_matrix_when))], false, false, false, false⟩
def zq9b {β : Type} (m : List (List Int)) (a : Int) (b : Int) (k : (Bool → Option β)) : Option β :=
  c_order_matrix_when m a (fun (rwhen : (Int × Int)) =>
  c_order_matrix_when m b (fun (rwhen2 : (Int × Int)) =>
  cond (decide (rwhen.1 < rwhen2.1))
  (k true)
  (cond (decide (rwhen.1 = rwhen2.1))
  (let t : Bool := (decide (rwhen.2 < rwhen2.2));
  k t)
  (k false))))
theorem zq9c (hΓ : ΓOk Tryd.prog (order_matrix_earlier_X c_order_matrix_when).Γ) : SpecOk Tryd.prog 29 (zq9a (zq9b c_order_matrix_when)) :=
  spec_exec (X := (order_matrix_earlier_X c_order_matrix_when)) (Λ := pick1 []) (rs := [.tmp 6]) (c := bodyOf Tryd.f29) mixed tab_ok hΓ Tryd.func29 (by kernel_rfl) (by kernel_rfl) (by kernel_rfl) (by kernel_rfl) CutsOk_nil (fun x k r h => Eq.trans (b := (zq9a (zq9b c_order_matrix_when)).run x k) (by kernel_rfl) h)
end
theorem zq9dΓ : ΓOk Tryd.prog (pick1 [(48, .spec (zq41 zq45))]) := (ΓOk_cons zq46 ΓOk_nil)
def zq9e : zq99 := zq9b zq45
theorem zq9f : SpecOk Tryd.prog 29 (zq9a zq9e) := zq9c zq45 zq9dΓ

/-- pagewatch/timeline.Check$1 -/
abbrev zq9g := {β : Type} → api_Row → api_Row → (Bool → Option β) → Option β
def zq9h (c : zq9g) : Spec :=
  ⟨[(true, [.data zq4]), (true, [.data zq4])], [], [(false, [.data .bool])], [], fun x k => c x.1.1.1 x.1.2.1.1 (fun r0 => k (((r0, ()), ()), ()))⟩
section
variable (c_slices_Equal_int_int : zq2n)
@[reducible] def timeline_Check_f1_X : Ctx := ⟨look tab, pick1 [(36, .spec (zq2o c_slices_Equal_int_int))], false, false, false, false⟩
def zq9i {β : Type} (a : api_Row) (b : api_Row) (k : (Bool → Option β)) : Option β :=
  cond (decide (a.1 = b.1))
  (cond (decide (a.2.1.1 = b.2.1.1) && (decide (a.2.1.2 = b.2.1.2) && true))
  (c_slices_Equal_int_int a.2.2 b.2.2 (fun (rEqualintint : Bool) =>
  k rEqualintint))
  (k false))
  (k false)
theorem zq9j (hΓ : ΓOk Tryd.prog (timeline_Check_f1_X c_slices_Equal_int_int).Γ) : SpecOk Tryd.prog 35 (zq9h (zq9i c_slices_Equal_int_int)) :=
  spec_exec (X := (timeline_Check_f1_X c_slices_Equal_int_int)) (Λ := pick1 []) (rs := [.tmp 4]) (c := bodyOf Tryd.f35) mixed tab_ok hΓ Tryd.func35 (by kernel_rfl) (by kernel_rfl) (by kernel_rfl) (by kernel_rfl) CutsOk_nil (fun x k r h => Eq.trans (b := (zq9h (zq9i c_slices_Equal_int_int)).run x k) (by kernel_rfl) h)
end
theorem zq9kΓ : ΓOk Tryd.prog (pick1 [(36, .spec (zq2o zq34))]) := (ΓOk_cons zq35 ΓOk_nil)
def zq9l : zq9g := zq9i zq34
theorem zq9m : SpecOk Tryd.prog 35 (zq9h zq9l) := zq9j zq34 zq9kΓ

/-- pagewatch/clock.compared -/
abbrev zq9n := {β : Type} → (Int × (Int × (Int × Int))) → (Bool → Option β) → Option β
def zq9o (c : zq9n) : Spec :=
  ⟨[(true, [.data (.prod (.int .i64) (.prod (.int .i64) (.prod (.int .i64) (.int .i64))))])], [], [(false, [.data .bool])], [], fun x k => c x.1.1.1 (fun r0 => k (((r0, ()), ()), ()))⟩
section
variable (c_clock_instant : zq3d)
@[reducible] def clock_compared_X : Ctx := ⟨look tab, pick1 [(41, .spec (zq3e c_clock_instant))], false, false, false, false⟩
def zq9p {β : Type} (s : (Int × (Int × (Int × Int)))) (k : (Bool → Option β)) : Option β :=
  c_clock_instant s.2.1 (fun (rinstant : Bool) =>
  cond rinstant
  (c_clock_instant s.2.2.1 (fun (rinstant2 : Bool) =>
  cond rinstant2
  (c_clock_instant s.2.2.2 (fun (rinstant3 : Bool) =>
  cond rinstant3
  (let t : Bool := (decide (s.2.2.1 ≤ s.2.2.2));
  k t)
  (k false)))
  (k false)))
  (k false))
theorem zq9q (hΓ : ΓOk Tryd.prog (clock_compared_X c_clock_instant).Γ) : SpecOk Tryd.prog 40 (zq9o (zq9p c_clock_instant)) :=
  spec_exec (X := (clock_compared_X c_clock_instant)) (Λ := pick1 []) (rs := [.tmp 2]) (c := bodyOf Tryd.f40) mixed tab_ok hΓ Tryd.func40 (by kernel_rfl) (by kernel_rfl) (by kernel_rfl) (by kernel_rfl) CutsOk_nil (fun x k r h => Eq.trans (b := (zq9o (zq9p c_clock_instant)).run x k) (by kernel_rfl) h)
end
theorem zq9rΓ : ΓOk Tryd.prog (pick1 [(41, .spec (zq3e zq3i))]) := (ΓOk_cons zq3j ΓOk_nil)
def zq9s : zq9n := zq9p zq3i
theorem zq9t : SpecOk Tryd.prog 40 (zq9o zq9s) := zq9q zq3i zq9rΓ

/-- slices.Contains[[]int,int] -/
abbrev zq9u := {β : Type} → (List Int) → Int → (Bool → Option β) → Option β
def zq9v (c : zq9u) : Spec :=
  ⟨[(false, [.data (.slice (.int .i64))]), (false, [.data (.int .i64)])], [], [(false, [.data .bool])], [], fun x k => c x.1.1.1 x.1.2.1.1 (fun r0 => k (((r0, ()), ()), ()))⟩
section
variable (c_slices_Index_int_int : zq5w)
@[reducible] def slices_Contains_int_int_X : Ctx := ⟨look tab, pick1 [(73, .spec (zq5x c_slices_Index_int_int))], false, false, false, false⟩
def zq9w {β : Type} (s : List Int) (v : Int) (k : (Bool → Option β)) : Option β :=
  c_slices_Index_int_int s v (fun (rIndexintint : Int) =>
  let t : Bool := (decide ((0 : Int) ≤ rIndexintint));
  k t)
theorem zq9x (hΓ : ΓOk Tryd.prog (slices_Contains_int_int_X c_slices_Index_int_int).Γ) : SpecOk Tryd.prog 53 (zq9v (zq9w c_slices_Index_int_int)) :=
  spec_exec (X := (slices_Contains_int_int_X c_slices_Index_int_int)) (Λ := pick1 []) (rs := [.tmp 4]) (c := bodyOf Tryd.f53) mixed tab_ok hΓ Tryd.func53 (by kernel_rfl) (by kernel_rfl) (by kernel_rfl) (by kernel_rfl) CutsOk_nil (fun x k r h => Eq.trans (b := (zq9v (zq9w c_slices_Index_int_int)).run x k) (by kernel_rfl) h)
end
theorem zq9yΓ : ΓOk Tryd.prog (pick1 [(73, .spec (zq5x zq6d))]) := (ΓOk_cons zq6e ΓOk_nil)
def zq9z : zq9u := zq9w zq6d
theorem zqa0 : SpecOk Tryd.prog 53 (zq9v zq9z) := zq9x zq6d zq9yΓ

/-- pagewatch/clock.Elapsed -/
abbrev zqa1 := {β : Type} → Int → Int → (Int → Int → Option β) → Option β
def zqa2 (c : zqa1) : Spec :=
  ⟨[(false, [.data (.int .i64)]), (false, [.data (.int .i64)])], [], [(false, [.data (.int .i64)]), (false, [.data (.int .i64)])], [], fun x k => c x.1.1.1 x.1.2.1.1 (fun r0 r1 => k (((r0, ()), (r1, ()), ()), ()))⟩
section
variable (c_clock_Elapsed_f1 : zq77) (c_clock_in : zq36) (c_clock_instant : zq3d)
@[reducible] def clock_Elapsed_X : Ctx := ⟨look tab, pick1 [(96, .spec (zq78 c_clock_Elapsed_f1)), (39, .spec (zq37 c_clock_in)), (41, .spec (zq3e c_clock_instant))], false, false, false, false⟩
def zqa3 {β : Type} (drift : Int) (d : Int) (k : (Int → Int → Option β)) : Option β :=
  c_clock_in drift (0 : Int) (500000 : Int) (fun (rin : Bool) =>
  cond (!rin)
  (k (0 : Int) (0 : Int))
  (c_clock_instant d (fun (rinstant : Bool) =>
  cond (!rinstant)
  (k (0 : Int) (0 : Int))
  (cond (!decide ((IntKind.i64.wrap ((1000000 : Int) + drift)) = 0))
  (c_clock_Elapsed_f1 (IntKind.i64.wrap (d * (1000000 : Int))) (IntKind.i64.wrap ((1000000 : Int) - drift)) (fun (rElapsed1 : Int) =>
  let low : Int := (IntKind.i64.wrap (Int.tdiv (IntKind.i64.wrap (d * (1000000 : Int))) (IntKind.i64.wrap ((1000000 : Int) + drift))));
  k low rElapsed1))
  none))))
theorem zqa4 (hΓ : ΓOk Tryd.prog (clock_Elapsed_X c_clock_Elapsed_f1 c_clock_in c_clock_instant).Γ) : SpecOk Tryd.prog 82 (zqa2 (zqa3 c_clock_Elapsed_f1 c_clock_in c_clock_instant)) :=
  spec_exec (X := (clock_Elapsed_X c_clock_Elapsed_f1 c_clock_in c_clock_instant)) (Λ := pick1 []) (rs := [.tmp 4, .tmp 5]) (c := bodyOf Tryd.f82) mixed tab_ok hΓ Tryd.func82 (by kernel_rfl) (by kernel_rfl) (by kernel_rfl) (by kernel_rfl) CutsOk_nil (fun x k r h => Eq.trans (b := (zqa2 (zqa3 c_clock_Elapsed_f1 c_clock_in c_clock_instant)).run x k) (by kernel_rfl) h)
end
theorem zqa5Γ : ΓOk Tryd.prog (pick1 [(96, .spec (zq78 zq7c)), (39, .spec (zq37 zq3b)), (41, .spec (zq3e zq3i))]) := (ΓOk_cons zq7d (ΓOk_cons zq3c (ΓOk_cons zq3j ΓOk_nil)))
def zqa6 : zqa1 := zqa3 zq7c zq3b zq3i
theorem zqa7 : SpecOk Tryd.prog 82 (zqa2 zqa6) := zqa4 zq7c zq3b zq3i zqa5Γ

/-- pagewatch/clock.Valid -/
abbrev zqa8 := {β : Type} → zq2 → (Bool → Option β) → Option β
def zqa9 (c : zqa8) : Spec :=
  ⟨[(true, [.data zq3])], [], [(false, [.data .bool])], [], fun x k => c x.1.1.1 (fun r0 => k (((r0, ()), ()), ()))⟩
noncomputable def clock_Valid_p1_code : Code := codeAt 58 (bodyOf Tryd.f23)
noncomputable def clock_Valid_p2_code : Code := codeAt 122 (bodyOf Tryd.f23)
noncomputable def clock_Valid_p3_code : Code := codeAt 250 (bodyOf Tryd.f23)
noncomputable def clock_Valid_p4_code : Code := codeAt 506 (bodyOf Tryd.f23)
abbrev zqaa (β : Type) := Bool → Option β
abbrev zqab (β : Type) := (List (List UInt8 × Int)) → (List (Int × (Int × (Int × Int)))) → (List zq0) → (List (Int × (Int × Int))) → Option β
abbrev zqac := {β : Type} → zqaa β → zqab β → (List (List UInt8 × Int)) → Int → Int → (List (List UInt8 × Int)) → (List (Int × (Int × (Int × Int)))) → (List zq0) → (List (Int × (Int × Int))) → Option β
def zqad : View := ⟨0, [1, 34, 35, 36], [(false, [.ptr 0 0]), (false, [.data (.slice (.prod .str (.int .i64)))]), (false, [.data (.int .i64)]), (false, [.data (.int .i64)])], [.cells 32 [.data (.slice (.prod .str (.int .i64))), .data (.slice (.prod (.int .i64) (.prod (.int .i64) (.prod (.int .i64) (.int .i64))))), .data (.slice zq1), .data (.slice (.prod (.int .i64) (.prod (.int .i64) (.int .i64))))]]⟩
def zqae : List (AExit × View) := [(.ret, ⟨0, [2], [(false, [.data .bool])], []⟩), (.exit 0, ⟨0, [1], [(false, [.ptr 0 0])], [.cells 32 [.data (.slice (.prod .str (.int .i64))), .data (.slice (.prod (.int .i64) (.prod (.int .i64) (.prod (.int .i64) (.int .i64))))), .data (.slice zq1), .data (.slice (.prod (.int .i64) (.prod (.int .i64) (.int .i64))))]]⟩)]
@[reducible] def clock_Valid_p1_G (p : zqac) {β : Type} (d : zqad.den) (ks : Outs.K β zqae) : Option β :=
  p (fun a0 => ks.1 (((a0, ()), ()), ())) (fun a0 a1 a2 a3 => ks.2.1 (((), ()), ((a0, a1, a2, a3, ()), ()))) d.1.2.1.1 d.1.2.2.1.1 d.1.2.2.2.1.1 d.2.1.1 d.2.1.2.1 d.2.1.2.2.1 d.2.1.2.2.2.1
abbrev zqaf (β : Type) := Bool → Option β
abbrev zqag (β : Type) := (List (List UInt8 × Int)) → (List (Int × (Int × (Int × Int)))) → (List zq0) → (List (Int × (Int × Int))) → Option β
abbrev zqah := {β : Type} → zqaf β → zqag β → (List (Int × (Int × (Int × Int)))) → Int → Int → (List (List UInt8 × Int)) → (List (Int × (Int × (Int × Int)))) → (List zq0) → (List (Int × (Int × Int))) → Option β
def zqai : View := ⟨0, [1, 46, 47, 48], [(false, [.ptr 0 0]), (false, [.data (.slice (.prod (.int .i64) (.prod (.int .i64) (.prod (.int .i64) (.int .i64)))))]), (false, [.data (.int .i64)]), (false, [.data (.int .i64)])], [.cells 32 [.data (.slice (.prod .str (.int .i64))), .data (.slice (.prod (.int .i64) (.prod (.int .i64) (.prod (.int .i64) (.int .i64))))), .data (.slice zq1), .data (.slice (.prod (.int .i64) (.prod (.int .i64) (.int .i64))))]]⟩
def zqaj : List (AExit × View) := [(.ret, ⟨0, [2], [(false, [.data .bool])], []⟩), (.exit 2, ⟨0, [1], [(false, [.ptr 0 0])], [.cells 32 [.data (.slice (.prod .str (.int .i64))), .data (.slice (.prod (.int .i64) (.prod (.int .i64) (.prod (.int .i64) (.int .i64))))), .data (.slice zq1), .data (.slice (.prod (.int .i64) (.prod (.int .i64) (.int .i64))))]]⟩)]
@[reducible] def clock_Valid_p2_G (p : zqah) {β : Type} (d : zqai.den) (ks : Outs.K β zqaj) : Option β :=
  p (fun a0 => ks.1 (((a0, ()), ()), ())) (fun a0 a1 a2 a3 => ks.2.1 (((), ()), ((a0, a1, a2, a3, ()), ()))) d.1.2.1.1 d.1.2.2.1.1 d.1.2.2.2.1.1 d.2.1.1 d.2.1.2.1 d.2.1.2.2.1 d.2.1.2.2.2.1
abbrev zqak (β : Type) := Bool → Option β
abbrev zqal (β : Type) := (List (List UInt8 × Int)) → (List (Int × (Int × (Int × Int)))) → (List zq0) → (List (Int × (Int × Int))) → Option β
abbrev zqam := {β : Type} → zqak β → zqal β → (List zq0) → Int → Int → (List (List UInt8 × Int)) → (List (Int × (Int × (Int × Int)))) → (List zq0) → (List (Int × (Int × Int))) → Option β
def zqan : View := ⟨0, [1, 67, 68, 69], [(false, [.ptr 0 0]), (false, [.data (.slice zq1)]), (false, [.data (.int .i64)]), (false, [.data (.int .i64)])], [.cells 32 [.data (.slice (.prod .str (.int .i64))), .data (.slice (.prod (.int .i64) (.prod (.int .i64) (.prod (.int .i64) (.int .i64))))), .data (.slice zq1), .data (.slice (.prod (.int .i64) (.prod (.int .i64) (.int .i64))))]]⟩
def zqao : List (AExit × View) := [(.ret, ⟨0, [2], [(false, [.data .bool])], []⟩), (.exit 4, ⟨0, [1], [(false, [.ptr 0 0])], [.cells 32 [.data (.slice (.prod .str (.int .i64))), .data (.slice (.prod (.int .i64) (.prod (.int .i64) (.prod (.int .i64) (.int .i64))))), .data (.slice zq1), .data (.slice (.prod (.int .i64) (.prod (.int .i64) (.int .i64))))]]⟩)]
@[reducible] def clock_Valid_p3_G (p : zqam) {β : Type} (d : zqan.den) (ks : Outs.K β zqao) : Option β :=
  p (fun a0 => ks.1 (((a0, ()), ()), ())) (fun a0 a1 a2 a3 => ks.2.1 (((), ()), ((a0, a1, a2, a3, ()), ()))) d.1.2.1.1 d.1.2.2.1.1 d.1.2.2.2.1.1 d.2.1.1 d.2.1.2.1 d.2.1.2.2.1 d.2.1.2.2.2.1
abbrev zqap (β : Type) := Bool → Option β
abbrev zqaq (β : Type) := Unit → Option β
abbrev zqar := {β : Type} → zqap β → zqaq β → (List (Int × (Int × Int))) → Int → Int → (List (List UInt8 × Int)) → (List (Int × (Int × (Int × Int)))) → (List zq0) → (List (Int × (Int × Int))) → Option β
def zqas : View := ⟨0, [1, 89, 90, 91], [(false, [.ptr 0 0]), (false, [.data (.slice (.prod (.int .i64) (.prod (.int .i64) (.int .i64))))]), (false, [.data (.int .i64)]), (false, [.data (.int .i64)])], [.cells 32 [.data (.slice (.prod .str (.int .i64))), .data (.slice (.prod (.int .i64) (.prod (.int .i64) (.prod (.int .i64) (.int .i64))))), .data (.slice zq1), .data (.slice (.prod (.int .i64) (.prod (.int .i64) (.int .i64))))]]⟩
def zqat : List (AExit × View) := [(.ret, ⟨0, [2], [(false, [.data .bool])], []⟩), (.exit 6, ⟨0, [], [], []⟩)]
@[reducible] def clock_Valid_p4_G (p : zqar) {β : Type} (d : zqas.den) (ks : Outs.K β zqat) : Option β :=
  p (fun a0 => ks.1 (((a0, ()), ()), ())) (fun _ => ks.2.1 ((), ())) d.1.2.1.1 d.1.2.2.1.1 d.1.2.2.2.1.1 d.2.1.1 d.2.1.2.1 d.2.1.2.2.1 d.2.1.2.2.2.1
section
variable (c_clock_compared : zq9n) (c_clock_in : zq36) (c_clock_instant : zq3d)
@[reducible] def clock_Valid_X : Ctx := ⟨look tab, pick1 [(40, .spec (zq9o c_clock_compared)), (39, .spec (zq37 c_clock_in)), (41, .spec (zq3e c_clock_instant))], false, false, false, false⟩
def zqau {β : Type} (rec : (List (List UInt8 × Int)) → Int → Int → (List (List UInt8 × Int)) → (List (Int × (Int × (Int × Int)))) → (List zq0) → (List (Int × (Int × Int))) → Option β) (k1 : zqaa β) (k2 : zqab β) (t34 : List (List UInt8 × Int)) (t35 : Int) (t36 : Int) (r_ : List (List UInt8 × Int)) (r_2 : List (Int × (Int × (Int × Int)))) (r_3 : List zq0) (r_4 : List (Int × (Int × Int))) : Option β :=
  cond (decide (t36 < t35))
  (cond (decide (0 ≤ t36) && decide (t36 < (List.length t34 : Int)))
  (let e : (List UInt8 × Int) := List.getD t34 (Int.toNat t36) (([] : List UInt8), (0 : Int));
  c_clock_in e.2 (0 : Int) (500000 : Int) (fun (rin : Bool) =>
  cond (!rin)
  (k1 false)
  (rec t34 t35 (IntKind.i64.wrap (t36 + (1 : Int))) r_ r_2 r_3 r_4)))
  none)
  (k2 r_ r_2 r_3 r_4)
def zqav {β : Type} : Nat → zqaa β → zqab β → (List (List UInt8 × Int)) → Int → Int → (List (List UInt8 × Int)) → (List (Int × (Int × (Int × Int)))) → (List zq0) → (List (Int × (Int × Int))) → Option β
  | 0 => fun _ _ _ _ _ _ _ _ _ => none
  | i + 1 => fun k1 k2 t34 t35 t36 r_ r_2 r_3 r_4 => zqau c_clock_in (zqav i k1 k2) k1 k2 t34 t35 t36 r_ r_2 r_3 r_4
theorem zqaw (hΓ : ΓOk Tryd.prog (clock_Valid_X c_clock_compared c_clock_in c_clock_instant).Γ) (i : Nat) : PieceOk Tryd.prog 127 0 clock_Valid_p1_code zqad zqae (clock_Valid_p1_G (zqav c_clock_in i)) := by
  rw [show clock_Valid_p1_code = .loop (loopBody clock_Valid_p1_code) by kernel_rfl]
  exact piece_loop (X := (clock_Valid_X c_clock_compared c_clock_in c_clock_instant)) (p := 1) (Λ := pick1 []) (G := fun i => @fun β d ks => clock_Valid_p1_G (zqav c_clock_in i) d ks) mixed tab_ok hΓ rfl (by kernel_rfl) CutsOk_nil (fun _ _ => rfl) (fun i => @fun β d ks r h => Eq.trans (b := clock_Valid_p1_G (zqav c_clock_in (i + 1)) d ks) (by kernel_rfl) h) i
def zqax {β : Type} (rec : (List (Int × (Int × (Int × Int)))) → Int → Int → (List (List UInt8 × Int)) → (List (Int × (Int × (Int × Int)))) → (List zq0) → (List (Int × (Int × Int))) → Option β) (k1 : zqaf β) (k2 : zqag β) (t46 : List (Int × (Int × (Int × Int)))) (t47 : Int) (t48 : Int) (r_ : List (List UInt8 × Int)) (r_2 : List (Int × (Int × (Int × Int)))) (r_3 : List zq0) (r_4 : List (Int × (Int × Int))) : Option β :=
  cond (decide (t48 < t47))
  (cond (decide (0 ≤ t48) && decide (t48 < (List.length t46 : Int)))
  (let e : (Int × (Int × (Int × Int))) := List.getD t46 (Int.toNat t48) ((0 : Int), ((0 : Int), ((0 : Int), (0 : Int))));
  c_clock_in e.1 (0 : Int) (IntKind.i64.wrap ((List.length r_ : Int) - (1 : Int))) (fun (rin : Bool) =>
  cond (!rin)
  (k1 false)
  (c_clock_compared e (fun (rcompared : Bool) =>
  cond (!rcompared)
  (k1 false)
  (rec t46 t47 (IntKind.i64.wrap (t48 + (1 : Int))) r_ r_2 r_3 r_4)))))
  none)
  (k2 r_ r_2 r_3 r_4)
def zqay {β : Type} : Nat → zqaf β → zqag β → (List (Int × (Int × (Int × Int)))) → Int → Int → (List (List UInt8 × Int)) → (List (Int × (Int × (Int × Int)))) → (List zq0) → (List (Int × (Int × Int))) → Option β
  | 0 => fun _ _ _ _ _ _ _ _ _ => none
  | i + 1 => fun k1 k2 t46 t47 t48 r_ r_2 r_3 r_4 => zqax c_clock_compared c_clock_in (zqay i k1 k2) k1 k2 t46 t47 t48 r_ r_2 r_3 r_4
theorem zqaz (hΓ : ΓOk Tryd.prog (clock_Valid_X c_clock_compared c_clock_in c_clock_instant).Γ) (i : Nat) : PieceOk Tryd.prog 127 0 clock_Valid_p2_code zqai zqaj (clock_Valid_p2_G (zqay c_clock_compared c_clock_in i)) := by
  rw [show clock_Valid_p2_code = .loop (loopBody clock_Valid_p2_code) by kernel_rfl]
  exact piece_loop (X := (clock_Valid_X c_clock_compared c_clock_in c_clock_instant)) (p := 1) (Λ := pick1 []) (G := fun i => @fun β d ks => clock_Valid_p2_G (zqay c_clock_compared c_clock_in i) d ks) mixed tab_ok hΓ rfl (by kernel_rfl) CutsOk_nil (fun _ _ => rfl) (fun i => @fun β d ks r h => Eq.trans (b := clock_Valid_p2_G (zqay c_clock_compared c_clock_in (i + 1)) d ks) (by kernel_rfl) h) i
def zqb0 {β : Type} (rec : (List zq0) → Int → Int → (List (List UInt8 × Int)) → (List (Int × (Int × (Int × Int)))) → (List zq0) → (List (Int × (Int × Int))) → Option β) (k1 : zqak β) (k2 : zqal β) (t67 : List zq0) (t68 : Int) (t69 : Int) (r_ : List (List UInt8 × Int)) (r_2 : List (Int × (Int × (Int × Int)))) (r_3 : List zq0) (r_4 : List (Int × (Int × Int))) : Option β :=
  cond (decide (t69 < t68))
  (cond (decide (0 ≤ t69) && decide (t69 < (List.length t67 : Int)))
  (let e : zq0 := List.getD t67 (Int.toNat t69) ((0 : Int), ((0 : Int), ([] : List UInt8)));
  c_clock_in e.1 (0 : Int) (IntKind.i64.wrap ((List.length r_ : Int) - (1 : Int))) (fun (rin : Bool) =>
  cond (!rin)
  (k1 false)
  (c_clock_instant e.2.1 (fun (rinstant : Bool) =>
  cond (!rinstant)
  (k1 false)
  (rec t67 t68 (IntKind.i64.wrap (t69 + (1 : Int))) r_ r_2 r_3 r_4)))))
  none)
  (k2 r_ r_2 r_3 r_4)
def zqb1 {β : Type} : Nat → zqak β → zqal β → (List zq0) → Int → Int → (List (List UInt8 × Int)) → (List (Int × (Int × (Int × Int)))) → (List zq0) → (List (Int × (Int × Int))) → Option β
  | 0 => fun _ _ _ _ _ _ _ _ _ => none
  | i + 1 => fun k1 k2 t67 t68 t69 r_ r_2 r_3 r_4 => zqb0 c_clock_in c_clock_instant (zqb1 i k1 k2) k1 k2 t67 t68 t69 r_ r_2 r_3 r_4
theorem zqb2 (hΓ : ΓOk Tryd.prog (clock_Valid_X c_clock_compared c_clock_in c_clock_instant).Γ) (i : Nat) : PieceOk Tryd.prog 127 0 clock_Valid_p3_code zqan zqao (clock_Valid_p3_G (zqb1 c_clock_in c_clock_instant i)) := by
  rw [show clock_Valid_p3_code = .loop (loopBody clock_Valid_p3_code) by kernel_rfl]
  exact piece_loop (X := (clock_Valid_X c_clock_compared c_clock_in c_clock_instant)) (p := 1) (Λ := pick1 []) (G := fun i => @fun β d ks => clock_Valid_p3_G (zqb1 c_clock_in c_clock_instant i) d ks) mixed tab_ok hΓ rfl (by kernel_rfl) CutsOk_nil (fun _ _ => rfl) (fun i => @fun β d ks r h => Eq.trans (b := clock_Valid_p3_G (zqb1 c_clock_in c_clock_instant (i + 1)) d ks) (by kernel_rfl) h) i
def zqb3 {β : Type} (rec : (List (Int × (Int × Int))) → Int → Int → (List (List UInt8 × Int)) → (List (Int × (Int × (Int × Int)))) → (List zq0) → (List (Int × (Int × Int))) → Option β) (k1 : zqap β) (k2 : zqaq β) (t89 : List (Int × (Int × Int))) (t90 : Int) (t91 : Int) (r_ : List (List UInt8 × Int)) (r_2 : List (Int × (Int × (Int × Int)))) (r_3 : List zq0) (r_4 : List (Int × (Int × Int))) : Option β :=
  cond (decide (t91 < t90))
  (cond (decide (0 ≤ t91) && decide (t91 < (List.length t89 : Int)))
  (let e : (Int × (Int × Int)) := List.getD t89 (Int.toNat t91) ((0 : Int), ((0 : Int), (0 : Int)));
  c_clock_in e.1 (0 : Int) (IntKind.i64.wrap ((List.length r_3 : Int) - (1 : Int))) (fun (rin : Bool) =>
  cond (!rin)
  (k1 false)
  (c_clock_in e.2.1 (0 : Int) (IntKind.i64.wrap ((List.length r_3 : Int) - (1 : Int))) (fun (rin2 : Bool) =>
  cond (!rin2)
  (k1 false)
  (cond (decide (e.1 = e.2.1))
  (k1 false)
  (c_clock_instant e.2.2 (fun (rinstant : Bool) =>
  cond (!rinstant)
  (k1 false)
  (rec t89 t90 (IntKind.i64.wrap (t91 + (1 : Int))) r_ r_2 r_3 r_4))))))))
  none)
  (k2 ())
def zqb4 {β : Type} : Nat → zqap β → zqaq β → (List (Int × (Int × Int))) → Int → Int → (List (List UInt8 × Int)) → (List (Int × (Int × (Int × Int)))) → (List zq0) → (List (Int × (Int × Int))) → Option β
  | 0 => fun _ _ _ _ _ _ _ _ _ => none
  | i + 1 => fun k1 k2 t89 t90 t91 r_ r_2 r_3 r_4 => zqb3 c_clock_in c_clock_instant (zqb4 i k1 k2) k1 k2 t89 t90 t91 r_ r_2 r_3 r_4
theorem zqb5 (hΓ : ΓOk Tryd.prog (clock_Valid_X c_clock_compared c_clock_in c_clock_instant).Γ) (i : Nat) : PieceOk Tryd.prog 127 0 clock_Valid_p4_code zqas zqat (clock_Valid_p4_G (zqb4 c_clock_in c_clock_instant i)) := by
  rw [show clock_Valid_p4_code = .loop (loopBody clock_Valid_p4_code) by kernel_rfl]
  exact piece_loop (X := (clock_Valid_X c_clock_compared c_clock_in c_clock_instant)) (p := 1) (Λ := pick1 []) (G := fun i => @fun β d ks => clock_Valid_p4_G (zqb4 c_clock_in c_clock_instant i) d ks) mixed tab_ok hΓ rfl (by kernel_rfl) CutsOk_nil (fun _ _ => rfl) (fun i => @fun β d ks r h => Eq.trans (b := clock_Valid_p4_G (zqb4 c_clock_in c_clock_instant (i + 1)) d ks) (by kernel_rfl) h) i
def zqb6 (p1 : zqac) (p2 : zqah) (p3 : zqam) (p4 : zqar) {β : Type} (r_ : zq2) (k : (Bool → Option β)) : Option β :=
  cond (decide ((8 : Int) < (List.length r_.1 : Int)))
  (k false)
  (cond (decide ((64 : Int) < (List.length r_.2.1 : Int)))
  (k false)
  (cond (decide ((40 : Int) < (List.length r_.2.2.1 : Int)))
  (k false)
  (cond (decide ((64 : Int) < (List.length r_.2.2.2 : Int)))
  (k false)
  (p1 (fun (t2 : Bool) =>
  k t2) (fun (r_2 : List (List UInt8 × Int)) (r_3 : List (Int × (Int × (Int × Int)))) (r_4 : List zq0) (r_5 : List (Int × (Int × Int))) =>
  p2 (fun (t2 : Bool) =>
  k t2) (fun (r_6 : List (List UInt8 × Int)) (r_7 : List (Int × (Int × (Int × Int)))) (r_8 : List zq0) (r_9 : List (Int × (Int × Int))) =>
  p3 (fun (t2 : Bool) =>
  k t2) (fun (r_10 : List (List UInt8 × Int)) (r_11 : List (Int × (Int × (Int × Int)))) (r_12 : List zq0) (r_13 : List (Int × (Int × Int))) =>
  p4 (fun (t2 : Bool) =>
  k t2) (fun (_ : Unit) =>
  k true) r_13 (List.length r_13 : Int) (0 : Int) r_10 r_11 r_12 r_13) r_8 (List.length r_8 : Int) (0 : Int) r_6 r_7 r_8 r_9) r_3 (List.length r_3 : Int) (0 : Int) r_2 r_3 r_4 r_5) r_.1 (List.length r_.1 : Int) (0 : Int) r_.1 r_.2.1 r_.2.2.1 r_.2.2.2))))
theorem zqb7 (hΓ : ΓOk Tryd.prog (clock_Valid_X c_clock_compared c_clock_in c_clock_instant).Γ) (p1 : zqac) (p2 : zqah) (p3 : zqam) (p4 : zqar) (hp1 : PieceOk Tryd.prog 127 0 clock_Valid_p1_code zqad zqae (clock_Valid_p1_G p1)) (hp2 : PieceOk Tryd.prog 127 0 clock_Valid_p2_code zqai zqaj (clock_Valid_p2_G p2)) (hp3 : PieceOk Tryd.prog 127 0 clock_Valid_p3_code zqan zqao (clock_Valid_p3_G p3)) (hp4 : PieceOk Tryd.prog 127 0 clock_Valid_p4_code zqas zqat (clock_Valid_p4_G p4)) : SpecOk Tryd.prog 23 (zqa9 (zqb6 p1 p2 p3 p4)) :=
  spec_exec (X := (clock_Valid_X c_clock_compared c_clock_in c_clock_instant)) (Λ := pick1 [(58, pieceCut zqad zqae (clock_Valid_p1_G p1)), (122, pieceCut zqai zqaj (clock_Valid_p2_G p2)), (250, pieceCut zqan zqao (clock_Valid_p3_G p3)), (506, pieceCut zqas zqat (clock_Valid_p4_G p4))]) (rs := [.tmp 2]) (c := bodyOf Tryd.f23) mixed tab_ok hΓ Tryd.func23 (by kernel_rfl) (by kernel_rfl) (by kernel_rfl) (by kernel_rfl) (CutsOk_cons (q := 58) (c' := clock_Valid_p1_code) (by kernel_rfl) rfl hp1 (CutsOk_cons (q := 122) (c' := clock_Valid_p2_code) (by kernel_rfl) rfl hp2 (CutsOk_cons (q := 250) (c' := clock_Valid_p3_code) (by kernel_rfl) rfl hp3 (CutsOk_cons (q := 506) (c' := clock_Valid_p4_code) (by kernel_rfl) rfl hp4 CutsOk_nil)))) (fun x k r h => Eq.trans (b := (zqa9 (zqb6 p1 p2 p3 p4)).run x k) (by kernel_rfl) h)
end
theorem zqb8Γ : ΓOk Tryd.prog (pick1 [(40, .spec (zq9o zq9s)), (39, .spec (zq37 zq3b)), (41, .spec (zq3e zq3i))]) := (ΓOk_cons zq9t (ΓOk_cons zq3c (ΓOk_cons zq3j ΓOk_nil)))
def zqb9 (m : Nat) : zqac := zqav zq3b m
theorem zqba {β : Type} (i : Nat) (k1 k2 t34 t35 t36 r_ r_2 r_3 r_4) : (zqb9 (i + 1) k1 k2 t34 t35 t36 r_ r_2 r_3 r_4 : Option β) = zqau zq3b (zqb9 i k1 k2) k1 k2 t34 t35 t36 r_ r_2 r_3 r_4 := rfl
def zqbb : zqac := zqb9 fuel
theorem zqbc : PieceOk Tryd.prog 127 0 clock_Valid_p1_code zqad zqae (clock_Valid_p1_G zqbb) := zqaw zq9s zq3b zq3i zqb8Γ fuel
def zqbd (m : Nat) : zqah := zqay zq9s zq3b m
theorem zqbe {β : Type} (i : Nat) (k1 k2 t46 t47 t48 r_ r_2 r_3 r_4) : (zqbd (i + 1) k1 k2 t46 t47 t48 r_ r_2 r_3 r_4 : Option β) = zqax zq9s zq3b (zqbd i k1 k2) k1 k2 t46 t47 t48 r_ r_2 r_3 r_4 := rfl
def zqbf : zqah := zqbd fuel
theorem zqbg : PieceOk Tryd.prog 127 0 clock_Valid_p2_code zqai zqaj (clock_Valid_p2_G zqbf) := zqaz zq9s zq3b zq3i zqb8Γ fuel
def zqbh (m : Nat) : zqam := zqb1 zq3b zq3i m
theorem zqbi {β : Type} (i : Nat) (k1 k2 t67 t68 t69 r_ r_2 r_3 r_4) : (zqbh (i + 1) k1 k2 t67 t68 t69 r_ r_2 r_3 r_4 : Option β) = zqb0 zq3b zq3i (zqbh i k1 k2) k1 k2 t67 t68 t69 r_ r_2 r_3 r_4 := rfl
def zqbj : zqam := zqbh fuel
theorem zqbk : PieceOk Tryd.prog 127 0 clock_Valid_p3_code zqan zqao (clock_Valid_p3_G zqbj) := zqb2 zq9s zq3b zq3i zqb8Γ fuel
def zqbl (m : Nat) : zqar := zqb4 zq3b zq3i m
theorem zqbm {β : Type} (i : Nat) (k1 k2 t89 t90 t91 r_ r_2 r_3 r_4) : (zqbl (i + 1) k1 k2 t89 t90 t91 r_ r_2 r_3 r_4 : Option β) = zqb3 zq3b zq3i (zqbl i k1 k2) k1 k2 t89 t90 t91 r_ r_2 r_3 r_4 := rfl
def zqbn : zqar := zqbl fuel
theorem zqbo : PieceOk Tryd.prog 127 0 clock_Valid_p4_code zqas zqat (clock_Valid_p4_G zqbn) := zqb5 zq9s zq3b zq3i zqb8Γ fuel
def zqbp : zqa8 := zqb6 zqbb zqbf zqbj zqbn
theorem zqbq : SpecOk Tryd.prog 23 (zqa9 zqbp) := zqb7 zq9s zq3b zq3i zqb8Γ zqbb zqbf zqbj zqbn zqbc zqbg zqbk zqbo

/-- pagewatch/order.pair -/
abbrev zqbr := {β : Type} → zq2 → Int → Int → ((List (Int × (Int × Int))) → Option β) → Option β
def zqbs (c : zqbr) : Spec :=
  ⟨[(true, [.data zq3]), (false, [.data (.int .i64)]), (false, [.data (.int .i64)])], [], [(false, [.rowh 0])], [.row 123 (.prod (.int .i64) (.prod (.int .i64) (.int .i64)))], fun x k => c x.1.1.1 x.1.2.1.1 x.1.2.2.1.1 (fun r0 => k (((), ()), (r0, ())))⟩
noncomputable def order_pair_p1_code : Code := codeAt 15 (bodyOf Tryd.f59)
abbrev zqbt (β : Type) := (List (Int × (Int × Int))) → Option β
abbrev zqbu := {β : Type} → zqbt β → Int → Int → (List (List UInt8 × Int)) → (List (Int × (Int × (Int × Int)))) → (List zq0) → (List (Int × (Int × Int))) → Int → Int → (List UInt8) → Int → Int → (List UInt8) → Option β
def zqbv : View := ⟨0, [1, 2, 3, 7, 8], [(false, [.data (.int .i64)]), (false, [.data (.int .i64)]), (false, [.ptr 0 0]), (false, [.ptr 1 0]), (false, [.ptr 2 0])], [.cells 32 [.data (.slice (.prod .str (.int .i64))), .data (.slice (.prod (.int .i64) (.prod (.int .i64) (.prod (.int .i64) (.int .i64))))), .data (.slice zq1), .data (.slice (.prod (.int .i64) (.prod (.int .i64) (.int .i64))))], .cells 49 [.data (.int .i64), .data (.int .i64), .data .str], .cells 49 [.data (.int .i64), .data (.int .i64), .data .str]]⟩
def zqbw : List (AExit × View) := [(.ret, ⟨0, [6], [(false, [.rowh 0])], [.row 123 (.prod (.int .i64) (.prod (.int .i64) (.int .i64)))]⟩)]
@[reducible] def order_pair_p1_G (p : zqbu) {β : Type} (d : zqbv.den) (ks : Outs.K β zqbw) : Option β :=
  p (fun a0 => ks.1 (((), ()), (a0, ()))) d.1.1.1 d.1.2.1.1 d.2.1.1 d.2.1.2.1 d.2.1.2.2.1 d.2.1.2.2.2.1 d.2.2.1.1 d.2.2.1.2.1 d.2.2.1.2.2.1 d.2.2.2.1.1 d.2.2.2.1.2.1 d.2.2.2.1.2.2.1
section
variable (c_clock_Elapsed : zqa1)
@[reducible] def order_pair_X : Ctx := ⟨look tab, pick1 [(82, .spec (zqa2 c_clock_Elapsed))], false, false, false, false⟩
def zqbx {β : Type} (k1 : zqbt β) (i_ : Int) (j : Int) (r_ : List (List UInt8 × Int)) (r_2 : List (Int × (Int × (Int × Int)))) (r_3 : List zq0) (r_4 : List (Int × (Int × Int))) (a : Int) (a2 : Int) (a3 : List UInt8) (b : Int) (b2 : Int) (b3 : List UInt8) : Option β :=
  cond (decide (0 ≤ a) && decide (a < (List.length r_ : Int)))
  (let e : (List UInt8 × Int) := List.getD r_ (Int.toNat a) (([] : List UInt8), (0 : Int));
  c_clock_Elapsed e.2 (IntKind.i64.wrap (b2 - a2)) (fun (rElapsed : Int) (rElapsed2 : Int) =>
  let l : List (Int × (Int × Int)) := ([((IntKind.i64.wrap (i_ + (1 : Int))), ((IntKind.i64.wrap (j + (1 : Int))), rElapsed2)), ((IntKind.i64.wrap (j + (1 : Int))), ((IntKind.i64.wrap (i_ + (1 : Int))), (IntKind.i64.wrap (0 - rElapsed))))] : List (Int × (Int × Int)));
  k1 l))
  none
def zqby {β : Type} (k1 : zqbt β) (i_ : Int) (j : Int) (r_ : List (List UInt8 × Int)) (r_2 : List (Int × (Int × (Int × Int)))) (r_3 : List zq0) (r_4 : List (Int × (Int × Int))) (a : Int) (a2 : Int) (a3 : List UInt8) (b : Int) (b2 : Int) (b3 : List UInt8) : Option β := zqbx c_clock_Elapsed k1 i_ j r_ r_2 r_3 r_4 a a2 a3 b b2 b3
theorem zqbz (hΓ : ΓOk Tryd.prog (order_pair_X c_clock_Elapsed).Γ) : PieceOk Tryd.prog 60 0 order_pair_p1_code zqbv zqbw (order_pair_p1_G (zqby c_clock_Elapsed)) :=
  piece_exec (X := (order_pair_X c_clock_Elapsed)) (p := 15) (Λ := pick1 []) mixed tab_ok hΓ (by kernel_rfl) CutsOk_nil (fun d ks r h => Eq.trans (b := order_pair_p1_G (zqby c_clock_Elapsed) d ks) (by kernel_rfl) h)
def zqc0 (p1 : zqbu) {β : Type} (r_ : zq2) (i_ : Int) (j : Int) (k : ((List (Int × (Int × Int))) → Option β)) : Option β :=
  cond (decide (0 ≤ i_) && decide (i_ < (List.length r_.2.2.1 : Int)))
  (let e : zq0 := List.getD r_.2.2.1 (Int.toNat i_) ((0 : Int), ((0 : Int), ([] : List UInt8)));
  cond (decide (0 ≤ j) && decide (j < (List.length r_.2.2.1 : Int)))
  (let e2 : zq0 := List.getD r_.2.2.1 (Int.toNat j) ((0 : Int), ((0 : Int), ([] : List UInt8)));
  cond (decide (e2.2.1 < e.2.1))
  (p1 (fun (t6 : List (Int × (Int × Int))) =>
  k t6) j i_ r_.1 r_.2.1 r_.2.2.1 r_.2.2.2 e2.1 e2.2.1 e2.2.2 e.1 e.2.1 e.2.2)
  (p1 (fun (t6 : List (Int × (Int × Int))) =>
  k t6) i_ j r_.1 r_.2.1 r_.2.2.1 r_.2.2.2 e.1 e.2.1 e.2.2 e2.1 e2.2.1 e2.2.2))
  none)
  none
theorem zqc1 (hΓ : ΓOk Tryd.prog (order_pair_X c_clock_Elapsed).Γ) (p1 : zqbu) (hp1 : PieceOk Tryd.prog 60 0 order_pair_p1_code zqbv zqbw (order_pair_p1_G p1)) : SpecOk Tryd.prog 59 (zqbs (zqc0 p1)) :=
  spec_exec (X := (order_pair_X c_clock_Elapsed)) (Λ := pick1 [(15, pieceCut zqbv zqbw (order_pair_p1_G p1))]) (rs := [.tmp 6]) (c := bodyOf Tryd.f59) mixed tab_ok hΓ Tryd.func59 (by kernel_rfl) (by kernel_rfl) (by kernel_rfl) (by kernel_rfl) (CutsOk_cons (q := 15) (c' := order_pair_p1_code) (by kernel_rfl) rfl hp1 CutsOk_nil) (fun x k r h => Eq.trans (b := (zqbs (zqc0 p1)).run x k) (by kernel_rfl) h)
end
theorem zqc2Γ : ΓOk Tryd.prog (pick1 [(82, .spec (zqa2 zqa6))]) := (ΓOk_cons zqa7 ΓOk_nil)
def zqc3 : zqbu := zqby zqa6
theorem zqc4 : PieceOk Tryd.prog 60 0 order_pair_p1_code zqbv zqbw (order_pair_p1_G zqc3) := zqbz zqa6 zqc2Γ
def zqc5 : zqbr := zqc0 zqc3
theorem zqc6 : SpecOk Tryd.prog 59 (zqbs zqc5) := zqc1 zqa6 zqc2Γ zqc3 zqc4

/-- pagewatch/clock.From -/
abbrev zqc7 := {β : Type} → (List UInt8 × Int) → (Int × (Int × (Int × Int))) → Int → ((Int × Int) → Option β) → Option β
def zqc8 (c : zqc7) : Spec :=
  ⟨[(true, [.data (.prod .str (.int .i64))]), (true, [.data (.prod (.int .i64) (.prod (.int .i64) (.prod (.int .i64) (.int .i64))))]), (false, [.data (.int .i64)])], [], [(true, [.data (.prod (.int .i64) (.int .i64))])], [], fun x k => c x.1.1.1 x.1.2.1.1 x.1.2.2.1.1 (fun r0 => k (((r0, ()), ()), ()))⟩
section
variable (c_clock_Elapsed : zqa1) (c_clock_compared : zq9n) (c_clock_in : zq36) (c_clock_instant : zq3d)
@[reducible] def clock_From_X : Ctx := ⟨look tab, pick1 [(82, .spec (zqa2 c_clock_Elapsed)), (40, .spec (zq9o c_clock_compared)), (39, .spec (zq37 c_clock_in)), (41, .spec (zq3e c_clock_instant))], false, false, false, false⟩
def zqc9 {β : Type} (h : (List UInt8 × Int)) (s : (Int × (Int × (Int × Int)))) (clock : Int) (k : ((Int × Int) → Option β)) : Option β :=
  c_clock_in h.2 (0 : Int) (500000 : Int) (fun (rin : Bool) =>
  cond (!rin)
  (k ((-1099511627776 : Int), (1099511627776 : Int)))
  (c_clock_compared s (fun (rcompared : Bool) =>
  cond (!rcompared)
  (k ((-1099511627776 : Int), (1099511627776 : Int)))
  (c_clock_instant clock (fun (rinstant : Bool) =>
  cond (!rinstant)
  (k ((-1099511627776 : Int), (1099511627776 : Int)))
  (cond (decide (s.2.1 ≤ clock))
  (c_clock_Elapsed h.2 (IntKind.i64.wrap (clock - s.2.1)) (fun (rElapsed : Int) (rElapsed2 : Int) =>
  k ((IntKind.i64.wrap (s.2.2.1 + rElapsed)), (IntKind.i64.wrap (s.2.2.2 + rElapsed2)))))
  (c_clock_Elapsed h.2 (IntKind.i64.wrap (s.2.1 - clock)) (fun (rElapsed : Int) (rElapsed2 : Int) =>
  k ((IntKind.i64.wrap (s.2.2.1 - rElapsed2)), (IntKind.i64.wrap (s.2.2.2 - rElapsed)))))))))))
theorem zqca (hΓ : ΓOk Tryd.prog (clock_From_X c_clock_Elapsed c_clock_compared c_clock_in c_clock_instant).Γ) : SpecOk Tryd.prog 80 (zqc8 (zqc9 c_clock_Elapsed c_clock_compared c_clock_in c_clock_instant)) :=
  spec_exec (X := (clock_From_X c_clock_Elapsed c_clock_compared c_clock_in c_clock_instant)) (Λ := pick1 []) (rs := [.cell 6 44]) (c := bodyOf Tryd.f80) mixed tab_ok hΓ Tryd.func80 (by kernel_rfl) (by kernel_rfl) (by kernel_rfl) (by kernel_rfl) CutsOk_nil (fun x k r h => Eq.trans (b := (zqc8 (zqc9 c_clock_Elapsed c_clock_compared c_clock_in c_clock_instant)).run x k) (by kernel_rfl) h)
end
theorem zqcbΓ : ΓOk Tryd.prog (pick1 [(82, .spec (zqa2 zqa6)), (40, .spec (zq9o zq9s)), (39, .spec (zq37 zq3b)), (41, .spec (zq3e zq3i))]) := (ΓOk_cons zqa7 (ΓOk_cons zq9t (ΓOk_cons zq3c (ΓOk_cons zq3j ΓOk_nil))))
def zqcc : zqc7 := zqc9 zqa6 zq9s zq3b zq3i
theorem zqcd : SpecOk Tryd.prog 80 (zqc8 zqcc) := zqca zqa6 zq9s zq3b zq3i zqcbΓ

/-- pagewatch/timeline.Add -/
abbrev zqce := {β : Type} → zq2 → zq0 → (zq2 → Int → Option β) → Option β
def zqcf (c : zqce) : Spec :=
  ⟨[(true, [.data zq3]), (true, [.data zq1])], [], [(true, [.data zq3]), (false, [.data (.int .i64)])], [], fun x k => c x.1.1.1 x.1.2.1.1 (fun r0 r1 => k (((r0, ()), (r1, ()), ()), ()))⟩
section
variable (c_clock_Valid : zqa8) (c_timeline_copied : zq92) (c_timeline_in : zq1y) (c_timeline_sized : zq25)
@[reducible] def timeline_Add_X : Ctx := ⟨look tab, pick1 [(23, .spec (zqa9 c_clock_Valid)), (25, .spec (zq93 c_timeline_copied)), (24, .spec (zq1z c_timeline_in)), (26, .spec (zq26 c_timeline_sized))], false, false, false, false⟩
def zqcg {β : Type} (r_ : zq2) (e : zq0) (k : (zq2 → Int → Option β)) : Option β :=
  c_clock_Valid r_ (fun (rValid : Bool) =>
  cond (!rValid)
  (k (([] : List (List UInt8 × Int)), (([] : List (Int × (Int × (Int × Int)))), (([] : List zq0), ([] : List (Int × (Int × Int)))))) (8 : Int))
  (c_timeline_in e.1 (0 : Int) (IntKind.i64.wrap ((List.length r_.1 : Int) - (1 : Int))) (fun (rin : Bool) =>
  cond (!rin)
  (k (([] : List (List UInt8 × Int)), (([] : List (Int × (Int × (Int × Int)))), (([] : List zq0), ([] : List (Int × (Int × Int)))))) (1 : Int))
  (c_timeline_in e.2.1 (0 : Int) (8589934592 : Int) (fun (rin2 : Bool) =>
  cond (!rin2)
  (k (([] : List (List UInt8 × Int)), (([] : List (Int × (Int × (Int × Int)))), (([] : List zq0), ([] : List (Int × (Int × Int)))))) (1 : Int))
  (c_timeline_copied r_ (fun (lrcopied : List (List UInt8 × Int)) (lrcopied2 : List (Int × (Int × (Int × Int)))) (lrcopied3 : List zq0) (lrcopied4 : List (Int × (Int × Int))) =>
  let l : List zq0 := ([e] : List zq0);
  cond (decide ((List.length lrcopied3 + List.length l) * 32 ≤ roomMax))
  (let l2 : List zq0 := (lrcopied3 ++ l);
  c_timeline_sized (lrcopied, (lrcopied2, (l2, lrcopied4))) (fun (rsized : zq2) (rsized2 : Int) =>
  k rsized rsized2))
  none)))))))
theorem zqch (hΓ : ΓOk Tryd.prog (timeline_Add_X c_clock_Valid c_timeline_copied c_timeline_in c_timeline_sized).Γ) : SpecOk Tryd.prog 12 (zqcf (zqcg c_clock_Valid c_timeline_copied c_timeline_in c_timeline_sized)) :=
  spec_exec (X := (timeline_Add_X c_clock_Valid c_timeline_copied c_timeline_in c_timeline_sized)) (Λ := pick1 []) (rs := [.cell 4 32, .tmp 5]) (c := bodyOf Tryd.f12) mixed tab_ok hΓ Tryd.func12 (by kernel_rfl) (by kernel_rfl) (by kernel_rfl) (by kernel_rfl) CutsOk_nil (fun x k r h => Eq.trans (b := (zqcf (zqcg c_clock_Valid c_timeline_copied c_timeline_in c_timeline_sized)).run x k) (by kernel_rfl) h)
end
theorem zqciΓ : ΓOk Tryd.prog (pick1 [(23, .spec (zqa9 zqbp)), (25, .spec (zq93 zq97)), (24, .spec (zq1z zq23)), (26, .spec (zq26 zq2a))]) := (ΓOk_cons zqbq (ΓOk_cons zq98 (ΓOk_cons zq24 (ΓOk_cons zq2b ΓOk_nil))))
def zqcj : zqce := zqcg zqbp zq97 zq23 zq2a
theorem zqck : SpecOk Tryd.prog 12 (zqcf zqcj) := zqch zqbp zq97 zq23 zq2a zqciΓ

/-- pagewatch/timeline.Merge -/
abbrev zqcl := {β : Type} → zq2 → zq2 → (zq2 → Int → Option β) → Option β
def zqcm (c : zqcl) : Spec :=
  ⟨[(true, [.data zq3]), (true, [.data zq3])], [], [(true, [.data zq3]), (false, [.data (.int .i64)])], [], fun x k => c x.1.1.1 x.1.2.1.1 (fun r0 r1 => k (((r0, ()), (r1, ()), ()), ()))⟩
noncomputable def timeline_Merge_p1_code : Code := codeAt 250 (bodyOf Tryd.f13)
noncomputable def timeline_Merge_p2_code : Code := codeAt 506 (bodyOf Tryd.f13)
noncomputable def timeline_Merge_p3_code : Code := codeAt 1018 (bodyOf Tryd.f13)
abbrev zqcn (β : Type) := (List (List UInt8 × Int)) → (List (Int × (Int × (Int × Int)))) → (List zq0) → (List (Int × (Int × Int))) → (List (List UInt8 × Int)) → (List (Int × (Int × (Int × Int)))) → (List zq0) → (List (Int × (Int × Int))) → (List (List UInt8 × Int)) → (List (Int × (Int × (Int × Int)))) → (List zq0) → (List (Int × (Int × Int))) → (List (List UInt8 × Int)) → (List (Int × (Int × (Int × Int)))) → (List zq0) → (List (Int × (Int × Int))) → Option β
abbrev zqco := {β : Type} → zqcn β → (List (Int × (Int × (Int × Int)))) → Int → Int → (List (List UInt8 × Int)) → (List (Int × (Int × (Int × Int)))) → (List zq0) → (List (Int × (Int × Int))) → (List (List UInt8 × Int)) → (List (Int × (Int × (Int × Int)))) → (List zq0) → (List (Int × (Int × Int))) → (List (List UInt8 × Int)) → (List (Int × (Int × (Int × Int)))) → (List zq0) → (List (Int × (Int × Int))) → (List (List UInt8 × Int)) → (List (Int × (Int × (Int × Int)))) → (List zq0) → (List (Int × (Int × Int))) → Option β
def zqcp : View := ⟨0, [2, 3, 4, 6, 31, 32, 33], [(false, [.ptr 0 0]), (false, [.ptr 1 0]), (false, [.ptr 2 0]), (false, [.ptr 3 0]), (false, [.data (.slice (.prod (.int .i64) (.prod (.int .i64) (.prod (.int .i64) (.int .i64)))))]), (false, [.data (.int .i64)]), (false, [.data (.int .i64)])], [.cells 32 [.data (.slice (.prod .str (.int .i64))), .data (.slice (.prod (.int .i64) (.prod (.int .i64) (.prod (.int .i64) (.int .i64))))), .data (.slice zq1), .data (.slice (.prod (.int .i64) (.prod (.int .i64) (.int .i64))))], .cells 32 [.data (.slice (.prod .str (.int .i64))), .data (.slice (.prod (.int .i64) (.prod (.int .i64) (.prod (.int .i64) (.int .i64))))), .data (.slice zq1), .data (.slice (.prod (.int .i64) (.prod (.int .i64) (.int .i64))))], .cells 32 [.rowh 4, .rowh 5, .rowh 6, .rowh 7], .cells 32 [.rowh 8, .rowh 9, .rowh 10, .rowh 11], .row 36 (.prod .str (.int .i64)), .row 54 (.prod (.int .i64) (.prod (.int .i64) (.prod (.int .i64) (.int .i64)))), .row 49 zq1, .row 60 (.prod (.int .i64) (.prod (.int .i64) (.int .i64))), .row 36 (.prod .str (.int .i64)), .row 54 (.prod (.int .i64) (.prod (.int .i64) (.prod (.int .i64) (.int .i64)))), .row 49 zq1, .row 60 (.prod (.int .i64) (.prod (.int .i64) (.int .i64)))]⟩
def zqcq : List (AExit × View) := [(.exit 0, ⟨0, [2, 3, 4, 6], [(false, [.ptr 0 0]), (false, [.ptr 1 0]), (false, [.ptr 2 0]), (false, [.ptr 3 0])], [.cells 32 [.data (.slice (.prod .str (.int .i64))), .data (.slice (.prod (.int .i64) (.prod (.int .i64) (.prod (.int .i64) (.int .i64))))), .data (.slice zq1), .data (.slice (.prod (.int .i64) (.prod (.int .i64) (.int .i64))))], .cells 32 [.data (.slice (.prod .str (.int .i64))), .data (.slice (.prod (.int .i64) (.prod (.int .i64) (.prod (.int .i64) (.int .i64))))), .data (.slice zq1), .data (.slice (.prod (.int .i64) (.prod (.int .i64) (.int .i64))))], .cells 32 [.rowh 4, .rowh 5, .rowh 6, .rowh 7], .cells 32 [.rowh 8, .rowh 9, .rowh 10, .rowh 11], .row 36 (.prod .str (.int .i64)), .row 54 (.prod (.int .i64) (.prod (.int .i64) (.prod (.int .i64) (.int .i64)))), .row 49 zq1, .row 60 (.prod (.int .i64) (.prod (.int .i64) (.int .i64))), .row 36 (.prod .str (.int .i64)), .row 54 (.prod (.int .i64) (.prod (.int .i64) (.prod (.int .i64) (.int .i64)))), .row 49 zq1, .row 60 (.prod (.int .i64) (.prod (.int .i64) (.int .i64)))]⟩)]
@[reducible] def timeline_Merge_p1_G (p : zqco) {β : Type} (d : zqcp.den) (ks : Outs.K β zqcq) : Option β :=
  p (fun a0 a1 a2 a3 a4 a5 a6 a7 a8 a9 a10 a11 a12 a13 a14 a15 => ks.1 (((), (), (), (), ()), ((a0, a1, a2, a3, ()), (a4, a5, a6, a7, ()), (), (), a8, a9, a10, a11, a12, a13, a14, a15, ()))) d.1.2.2.2.2.1.1 d.1.2.2.2.2.2.1.1 d.1.2.2.2.2.2.2.1.1 d.2.1.1 d.2.1.2.1 d.2.1.2.2.1 d.2.1.2.2.2.1 d.2.2.1.1 d.2.2.1.2.1 d.2.2.1.2.2.1 d.2.2.1.2.2.2.1 d.2.2.2.2.2.1 d.2.2.2.2.2.2.1 d.2.2.2.2.2.2.2.1 d.2.2.2.2.2.2.2.2.1 d.2.2.2.2.2.2.2.2.2.1 d.2.2.2.2.2.2.2.2.2.2.1 d.2.2.2.2.2.2.2.2.2.2.2.1 d.2.2.2.2.2.2.2.2.2.2.2.2.1
abbrev zqcr (β : Type) := (List (List UInt8 × Int)) → (List (Int × (Int × (Int × Int)))) → (List zq0) → (List (Int × (Int × Int))) → (List (List UInt8 × Int)) → (List (Int × (Int × (Int × Int)))) → (List zq0) → (List (Int × (Int × Int))) → (List (List UInt8 × Int)) → (List (Int × (Int × (Int × Int)))) → (List zq0) → (List (Int × (Int × Int))) → (List (List UInt8 × Int)) → (List (Int × (Int × (Int × Int)))) → (List zq0) → (List (Int × (Int × Int))) → Option β
abbrev zqcs := {β : Type} → zqcr β → (List zq0) → Int → Int → (List (List UInt8 × Int)) → (List (Int × (Int × (Int × Int)))) → (List zq0) → (List (Int × (Int × Int))) → (List (List UInt8 × Int)) → (List (Int × (Int × (Int × Int)))) → (List zq0) → (List (Int × (Int × Int))) → (List (List UInt8 × Int)) → (List (Int × (Int × (Int × Int)))) → (List zq0) → (List (Int × (Int × Int))) → (List (List UInt8 × Int)) → (List (Int × (Int × (Int × Int)))) → (List zq0) → (List (Int × (Int × Int))) → Option β
def zqct : View := ⟨0, [2, 3, 4, 6, 52, 53, 54], [(false, [.ptr 0 0]), (false, [.ptr 1 0]), (false, [.ptr 2 0]), (false, [.ptr 3 0]), (false, [.data (.slice zq1)]), (false, [.data (.int .i64)]), (false, [.data (.int .i64)])], [.cells 32 [.data (.slice (.prod .str (.int .i64))), .data (.slice (.prod (.int .i64) (.prod (.int .i64) (.prod (.int .i64) (.int .i64))))), .data (.slice zq1), .data (.slice (.prod (.int .i64) (.prod (.int .i64) (.int .i64))))], .cells 32 [.data (.slice (.prod .str (.int .i64))), .data (.slice (.prod (.int .i64) (.prod (.int .i64) (.prod (.int .i64) (.int .i64))))), .data (.slice zq1), .data (.slice (.prod (.int .i64) (.prod (.int .i64) (.int .i64))))], .cells 32 [.rowh 4, .rowh 5, .rowh 6, .rowh 7], .cells 32 [.rowh 8, .rowh 9, .rowh 10, .rowh 11], .row 36 (.prod .str (.int .i64)), .row 54 (.prod (.int .i64) (.prod (.int .i64) (.prod (.int .i64) (.int .i64)))), .row 49 zq1, .row 60 (.prod (.int .i64) (.prod (.int .i64) (.int .i64))), .row 36 (.prod .str (.int .i64)), .row 54 (.prod (.int .i64) (.prod (.int .i64) (.prod (.int .i64) (.int .i64)))), .row 49 zq1, .row 60 (.prod (.int .i64) (.prod (.int .i64) (.int .i64)))]⟩
def zqcu : List (AExit × View) := [(.exit 2, ⟨0, [2, 3, 4, 6], [(false, [.ptr 0 0]), (false, [.ptr 1 0]), (false, [.ptr 2 0]), (false, [.ptr 3 0])], [.cells 32 [.data (.slice (.prod .str (.int .i64))), .data (.slice (.prod (.int .i64) (.prod (.int .i64) (.prod (.int .i64) (.int .i64))))), .data (.slice zq1), .data (.slice (.prod (.int .i64) (.prod (.int .i64) (.int .i64))))], .cells 32 [.data (.slice (.prod .str (.int .i64))), .data (.slice (.prod (.int .i64) (.prod (.int .i64) (.prod (.int .i64) (.int .i64))))), .data (.slice zq1), .data (.slice (.prod (.int .i64) (.prod (.int .i64) (.int .i64))))], .cells 32 [.rowh 4, .rowh 5, .rowh 6, .rowh 7], .cells 32 [.rowh 8, .rowh 9, .rowh 10, .rowh 11], .row 36 (.prod .str (.int .i64)), .row 54 (.prod (.int .i64) (.prod (.int .i64) (.prod (.int .i64) (.int .i64)))), .row 49 zq1, .row 60 (.prod (.int .i64) (.prod (.int .i64) (.int .i64))), .row 36 (.prod .str (.int .i64)), .row 54 (.prod (.int .i64) (.prod (.int .i64) (.prod (.int .i64) (.int .i64)))), .row 49 zq1, .row 60 (.prod (.int .i64) (.prod (.int .i64) (.int .i64)))]⟩)]
@[reducible] def timeline_Merge_p2_G (p : zqcs) {β : Type} (d : zqct.den) (ks : Outs.K β zqcu) : Option β :=
  p (fun a0 a1 a2 a3 a4 a5 a6 a7 a8 a9 a10 a11 a12 a13 a14 a15 => ks.1 (((), (), (), (), ()), ((a0, a1, a2, a3, ()), (a4, a5, a6, a7, ()), (), (), a8, a9, a10, a11, a12, a13, a14, a15, ()))) d.1.2.2.2.2.1.1 d.1.2.2.2.2.2.1.1 d.1.2.2.2.2.2.2.1.1 d.2.1.1 d.2.1.2.1 d.2.1.2.2.1 d.2.1.2.2.2.1 d.2.2.1.1 d.2.2.1.2.1 d.2.2.1.2.2.1 d.2.2.1.2.2.2.1 d.2.2.2.2.2.1 d.2.2.2.2.2.2.1 d.2.2.2.2.2.2.2.1 d.2.2.2.2.2.2.2.2.1 d.2.2.2.2.2.2.2.2.2.1 d.2.2.2.2.2.2.2.2.2.2.1 d.2.2.2.2.2.2.2.2.2.2.2.1 d.2.2.2.2.2.2.2.2.2.2.2.2.1
abbrev zqcv (β : Type) := (List (List UInt8 × Int)) → (List (Int × (Int × (Int × Int)))) → (List zq0) → (List (Int × (Int × Int))) → (List (List UInt8 × Int)) → (List (Int × (Int × (Int × Int)))) → (List zq0) → (List (Int × (Int × Int))) → Option β
abbrev zqcw := {β : Type} → zqcv β → (List (Int × (Int × Int))) → Int → Int → (List (List UInt8 × Int)) → (List (Int × (Int × (Int × Int)))) → (List zq0) → (List (Int × (Int × Int))) → (List (List UInt8 × Int)) → (List (Int × (Int × (Int × Int)))) → (List zq0) → (List (Int × (Int × Int))) → (List (List UInt8 × Int)) → (List (Int × (Int × (Int × Int)))) → (List zq0) → (List (Int × (Int × Int))) → Option β
def zqcx : View := ⟨0, [2, 4, 6, 73, 74, 75], [(false, [.ptr 0 0]), (false, [.ptr 1 0]), (false, [.ptr 2 0]), (false, [.data (.slice (.prod (.int .i64) (.prod (.int .i64) (.int .i64))))]), (false, [.data (.int .i64)]), (false, [.data (.int .i64)])], [.cells 32 [.data (.slice (.prod .str (.int .i64))), .data (.slice (.prod (.int .i64) (.prod (.int .i64) (.prod (.int .i64) (.int .i64))))), .data (.slice zq1), .data (.slice (.prod (.int .i64) (.prod (.int .i64) (.int .i64))))], .cells 32 [.rowh 3, .rowh 4, .rowh 5, .rowh 6], .cells 32 [.rowh 7, .rowh 8, .rowh 9, .rowh 10], .row 36 (.prod .str (.int .i64)), .row 54 (.prod (.int .i64) (.prod (.int .i64) (.prod (.int .i64) (.int .i64)))), .row 49 zq1, .row 60 (.prod (.int .i64) (.prod (.int .i64) (.int .i64))), .row 36 (.prod .str (.int .i64)), .row 54 (.prod (.int .i64) (.prod (.int .i64) (.prod (.int .i64) (.int .i64)))), .row 49 zq1, .row 60 (.prod (.int .i64) (.prod (.int .i64) (.int .i64)))]⟩
def zqcy : List (AExit × View) := [(.exit 4, ⟨0, [4, 6], [(false, [.ptr 0 0]), (false, [.ptr 1 0])], [.cells 32 [.rowh 2, .rowh 3, .rowh 4, .rowh 5], .cells 32 [.rowh 6, .rowh 7, .rowh 8, .rowh 9], .row 36 (.prod .str (.int .i64)), .row 54 (.prod (.int .i64) (.prod (.int .i64) (.prod (.int .i64) (.int .i64)))), .row 49 zq1, .row 60 (.prod (.int .i64) (.prod (.int .i64) (.int .i64))), .row 36 (.prod .str (.int .i64)), .row 54 (.prod (.int .i64) (.prod (.int .i64) (.prod (.int .i64) (.int .i64)))), .row 49 zq1, .row 60 (.prod (.int .i64) (.prod (.int .i64) (.int .i64)))]⟩)]
@[reducible] def timeline_Merge_p3_G (p : zqcw) {β : Type} (d : zqcx.den) (ks : Outs.K β zqcy) : Option β :=
  p (fun a0 a1 a2 a3 a4 a5 a6 a7 => ks.1 (((), (), ()), ((), (), a0, a1, a2, a3, a4, a5, a6, a7, ()))) d.1.2.2.2.1.1 d.1.2.2.2.2.1.1 d.1.2.2.2.2.2.1.1 d.2.1.1 d.2.1.2.1 d.2.1.2.2.1 d.2.1.2.2.2.1 d.2.2.2.2.1 d.2.2.2.2.2.1 d.2.2.2.2.2.2.1 d.2.2.2.2.2.2.2.1 d.2.2.2.2.2.2.2.2.1 d.2.2.2.2.2.2.2.2.2.1 d.2.2.2.2.2.2.2.2.2.2.1 d.2.2.2.2.2.2.2.2.2.2.2.1
section
variable (c_clock_Valid : zqa8) (c_timeline_copied : zq92) (c_timeline_sized : zq25)
@[reducible] def timeline_Merge_X : Ctx := ⟨look tab, pick1 [(23, .spec (zqa9 c_clock_Valid)), (25, .spec (zq93 c_timeline_copied)), (26, .spec (zq26 c_timeline_sized))], false, false, false, false⟩
def zqcz {β : Type} (rec : (List (Int × (Int × (Int × Int)))) → Int → Int → (List (List UInt8 × Int)) → (List (Int × (Int × (Int × Int)))) → (List zq0) → (List (Int × (Int × Int))) → (List (List UInt8 × Int)) → (List (Int × (Int × (Int × Int)))) → (List zq0) → (List (Int × (Int × Int))) → (List (List UInt8 × Int)) → (List (Int × (Int × (Int × Int)))) → (List zq0) → (List (Int × (Int × Int))) → (List (List UInt8 × Int)) → (List (Int × (Int × (Int × Int)))) → (List zq0) → (List (Int × (Int × Int))) → Option β) (k1 : zqcn β) (t31 : List (Int × (Int × (Int × Int)))) (t32 : Int) (t33 : Int) (a : List (List UInt8 × Int)) (a2 : List (Int × (Int × (Int × Int)))) (a3 : List zq0) (a4 : List (Int × (Int × Int))) (b : List (List UInt8 × Int)) (b2 : List (Int × (Int × (Int × Int)))) (b3 : List zq0) (b4 : List (Int × (Int × Int))) (b4_ : List (List UInt8 × Int)) (b5_ : List (Int × (Int × (Int × Int)))) (b6_ : List zq0) (b7_ : List (Int × (Int × Int))) (b8_ : List (List UInt8 × Int)) (b9_ : List (Int × (Int × (Int × Int)))) (b10_ : List zq0) (b11_ : List (Int × (Int × Int))) : Option β :=
  cond (decide (t33 < t32))
  (cond (decide (0 ≤ t33) && decide (t33 < (List.length t31 : Int)))
  (let e : (Int × (Int × (Int × Int))) := List.getD t31 (Int.toNat t33) ((0 : Int), ((0 : Int), ((0 : Int), (0 : Int))));
  let l : List (Int × (Int × (Int × Int))) := ([((IntKind.i64.wrap (e.1 + (List.length a : Int))), e.2)] : List (Int × (Int × (Int × Int))));
  cond (decide ((List.length b9_ + List.length l) * 32 ≤ roomMax))
  (let l2 : List (Int × (Int × (Int × Int))) := (b9_ ++ l);
  rec t31 t32 (IntKind.i64.wrap (t33 + (1 : Int))) a a2 a3 a4 b b2 b3 b4 b4_ b5_ b6_ b7_ b8_ l2 b10_ b11_)
  none)
  none)
  (k1 a a2 a3 a4 b b2 b3 b4 b4_ b5_ b6_ b7_ b8_ b9_ b10_ b11_)
def zqd0 {β : Type} : Nat → zqcn β → (List (Int × (Int × (Int × Int)))) → Int → Int → (List (List UInt8 × Int)) → (List (Int × (Int × (Int × Int)))) → (List zq0) → (List (Int × (Int × Int))) → (List (List UInt8 × Int)) → (List (Int × (Int × (Int × Int)))) → (List zq0) → (List (Int × (Int × Int))) → (List (List UInt8 × Int)) → (List (Int × (Int × (Int × Int)))) → (List zq0) → (List (Int × (Int × Int))) → (List (List UInt8 × Int)) → (List (Int × (Int × (Int × Int)))) → (List zq0) → (List (Int × (Int × Int))) → Option β
  | 0 => fun _ _ _ _ _ _ _ _ _ _ _ _ _ _ _ _ _ _ _ _ => none
  | i + 1 => fun k1 t31 t32 t33 a a2 a3 a4 b b2 b3 b4 b4_ b5_ b6_ b7_ b8_ b9_ b10_ b11_ => zqcz (zqd0 i k1) k1 t31 t32 t33 a a2 a3 a4 b b2 b3 b4 b4_ b5_ b6_ b7_ b8_ b9_ b10_ b11_
theorem zqd1 (hΓ : ΓOk Tryd.prog (timeline_Merge_X c_clock_Valid c_timeline_copied c_timeline_sized).Γ) (i : Nat) : PieceOk Tryd.prog 104 0 timeline_Merge_p1_code zqcp zqcq (timeline_Merge_p1_G (zqd0 i)) := by
  rw [show timeline_Merge_p1_code = .loop (loopBody timeline_Merge_p1_code) by kernel_rfl]
  exact piece_loop (X := (timeline_Merge_X c_clock_Valid c_timeline_copied c_timeline_sized)) (p := 1) (Λ := pick1 []) (G := fun i => @fun β d ks => timeline_Merge_p1_G (zqd0 i) d ks) mixed tab_ok hΓ rfl (by kernel_rfl) CutsOk_nil (fun _ _ => rfl) (fun i => @fun β d ks r h => Eq.trans (b := timeline_Merge_p1_G (zqd0 (i + 1)) d ks) (by kernel_rfl) h) i
def zqd2 {β : Type} (rec : (List zq0) → Int → Int → (List (List UInt8 × Int)) → (List (Int × (Int × (Int × Int)))) → (List zq0) → (List (Int × (Int × Int))) → (List (List UInt8 × Int)) → (List (Int × (Int × (Int × Int)))) → (List zq0) → (List (Int × (Int × Int))) → (List (List UInt8 × Int)) → (List (Int × (Int × (Int × Int)))) → (List zq0) → (List (Int × (Int × Int))) → (List (List UInt8 × Int)) → (List (Int × (Int × (Int × Int)))) → (List zq0) → (List (Int × (Int × Int))) → Option β) (k1 : zqcr β) (t52 : List zq0) (t53 : Int) (t54 : Int) (a : List (List UInt8 × Int)) (a2 : List (Int × (Int × (Int × Int)))) (a3 : List zq0) (a4 : List (Int × (Int × Int))) (b : List (List UInt8 × Int)) (b2 : List (Int × (Int × (Int × Int)))) (b3 : List zq0) (b4 : List (Int × (Int × Int))) (b4_ : List (List UInt8 × Int)) (b5_ : List (Int × (Int × (Int × Int)))) (b6_ : List zq0) (b7_ : List (Int × (Int × Int))) (b8_ : List (List UInt8 × Int)) (b9_ : List (Int × (Int × (Int × Int)))) (b10_ : List zq0) (b11_ : List (Int × (Int × Int))) : Option β :=
  cond (decide (t54 < t53))
  (cond (decide (0 ≤ t54) && decide (t54 < (List.length t52 : Int)))
  (let e : zq0 := List.getD t52 (Int.toNat t54) ((0 : Int), ((0 : Int), ([] : List UInt8)));
  let l : List zq0 := ([((IntKind.i64.wrap (e.1 + (List.length a : Int))), e.2)] : List zq0);
  cond (decide ((List.length b10_ + List.length l) * 32 ≤ roomMax))
  (let l2 : List zq0 := (b10_ ++ l);
  rec t52 t53 (IntKind.i64.wrap (t54 + (1 : Int))) a a2 a3 a4 b b2 b3 b4 b4_ b5_ b6_ b7_ b8_ b9_ l2 b11_)
  none)
  none)
  (k1 a a2 a3 a4 b b2 b3 b4 b4_ b5_ b6_ b7_ b8_ b9_ b10_ b11_)
def zqd3 {β : Type} : Nat → zqcr β → (List zq0) → Int → Int → (List (List UInt8 × Int)) → (List (Int × (Int × (Int × Int)))) → (List zq0) → (List (Int × (Int × Int))) → (List (List UInt8 × Int)) → (List (Int × (Int × (Int × Int)))) → (List zq0) → (List (Int × (Int × Int))) → (List (List UInt8 × Int)) → (List (Int × (Int × (Int × Int)))) → (List zq0) → (List (Int × (Int × Int))) → (List (List UInt8 × Int)) → (List (Int × (Int × (Int × Int)))) → (List zq0) → (List (Int × (Int × Int))) → Option β
  | 0 => fun _ _ _ _ _ _ _ _ _ _ _ _ _ _ _ _ _ _ _ _ => none
  | i + 1 => fun k1 t52 t53 t54 a a2 a3 a4 b b2 b3 b4 b4_ b5_ b6_ b7_ b8_ b9_ b10_ b11_ => zqd2 (zqd3 i k1) k1 t52 t53 t54 a a2 a3 a4 b b2 b3 b4 b4_ b5_ b6_ b7_ b8_ b9_ b10_ b11_
theorem zqd4 (hΓ : ΓOk Tryd.prog (timeline_Merge_X c_clock_Valid c_timeline_copied c_timeline_sized).Γ) (i : Nat) : PieceOk Tryd.prog 104 0 timeline_Merge_p2_code zqct zqcu (timeline_Merge_p2_G (zqd3 i)) := by
  rw [show timeline_Merge_p2_code = .loop (loopBody timeline_Merge_p2_code) by kernel_rfl]
  exact piece_loop (X := (timeline_Merge_X c_clock_Valid c_timeline_copied c_timeline_sized)) (p := 1) (Λ := pick1 []) (G := fun i => @fun β d ks => timeline_Merge_p2_G (zqd3 i) d ks) mixed tab_ok hΓ rfl (by kernel_rfl) CutsOk_nil (fun _ _ => rfl) (fun i => @fun β d ks r h => Eq.trans (b := timeline_Merge_p2_G (zqd3 (i + 1)) d ks) (by kernel_rfl) h) i
def zqd5 {β : Type} (rec : (List (Int × (Int × Int))) → Int → Int → (List (List UInt8 × Int)) → (List (Int × (Int × (Int × Int)))) → (List zq0) → (List (Int × (Int × Int))) → (List (List UInt8 × Int)) → (List (Int × (Int × (Int × Int)))) → (List zq0) → (List (Int × (Int × Int))) → (List (List UInt8 × Int)) → (List (Int × (Int × (Int × Int)))) → (List zq0) → (List (Int × (Int × Int))) → Option β) (k1 : zqcv β) (t73 : List (Int × (Int × Int))) (t74 : Int) (t75 : Int) (a : List (List UInt8 × Int)) (a2 : List (Int × (Int × (Int × Int)))) (a3 : List zq0) (a4 : List (Int × (Int × Int))) (b3_ : List (List UInt8 × Int)) (b4_ : List (Int × (Int × (Int × Int)))) (b5_ : List zq0) (b6_ : List (Int × (Int × Int))) (b7_ : List (List UInt8 × Int)) (b8_ : List (Int × (Int × (Int × Int)))) (b9_ : List zq0) (b10_ : List (Int × (Int × Int))) : Option β :=
  cond (decide (t75 < t74))
  (cond (decide (0 ≤ t75) && decide (t75 < (List.length t73 : Int)))
  (let e : (Int × (Int × Int)) := List.getD t73 (Int.toNat t75) ((0 : Int), ((0 : Int), (0 : Int)));
  let l : List (Int × (Int × Int)) := ([((IntKind.i64.wrap (e.1 + (List.length a3 : Int))), ((IntKind.i64.wrap (e.2.1 + (List.length a3 : Int))), e.2.2))] : List (Int × (Int × Int)));
  cond (decide ((List.length b10_ + List.length l) * 24 ≤ roomMax))
  (let l2 : List (Int × (Int × Int)) := (b10_ ++ l);
  rec t73 t74 (IntKind.i64.wrap (t75 + (1 : Int))) a a2 a3 a4 b3_ b4_ b5_ b6_ b7_ b8_ b9_ l2)
  none)
  none)
  (k1 b3_ b4_ b5_ b6_ b7_ b8_ b9_ b10_)
def zqd6 {β : Type} : Nat → zqcv β → (List (Int × (Int × Int))) → Int → Int → (List (List UInt8 × Int)) → (List (Int × (Int × (Int × Int)))) → (List zq0) → (List (Int × (Int × Int))) → (List (List UInt8 × Int)) → (List (Int × (Int × (Int × Int)))) → (List zq0) → (List (Int × (Int × Int))) → (List (List UInt8 × Int)) → (List (Int × (Int × (Int × Int)))) → (List zq0) → (List (Int × (Int × Int))) → Option β
  | 0 => fun _ _ _ _ _ _ _ _ _ _ _ _ _ _ _ _ => none
  | i + 1 => fun k1 t73 t74 t75 a a2 a3 a4 b3_ b4_ b5_ b6_ b7_ b8_ b9_ b10_ => zqd5 (zqd6 i k1) k1 t73 t74 t75 a a2 a3 a4 b3_ b4_ b5_ b6_ b7_ b8_ b9_ b10_
theorem zqd7 (hΓ : ΓOk Tryd.prog (timeline_Merge_X c_clock_Valid c_timeline_copied c_timeline_sized).Γ) (i : Nat) : PieceOk Tryd.prog 104 0 timeline_Merge_p3_code zqcx zqcy (timeline_Merge_p3_G (zqd6 i)) := by
  rw [show timeline_Merge_p3_code = .loop (loopBody timeline_Merge_p3_code) by kernel_rfl]
  exact piece_loop (X := (timeline_Merge_X c_clock_Valid c_timeline_copied c_timeline_sized)) (p := 1) (Λ := pick1 []) (G := fun i => @fun β d ks => timeline_Merge_p3_G (zqd6 i) d ks) mixed tab_ok hΓ rfl (by kernel_rfl) CutsOk_nil (fun _ _ => rfl) (fun i => @fun β d ks r h => Eq.trans (b := timeline_Merge_p3_G (zqd6 (i + 1)) d ks) (by kernel_rfl) h) i
def zqd8 (p1 : zqco) (p2 : zqcs) (p3 : zqcw) {β : Type} (a : zq2) (b : zq2) (k : (zq2 → Int → Option β)) : Option β :=
  c_clock_Valid a (fun (rValid : Bool) =>
  cond (!rValid)
  (k (([] : List (List UInt8 × Int)), (([] : List (Int × (Int × (Int × Int)))), (([] : List zq0), ([] : List (Int × (Int × Int)))))) (8 : Int))
  (c_clock_Valid b (fun (rValid2 : Bool) =>
  cond (!rValid2)
  (k (([] : List (List UInt8 × Int)), (([] : List (Int × (Int × (Int × Int)))), (([] : List zq0), ([] : List (Int × (Int × Int)))))) (8 : Int))
  (c_timeline_copied a (fun (lrcopied : List (List UInt8 × Int)) (lrcopied2 : List (Int × (Int × (Int × Int)))) (lrcopied3 : List zq0) (lrcopied4 : List (Int × (Int × Int))) =>
  cond (decide ((List.length lrcopied + List.length b.1) * 24 ≤ roomMax))
  (let l : List (List UInt8 × Int) := (lrcopied ++ b.1);
  p1 (fun (a2 : List (List UInt8 × Int)) (a3 : List (Int × (Int × (Int × Int)))) (a4 : List zq0) (a5 : List (Int × (Int × Int))) (b2 : List (List UInt8 × Int)) (b3 : List (Int × (Int × (Int × Int)))) (b4 : List zq0) (b5 : List (Int × (Int × Int))) (b4_ : List (List UInt8 × Int)) (b5_ : List (Int × (Int × (Int × Int)))) (b6_ : List zq0) (b7_ : List (Int × (Int × Int))) (b8_ : List (List UInt8 × Int)) (b9_ : List (Int × (Int × (Int × Int)))) (b10_ : List zq0) (b11_ : List (Int × (Int × Int))) =>
  p2 (fun (a6 : List (List UInt8 × Int)) (a7 : List (Int × (Int × (Int × Int)))) (a8 : List zq0) (a9 : List (Int × (Int × Int))) (b6 : List (List UInt8 × Int)) (b7 : List (Int × (Int × (Int × Int)))) (b8 : List zq0) (b9 : List (Int × (Int × Int))) (b4_2 : List (List UInt8 × Int)) (b5_2 : List (Int × (Int × (Int × Int)))) (b6_2 : List zq0) (b7_2 : List (Int × (Int × Int))) (b8_2 : List (List UInt8 × Int)) (b9_2 : List (Int × (Int × (Int × Int)))) (b10_2 : List zq0) (b11_2 : List (Int × (Int × Int))) =>
  p3 (fun (b2_ : List (List UInt8 × Int)) (b3_ : List (Int × (Int × (Int × Int)))) (b4_3 : List zq0) (b5_3 : List (Int × (Int × Int))) (b6_3 : List (List UInt8 × Int)) (b7_3 : List (Int × (Int × (Int × Int)))) (b8_3 : List zq0) (b9_3 : List (Int × (Int × Int))) =>
  c_timeline_sized (b6_3, (b7_3, (b8_3, b9_3))) (fun (rsized : zq2) (rsized2 : Int) =>
  k rsized rsized2)) b9 (List.length b9 : Int) (0 : Int) a6 a7 a8 a9 b4_2 b5_2 b6_2 b7_2 b8_2 b9_2 b10_2 b11_2) b4 (List.length b4 : Int) (0 : Int) a2 a3 a4 a5 b2 b3 b4 b5 b4_ b5_ b6_ b7_ b8_ b9_ b10_ b11_) b.2.1 (List.length b.2.1 : Int) (0 : Int) a.1 a.2.1 a.2.2.1 a.2.2.2 b.1 b.2.1 b.2.2.1 b.2.2.2 ([] : List (List UInt8 × Int)) ([] : List (Int × (Int × (Int × Int)))) ([] : List zq0) ([] : List (Int × (Int × Int))) l lrcopied2 lrcopied3 lrcopied4)
  none)))))
theorem zqd9 (hΓ : ΓOk Tryd.prog (timeline_Merge_X c_clock_Valid c_timeline_copied c_timeline_sized).Γ) (p1 : zqco) (p2 : zqcs) (p3 : zqcw) (hp1 : PieceOk Tryd.prog 104 0 timeline_Merge_p1_code zqcp zqcq (timeline_Merge_p1_G p1)) (hp2 : PieceOk Tryd.prog 104 0 timeline_Merge_p2_code zqct zqcu (timeline_Merge_p2_G p2)) (hp3 : PieceOk Tryd.prog 104 0 timeline_Merge_p3_code zqcx zqcy (timeline_Merge_p3_G p3)) : SpecOk Tryd.prog 13 (zqcm (zqd8 c_clock_Valid c_timeline_copied c_timeline_sized p1 p2 p3)) :=
  spec_exec (X := (timeline_Merge_X c_clock_Valid c_timeline_copied c_timeline_sized)) (Λ := pick1 [(250, pieceCut zqcp zqcq (timeline_Merge_p1_G p1)), (506, pieceCut zqct zqcu (timeline_Merge_p2_G p2)), (1018, pieceCut zqcx zqcy (timeline_Merge_p3_G p3))]) (rs := [.cell 4 32, .tmp 5]) (c := bodyOf Tryd.f13) mixed tab_ok hΓ Tryd.func13 (by kernel_rfl) (by kernel_rfl) (by kernel_rfl) (by kernel_rfl) (CutsOk_cons (q := 250) (c' := timeline_Merge_p1_code) (by kernel_rfl) rfl hp1 (CutsOk_cons (q := 506) (c' := timeline_Merge_p2_code) (by kernel_rfl) rfl hp2 (CutsOk_cons (q := 1018) (c' := timeline_Merge_p3_code) (by kernel_rfl) rfl hp3 CutsOk_nil))) (fun x k r h => Eq.trans (b := (zqcm (zqd8 c_clock_Valid c_timeline_copied c_timeline_sized p1 p2 p3)).run x k) (by kernel_rfl) h)
end
theorem zqdaΓ : ΓOk Tryd.prog (pick1 [(23, .spec (zqa9 zqbp)), (25, .spec (zq93 zq97)), (26, .spec (zq26 zq2a))]) := (ΓOk_cons zqbq (ΓOk_cons zq98 (ΓOk_cons zq2b ΓOk_nil)))
def zqdb (m : Nat) : zqco := zqd0 m
theorem zqdc {β : Type} (i : Nat) (k1 t31 t32 t33 a a2 a3 a4 b b2 b3 b4 b4_ b5_ b6_ b7_ b8_ b9_ b10_ b11_) : (zqdb (i + 1) k1 t31 t32 t33 a a2 a3 a4 b b2 b3 b4 b4_ b5_ b6_ b7_ b8_ b9_ b10_ b11_ : Option β) = zqcz (zqdb i k1) k1 t31 t32 t33 a a2 a3 a4 b b2 b3 b4 b4_ b5_ b6_ b7_ b8_ b9_ b10_ b11_ := rfl
def zqdd : zqco := zqdb fuel
theorem zqde : PieceOk Tryd.prog 104 0 timeline_Merge_p1_code zqcp zqcq (timeline_Merge_p1_G zqdd) := zqd1 zqbp zq97 zq2a zqdaΓ fuel
def zqdf (m : Nat) : zqcs := zqd3 m
theorem zqdg {β : Type} (i : Nat) (k1 t52 t53 t54 a a2 a3 a4 b b2 b3 b4 b4_ b5_ b6_ b7_ b8_ b9_ b10_ b11_) : (zqdf (i + 1) k1 t52 t53 t54 a a2 a3 a4 b b2 b3 b4 b4_ b5_ b6_ b7_ b8_ b9_ b10_ b11_ : Option β) = zqd2 (zqdf i k1) k1 t52 t53 t54 a a2 a3 a4 b b2 b3 b4 b4_ b5_ b6_ b7_ b8_ b9_ b10_ b11_ := rfl
def zqdh : zqcs := zqdf fuel
theorem zqdi : PieceOk Tryd.prog 104 0 timeline_Merge_p2_code zqct zqcu (timeline_Merge_p2_G zqdh) := zqd4 zqbp zq97 zq2a zqdaΓ fuel
def zqdj (m : Nat) : zqcw := zqd6 m
theorem zqdk {β : Type} (i : Nat) (k1 t73 t74 t75 a a2 a3 a4 b3_ b4_ b5_ b6_ b7_ b8_ b9_ b10_) : (zqdj (i + 1) k1 t73 t74 t75 a a2 a3 a4 b3_ b4_ b5_ b6_ b7_ b8_ b9_ b10_ : Option β) = zqd5 (zqdj i k1) k1 t73 t74 t75 a a2 a3 a4 b3_ b4_ b5_ b6_ b7_ b8_ b9_ b10_ := rfl
def zqdl : zqcw := zqdj fuel
theorem zqdm : PieceOk Tryd.prog 104 0 timeline_Merge_p3_code zqcx zqcy (timeline_Merge_p3_G zqdl) := zqd7 zqbp zq97 zq2a zqdaΓ fuel
def zqdn : zqcl := zqd8 zqbp zq97 zq2a zqdd zqdh zqdl
theorem zqdo : SpecOk Tryd.prog 13 (zqcm zqdn) := zqd9 zqbp zq97 zq2a zqdaΓ zqdd zqdh zqdl zqde zqdi zqdm

/-- pagewatch/clock.When -/
abbrev zqdp := {β : Type} → zq2 → Int → Int → ((Int × Int) → Bool → Option β) → Option β
def zqdq (c : zqdp) : Spec :=
  ⟨[(true, [.data zq3]), (false, [.data (.int .i64)]), (false, [.data (.int .i64)])], [], [(true, [.data (.prod (.int .i64) (.int .i64))]), (false, [.data .bool])], [], fun x k => c x.1.1.1 x.1.2.1.1 x.1.2.2.1.1 (fun r0 r1 => k (((r0, ()), (r1, ()), ()), ()))⟩
noncomputable def clock_When_p1_code : Code := codeAt 122 (bodyOf Tryd.f58)
abbrev zqdr (β : Type) := Int → Int → Int → Int → Option β
abbrev zqds := {β : Type} → zqdr β → Int → Int → (List (Int × (Int × (Int × Int)))) → Int → Int → (List (List UInt8 × Int)) → (List (Int × (Int × (Int × Int)))) → (List zq0) → (List (Int × (Int × Int))) → Int → Int → Int → Int → Option β
def zqdt : View := ⟨0, [1, 2, 3, 6, 8, 31, 32, 33], [(false, [.data (.int .i64)]), (false, [.data (.int .i64)]), (false, [.ptr 0 0]), (false, [.ptr 1 0]), (false, [.ptr 2 0]), (false, [.data (.slice (.prod (.int .i64) (.prod (.int .i64) (.prod (.int .i64) (.int .i64)))))]), (false, [.data (.int .i64)]), (false, [.data (.int .i64)])], [.cells 32 [.data (.slice (.prod .str (.int .i64))), .data (.slice (.prod (.int .i64) (.prod (.int .i64) (.prod (.int .i64) (.int .i64))))), .data (.slice zq1), .data (.slice (.prod (.int .i64) (.prod (.int .i64) (.int .i64))))], .cells 44 [.data (.int .i64), .data (.int .i64)], .cells 44 [.data (.int .i64), .data (.int .i64)]]⟩
def zqdu : List (AExit × View) := [(.exit 0, ⟨0, [6, 8], [(false, [.ptr 0 0]), (false, [.ptr 1 0])], [.cells 44 [.data (.int .i64), .data (.int .i64)], .cells 44 [.data (.int .i64), .data (.int .i64)]]⟩)]
@[reducible] def clock_When_p1_G (p : zqds) {β : Type} (d : zqdt.den) (ks : Outs.K β zqdu) : Option β :=
  p (fun a0 a1 a2 a3 => ks.1 (((), (), ()), ((a0, a1, ()), (a2, a3, ()), ()))) d.1.1.1 d.1.2.1.1 d.1.2.2.2.2.2.1.1 d.1.2.2.2.2.2.2.1.1 d.1.2.2.2.2.2.2.2.1.1 d.2.1.1 d.2.1.2.1 d.2.1.2.2.1 d.2.1.2.2.2.1 d.2.2.1.1 d.2.2.1.2.1 d.2.2.2.1.1 d.2.2.2.1.2.1
section
variable (c_clock_Empty : zq6m) (c_clock_From : zqc7) (c_clock_Meet : zq6f) (c_clock_Valid : zqa8) (c_clock_in : zq36) (c_clock_instant : zq3d)
@[reducible] def clock_When_X : Ctx := ⟨look tab, pick1 [(81, .spec (zq6n c_clock_Empty)), (80, .spec (zqc8 c_clock_From)), (79, .spec (zq6g c_clock_Meet)), (23, .spec (zqa9 c_clock_Valid)), (39, .spec (zq37 c_clock_in)), (41, .spec (zq3e c_clock_instant))], false, false, false, false⟩
def zqdv {β : Type} (rec : Int → Int → (List (Int × (Int × (Int × Int)))) → Int → Int → (List (List UInt8 × Int)) → (List (Int × (Int × (Int × Int)))) → (List zq0) → (List (Int × (Int × Int))) → Int → Int → Int → Int → Option β) (k1 : zqdr β) (host : Int) (clock : Int) (t31 : List (Int × (Int × (Int × Int)))) (t32 : Int) (t33 : Int) (r_ : List (List UInt8 × Int)) (r_2 : List (Int × (Int × (Int × Int)))) (r_3 : List zq0) (r_4 : List (Int × (Int × Int))) (t6 : Int) (t62 : Int) (out : Int) (out2 : Int) : Option β :=
  cond (decide (t33 < t32))
  (cond (decide (0 ≤ t33) && decide (t33 < (List.length t31 : Int)))
  (let e : (Int × (Int × (Int × Int))) := List.getD t31 (Int.toNat t33) ((0 : Int), ((0 : Int), ((0 : Int), (0 : Int))));
  cond (decide (e.1 = host))
  (cond (decide (0 ≤ host) && decide (host < (List.length r_ : Int)))
  (let e2 : (List UInt8 × Int) := List.getD r_ (Int.toNat host) (([] : List UInt8), (0 : Int));
  c_clock_From e2 e clock (fun (rFrom : (Int × Int)) =>
  c_clock_Meet (out, out2) rFrom (fun (rMeet : (Int × Int)) =>
  rec host clock t31 t32 (IntKind.i64.wrap (t33 + (1 : Int))) r_ r_2 r_3 r_4 t6 t62 rMeet.1 rMeet.2)))
  none)
  (rec host clock t31 t32 (IntKind.i64.wrap (t33 + (1 : Int))) r_ r_2 r_3 r_4 t6 t62 out out2))
  none)
  (k1 t6 t62 out out2)
def zqdw {β : Type} : Nat → zqdr β → Int → Int → (List (Int × (Int × (Int × Int)))) → Int → Int → (List (List UInt8 × Int)) → (List (Int × (Int × (Int × Int)))) → (List zq0) → (List (Int × (Int × Int))) → Int → Int → Int → Int → Option β
  | 0 => fun _ _ _ _ _ _ _ _ _ _ _ _ _ _ => none
  | i + 1 => fun k1 host clock t31 t32 t33 r_ r_2 r_3 r_4 t6 t62 out out2 => zqdv c_clock_From c_clock_Meet (zqdw i k1) k1 host clock t31 t32 t33 r_ r_2 r_3 r_4 t6 t62 out out2
theorem zqdx (hΓ : ΓOk Tryd.prog (clock_When_X c_clock_Empty c_clock_From c_clock_Meet c_clock_Valid c_clock_in c_clock_instant).Γ) (i : Nat) : PieceOk Tryd.prog 56 0 clock_When_p1_code zqdt zqdu (clock_When_p1_G (zqdw c_clock_From c_clock_Meet i)) := by
  rw [show clock_When_p1_code = .loop (loopBody clock_When_p1_code) by kernel_rfl]
  exact piece_loop (X := (clock_When_X c_clock_Empty c_clock_From c_clock_Meet c_clock_Valid c_clock_in c_clock_instant)) (p := 1) (Λ := pick1 []) (G := fun i => @fun β d ks => clock_When_p1_G (zqdw c_clock_From c_clock_Meet i) d ks) mixed tab_ok hΓ rfl (by kernel_rfl) CutsOk_nil (fun _ _ => rfl) (fun i => @fun β d ks r h => Eq.trans (b := clock_When_p1_G (zqdw c_clock_From c_clock_Meet (i + 1)) d ks) (by kernel_rfl) h) i
def zqdy (p1 : zqds) {β : Type} (r_ : zq2) (host : Int) (clock : Int) (k : ((Int × Int) → Bool → Option β)) : Option β :=
  c_clock_Valid r_ (fun (rValid : Bool) =>
  cond (!rValid)
  (k ((0 : Int), (0 : Int)) false)
  (c_clock_in host (0 : Int) (IntKind.i64.wrap ((List.length r_.1 : Int) - (1 : Int))) (fun (rin : Bool) =>
  cond (!rin)
  (k ((0 : Int), (0 : Int)) false)
  (c_clock_instant clock (fun (rinstant : Bool) =>
  cond (!rinstant)
  (k ((0 : Int), (0 : Int)) false)
  (p1 (fun (t6 : Int) (t62 : Int) (out : Int) (out2 : Int) =>
  c_clock_Empty (out, out2) (fun (rEmpty : Bool) =>
  k (out, out2) (!rEmpty))) host clock r_.2.1 (List.length r_.2.1 : Int) (0 : Int) r_.1 r_.2.1 r_.2.2.1 r_.2.2.2 (0 : Int) (0 : Int) (0 : Int) (8589934592 : Int)))))))
theorem zqdz (hΓ : ΓOk Tryd.prog (clock_When_X c_clock_Empty c_clock_From c_clock_Meet c_clock_Valid c_clock_in c_clock_instant).Γ) (p1 : zqds) (hp1 : PieceOk Tryd.prog 56 0 clock_When_p1_code zqdt zqdu (clock_When_p1_G p1)) : SpecOk Tryd.prog 58 (zqdq (zqdy c_clock_Empty c_clock_Valid c_clock_in c_clock_instant p1)) :=
  spec_exec (X := (clock_When_X c_clock_Empty c_clock_From c_clock_Meet c_clock_Valid c_clock_in c_clock_instant)) (Λ := pick1 [(122, pieceCut zqdt zqdu (clock_When_p1_G p1))]) (rs := [.cell 6 44, .tmp 7]) (c := bodyOf Tryd.f58) mixed tab_ok hΓ Tryd.func58 (by kernel_rfl) (by kernel_rfl) (by kernel_rfl) (by kernel_rfl) (CutsOk_cons (q := 122) (c' := clock_When_p1_code) (by kernel_rfl) rfl hp1 CutsOk_nil) (fun x k r h => Eq.trans (b := (zqdq (zqdy c_clock_Empty c_clock_Valid c_clock_in c_clock_instant p1)).run x k) (by kernel_rfl) h)
end
theorem zqe0Γ : ΓOk Tryd.prog (pick1 [(81, .spec (zq6n zq6r)), (80, .spec (zqc8 zqcc)), (79, .spec (zq6g zq6k)), (23, .spec (zqa9 zqbp)), (39, .spec (zq37 zq3b)), (41, .spec (zq3e zq3i))]) := (ΓOk_cons zq6s (ΓOk_cons zqcd (ΓOk_cons zq6l (ΓOk_cons zqbq (ΓOk_cons zq3c (ΓOk_cons zq3j ΓOk_nil))))))
def zqe1 (m : Nat) : zqds := zqdw zqcc zq6k m
theorem zqe2 {β : Type} (i : Nat) (k1 host clock t31 t32 t33 r_ r_2 r_3 r_4 t6 t62 out out2) : (zqe1 (i + 1) k1 host clock t31 t32 t33 r_ r_2 r_3 r_4 t6 t62 out out2 : Option β) = zqdv zqcc zq6k (zqe1 i k1) k1 host clock t31 t32 t33 r_ r_2 r_3 r_4 t6 t62 out out2 := rfl
def zqe3 : zqds := zqe1 fuel
theorem zqe4 : PieceOk Tryd.prog 56 0 clock_When_p1_code zqdt zqdu (clock_When_p1_G zqe3) := zqdx zq6r zqcc zq6k zqbp zq3b zq3i zqe0Γ fuel
def zqe5 : zqdp := zqdy zq6r zqbp zq3b zq3i zqe3
theorem zqe6 : SpecOk Tryd.prog 58 (zqdq zqe5) := zqdz zq6r zqcc zq6k zqbp zq3b zq3i zqe0Γ zqe3 zqe4

/-- slices.IndexFunc[[]pagewatch/api.Diff,pagewatch/api.Diff] -/
abbrev zqe7 := {β : Type} → (List (Int × (Int × Int))) → Int → (Int → Int → Option β) → Option β
def zqe8 (c : zqe7) : Spec :=
  ⟨[(false, [.data (.slice (.prod (.int .i64) (.prod (.int .i64) (.int .i64))))]), (false, [.fn 85 [0]])], [.cells 3 [.data (.int .i64)]], [(false, [.data (.int .i64)])], [.cells 3 [.data (.int .i64)]], fun x k => c x.1.1.1 x.2.1.1 (fun r0 r1 => k (((r0, ()), ()), ((r1, ()), ())))⟩
noncomputable def slices_IndexFunc_api_Diff_api_Diff_vconstraint_Valid_f1_p1_code : Code := codeAt 26 (bodyOf Tryd.f97)
abbrev zqe9 (β : Type) := Int → Int → Option β
abbrev zqea (β : Type) := Int → Option β
abbrev zqeb := {β : Type} → zqe9 β → zqea β → (List (Int × (Int × Int))) → Int → Int → Int → Option β
def zqec : View := ⟨1, [0, 1, 7, 8], [(false, [.data (.slice (.prod (.int .i64) (.prod (.int .i64) (.int .i64))))]), (false, [.fn 85 [0]]), (false, [.data (.int .i64)]), (false, [.data (.int .i64)])], [.cells 3 [.data (.int .i64)]]⟩
def zqed : List (AExit × View) := [(.ret, ⟨1, [4], [(false, [.data (.int .i64)])], [.cells 3 [.data (.int .i64)]]⟩), (.exit 0, ⟨1, [], [], [.cells 3 [.data (.int .i64)]]⟩)]
@[reducible] def slices_IndexFunc_api_Diff_api_Diff_vconstraint_Valid_f1_p1_G (p : zqeb) {β : Type} (d : zqec.den) (ks : Outs.K β zqed) : Option β :=
  p (fun a0 a1 => ks.1 (((a0, ()), ()), ((a1, ()), ()))) (fun a0 => ks.2.1 ((), ((a0, ()), ()))) d.1.1.1 d.1.2.2.1.1 d.1.2.2.2.1.1 d.2.1.1
section
variable (c_constraint_Valid_f1 : zq70)
@[reducible] def slices_IndexFunc_api_Diff_api_Diff_vconstraint_Valid_f1_X : Ctx := ⟨look tab, pick1 [(85, .spec (zq71 c_constraint_Valid_f1))], false, false, false, false⟩
def zqee {β : Type} (rec : (List (Int × (Int × Int))) → Int → Int → Int → Option β) (k1 : zqe9 β) (k2 : zqea β) (s : List (Int × (Int × Int))) (t7 : Int) (t8 : Int) (b0_ : Int) : Option β :=
  cond (decide (t8 < t7))
  (cond (decide (0 ≤ t8) && decide (t8 < (List.length s : Int)))
  (let e : (Int × (Int × Int)) := List.getD s (Int.toNat t8) ((0 : Int), ((0 : Int), (0 : Int)));
  c_constraint_Valid_f1 e b0_ (fun (rValid1 : Bool) (mrValid1 : Int) =>
  cond rValid1
  (k1 t8 mrValid1)
  (rec s t7 (IntKind.i64.wrap (t8 + (1 : Int))) mrValid1)))
  none)
  (k2 b0_)
def zqef {β : Type} : Nat → zqe9 β → zqea β → (List (Int × (Int × Int))) → Int → Int → Int → Option β
  | 0 => fun _ _ _ _ _ _ => none
  | i + 1 => fun k1 k2 s t7 t8 b0_ => zqee c_constraint_Valid_f1 (zqef i k1 k2) k1 k2 s t7 t8 b0_
theorem zqeg (hΓ : ΓOk Tryd.prog (slices_IndexFunc_api_Diff_api_Diff_vconstraint_Valid_f1_X c_constraint_Valid_f1).Γ) (i : Nat) : PieceOk Tryd.prog 19 1 slices_IndexFunc_api_Diff_api_Diff_vconstraint_Valid_f1_p1_code zqec zqed (slices_IndexFunc_api_Diff_api_Diff_vconstraint_Valid_f1_p1_G (zqef c_constraint_Valid_f1 i)) := by
  rw [show slices_IndexFunc_api_Diff_api_Diff_vconstraint_Valid_f1_p1_code = .loop (loopBody slices_IndexFunc_api_Diff_api_Diff_vconstraint_Valid_f1_p1_code) by kernel_rfl]
  exact piece_loop (X := (slices_IndexFunc_api_Diff_api_Diff_vconstraint_Valid_f1_X c_constraint_Valid_f1)) (p := 1) (Λ := pick1 []) (G := fun i => @fun β d ks => slices_IndexFunc_api_Diff_api_Diff_vconstraint_Valid_f1_p1_G (zqef c_constraint_Valid_f1 i) d ks) mixed tab_ok hΓ rfl (by kernel_rfl) CutsOk_nil (fun _ _ => rfl) (fun i => @fun β d ks r h => Eq.trans (b := slices_IndexFunc_api_Diff_api_Diff_vconstraint_Valid_f1_p1_G (zqef c_constraint_Valid_f1 (i + 1)) d ks) (by kernel_rfl) h) i
def zqeh (p1 : zqeb) {β : Type} (s : List (Int × (Int × Int))) (b0_ : Int) (k : (Int → Int → Option β)) : Option β :=
  p1 (fun (t4 : Int) (b0_2 : Int) =>
  k t4 b0_2) (fun (b0_2 : Int) =>
  k (-1 : Int) b0_2) s (List.length s : Int) (0 : Int) b0_
theorem zqei (hΓ : ΓOk Tryd.prog (slices_IndexFunc_api_Diff_api_Diff_vconstraint_Valid_f1_X c_constraint_Valid_f1).Γ) (p1 : zqeb) (hp1 : PieceOk Tryd.prog 19 1 slices_IndexFunc_api_Diff_api_Diff_vconstraint_Valid_f1_p1_code zqec zqed (slices_IndexFunc_api_Diff_api_Diff_vconstraint_Valid_f1_p1_G p1)) : SpecOk Tryd.prog 97 (zqe8 (zqeh p1)) :=
  spec_exec (X := (slices_IndexFunc_api_Diff_api_Diff_vconstraint_Valid_f1_X c_constraint_Valid_f1)) (Λ := pick1 [(26, pieceCut zqec zqed (slices_IndexFunc_api_Diff_api_Diff_vconstraint_Valid_f1_p1_G p1))]) (rs := [.tmp 4]) (c := bodyOf Tryd.f97) mixed tab_ok hΓ Tryd.func97 (by kernel_rfl) (by kernel_rfl) (by kernel_rfl) (by kernel_rfl) (CutsOk_cons (q := 26) (c' := slices_IndexFunc_api_Diff_api_Diff_vconstraint_Valid_f1_p1_code) (by kernel_rfl) rfl hp1 CutsOk_nil) (fun x k r h => Eq.trans (b := (zqe8 (zqeh p1)).run x k) (by kernel_rfl) h)
end
theorem zqejΓ : ΓOk Tryd.prog (pick1 [(85, .spec (zq71 zq75))]) := (ΓOk_cons zq76 ΓOk_nil)
def zqek (m : Nat) : zqeb := zqef zq75 m
theorem zqel {β : Type} (i : Nat) (k1 k2 s t7 t8 b0_) : (zqek (i + 1) k1 k2 s t7 t8 b0_ : Option β) = zqee zq75 (zqek i k1 k2) k1 k2 s t7 t8 b0_ := rfl
def zqem : zqeb := zqek fuel
theorem zqen : PieceOk Tryd.prog 19 1 slices_IndexFunc_api_Diff_api_Diff_vconstraint_Valid_f1_p1_code zqec zqed (slices_IndexFunc_api_Diff_api_Diff_vconstraint_Valid_f1_p1_G zqem) := zqeg zq75 zqejΓ fuel
def zqeo : zqe7 := zqeh zqem
theorem zqep : SpecOk Tryd.prog 97 (zqe8 zqeo) := zqei zq75 zqejΓ zqem zqen

/-- pagewatch/order.Constraints -/
abbrev zqeq := {β : Type} → zq2 → (Bool → (List (Int × (Int × Int))) → Option β) → Option β
def zqer (c : zqeq) : Spec :=
  ⟨[(true, [.data zq3])], [], [(false, [.rowh 0]), (false, [.data .bool])], [.row 123 (.prod (.int .i64) (.prod (.int .i64) (.int .i64)))], fun x k => c x.1.1.1 (fun r0 r1 => k (((), (r0, ()), ()), (r1, ())))⟩
noncomputable def order_Constraints_p1_code : Code := codeAt 122 (bodyOf Tryd.f46)
noncomputable def order_Constraints_p3_code : Code := codeAt 250 (bodyOf Tryd.f46)
noncomputable def order_Constraints_p4_code : Code := codeAt 506 (bodyOf Tryd.f46)
noncomputable def order_Constraints_p2_code : Code := codeAt 230 (loopBody order_Constraints_p3_code)
abbrev zqes (β : Type) := Bool → (List (Int × (Int × Int))) → Option β
abbrev zqet (β : Type) := (List (List UInt8 × Int)) → (List (Int × (Int × (Int × Int)))) → (List zq0) → (List (Int × (Int × Int))) → (List (Int × (Int × Int))) → Option β
abbrev zqeu := {β : Type} → zqes β → zqet β → (List zq0) → Int → Int → (List (List UInt8 × Int)) → (List (Int × (Int × (Int × Int)))) → (List zq0) → (List (Int × (Int × Int))) → (List (Int × (Int × Int))) → Option β
def zqev : View := ⟨0, [1, 4, 18, 19, 20], [(false, [.ptr 0 0]), (false, [.rowh 1]), (false, [.data (.slice zq1)]), (false, [.data (.int .i64)]), (false, [.data (.int .i64)])], [.cells 32 [.data (.slice (.prod .str (.int .i64))), .data (.slice (.prod (.int .i64) (.prod (.int .i64) (.prod (.int .i64) (.int .i64))))), .data (.slice zq1), .data (.slice (.prod (.int .i64) (.prod (.int .i64) (.int .i64))))], .row 123 (.prod (.int .i64) (.prod (.int .i64) (.int .i64)))]⟩
def zqew : List (AExit × View) := [(.ret, ⟨0, [2, 3], [(false, [.rowh 0]), (false, [.data .bool])], [.row 123 (.prod (.int .i64) (.prod (.int .i64) (.int .i64)))]⟩), (.exit 0, ⟨0, [1, 4], [(false, [.ptr 0 0]), (false, [.rowh 1])], [.cells 32 [.data (.slice (.prod .str (.int .i64))), .data (.slice (.prod (.int .i64) (.prod (.int .i64) (.prod (.int .i64) (.int .i64))))), .data (.slice zq1), .data (.slice (.prod (.int .i64) (.prod (.int .i64) (.int .i64))))], .row 123 (.prod (.int .i64) (.prod (.int .i64) (.int .i64)))]⟩)]
@[reducible] def order_Constraints_p1_G (p : zqeu) {β : Type} (d : zqev.den) (ks : Outs.K β zqew) : Option β :=
  p (fun a0 a1 => ks.1 (((), (a0, ()), ()), (a1, ()))) (fun a0 a1 a2 a3 a4 => ks.2.1 (((), (), ()), ((a0, a1, a2, a3, ()), a4, ()))) d.1.2.2.1.1 d.1.2.2.2.1.1 d.1.2.2.2.2.1.1 d.2.1.1 d.2.1.2.1 d.2.1.2.2.1 d.2.1.2.2.2.1 d.2.2.1
abbrev zqex (β : Type) := (List zq0) → Int → Int → (List (List UInt8 × Int)) → (List (Int × (Int × (Int × Int)))) → (List zq0) → (List (Int × (Int × Int))) → (List (Int × (Int × Int))) → Option β
abbrev zqey := {β : Type} → zqex β → Int → Int → (List zq0) → Int → Int → (List (List UInt8 × Int)) → (List (Int × (Int × (Int × Int)))) → (List zq0) → (List (Int × (Int × Int))) → (List (Int × (Int × Int))) → Int → Int → (List UInt8) → Option β
def zqez : View := ⟨0, [1, 4, 9, 10, 11, 52, 53, 54], [(false, [.ptr 0 0]), (false, [.rowh 1]), (false, [.data (.int .i64)]), (false, [.ptr 2 0]), (false, [.data (.int .i64)]), (false, [.data (.slice zq1)]), (false, [.data (.int .i64)]), (false, [.data (.int .i64)])], [.cells 32 [.data (.slice (.prod .str (.int .i64))), .data (.slice (.prod (.int .i64) (.prod (.int .i64) (.prod (.int .i64) (.int .i64))))), .data (.slice zq1), .data (.slice (.prod (.int .i64) (.prod (.int .i64) (.int .i64))))], .row 123 (.prod (.int .i64) (.prod (.int .i64) (.int .i64))), .cells 49 [.data (.int .i64), .data (.int .i64), .data .str]]⟩
def zqf0 : List (AExit × View) := [(.exit 4, ⟨0, [1, 4, 52, 53, 54], [(false, [.ptr 0 0]), (false, [.rowh 1]), (false, [.data (.slice zq1)]), (false, [.data (.int .i64)]), (false, [.data (.int .i64)])], [.cells 32 [.data (.slice (.prod .str (.int .i64))), .data (.slice (.prod (.int .i64) (.prod (.int .i64) (.prod (.int .i64) (.int .i64))))), .data (.slice zq1), .data (.slice (.prod (.int .i64) (.prod (.int .i64) (.int .i64))))], .row 123 (.prod (.int .i64) (.prod (.int .i64) (.int .i64)))]⟩)]
@[reducible] def order_Constraints_p2_G (p : zqey) {β : Type} (d : zqez.den) (ks : Outs.K β zqf0) : Option β :=
  p (fun a0 a1 a2 a3 a4 a5 a6 a7 => ks.1 (((), (), (a0, ()), (a1, ()), (a2, ()), ()), ((a3, a4, a5, a6, ()), a7, ()))) d.1.2.2.1.1 d.1.2.2.2.2.1.1 d.1.2.2.2.2.2.1.1 d.1.2.2.2.2.2.2.1.1 d.1.2.2.2.2.2.2.2.1.1 d.2.1.1 d.2.1.2.1 d.2.1.2.2.1 d.2.1.2.2.2.1 d.2.2.1 d.2.2.2.1.1 d.2.2.2.1.2.1 d.2.2.2.1.2.2.1
abbrev zqf1 (β : Type) := (List (List UInt8 × Int)) → (List (Int × (Int × (Int × Int)))) → (List zq0) → (List (Int × (Int × Int))) → (List (Int × (Int × Int))) → Option β
abbrev zqf2 := {β : Type} → zqf1 β → (List zq0) → Int → Int → (List (List UInt8 × Int)) → (List (Int × (Int × (Int × Int)))) → (List zq0) → (List (Int × (Int × Int))) → (List (Int × (Int × Int))) → Option β
def zqf3 : View := ⟨0, [1, 4, 52, 53, 54], [(false, [.ptr 0 0]), (false, [.rowh 1]), (false, [.data (.slice zq1)]), (false, [.data (.int .i64)]), (false, [.data (.int .i64)])], [.cells 32 [.data (.slice (.prod .str (.int .i64))), .data (.slice (.prod (.int .i64) (.prod (.int .i64) (.prod (.int .i64) (.int .i64))))), .data (.slice zq1), .data (.slice (.prod (.int .i64) (.prod (.int .i64) (.int .i64))))], .row 123 (.prod (.int .i64) (.prod (.int .i64) (.int .i64)))]⟩
def zqf4 : List (AExit × View) := [(.exit 2, ⟨0, [1, 4], [(false, [.ptr 0 0]), (false, [.rowh 1])], [.cells 32 [.data (.slice (.prod .str (.int .i64))), .data (.slice (.prod (.int .i64) (.prod (.int .i64) (.prod (.int .i64) (.int .i64))))), .data (.slice zq1), .data (.slice (.prod (.int .i64) (.prod (.int .i64) (.int .i64))))], .row 123 (.prod (.int .i64) (.prod (.int .i64) (.int .i64)))]⟩)]
@[reducible] def order_Constraints_p3_G (p : zqf2) {β : Type} (d : zqf3.den) (ks : Outs.K β zqf4) : Option β :=
  p (fun a0 a1 a2 a3 a4 => ks.1 (((), (), ()), ((a0, a1, a2, a3, ()), a4, ()))) d.1.2.2.1.1 d.1.2.2.2.1.1 d.1.2.2.2.2.1.1 d.2.1.1 d.2.1.2.1 d.2.1.2.2.1 d.2.1.2.2.2.1 d.2.2.1
abbrev zqf5 (β : Type) := (List (Int × (Int × Int))) → Option β
abbrev zqf6 := {β : Type} → zqf5 β → (List (Int × (Int × Int))) → Int → Int → (List (Int × (Int × Int))) → Option β
def zqf7 : View := ⟨0, [4, 85, 86, 87], [(false, [.rowh 0]), (false, [.data (.slice (.prod (.int .i64) (.prod (.int .i64) (.int .i64))))]), (false, [.data (.int .i64)]), (false, [.data (.int .i64)])], [.row 123 (.prod (.int .i64) (.prod (.int .i64) (.int .i64)))]⟩
def zqf8 : List (AExit × View) := [(.exit 6, ⟨0, [4], [(false, [.rowh 0])], [.row 123 (.prod (.int .i64) (.prod (.int .i64) (.int .i64)))]⟩)]
@[reducible] def order_Constraints_p4_G (p : zqf6) {β : Type} (d : zqf7.den) (ks : Outs.K β zqf8) : Option β :=
  p (fun a0 => ks.1 (((), ()), (a0, ()))) d.1.2.1.1 d.1.2.2.1.1 d.1.2.2.2.1.1 d.2.1
section
variable (c_clock_Valid : zqa8) (c_clock_When : zqdp) (c_order_pair : zqbr)
@[reducible] def order_Constraints_X : Ctx := ⟨look tab, pick1 [(23, .spec (zqa9 c_clock_Valid)), (58, .spec (zqdq c_clock_When)), (59, .spec (zqbs c_order_pair))], false, false, false, false⟩
def zqf9 {β : Type} (rec : (List zq0) → Int → Int → (List (List UInt8 × Int)) → (List (Int × (Int × (Int × Int)))) → (List zq0) → (List (Int × (Int × Int))) → (List (Int × (Int × Int))) → Option β) (k1 : zqes β) (k2 : zqet β) (t18 : List zq0) (t19 : Int) (t20 : Int) (r_ : List (List UInt8 × Int)) (r_2 : List (Int × (Int × (Int × Int)))) (r_3 : List zq0) (r_4 : List (Int × (Int × Int))) (out : List (Int × (Int × Int))) : Option β :=
  cond (decide (t20 < t19))
  (cond (decide (0 ≤ t20) && decide (t20 < (List.length t18 : Int)))
  (let e : zq0 := List.getD t18 (Int.toNat t20) ((0 : Int), ((0 : Int), ([] : List UInt8)));
  c_clock_When (r_, (r_2, (r_3, r_4))) e.1 e.2.1 (fun (rWhen : (Int × Int)) (rWhen2 : Bool) =>
  cond (!rWhen2)
  (k1 false ([] : List (Int × (Int × Int))))
  (let l : List (Int × (Int × Int)) := ([((0 : Int), ((IntKind.i64.wrap (t20 + (1 : Int))), rWhen.2)), ((IntKind.i64.wrap (t20 + (1 : Int))), ((0 : Int), (IntKind.i64.wrap (0 - rWhen.1))))] : List (Int × (Int × Int)));
  cond (decide ((List.length out + List.length l) * 24 ≤ roomMax))
  (let l2 : List (Int × (Int × Int)) := (out ++ l);
  rec t18 t19 (IntKind.i64.wrap (t20 + (1 : Int))) r_ r_2 r_3 r_4 l2)
  none)))
  none)
  (k2 r_ r_2 r_3 r_4 out)
def zqfa {β : Type} : Nat → zqes β → zqet β → (List zq0) → Int → Int → (List (List UInt8 × Int)) → (List (Int × (Int × (Int × Int)))) → (List zq0) → (List (Int × (Int × Int))) → (List (Int × (Int × Int))) → Option β
  | 0 => fun _ _ _ _ _ _ _ _ _ _ => none
  | i + 1 => fun k1 k2 t18 t19 t20 r_ r_2 r_3 r_4 out => zqf9 c_clock_When (zqfa i k1 k2) k1 k2 t18 t19 t20 r_ r_2 r_3 r_4 out
theorem zqfb (hΓ : ΓOk Tryd.prog (order_Constraints_X c_clock_Valid c_clock_When c_order_pair).Γ) (i : Nat) : PieceOk Tryd.prog 106 0 order_Constraints_p1_code zqev zqew (order_Constraints_p1_G (zqfa c_clock_When i)) := by
  rw [show order_Constraints_p1_code = .loop (loopBody order_Constraints_p1_code) by kernel_rfl]
  exact piece_loop (X := (order_Constraints_X c_clock_Valid c_clock_When c_order_pair)) (p := 1) (Λ := pick1 []) (G := fun i => @fun β d ks => order_Constraints_p1_G (zqfa c_clock_When i) d ks) mixed tab_ok hΓ rfl (by kernel_rfl) CutsOk_nil (fun _ _ => rfl) (fun i => @fun β d ks r h => Eq.trans (b := order_Constraints_p1_G (zqfa c_clock_When (i + 1)) d ks) (by kernel_rfl) h) i
def zqfc {β : Type} (rec : Int → Int → (List zq0) → Int → Int → (List (List UInt8 × Int)) → (List (Int × (Int × (Int × Int)))) → (List zq0) → (List (Int × (Int × Int))) → (List (Int × (Int × Int))) → Int → Int → (List UInt8) → Option β) (k1 : zqex β) (i_ : Int) (j : Int) (t52 : List zq0) (t53 : Int) (t54 : Int) (r_ : List (List UInt8 × Int)) (r_2 : List (Int × (Int × (Int × Int)))) (r_3 : List zq0) (r_4 : List (Int × (Int × Int))) (out : List (Int × (Int × Int))) (a : Int) (a2 : Int) (a3 : List UInt8) : Option β :=
  cond (decide (j < (List.length r_3 : Int)))
  (cond (decide (0 ≤ j) && decide (j < (List.length r_3 : Int)))
  (let e : zq0 := List.getD r_3 (Int.toNat j) ((0 : Int), ((0 : Int), ([] : List UInt8)));
  cond (decide (e.1 = a))
  (c_order_pair (r_, (r_2, (r_3, r_4))) i_ j (fun (lrpair : List (Int × (Int × Int))) =>
  cond (decide ((List.length out + List.length lrpair) * 24 ≤ roomMax))
  (let l : List (Int × (Int × Int)) := (out ++ lrpair);
  let j2 : Int := (IntKind.i64.wrap (j + (1 : Int)));
  rec i_ j2 t52 t53 t54 r_ r_2 r_3 r_4 l a a2 a3)
  none))
  (let j2 : Int := (IntKind.i64.wrap (j + (1 : Int)));
  rec i_ j2 t52 t53 t54 r_ r_2 r_3 r_4 out a a2 a3))
  none)
  (k1 t52 t53 t54 r_ r_2 r_3 r_4 out)
def zqfd {β : Type} : Nat → zqex β → Int → Int → (List zq0) → Int → Int → (List (List UInt8 × Int)) → (List (Int × (Int × (Int × Int)))) → (List zq0) → (List (Int × (Int × Int))) → (List (Int × (Int × Int))) → Int → Int → (List UInt8) → Option β
  | 0 => fun _ _ _ _ _ _ _ _ _ _ _ _ _ _ => none
  | i + 1 => fun k1 i_ j t52 t53 t54 r_ r_2 r_3 r_4 out a a2 a3 => zqfc c_order_pair (zqfd i k1) k1 i_ j t52 t53 t54 r_ r_2 r_3 r_4 out a a2 a3
theorem zqfe (hΓ : ΓOk Tryd.prog (order_Constraints_X c_clock_Valid c_clock_When c_order_pair).Γ) (i : Nat) : PieceOk Tryd.prog 106 0 order_Constraints_p2_code zqez zqf0 (order_Constraints_p2_G (zqfd c_order_pair i)) := by
  rw [show order_Constraints_p2_code = .loop (loopBody order_Constraints_p2_code) by kernel_rfl]
  exact piece_loop (X := (order_Constraints_X c_clock_Valid c_clock_When c_order_pair)) (p := 1) (Λ := pick1 []) (G := fun i => @fun β d ks => order_Constraints_p2_G (zqfd c_order_pair i) d ks) mixed tab_ok hΓ rfl (by kernel_rfl) CutsOk_nil (fun _ _ => rfl) (fun i => @fun β d ks r h => Eq.trans (b := order_Constraints_p2_G (zqfd c_order_pair (i + 1)) d ks) (by kernel_rfl) h) i
def zqff (p2 : zqey) {β : Type} (rec : (List zq0) → Int → Int → (List (List UInt8 × Int)) → (List (Int × (Int × (Int × Int)))) → (List zq0) → (List (Int × (Int × Int))) → (List (Int × (Int × Int))) → Option β) (k1 : zqf1 β) (t52 : List zq0) (t53 : Int) (t54 : Int) (r_ : List (List UInt8 × Int)) (r_2 : List (Int × (Int × (Int × Int)))) (r_3 : List zq0) (r_4 : List (Int × (Int × Int))) (out : List (Int × (Int × Int))) : Option β :=
  cond (decide (t54 < t53))
  (cond (decide (0 ≤ t54) && decide (t54 < (List.length t52 : Int)))
  (let e : zq0 := List.getD t52 (Int.toNat t54) ((0 : Int), ((0 : Int), ([] : List UInt8)));
  let j : Int := (IntKind.i64.wrap (t54 + (1 : Int)));
  p2 (fun (t522 : List zq0) (t532 : Int) (t542 : Int) (r_5 : List (List UInt8 × Int)) (r_6 : List (Int × (Int × (Int × Int)))) (r_7 : List zq0) (r_8 : List (Int × (Int × Int))) (out2 : List (Int × (Int × Int))) =>
  rec t522 t532 (IntKind.i64.wrap (t542 + (1 : Int))) r_5 r_6 r_7 r_8 out2) t54 j t52 t53 t54 r_ r_2 r_3 r_4 out e.1 e.2.1 e.2.2)
  none)
  (k1 r_ r_2 r_3 r_4 out)
def zqfg (p2 : zqey) {β : Type} : Nat → zqf1 β → (List zq0) → Int → Int → (List (List UInt8 × Int)) → (List (Int × (Int × (Int × Int)))) → (List zq0) → (List (Int × (Int × Int))) → (List (Int × (Int × Int))) → Option β
  | 0 => fun _ _ _ _ _ _ _ _ _ => none
  | i + 1 => fun k1 t52 t53 t54 r_ r_2 r_3 r_4 out => zqff p2 (zqfg p2 i k1) k1 t52 t53 t54 r_ r_2 r_3 r_4 out
theorem zqfh (hΓ : ΓOk Tryd.prog (order_Constraints_X c_clock_Valid c_clock_When c_order_pair).Γ) (p2 : zqey) (hp2 : PieceOk Tryd.prog 106 0 order_Constraints_p2_code zqez zqf0 (order_Constraints_p2_G p2)) (i : Nat) : PieceOk Tryd.prog 106 0 order_Constraints_p3_code zqf3 zqf4 (order_Constraints_p3_G (zqfg p2 i)) := by
  rw [show order_Constraints_p3_code = .loop (loopBody order_Constraints_p3_code) by kernel_rfl]
  exact piece_loop (X := (order_Constraints_X c_clock_Valid c_clock_When c_order_pair)) (p := 1) (Λ := pick1 [(230, pieceCut zqez zqf0 (order_Constraints_p2_G p2))]) (G := fun i => @fun β d ks => order_Constraints_p3_G (zqfg p2 i) d ks) mixed tab_ok hΓ rfl (by kernel_rfl) (CutsOk_cons (q := 230) (c' := order_Constraints_p2_code) (by kernel_rfl) rfl hp2 CutsOk_nil) (fun _ _ => rfl) (fun i => @fun β d ks r h => Eq.trans (b := order_Constraints_p3_G (zqfg p2 (i + 1)) d ks) (by kernel_rfl) h) i
def zqfi {β : Type} (rec : (List (Int × (Int × Int))) → Int → Int → (List (Int × (Int × Int))) → Option β) (k1 : zqf5 β) (t85 : List (Int × (Int × Int))) (t86 : Int) (t87 : Int) (out : List (Int × (Int × Int))) : Option β :=
  cond (decide (t87 < t86))
  (cond (decide (0 ≤ t87) && decide (t87 < (List.length t85 : Int)))
  (let e : (Int × (Int × Int)) := List.getD t85 (Int.toNat t87) ((0 : Int), ((0 : Int), (0 : Int)));
  let l : List (Int × (Int × Int)) := ([((IntKind.i64.wrap (e.2.1 + (1 : Int))), ((IntKind.i64.wrap (e.1 + (1 : Int))), (IntKind.i64.wrap (0 - e.2.2))))] : List (Int × (Int × Int)));
  cond (decide ((List.length out + List.length l) * 24 ≤ roomMax))
  (let l2 : List (Int × (Int × Int)) := (out ++ l);
  rec t85 t86 (IntKind.i64.wrap (t87 + (1 : Int))) l2)
  none)
  none)
  (k1 out)
def zqfj {β : Type} : Nat → zqf5 β → (List (Int × (Int × Int))) → Int → Int → (List (Int × (Int × Int))) → Option β
  | 0 => fun _ _ _ _ _ => none
  | i + 1 => fun k1 t85 t86 t87 out => zqfi (zqfj i k1) k1 t85 t86 t87 out
theorem zqfk (hΓ : ΓOk Tryd.prog (order_Constraints_X c_clock_Valid c_clock_When c_order_pair).Γ) (i : Nat) : PieceOk Tryd.prog 106 0 order_Constraints_p4_code zqf7 zqf8 (order_Constraints_p4_G (zqfj i)) := by
  rw [show order_Constraints_p4_code = .loop (loopBody order_Constraints_p4_code) by kernel_rfl]
  exact piece_loop (X := (order_Constraints_X c_clock_Valid c_clock_When c_order_pair)) (p := 1) (Λ := pick1 []) (G := fun i => @fun β d ks => order_Constraints_p4_G (zqfj i) d ks) mixed tab_ok hΓ rfl (by kernel_rfl) CutsOk_nil (fun _ _ => rfl) (fun i => @fun β d ks r h => Eq.trans (b := order_Constraints_p4_G (zqfj (i + 1)) d ks) (by kernel_rfl) h) i
def zqfl (p1 : zqeu) (p3 : zqf2) (p4 : zqf6) {β : Type} (r_ : zq2) (k : (Bool → (List (Int × (Int × Int))) → Option β)) : Option β :=
  c_clock_Valid r_ (fun (rValid : Bool) =>
  cond (!rValid)
  (k false ([] : List (Int × (Int × Int))))
  (p1 (fun (t3 : Bool) (t2 : List (Int × (Int × Int))) =>
  k t3 t2) (fun (r_2 : List (List UInt8 × Int)) (r_3 : List (Int × (Int × (Int × Int)))) (r_4 : List zq0) (r_5 : List (Int × (Int × Int))) (out : List (Int × (Int × Int))) =>
  p3 (fun (r_6 : List (List UInt8 × Int)) (r_7 : List (Int × (Int × (Int × Int)))) (r_8 : List zq0) (r_9 : List (Int × (Int × Int))) (out2 : List (Int × (Int × Int))) =>
  p4 (fun (out3 : List (Int × (Int × Int))) =>
  k true out3) r_9 (List.length r_9 : Int) (0 : Int) out2) r_4 (List.length r_4 : Int) (0 : Int) r_2 r_3 r_4 r_5 out) r_.2.2.1 (List.length r_.2.2.1 : Int) (0 : Int) r_.1 r_.2.1 r_.2.2.1 r_.2.2.2 ([] : List (Int × (Int × Int)))))
theorem zqfm (hΓ : ΓOk Tryd.prog (order_Constraints_X c_clock_Valid c_clock_When c_order_pair).Γ) (p1 : zqeu) (p3 : zqf2) (p4 : zqf6) (hp1 : PieceOk Tryd.prog 106 0 order_Constraints_p1_code zqev zqew (order_Constraints_p1_G p1)) (hp3 : PieceOk Tryd.prog 106 0 order_Constraints_p3_code zqf3 zqf4 (order_Constraints_p3_G p3)) (hp4 : PieceOk Tryd.prog 106 0 order_Constraints_p4_code zqf7 zqf8 (order_Constraints_p4_G p4)) : SpecOk Tryd.prog 46 (zqer (zqfl c_clock_Valid p1 p3 p4)) :=
  spec_exec (X := (order_Constraints_X c_clock_Valid c_clock_When c_order_pair)) (Λ := pick1 [(122, pieceCut zqev zqew (order_Constraints_p1_G p1)), (250, pieceCut zqf3 zqf4 (order_Constraints_p3_G p3)), (506, pieceCut zqf7 zqf8 (order_Constraints_p4_G p4))]) (rs := [.tmp 2, .tmp 3]) (c := bodyOf Tryd.f46) mixed tab_ok hΓ Tryd.func46 (by kernel_rfl) (by kernel_rfl) (by kernel_rfl) (by kernel_rfl) (CutsOk_cons (q := 122) (c' := order_Constraints_p1_code) (by kernel_rfl) rfl hp1 (CutsOk_cons (q := 250) (c' := order_Constraints_p3_code) (by kernel_rfl) rfl hp3 (CutsOk_cons (q := 506) (c' := order_Constraints_p4_code) (by kernel_rfl) rfl hp4 CutsOk_nil))) (fun x k r h => Eq.trans (b := (zqer (zqfl c_clock_Valid p1 p3 p4)).run x k) (by kernel_rfl) h)
end
theorem zqfnΓ : ΓOk Tryd.prog (pick1 [(23, .spec (zqa9 zqbp)), (58, .spec (zqdq zqe5)), (59, .spec (zqbs zqc5))]) := (ΓOk_cons zqbq (ΓOk_cons zqe6 (ΓOk_cons zqc6 ΓOk_nil)))
def zqfo (m : Nat) : zqeu := zqfa zqe5 m
theorem zqfp {β : Type} (i : Nat) (k1 k2 t18 t19 t20 r_ r_2 r_3 r_4 out) : (zqfo (i + 1) k1 k2 t18 t19 t20 r_ r_2 r_3 r_4 out : Option β) = zqf9 zqe5 (zqfo i k1 k2) k1 k2 t18 t19 t20 r_ r_2 r_3 r_4 out := rfl
def zqfq : zqeu := zqfo fuel
theorem zqfr : PieceOk Tryd.prog 106 0 order_Constraints_p1_code zqev zqew (order_Constraints_p1_G zqfq) := zqfb zqbp zqe5 zqc5 zqfnΓ fuel
def zqfs (m : Nat) : zqey := zqfd zqc5 m
theorem zqft {β : Type} (i : Nat) (k1 i_ j t52 t53 t54 r_ r_2 r_3 r_4 out a a2 a3) : (zqfs (i + 1) k1 i_ j t52 t53 t54 r_ r_2 r_3 r_4 out a a2 a3 : Option β) = zqfc zqc5 (zqfs i k1) k1 i_ j t52 t53 t54 r_ r_2 r_3 r_4 out a a2 a3 := rfl
def zqfu : zqey := zqfs fuel
theorem zqfv : PieceOk Tryd.prog 106 0 order_Constraints_p2_code zqez zqf0 (order_Constraints_p2_G zqfu) := zqfe zqbp zqe5 zqc5 zqfnΓ fuel
def zqfw (m : Nat) : zqf2 := zqfg zqfu m
theorem zqfx {β : Type} (i : Nat) (k1 t52 t53 t54 r_ r_2 r_3 r_4 out) : (zqfw (i + 1) k1 t52 t53 t54 r_ r_2 r_3 r_4 out : Option β) = zqff zqfu (zqfw i k1) k1 t52 t53 t54 r_ r_2 r_3 r_4 out := rfl
def zqfy : zqf2 := zqfw fuel
theorem zqfz : PieceOk Tryd.prog 106 0 order_Constraints_p3_code zqf3 zqf4 (order_Constraints_p3_G zqfy) := zqfh zqbp zqe5 zqc5 zqfnΓ zqfu zqfv fuel
def zqg0 (m : Nat) : zqf6 := zqfj m
theorem zqg1 {β : Type} (i : Nat) (k1 t85 t86 t87 out) : (zqg0 (i + 1) k1 t85 t86 t87 out : Option β) = zqfi (zqg0 i k1) k1 t85 t86 t87 out := rfl
def zqg2 : zqf6 := zqg0 fuel
theorem zqg3 : PieceOk Tryd.prog 106 0 order_Constraints_p4_code zqf7 zqf8 (order_Constraints_p4_G zqg2) := zqfk zqbp zqe5 zqc5 zqfnΓ fuel
def zqg4 : zqeq := zqfl zqbp zqfq zqfy zqg2
theorem zqg5 : SpecOk Tryd.prog 46 (zqer zqg4) := zqfm zqbp zqe5 zqc5 zqfnΓ zqfq zqfy zqg2 zqfr zqfz zqg3

/-- slices.ContainsFunc[[]pagewatch/api.Diff,pagewatch/api.Diff] -/
abbrev zqg6 := {β : Type} → (List (Int × (Int × Int))) → Int → (Bool → Int → Option β) → Option β
def zqg7 (c : zqg6) : Spec :=
  ⟨[(false, [.data (.slice (.prod (.int .i64) (.prod (.int .i64) (.int .i64))))]), (false, [.fn 85 [0]])], [.cells 3 [.data (.int .i64)]], [(false, [.data .bool])], [.cells 3 [.data (.int .i64)]], fun x k => c x.1.1.1 x.2.1.1 (fun r0 r1 => k (((r0, ()), ()), ((r1, ()), ())))⟩
section
variable (c_slices_IndexFunc_api_Diff_api_Diff_vconstraint_Valid_f1 : zqe7)
@[reducible] def slices_ContainsFunc_api_Diff_api_Diff_vconstraint_Valid_f1_X : Ctx := ⟨look tab, pick1 [(97, .spec (zqe8 c_slices_IndexFunc_api_Diff_api_Diff_vconstraint_Valid_f1))], false, false, false, false⟩
def zqg8 {β : Type} (s : List (Int × (Int × Int))) (b0_ : Int) (k : (Bool → Int → Option β)) : Option β :=
  c_slices_IndexFunc_api_Diff_api_Diff_vconstraint_Valid_f1 s b0_ (fun (rDiff : Int) (mrDiff : Int) =>
  let t : Bool := (decide ((0 : Int) ≤ rDiff));
  k t mrDiff)
theorem zqg9 (hΓ : ΓOk Tryd.prog (slices_ContainsFunc_api_Diff_api_Diff_vconstraint_Valid_f1_X c_slices_IndexFunc_api_Diff_api_Diff_vconstraint_Valid_f1).Γ) : SpecOk Tryd.prog 84 (zqg7 (zqg8 c_slices_IndexFunc_api_Diff_api_Diff_vconstraint_Valid_f1)) :=
  spec_exec (X := (slices_ContainsFunc_api_Diff_api_Diff_vconstraint_Valid_f1_X c_slices_IndexFunc_api_Diff_api_Diff_vconstraint_Valid_f1)) (Λ := pick1 []) (rs := [.tmp 4]) (c := bodyOf Tryd.f84) mixed tab_ok hΓ Tryd.func84 (by kernel_rfl) (by kernel_rfl) (by kernel_rfl) (by kernel_rfl) CutsOk_nil (fun x k r h => Eq.trans (b := (zqg7 (zqg8 c_slices_IndexFunc_api_Diff_api_Diff_vconstraint_Valid_f1)).run x k) (by kernel_rfl) h)
end
theorem zqgaΓ : ΓOk Tryd.prog (pick1 [(97, .spec (zqe8 zqeo))]) := (ΓOk_cons zqep ΓOk_nil)
def zqgb : zqg6 := zqg8 zqeo
theorem zqgc : SpecOk Tryd.prog 84 (zqg7 zqgb) := zqg9 zqeo zqgaΓ

/-- pagewatch/constraint.Valid -/
abbrev zqgd := {β : Type} → Int → (List (Int × (Int × Int))) → (Bool → Option β) → Option β
def zqge (c : zqgd) : Spec :=
  ⟨[(false, [.data (.int .i64)]), (false, [.data (.slice (.prod (.int .i64) (.prod (.int .i64) (.int .i64))))])], [], [(false, [.data .bool])], [], fun x k => c x.1.1.1 x.1.2.1.1 (fun r0 => k (((r0, ()), ()), ()))⟩
section
variable (c_constraint_in : zq6t) (c_slices_ContainsFunc_api_Diff_api_Diff_vconstraint_Valid_f1 : zqg6)
@[reducible] def constraint_Valid_X : Ctx := ⟨look tab, pick1 [(83, .spec (zq6u c_constraint_in)), (84, .spec (zqg7 c_slices_ContainsFunc_api_Diff_api_Diff_vconstraint_Valid_f1))], false, false, false, false⟩
def zqgf {β : Type} (n : Int) (l : List (Int × (Int × Int))) (k : (Bool → Option β)) : Option β :=
  c_constraint_in n (1 : Int) (41 : Int) (fun (rin : Bool) =>
  cond (!rin)
  (k false)
  (cond (decide ((4000 : Int) < (List.length l : Int)))
  (k false)
  (c_slices_ContainsFunc_api_Diff_api_Diff_vconstraint_Valid_f1 l n (fun (rDiff : Bool) (mrDiff : Int) =>
  k (!rDiff)))))
theorem zqgg (hΓ : ΓOk Tryd.prog (constraint_Valid_X c_constraint_in c_slices_ContainsFunc_api_Diff_api_Diff_vconstraint_Valid_f1).Γ) : SpecOk Tryd.prog 60 (zqge (zqgf c_constraint_in c_slices_ContainsFunc_api_Diff_api_Diff_vconstraint_Valid_f1)) :=
  spec_exec (X := (constraint_Valid_X c_constraint_in c_slices_ContainsFunc_api_Diff_api_Diff_vconstraint_Valid_f1)) (Λ := pick1 []) (rs := [.tmp 4]) (c := bodyOf Tryd.f60) mixed tab_ok hΓ Tryd.func60 (by kernel_rfl) (by kernel_rfl) (by kernel_rfl) (by kernel_rfl) CutsOk_nil (fun x k r h => Eq.trans (b := (zqge (zqgf c_constraint_in c_slices_ContainsFunc_api_Diff_api_Diff_vconstraint_Valid_f1)).run x k) (by kernel_rfl) h)
end
theorem zqghΓ : ΓOk Tryd.prog (pick1 [(83, .spec (zq6u zq6y)), (84, .spec (zqg7 zqgb))]) := (ΓOk_cons zq6z (ΓOk_cons zqgc ΓOk_nil))
def zqgi : zqgd := zqgf zq6y zqgb
theorem zqgj : SpecOk Tryd.prog 60 (zqge zqgi) := zqgg zq6y zqgb zqghΓ
end
end Go.Lift
