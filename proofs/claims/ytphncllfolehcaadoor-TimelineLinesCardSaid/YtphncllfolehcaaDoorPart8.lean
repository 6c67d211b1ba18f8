/- Part8: Fn0. -/
import Derived.Test.YtphncllfolehcaaDoorProg
import Derived.Test.YtphncllfolehcaaDoorPart7
namespace Go.Lift
open Go.Proofs
noncomputable section
set_option maxRecDepth 100000
set_option linter.unusedVariables false

abbrev zq0 := (Int × (Int × List UInt8))
abbrev zq1 : Ty := (.prod (.int .i64) (.prod (.int .i64) .str))
abbrev zq2 := (List (List UInt8 × Int) × (List (Int × (Int × (Int × Int))) × (List zq0 × List (Int × (Int × Int)))))
abbrev zq3 : Ty := (.prod (.slice (.prod .str (.int .i64))) (.prod (.slice (.prod (.int .i64) (.prod (.int .i64) (.prod (.int .i64) (.int .i64))))) (.prod (.slice zq1) (.slice (.prod (.int .i64) (.prod (.int .i64) (.int .i64)))))))
abbrev api_Row := (Int × ((Int × Int) × List Int))
abbrev zq4 : Ty := (.prod (.int .i64) (.prod (.prod (.int .i64) (.int .i64)) (.slice (.int .i64))))

def tab : List (Nat × TI) := [
  (3, ⟨false, 1, 8, [.int .i64 (0 : Int)], [], none, none, (some (.int .i64)), (some .i64), false, false, none, none⟩),
  (4, ⟨false, 1, 1, [.bool false], [], none, none, (some .bool), none, true, false, none, none⟩),
  (5, ⟨false, 1, 1, [.int .u8 (0 : Int)], [], none, none, (some (.int .u8)), (some .u8), false, false, none, none⟩),
  (9, ⟨false, 1, 16, [.str ([] : List UInt8)], [], none, none, (some .str), none, false, true, none, none⟩),
  (22, ⟨false, 1, 24, [.nils], [], (some 3), none, (some (.slice (.int .i64))), none, false, false, none, none⟩),
  (27, ⟨false, 1, 24, [.nils], [], (some 36), none, (some (.slice (.prod .str (.int .i64)))), none, false, false, none, none⟩),
  (28, ⟨false, 1, 24, [.nils], [], (some 54), none, (some (.slice (.prod (.int .i64) (.prod (.int .i64) (.prod (.int .i64) (.int .i64)))))), none, false, false, none, none⟩),
  (29, ⟨false, 1, 24, [.nils], [], (some 49), none, (some (.slice zq1)), none, false, false, none, none⟩),
  (30, ⟨false, 1, 24, [.nils], [], (some 60), none, (some (.slice (.prod (.int .i64) (.prod (.int .i64) (.int .i64))))), none, false, false, none, none⟩),
  (32, ⟨true, 4, 96, [.nils, .nils, .nils, .nils], [(0, 1, false), (1, 1, false), (2, 1, false), (3, 1, false)], none, none, (some zq3), none, false, false, none, none⟩),
  (36, ⟨true, 2, 24, [.str ([] : List UInt8), .int .i64 (0 : Int)], [(0, 1, false), (1, 1, false)], none, none, (some (.prod .str (.int .i64))), none, false, false, (some [.s, .i]), none⟩),
  (37, ⟨false, 1, 24, [.nils], [], (some 46), none, (some (.slice zq4)), none, false, false, none, none⟩),
  (44, ⟨true, 2, 16, [.int .i64 (0 : Int), .int .i64 (0 : Int)], [(0, 1, false), (1, 1, false)], none, none, (some (.prod (.int .i64) (.int .i64))), none, false, false, (some [.i, .i]), none⟩),
  (46, ⟨true, 4, 48, [.int .i64 (0 : Int), .int .i64 (0 : Int), .int .i64 (0 : Int), .nils], [(0, 1, false), (1, 2, true), (3, 1, false)], none, none, (some zq4), none, false, false, none, none⟩),
  (49, ⟨true, 3, 32, [.int .i64 (0 : Int), .int .i64 (0 : Int), .str ([] : List UInt8)], [(0, 1, false), (1, 1, false), (2, 1, false)], none, none, (some zq1), none, false, false, (some [.i, .i, .s]), none⟩),
  (54, ⟨true, 4, 32, [.int .i64 (0 : Int), .int .i64 (0 : Int), .int .i64 (0 : Int), .int .i64 (0 : Int)], [(0, 1, false), (1, 1, false), (2, 1, false), (3, 1, false)], none, none, (some (.prod (.int .i64) (.prod (.int .i64) (.prod (.int .i64) (.int .i64))))), none, false, false, (some [.i, .i, .i, .i]), none⟩),
  (56, ⟨true, 2, 32, [.nils, .int .i64 (0 : Int)], [(0, 1, false), (1, 1, false)], none, none, (some (.prod (.slice (.int .i64)) (.int .i64))), none, false, false, none, none⟩),
  (57, ⟨false, 1, 24, [.nils], [], (some 9), none, (some (.slice .str)), none, false, false, none, none⟩),
  (60, ⟨true, 3, 24, [.int .i64 (0 : Int), .int .i64 (0 : Int), .int .i64 (0 : Int)], [(0, 1, false), (1, 1, false), (2, 1, false)], none, none, (some (.prod (.int .i64) (.prod (.int .i64) (.int .i64)))), none, false, false, (some [.i, .i, .i]), none⟩),
  (68, ⟨true, 2, 32, [.nilp, .nils], [(0, 1, false), (1, 1, false)], none, none, none, none, false, false, none, none⟩),
  (81, ⟨false, 1, 24, [.nils], [], (some 22), none, (some (.slice (.slice (.int .i64)))), none, false, false, none, none⟩),
  (82, ⟨false, 1, 24, [.nils], [], (some 22), none, (some (.slice (.slice (.int .i64)))), none, false, false, none, none⟩),
  (85, ⟨false, 1, 8, [.junk], [], none, none, none, none, false, false, none, (some (3, 4))⟩),
  (87, ⟨false, 1, 24, [.nils], [], (some 44), none, (some (.slice (.prod (.int .i64) (.int .i64)))), none, false, false, none, none⟩),
  (90, ⟨false, 1, 8, [.junk], [], none, none, none, none, false, false, none, (some (93, 4))⟩),
  (91, ⟨false, 1, 24, [.nils], [], (some 93), none, (some (.slice (.prod (.int .i64) (.int .i64)))), none, false, false, none, none⟩),
  (93, ⟨true, 2, 16, [.int .i64 (0 : Int), .int .i64 (0 : Int)], [], (some 3), (some 2), (some (.prod (.int .i64) (.int .i64))), none, false, false, (some [.i, .i]), none⟩),
  (106, ⟨false, 1, 24, [.nils], [], (some 123), none, (some (.slice (.prod (.int .i64) (.prod (.int .i64) (.int .i64))))), none, false, false, none, none⟩),
  (123, ⟨true, 3, 24, [.int .i64 (0 : Int), .int .i64 (0 : Int), .int .i64 (0 : Int)], [(0, 1, false), (1, 1, false), (2, 1, false)], none, none, (some (.prod (.int .i64) (.prod (.int .i64) (.int .i64)))), none, false, false, (some [.i, .i, .i]), none⟩)]

theorem tab_ok : TOk Tryd.prog (look tab) := TOk_of (by kernel_rfl)
theorem mixed : Tryd.prog.follows .mixedOrders = true := by kernel_rfl

/-- pagewatch/pagewatchmade.Light -/
abbrev zq5 := {β : Type} → (List Int) → (Bool → Option β) → Option β
def zq6 (c : zq5) : Spec :=
  ⟨[(false, [.data (.slice (.int .i64))])], [], [(false, [.data .bool])], [], fun x k => c x.1.1.1 (fun r0 => k (((r0, ()), ()), ()))⟩
section
@[reducible] def made_Light_X : Ctx := ⟨look tab, pick1 [], false, false, false, false, false⟩
def zq7 {β : Type} (l : List Int) (k : (Bool → Option β)) : Option β :=
  let t : Bool := (decide ((List.length l : Int) ≤ (500 : Int)));
  k t
theorem zq8 (hΓ : ΓOk Tryd.prog made_Light_X.Γ) : SpecOk Tryd.prog 5 (zq6 (zq7)) :=
  spec_exec (X := made_Light_X) (Λ := pick1 []) (rs := [.tmp 2]) (c := bodyOf Tryd.f5) mixed tab_ok hΓ Tryd.func5 (by kernel_rfl) (by kernel_rfl) (by kernel_rfl) (by kernel_rfl) CutsOk_nil (fun x k r h => Eq.trans (b := (zq6 (zq7)).run x k) (by kernel_rfl) h)
end
theorem zq9Γ : ΓOk Tryd.prog (pick1 []) := ΓOk_nil
def zqa : zq5 := zq7
theorem zqb : SpecOk Tryd.prog 5 (zq6 zqa) := zq8 zq9Γ

/-- pagewatch/pagewatchmade.Roll -/
abbrev zqc := {β : Type} → (List Int) → ((List Int × Int) → Option β) → Option β
def zqd (c : zqc) : Spec :=
  ⟨[(false, [.data (.slice (.int .i64))])], [], [(false, [.ptr 0 0])], [.cells 56 [.data (.prod (.slice (.int .i64)) (.int .i64))]], fun x k => c x.1.1.1 (fun r0 => k (((), ()), ((r0, ()), ())))⟩
section
@[reducible] def made_Roll_X : Ctx := ⟨look tab, pick1 [], false, false, false, false, false⟩
def zqe {β : Type} (l : List Int) (k : ((List Int × Int) → Option β)) : Option β :=
  k (l, (0 : Int))
theorem zqf (hΓ : ΓOk Tryd.prog made_Roll_X.Γ) : SpecOk Tryd.prog 7 (zqd (zqe)) :=
  spec_exec (X := made_Roll_X) (Λ := pick1 []) (rs := [.tmp 2]) (c := bodyOf Tryd.f7) mixed tab_ok hΓ Tryd.func7 (by kernel_rfl) (by kernel_rfl) (by kernel_rfl) (by kernel_rfl) CutsOk_nil (fun x k r h => Eq.trans (b := (zqd (zqe)).run x k) (by kernel_rfl) h)
end
theorem zqgΓ : ΓOk Tryd.prog (pick1 []) := ΓOk_nil
def zqh : zqc := zqe
theorem zqi : SpecOk Tryd.prog 7 (zqd zqh) := zqf zqgΓ

/-- (*pagewatch/pagewatchmade.Dice).Next -/
abbrev zqj := {β : Type} → Int → (List Int × Int) → (Int → (List Int × Int) → Option β) → Option β
def zqk (c : zqj) : Spec :=
  ⟨[(false, [.ptr 0 0]), (false, [.data (.int .i64)])], [.cells 56 [.data (.prod (.slice (.int .i64)) (.int .i64))]], [(false, [.data (.int .i64)])], [.cells 56 [.data (.prod (.slice (.int .i64)) (.int .i64))]], fun x k => c x.1.2.1.1 x.2.1.1 (fun r0 r1 => k (((r0, ()), ()), ((r1, ()), ())))⟩
section
@[reducible] def made_Dice_Next_X : Ctx := ⟨look tab, pick1 [], false, false, false, false, false⟩
def zql {β : Type} (n : Int) (d : (List Int × Int)) (k : (Int → (List Int × Int) → Option β)) : Option β :=
  cond (decide ((List.length d.1 : Int) ≤ d.2))
  (k (0 : Int) d)
  (cond (decide (n < (1 : Int)))
  (k (0 : Int) d)
  (cond (decide (0 ≤ d.2) && decide (d.2 < (List.length d.1 : Int)))
  (let e : Int := List.getD d.1 (Int.toNat d.2) (0 : Int);
  cond (!decide (n = 0))
  (cond (decide ((Int.tmod e n) < (0 : Int)))
  (let x : Int := (IntKind.i64.wrap ((Int.tmod e n) + n));
  k x (d.1, (IntKind.i64.wrap (d.2 + (1 : Int)))))
  (k (Int.tmod e n) (d.1, (IntKind.i64.wrap (d.2 + (1 : Int))))))
  none)
  none))
theorem zqm (hΓ : ΓOk Tryd.prog made_Dice_Next_X.Γ) : SpecOk Tryd.prog 11 (zqk (zql)) :=
  spec_exec (X := made_Dice_Next_X) (Λ := pick1 []) (rs := [.tmp 4]) (c := bodyOf Tryd.f11) mixed tab_ok hΓ Tryd.func11 (by kernel_rfl) (by kernel_rfl) (by kernel_rfl) (by kernel_rfl) CutsOk_nil (fun x k r h => Eq.trans (b := (zqk (zql)).run x k) (by kernel_rfl) h)
end
theorem zqnΓ : ΓOk Tryd.prog (pick1 []) := ΓOk_nil
def zqo : zqj := zql
theorem zqp : SpecOk Tryd.prog 11 (zqk zqo) := zqm zqnΓ

/-- (*pagewatch/pagewatchmade.Dice).One -/
abbrev zqq := {β : Type} → (List Int) → (List Int × Int) → (Int → (List Int × Int) → Option β) → Option β
def zqr (c : zqq) : Spec :=
  ⟨[(false, [.ptr 0 0]), (false, [.data (.slice (.int .i64))])], [.cells 56 [.data (.prod (.slice (.int .i64)) (.int .i64))]], [(false, [.data (.int .i64)])], [.cells 56 [.data (.prod (.slice (.int .i64)) (.int .i64))]], fun x k => c x.1.2.1.1 x.2.1.1 (fun r0 r1 => k (((r0, ()), ()), ((r1, ()), ())))⟩
section
variable (c_made_Dice_Next : zqj)
@[reducible] def made_Dice_One_X : Ctx := ⟨look tab, pick1 [(11, .spec (zqk c_made_Dice_Next))], false, false, false, false, false⟩
def zqs {β : Type} (l : List Int) (d : (List Int × Int)) (k : (Int → (List Int × Int) → Option β)) : Option β :=
  c_made_Dice_Next (List.length l : Int) d (fun (rNext : Int) (mrNext : (List Int × Int)) =>
  cond (decide (0 ≤ rNext) && decide (rNext < (List.length l : Int)))
  (let e : Int := List.getD l (Int.toNat rNext) (0 : Int);
  k e mrNext)
  none)
theorem zqt (hΓ : ΓOk Tryd.prog (made_Dice_One_X c_made_Dice_Next).Γ) : SpecOk Tryd.prog 14 (zqr (zqs c_made_Dice_Next)) :=
  spec_exec (X := (made_Dice_One_X c_made_Dice_Next)) (Λ := pick1 []) (rs := [.tmp 4]) (c := bodyOf Tryd.f14) mixed tab_ok hΓ Tryd.func14 (by kernel_rfl) (by kernel_rfl) (by kernel_rfl) (by kernel_rfl) CutsOk_nil (fun x k r h => Eq.trans (b := (zqr (zqs c_made_Dice_Next)).run x k) (by kernel_rfl) h)
end
theorem zquΓ : ΓOk Tryd.prog (pick1 [(11, .spec (zqk zqo))]) := (ΓOk_cons zqp ΓOk_nil)
def zqv : zqq := zqs zqo
theorem zqw : SpecOk Tryd.prog 14 (zqr zqv) := zqt zqo zquΓ

/-- pagewatch/timeline.printed -/
abbrev zqx := {β : Type} → (List UInt8) → Int → (Bool → Option β) → Option β
def zqy (c : zqx) : Spec :=
  ⟨[(false, [.data .str]), (false, [.data (.int .u8)])], [], [(false, [.data .bool])], [], fun x k => c x.1.1.1 x.1.2.1.1 (fun r0 => k (((r0, ()), ()), ()))⟩
noncomputable def timeline_printed_p1_code : Code := codeAt 26 (bodyOf Tryd.f18)
abbrev zqz (β : Type) := Bool → Option β
abbrev zq10 (β : Type) := (List UInt8) → Option β
abbrev zq11 := {β : Type} → zqz β → zq10 β → (List UInt8) → Int → Int → Int → Option β
def zq12 : View := ⟨0, [0, 1, 7, 8], [(false, [.data .str]), (false, [.data (.int .u8)]), (false, [.data (.int .i64)]), (false, [.data (.int .i64)])], []⟩
def zq13 : List (AExit × View) := [(.ret, ⟨0, [4], [(false, [.data .bool])], []⟩), (.exit 0, ⟨0, [0], [(false, [.data .str])], []⟩)]
@[reducible] def timeline_printed_p1_G (p : zq11) {β : Type} (d : zq12.den) (ks : Outs.K β zq13) : Option β :=
  p (fun a0 => ks.1 (((a0, ()), ()), ())) (fun a0 => ks.2.1 (((a0, ()), ()), ())) d.1.1.1 d.1.2.1.1 d.1.2.2.1.1 d.1.2.2.2.1.1
section
@[reducible] def timeline_printed_X : Ctx := ⟨look tab, pick1 [], false, false, false, false, false⟩
def zq14 {β : Type} (rec : (List UInt8) → Int → Int → Int → Option β) (k1 : zqz β) (k2 : zq10 β) (s : List UInt8) (least : Int) (t7 : Int) (t8 : Int) : Option β :=
  cond (decide (t8 < t7))
  (cond (decide (0 ≤ t8) && decide (t8 < (List.length s : Int)))
  (cond (decide (((List.getD s (Int.toNat t8) 0).toNat : Int) < least))
  (k1 false)
  (cond (decide (0 ≤ t8) && decide (t8 < (List.length s : Int)))
  (cond (decide ((126 : Int) < ((List.getD s (Int.toNat t8) 0).toNat : Int)))
  (k1 false)
  (rec s least t7 (IntKind.i64.wrap (t8 + (1 : Int)))))
  none))
  none)
  (k2 s)
def zq15 {β : Type} : Nat → zqz β → zq10 β → (List UInt8) → Int → Int → Int → Option β
  | 0 => fun _ _ _ _ _ _ => none
  | i + 1 => fun k1 k2 s least t7 t8 => zq14 (zq15 i k1 k2) k1 k2 s least t7 t8
theorem zq16 (hΓ : ΓOk Tryd.prog timeline_printed_X.Γ) (i : Nat) : PieceOk Tryd.prog 25 0 timeline_printed_p1_code zq12 zq13 (timeline_printed_p1_G (zq15 i)) := by
  rw [show timeline_printed_p1_code = .loop (loopBody timeline_printed_p1_code) by kernel_rfl]
  exact piece_loop (X := timeline_printed_X) (p := 1) (Λ := pick1 []) (G := fun i => @fun β d ks => timeline_printed_p1_G (zq15 i) d ks) mixed tab_ok hΓ rfl (by kernel_rfl) CutsOk_nil (fun _ _ => rfl) (fun i => @fun β d ks r h => Eq.trans (b := timeline_printed_p1_G (zq15 (i + 1)) d ks) (by kernel_rfl) h) i
def zq17 (p1 : zq11) {β : Type} (s : List UInt8) (least : Int) (k : (Bool → Option β)) : Option β :=
  p1 (fun (t4 : Bool) =>
  k t4) (fun (s2 : List UInt8) =>
  let t : Bool := (!decide (s2 = ([] : List UInt8)));
  k t) s least (List.length s : Int) (0 : Int)
theorem zq18 (hΓ : ΓOk Tryd.prog timeline_printed_X.Γ) (p1 : zq11) (hp1 : PieceOk Tryd.prog 25 0 timeline_printed_p1_code zq12 zq13 (timeline_printed_p1_G p1)) : SpecOk Tryd.prog 18 (zqy (zq17 p1)) :=
  spec_exec (X := timeline_printed_X) (Λ := pick1 [(26, pieceCut zq12 zq13 (timeline_printed_p1_G p1))]) (rs := [.tmp 4]) (c := bodyOf Tryd.f18) mixed tab_ok hΓ Tryd.func18 (by kernel_rfl) (by kernel_rfl) (by kernel_rfl) (by kernel_rfl) (CutsOk_cons (q := 26) (c' := timeline_printed_p1_code) (by kernel_rfl) rfl hp1 CutsOk_nil) (fun x k r h => Eq.trans (b := (zqy (zq17 p1)).run x k) (by kernel_rfl) h)
end
theorem zq19Γ : ΓOk Tryd.prog (pick1 []) := ΓOk_nil
def zq1a (m : Nat) : zq11 := zq15 m
theorem zq1b {β : Type} (i : Nat) (k1 k2 s least t7 t8) : (zq1a (i + 1) k1 k2 s least t7 t8 : Option β) = zq14 (zq1a i k1 k2) k1 k2 s least t7 t8 := rfl
def zq1c : zq11 := zq1a fuel
theorem zq1d : PieceOk Tryd.prog 25 0 timeline_printed_p1_code zq12 zq13 (timeline_printed_p1_G zq1c) := zq16 zq19Γ fuel
def zq1e : zqx := zq17 zq1c
theorem zq1f : SpecOk Tryd.prog 18 (zqy zq1e) := zq18 zq19Γ zq1c zq1d

/-- (*strings.Builder).WriteString -/
def zq1g : Shelf.Ren :=
      { 
      f := fun x =>
        match x with
        | 166 => 19
        | 240 => 37
        | 276 => 56
        | n => n,
      t := fun x =>
        match x with
        | 70 => 65
        | 9 => 9
        | 0 => 0
        | 72 => 68
        | 37 => 66
        | 127 => 99
        | 3 => 3
        | 5 => 5
        | 80 => 76
        | 4 => 4
        | 164 => 117
        | 20 => 20
        | 75 => 71
        | n => n,
      g := fun x => x }
theorem zq1h : Go.Proofs.Lays.n166 Tryd.prog zq1g :=
  { mixed := by kernel_rfl,
    f166 := Eq.trans Tryd.func19 (congrArg some (by kernel_rfl)),
    f240 := Eq.trans Tryd.func37 (congrArg some (by kernel_rfl)),
    f276 := Eq.trans Tryd.func56 (congrArg some (by kernel_rfl)),
    t0 := Tryd.underlying0,
    a0 := Tryd.isAgg0,
    z0 := Tryd.sizeOf0,
    v0 := Tryd.zeroValue0,
    t3 := Tryd.underlying3,
    a3 := Tryd.isAgg3,
    z3 := Tryd.sizeOf3,
    v3 := Tryd.zeroValue3,
    t4 := Tryd.underlying4,
    a4 := Tryd.isAgg4,
    z4 := Tryd.sizeOf4,
    v4 := Tryd.zeroValue4,
    t9 := Tryd.underlying9,
    a9 := Tryd.isAgg9,
    z9 := Tryd.sizeOf9,
    v9 := Tryd.zeroValue9,
    t20 := Tryd.underlying20,
    a20 := Tryd.isAgg20,
    z20 := Tryd.sizeOf20,
    v20 := Tryd.zeroValue20,
    t37 := Tryd.underlying66,
    a37 := Tryd.isAgg66,
    z37 := Tryd.sizeOf66,
    v37 := Tryd.zeroValue66,
    t70 := Tryd.underlying65,
    a70 := Tryd.isAgg65,
    z70 := Tryd.sizeOf65,
    v70 := Tryd.zeroValue65,
    t72 := Tryd.underlying68,
    a72 := Tryd.isAgg68,
    z72 := Tryd.sizeOf68,
    v72 := Tryd.zeroValue68,
    t75 := Tryd.underlying71,
    a75 := Tryd.isAgg71,
    z75 := Tryd.sizeOf71,
    v75 := Tryd.zeroValue71,
    t164 := Tryd.underlying117,
    a164 := Tryd.isAgg117,
    z164 := Tryd.sizeOf117,
    v164 := Tryd.zeroValue117 }
def zq1i : BldF := ⟨68, 5, 0⟩
theorem zq1j : BldOk Tryd.prog 19 zq1i :=
  bldWrite_ok zq1h { sizeBuilder := by kernel_rfl, liesBuilder := by kernel_rfl, t5 := Tryd.underlying5, a5 := Tryd.isAgg5, z5 := Tryd.sizeOf5, v5 := Tryd.zeroValue5, infoByte := by kernel_rfl, cellsByte := by kernel_rfl, sizeByte := by kernel_rfl, neB5 := by decide } rfl rfl rfl ⟨_, Tryd.func19, by kernel_rfl, by kernel_rfl⟩

/-- strconv.Itoa -/
def zq1k : Shelf.Ren :=
      { 
      f := fun x =>
        match x with
        | 171 => 20
        | 243 => 38
        | 246 => 57
        | 283 => 75
        | 284 => 76
        | 285 => 77
        | 286 => 78
        | 129 => 72
        | 317 => 92
        | 318 => 93
        | 319 => 94
        | 320 => 95
        | 337 => 99
        | 338 => 100
        | n => n,
      t := fun x =>
        match x with
        | 3 => 3
        | 9 => 9
        | 2 => 2
        | 4 => 4
        | 171 => 141
        | 0 => 0
        | 53 => 138
        | 37 => 66
        | 5 => 5
        | 173 => 143
        | 212 => 159
        | 51 => 136
        | 20 => 20
        | 213 => 160
        | 46 => 114
        | 232 => 165
        | 233 => 166
        | n => n,
      g := fun x =>
        match x with
        | 17 => 0
        | 18 => 1
        | 19 => 2
        | n => n }
theorem zq1l : Go.Proofs.LaysM.n171 Tryd.prog zq1k :=
  { mixed := by kernel_rfl,
    f129 := Eq.trans Tryd.func72 (congrArg some (by kernel_rfl)),
    f171 := Eq.trans Tryd.func20 (congrArg some (by kernel_rfl)),
    f243 := Eq.trans Tryd.func38 (congrArg some (by kernel_rfl)),
    f246 := Eq.trans Tryd.func57 (congrArg some (by kernel_rfl)),
    f283 := Eq.trans Tryd.func75 (congrArg some (by kernel_rfl)),
    f284 := Eq.trans Tryd.func76 (congrArg some (by kernel_rfl)),
    f285 := Eq.trans Tryd.func77 (congrArg some (by kernel_rfl)),
    f286 := Eq.trans Tryd.func78 (congrArg some (by kernel_rfl)),
    f317 := Eq.trans Tryd.func92 (congrArg some (by kernel_rfl)),
    f318 := Eq.trans Tryd.func93 (congrArg some (by kernel_rfl)),
    f319 := Eq.trans Tryd.func94 (congrArg some (by kernel_rfl)),
    f320 := Eq.trans Tryd.func95 (congrArg some (by kernel_rfl)),
    f337 := Eq.trans Tryd.func99 (congrArg some (by kernel_rfl)),
    f338 := Eq.trans Tryd.func100 (congrArg some (by kernel_rfl)),
    t0 := Tryd.underlying0,
    a0 := Tryd.isAgg0,
    z0 := Tryd.sizeOf0,
    v0 := Tryd.zeroValue0,
    t2 := Tryd.underlying2,
    a2 := Tryd.isAgg2,
    z2 := Tryd.sizeOf2,
    v2 := Tryd.zeroValue2,
    t3 := Tryd.underlying3,
    a3 := Tryd.isAgg3,
    z3 := Tryd.sizeOf3,
    v3 := Tryd.zeroValue3,
    t4 := Tryd.underlying4,
    a4 := Tryd.isAgg4,
    z4 := Tryd.sizeOf4,
    v4 := Tryd.zeroValue4,
    t5 := Tryd.underlying5,
    a5 := Tryd.isAgg5,
    z5 := Tryd.sizeOf5,
    v5 := Tryd.zeroValue5,
    t9 := Tryd.underlying9,
    a9 := Tryd.isAgg9,
    z9 := Tryd.sizeOf9,
    v9 := Tryd.zeroValue9,
    t20 := Tryd.underlying20,
    a20 := Tryd.isAgg20,
    z20 := Tryd.sizeOf20,
    v20 := Tryd.zeroValue20,
    t37 := Tryd.underlying66,
    a37 := Tryd.isAgg66,
    z37 := Tryd.sizeOf66,
    v37 := Tryd.zeroValue66,
    t46 := Tryd.underlying114,
    a46 := Tryd.isAgg114,
    z46 := Tryd.sizeOf114,
    v46 := Tryd.zeroValue114,
    t51 := Tryd.underlying136,
    a51 := Tryd.isAgg136,
    z51 := Tryd.sizeOf136,
    v51 := Tryd.zeroValue136,
    t53 := Tryd.underlying138,
    a53 := Tryd.isAgg138,
    z53 := Tryd.sizeOf138,
    v53 := Tryd.zeroValue138,
    t171 := Tryd.underlying141,
    a171 := Tryd.isAgg141,
    z171 := Tryd.sizeOf141,
    v171 := Tryd.zeroValue141,
    t173 := Tryd.underlying143,
    a173 := Tryd.isAgg143,
    z173 := Tryd.sizeOf143,
    v173 := Tryd.zeroValue143,
    t212 := Tryd.underlying159,
    a212 := Tryd.isAgg159,
    z212 := Tryd.sizeOf159,
    v212 := Tryd.zeroValue159,
    t213 := Tryd.underlying160,
    a213 := Tryd.isAgg160,
    z213 := Tryd.sizeOf160,
    t232 := Tryd.underlying165,
    a232 := Tryd.isAgg165,
    z232 := Tryd.sizeOf165,
    v232 := Tryd.zeroValue165,
    t233 := Tryd.underlying166,
    a233 := Tryd.isAgg166,
    z233 := Tryd.sizeOf166,
    v233 := Tryd.zeroValue166,
    g17 := by kernel_rfl,
    g18 := by kernel_rfl,
    g19 := by kernel_rfl,
    i0 := by kernel_rfl,
    i2 := by kernel_rfl,
    i3 := by kernel_rfl,
    i4 := by kernel_rfl,
    i5 := by kernel_rfl,
    i9 := by kernel_rfl,
    i20 := by kernel_rfl,
    i37 := by kernel_rfl,
    i46 := by kernel_rfl,
    i51 := by kernel_rfl,
    i53 := by kernel_rfl,
    i171 := by kernel_rfl,
    i173 := by kernel_rfl,
    i212 := by kernel_rfl,
    i232 := by kernel_rfl,
    i233 := by kernel_rfl,
    m17 := by kernel_rfl,
    m18 := by kernel_rfl,
    m19 := by kernel_rfl }
abbrev zq1m := itoaT
def zq1n (c : zq1m) : Spec := itoaS c
def zq1o : zq1m := fun x k => itoaF x k
theorem zq1p : SpecOk Tryd.prog 20 (zq1n zq1o) :=
  itoa_ok zq1l rfl (g := 0) (by kernel_rfl) ⟨_, Tryd.func20, by kernel_rfl, by kernel_rfl⟩

/-- (*strings.Builder).Len -/
def zq1q : Shelf.Ren :=
      { 
      f := fun x =>
        match x with
        | 170 => 21
        | n => n,
      t := fun x =>
        match x with
        | 70 => 65
        | 3 => 3
        | 0 => 0
        | 72 => 68
        | 37 => 66
        | 5 => 5
        | n => n,
      g := fun x => x }
theorem zq1r : Go.Proofs.Lays.n170 Tryd.prog zq1q :=
  { mixed := by kernel_rfl,
    f170 := Eq.trans Tryd.func21 (congrArg some (by kernel_rfl)),
    t0 := Tryd.underlying0,
    a0 := Tryd.isAgg0,
    z0 := Tryd.sizeOf0,
    v0 := Tryd.zeroValue0,
    t3 := Tryd.underlying3,
    a3 := Tryd.isAgg3,
    z3 := Tryd.sizeOf3,
    v3 := Tryd.zeroValue3,
    t37 := Tryd.underlying66,
    a37 := Tryd.isAgg66,
    z37 := Tryd.sizeOf66,
    v37 := Tryd.zeroValue66,
    t70 := Tryd.underlying65,
    a70 := Tryd.isAgg65,
    z70 := Tryd.sizeOf65,
    v70 := Tryd.zeroValue65,
    t72 := Tryd.underlying68,
    a72 := Tryd.isAgg68,
    z72 := Tryd.sizeOf68,
    v72 := Tryd.zeroValue68 }
def zq1s : BldF := ⟨68, 5, 2⟩
theorem zq1t : BldOk Tryd.prog 21 zq1s :=
  bldLen_ok zq1r rfl rfl rfl ⟨_, Tryd.func21, by kernel_rfl, by kernel_rfl⟩

/-- (*strings.Builder).String -/
def zq1u : Shelf.Ren :=
      { 
      f := fun x =>
        match x with
        | 169 => 22
        | n => n,
      t := fun x =>
        match x with
        | 70 => 65
        | 9 => 9
        | 0 => 0
        | 72 => 68
        | 37 => 66
        | 127 => 99
        | 3 => 3
        | 5 => 5
        | n => n,
      g := fun x => x }
theorem zq1v : Go.Proofs.Lays.n169 Tryd.prog zq1u :=
  { mixed := by kernel_rfl,
    f169 := Eq.trans Tryd.func22 (congrArg some (by kernel_rfl)),
    t0 := Tryd.underlying0,
    a0 := Tryd.isAgg0,
    z0 := Tryd.sizeOf0,
    v0 := Tryd.zeroValue0,
    t3 := Tryd.underlying3,
    a3 := Tryd.isAgg3,
    z3 := Tryd.sizeOf3,
    v3 := Tryd.zeroValue3,
    t9 := Tryd.underlying9,
    a9 := Tryd.isAgg9,
    z9 := Tryd.sizeOf9,
    v9 := Tryd.zeroValue9,
    t37 := Tryd.underlying66,
    a37 := Tryd.isAgg66,
    z37 := Tryd.sizeOf66,
    v37 := Tryd.zeroValue66,
    t70 := Tryd.underlying65,
    a70 := Tryd.isAgg65,
    z70 := Tryd.sizeOf65,
    v70 := Tryd.zeroValue65,
    t72 := Tryd.underlying68,
    a72 := Tryd.isAgg68,
    z72 := Tryd.sizeOf68,
    v72 := Tryd.zeroValue68,
    t127 := Tryd.underlying99,
    a127 := Tryd.isAgg99,
    z127 := Tryd.sizeOf99,
    v127 := Tryd.zeroValue99 }
def zq1w : BldF := ⟨68, 5, 1⟩
theorem zq1x : BldOk Tryd.prog 22 zq1w :=
  bldString_ok zq1v { sizeBuilder := by kernel_rfl, liesBuilder := by kernel_rfl, t5 := Tryd.underlying5, a5 := Tryd.isAgg5, z5 := Tryd.sizeOf5, v5 := Tryd.zeroValue5, infoByte := by kernel_rfl, cellsByte := by kernel_rfl, sizeByte := by kernel_rfl, neB5 := by decide } rfl rfl rfl ⟨_, Tryd.func22, by kernel_rfl, by kernel_rfl⟩

/-- (pagewatch/order.matrix).before -/
abbrev zq1y := {β : Type} → (List (List Int)) → Int → Int → (Bool → Option β) → Option β
def zq1z (c : zq1y) : Spec :=
  ⟨[(false, [.data (.slice (.slice (.int .i64)))]), (false, [.data (.int .i64)]), (false, [.data (.int .i64)])], [], [(false, [.data .bool])], [], fun x k => c x.1.1.1 x.1.2.1.1 x.1.2.2.1.1 (fun r0 => k (((r0, ()), ()), ()))⟩
section
@[reducible] def order_matrix_before_X : Ctx := ⟨look tab, pick1 [], false, false, false, false, false⟩
def zq20 {β : Type} (m : List (List Int)) (a : Int) (b : Int) (k : (Bool → Option β)) : Option β :=
  cond (decide (0 ≤ (IntKind.i64.wrap (b + (1 : Int)))) && decide ((IntKind.i64.wrap (b + (1 : Int))) < (List.length m : Int)))
  (let e : List Int := List.getD m (Int.toNat (IntKind.i64.wrap (b + (1 : Int)))) ([] : List Int);
  cond (decide (0 ≤ (IntKind.i64.wrap (a + (1 : Int)))) && decide ((IntKind.i64.wrap (a + (1 : Int))) < (List.length e : Int)))
  (let e2 : Int := List.getD e (Int.toNat (IntKind.i64.wrap (a + (1 : Int)))) (0 : Int);
  let t : Bool := (decide (e2 ≤ (-1 : Int)));
  k t)
  none)
  none
theorem zq21 (hΓ : ΓOk Tryd.prog order_matrix_before_X.Γ) : SpecOk Tryd.prog 28 (zq1z (zq20)) :=
  spec_exec (X := order_matrix_before_X) (Λ := pick1 []) (rs := [.tmp 6]) (c := bodyOf Tryd.f28) mixed tab_ok hΓ Tryd.func28 (by kernel_rfl) (by kernel_rfl) (by kernel_rfl) (by kernel_rfl) CutsOk_nil (fun x k r h => Eq.trans (b := (zq1z (zq20)).run x k) (by kernel_rfl) h)
end
theorem zq22Γ : ΓOk Tryd.prog (pick1 []) := ΓOk_nil
def zq23 : zq1y := zq20
theorem zq24 : SpecOk Tryd.prog 28 (zq1z zq23) := zq21 zq22Γ

/-- slices.Sort[[]int,int] -/
def zq25 : Shelf.Ren :=
      { 
      f := fun x =>
        match x with
        | 189 => 32
        | 125 => 51
        | 257 => 50
        | 128 => 71
        | 129 => 72
        | 294 => 62
        | 295 => 63
        | 296 => 64
        | 297 => 65
        | 298 => 66
        | 299 => 67
        | 216 => 68
        | 300 => 69
        | 301 => 70
        | 328 => 86
        | 329 => 87
        | 330 => 88
        | 331 => 89
        | 332 => 90
        | 215 => 91
        | 343 => 98
        | n => n,
      t := fun x =>
        match x with
        | 28 => 22
        | 3 => 3
        | 46 => 114
        | 0 => 0
        | 51 => 136
        | 53 => 138
        | 4 => 4
        | 183 => 129
        | 182 => 128
        | 131 => 133
        | 5 => 5
        | 9 => 9
        | 218 => 152
        | 222 => 156
        | 228 => 163
        | 229 => 148
        | n => n,
      g := fun x => x }
theorem zq26 : Go.Proofs.Lays.n189 Tryd.prog zq25 :=
  { mixed := by kernel_rfl,
    f125 := Eq.trans Tryd.func51 (congrArg some (by kernel_rfl)),
    f128 := Eq.trans Tryd.func71 (congrArg some (by kernel_rfl)),
    f129 := Eq.trans Tryd.func72 (congrArg some (by kernel_rfl)),
    f189 := Eq.trans Tryd.func32 (congrArg some (by kernel_rfl)),
    f215 := Eq.trans Tryd.func91 (congrArg some (by kernel_rfl)),
    f216 := Eq.trans Tryd.func68 (congrArg some (by kernel_rfl)),
    f257 := Eq.trans Tryd.func50 (congrArg some (by kernel_rfl)),
    f294 := Eq.trans Tryd.func62 (congrArg some (by kernel_rfl)),
    f295 := Eq.trans Tryd.func63 (congrArg some (by kernel_rfl)),
    f296 := Eq.trans Tryd.func64 (congrArg some (by kernel_rfl)),
    f297 := Eq.trans Tryd.func65 (congrArg some (by kernel_rfl)),
    f298 := Eq.trans Tryd.func66 (congrArg some (by kernel_rfl)),
    f299 := Eq.trans Tryd.func67 (congrArg some (by kernel_rfl)),
    f300 := Eq.trans Tryd.func69 (congrArg some (by kernel_rfl)),
    f301 := Eq.trans Tryd.func70 (congrArg some (by kernel_rfl)),
    f328 := Eq.trans Tryd.func86 (congrArg some (by kernel_rfl)),
    f329 := Eq.trans Tryd.func87 (congrArg some (by kernel_rfl)),
    f330 := Eq.trans Tryd.func88 (congrArg some (by kernel_rfl)),
    f331 := Eq.trans Tryd.func89 (congrArg some (by kernel_rfl)),
    f332 := Eq.trans Tryd.func90 (congrArg some (by kernel_rfl)),
    f343 := Eq.trans Tryd.func98 (congrArg some (by kernel_rfl)),
    t0 := Tryd.underlying0,
    a0 := Tryd.isAgg0,
    z0 := Tryd.sizeOf0,
    v0 := Tryd.zeroValue0,
    t3 := Tryd.underlying3,
    a3 := Tryd.isAgg3,
    z3 := Tryd.sizeOf3,
    v3 := Tryd.zeroValue3,
    t4 := Tryd.underlying4,
    a4 := Tryd.isAgg4,
    z4 := Tryd.sizeOf4,
    v4 := Tryd.zeroValue4,
    t5 := Tryd.underlying5,
    a5 := Tryd.isAgg5,
    z5 := Tryd.sizeOf5,
    v5 := Tryd.zeroValue5,
    t9 := Tryd.underlying9,
    a9 := Tryd.isAgg9,
    z9 := Tryd.sizeOf9,
    v9 := Tryd.zeroValue9,
    t28 := Tryd.underlying22,
    a28 := Tryd.isAgg22,
    z28 := Tryd.sizeOf22,
    v28 := Tryd.zeroValue22,
    t46 := Tryd.underlying114,
    a46 := Tryd.isAgg114,
    z46 := Tryd.sizeOf114,
    v46 := Tryd.zeroValue114,
    t51 := Tryd.underlying136,
    a51 := Tryd.isAgg136,
    z51 := Tryd.sizeOf136,
    v51 := Tryd.zeroValue136,
    t53 := Tryd.underlying138,
    a53 := Tryd.isAgg138,
    z53 := Tryd.sizeOf138,
    v53 := Tryd.zeroValue138,
    t131 := Tryd.underlying133,
    a131 := Tryd.isAgg133,
    z131 := Tryd.sizeOf133,
    v131 := Tryd.zeroValue133,
    t182 := Tryd.underlying128,
    a182 := Tryd.isAgg128,
    z182 := Tryd.sizeOf128,
    v182 := Tryd.zeroValue128,
    t183 := Tryd.underlying129,
    a183 := Tryd.isAgg129,
    z183 := Tryd.sizeOf129,
    v183 := Tryd.zeroValue129,
    t218 := Tryd.underlying152,
    a218 := Tryd.isAgg152,
    z218 := Tryd.sizeOf152,
    v218 := Tryd.zeroValue152,
    t222 := Tryd.underlying156,
    a222 := Tryd.isAgg156,
    z222 := Tryd.sizeOf156,
    v222 := Tryd.zeroValue156,
    t228 := Tryd.underlying163,
    a228 := Tryd.isAgg163,
    z228 := Tryd.sizeOf163,
    v228 := Tryd.zeroValue163,
    t229 := Tryd.underlying148,
    a229 := Tryd.isAgg148,
    z229 := Tryd.sizeOf148,
    v229 := Tryd.zeroValue148 }
def zq27 : RowF := sortF 3
theorem zq28 : RowOk Tryd.prog 32 zq27 :=
  sort_rowok zq26 rfl ⟨_, Tryd.func32, by kernel_rfl, by kernel_rfl⟩

/-- slices.Equal[[]int,int] -/
abbrev zq29 := {β : Type} → (List Int) → (List Int) → (Bool → Option β) → Option β
def zq2a (c : zq29) : Spec :=
  ⟨[(false, [.data (.slice (.int .i64))]), (false, [.data (.slice (.int .i64))])], [], [(false, [.data .bool])], [], fun x k => c x.1.1.1 x.1.2.1.1 (fun r0 => k (((r0, ()), ()), ()))⟩
noncomputable def slices_Equal_int_int_p1_code : Code := codeAt 58 (bodyOf Tryd.f36)
abbrev zq2b (β : Type) := Bool → Option β
abbrev zq2c (β : Type) := Unit → Option β
abbrev zq2d := {β : Type} → zq2b β → zq2c β → (List Int) → (List Int) → Int → Int → Option β
def zq2e : View := ⟨0, [0, 1, 12, 13], [(false, [.data (.slice (.int .i64))]), (false, [.data (.slice (.int .i64))]), (false, [.data (.int .i64)]), (false, [.data (.int .i64)])], []⟩
def zq2f : List (AExit × View) := [(.ret, ⟨0, [4], [(false, [.data .bool])], []⟩), (.exit 0, ⟨0, [], [], []⟩)]
@[reducible] def slices_Equal_int_int_p1_G (p : zq2d) {β : Type} (d : zq2e.den) (ks : Outs.K β zq2f) : Option β :=
  p (fun a0 => ks.1 (((a0, ()), ()), ())) (fun _ => ks.2.1 ((), ())) d.1.1.1 d.1.2.1.1 d.1.2.2.1.1 d.1.2.2.2.1.1
section
@[reducible] def slices_Equal_int_int_X : Ctx := ⟨look tab, pick1 [], false, false, false, false, false⟩
def zq2g {β : Type} (rec : (List Int) → (List Int) → Int → Int → Option β) (k1 : zq2b β) (k2 : zq2c β) (s1 : List Int) (s2 : List Int) (t12 : Int) (t13 : Int) : Option β :=
  cond (decide (t13 < t12))
  (cond (decide (0 ≤ t13) && decide (t13 < (List.length s1 : Int)))
  (let e : Int := List.getD s1 (Int.toNat t13) (0 : Int);
  cond (decide (0 ≤ t13) && decide (t13 < (List.length s2 : Int)))
  (let e2 : Int := List.getD s2 (Int.toNat t13) (0 : Int);
  cond (!decide (e = e2))
  (k1 false)
  (rec s1 s2 t12 (IntKind.i64.wrap (t13 + (1 : Int)))))
  none)
  none)
  (k2 ())
def zq2h {β : Type} : Nat → zq2b β → zq2c β → (List Int) → (List Int) → Int → Int → Option β
  | 0 => fun _ _ _ _ _ _ => none
  | i + 1 => fun k1 k2 s1 s2 t12 t13 => zq2g (zq2h i k1 k2) k1 k2 s1 s2 t12 t13
theorem zq2i (hΓ : ΓOk Tryd.prog slices_Equal_int_int_X.Γ) (i : Nat) : PieceOk Tryd.prog 26 0 slices_Equal_int_int_p1_code zq2e zq2f (slices_Equal_int_int_p1_G (zq2h i)) := by
  rw [show slices_Equal_int_int_p1_code = .loop (loopBody slices_Equal_int_int_p1_code) by kernel_rfl]
  exact piece_loop (X := slices_Equal_int_int_X) (p := 1) (Λ := pick1 []) (G := fun i => @fun β d ks => slices_Equal_int_int_p1_G (zq2h i) d ks) mixed tab_ok hΓ rfl (by kernel_rfl) CutsOk_nil (fun _ _ => rfl) (fun i => @fun β d ks r h => Eq.trans (b := slices_Equal_int_int_p1_G (zq2h (i + 1)) d ks) (by kernel_rfl) h) i
def zq2j (p1 : zq2d) {β : Type} (s1 : List Int) (s2 : List Int) (k : (Bool → Option β)) : Option β :=
  cond (!decide ((List.length s1 : Int) = (List.length s2 : Int)))
  (k false)
  (p1 (fun (t4 : Bool) =>
  k t4) (fun (_ : Unit) =>
  k true) s1 s2 (List.length s1 : Int) (0 : Int))
theorem zq2k (hΓ : ΓOk Tryd.prog slices_Equal_int_int_X.Γ) (p1 : zq2d) (hp1 : PieceOk Tryd.prog 26 0 slices_Equal_int_int_p1_code zq2e zq2f (slices_Equal_int_int_p1_G p1)) : SpecOk Tryd.prog 36 (zq2a (zq2j p1)) :=
  spec_exec (X := slices_Equal_int_int_X) (Λ := pick1 [(58, pieceCut zq2e zq2f (slices_Equal_int_int_p1_G p1))]) (rs := [.tmp 4]) (c := bodyOf Tryd.f36) mixed tab_ok hΓ Tryd.func36 (by kernel_rfl) (by kernel_rfl) (by kernel_rfl) (by kernel_rfl) (CutsOk_cons (q := 58) (c' := slices_Equal_int_int_p1_code) (by kernel_rfl) rfl hp1 CutsOk_nil) (fun x k r h => Eq.trans (b := (zq2a (zq2j p1)).run x k) (by kernel_rfl) h)
end
theorem zq2lΓ : ΓOk Tryd.prog (pick1 []) := ΓOk_nil
def zq2m (m : Nat) : zq2d := zq2h m
theorem zq2n {β : Type} (i : Nat) (k1 k2 s1 s2 t12 t13) : (zq2m (i + 1) k1 k2 s1 s2 t12 t13 : Option β) = zq2g (zq2m i k1 k2) k1 k2 s1 s2 t12 t13 := rfl
def zq2o : zq2d := zq2m fuel
theorem zq2p : PieceOk Tryd.prog 26 0 slices_Equal_int_int_p1_code zq2e zq2f (slices_Equal_int_int_p1_G zq2o) := zq2i zq2lΓ fuel
def zq2q : zq29 := zq2j zq2o
theorem zq2r : SpecOk Tryd.prog 36 (zq2a zq2q) := zq2k zq2lΓ zq2o zq2p

/-- pagewatch/clock.in -/
abbrev zq2s := {β : Type} → Int → Int → Int → (Bool → Option β) → Option β
def zq2t (c : zq2s) : Spec :=
  ⟨[(false, [.data (.int .i64)]), (false, [.data (.int .i64)]), (false, [.data (.int .i64)])], [], [(false, [.data .bool])], [], fun x k => c x.1.1.1 x.1.2.1.1 x.1.2.2.1.1 (fun r0 => k (((r0, ()), ()), ()))⟩
section
@[reducible] def clock_in_X : Ctx := ⟨look tab, pick1 [], false, false, false, false, false⟩
def zq2u {β : Type} (n : Int) (low : Int) (high : Int) (k : (Bool → Option β)) : Option β :=
  cond (decide (low ≤ n))
  (k (decide (n ≤ high)))
  (k false)
theorem zq2v (hΓ : ΓOk Tryd.prog clock_in_X.Γ) : SpecOk Tryd.prog 39 (zq2t (zq2u)) :=
  spec_exec (X := clock_in_X) (Λ := pick1 []) (rs := [.tmp 6]) (c := bodyOf Tryd.f39) mixed tab_ok hΓ Tryd.func39 (by kernel_rfl) (by kernel_rfl) (by kernel_rfl) (by kernel_rfl) CutsOk_nil (fun x k r h => Eq.trans (b := (zq2t (zq2u)).run x k) (by kernel_rfl) h)
end
theorem zq2wΓ : ΓOk Tryd.prog (pick1 []) := ΓOk_nil
def zq2x : zq2s := zq2u
theorem zq2y : SpecOk Tryd.prog 39 (zq2t zq2x) := zq2v zq2wΓ

/-- pagewatch/clock.instant -/
abbrev zq2z := {β : Type} → Int → (Bool → Option β) → Option β
def zq30 (c : zq2z) : Spec :=
  ⟨[(false, [.data (.int .i64)])], [], [(false, [.data .bool])], [], fun x k => c x.1.1.1 (fun r0 => k (((r0, ()), ()), ()))⟩
section
variable (c_clock_in : zq2s)
@[reducible] def clock_instant_X : Ctx := ⟨look tab, pick1 [(39, .spec (zq2t c_clock_in))], false, false, false, false, false⟩
def zq31 {β : Type} (n : Int) (k : (Bool → Option β)) : Option β :=
  c_clock_in n (0 : Int) (8589934592 : Int) (fun (rin : Bool) =>
  k rin)
theorem zq32 (hΓ : ΓOk Tryd.prog (clock_instant_X c_clock_in).Γ) : SpecOk Tryd.prog 41 (zq30 (zq31 c_clock_in)) :=
  spec_exec (X := (clock_instant_X c_clock_in)) (Λ := pick1 []) (rs := [.tmp 2]) (c := bodyOf Tryd.f41) mixed tab_ok hΓ Tryd.func41 (by kernel_rfl) (by kernel_rfl) (by kernel_rfl) (by kernel_rfl) CutsOk_nil (fun x k r h => Eq.trans (b := (zq30 (zq31 c_clock_in)).run x k) (by kernel_rfl) h)
end
theorem zq33Γ : ΓOk Tryd.prog (pick1 [(39, .spec (zq2t zq2x))]) := (ΓOk_cons zq2y ΓOk_nil)
def zq34 : zq2z := zq31 zq2x
theorem zq35 : SpecOk Tryd.prog 41 (zq30 zq34) := zq32 zq2x zq33Γ

/-- (pagewatch/order.matrix).when -/
abbrev zq36 := {β : Type} → (List (List Int)) → Int → ((Int × Int) → Option β) → Option β
def zq37 (c : zq36) : Spec :=
  ⟨[(false, [.data (.slice (.slice (.int .i64)))]), (false, [.data (.int .i64)])], [], [(true, [.data (.prod (.int .i64) (.int .i64))])], [], fun x k => c x.1.1.1 x.1.2.1.1 (fun r0 => k (((r0, ()), ()), ()))⟩
section
@[reducible] def order_matrix_when_X : Ctx := ⟨look tab, pick1 [], false, false, false, false, false⟩
def zq38 {β : Type} (m : List (List Int)) (i_ : Int) (k : ((Int × Int) → Option β)) : Option β :=
  cond (decide (0 ≤ (IntKind.i64.wrap (i_ + (1 : Int)))) && decide ((IntKind.i64.wrap (i_ + (1 : Int))) < (List.length m : Int)))
  (let e : List Int := List.getD m (Int.toNat (IntKind.i64.wrap (i_ + (1 : Int)))) ([] : List Int);
  cond (decide (0 ≤ (0 : Int)) && decide ((0 : Int) < (List.length e : Int)))
  (let e2 : Int := List.getD e (Int.toNat (0 : Int)) (0 : Int);
  cond (decide (0 ≤ (0 : Int)) && decide ((0 : Int) < (List.length m : Int)))
  (let e3 : List Int := List.getD m (Int.toNat (0 : Int)) ([] : List Int);
  cond (decide (0 ≤ (IntKind.i64.wrap (i_ + (1 : Int)))) && decide ((IntKind.i64.wrap (i_ + (1 : Int))) < (List.length e3 : Int)))
  (let e4 : Int := List.getD e3 (Int.toNat (IntKind.i64.wrap (i_ + (1 : Int)))) (0 : Int);
  k ((IntKind.i64.wrap (0 - e2)), e4))
  none)
  none)
  none)
  none
theorem zq39 (hΓ : ΓOk Tryd.prog order_matrix_when_X.Γ) : SpecOk Tryd.prog 48 (zq37 (zq38)) :=
  spec_exec (X := order_matrix_when_X) (Λ := pick1 []) (rs := [.cell 4 44]) (c := bodyOf Tryd.f48) mixed tab_ok hΓ Tryd.func48 (by kernel_rfl) (by kernel_rfl) (by kernel_rfl) (by kernel_rfl) CutsOk_nil (fun x k r h => Eq.trans (b := (zq37 (zq38)).run x k) (by kernel_rfl) h)
end
theorem zq3aΓ : ΓOk Tryd.prog (pick1 []) := ΓOk_nil
def zq3b : zq36 := zq38
theorem zq3c : SpecOk Tryd.prog 48 (zq37 zq3b) := zq39 zq3aΓ

/-- (pagewatch/order.matrix).open -/
abbrev zq3d := {β : Type} → (List (List Int)) → Int → Int → (Bool → Option β) → Option β
def zq3e (c : zq3d) : Spec :=
  ⟨[(false, [.data (.slice (.slice (.int .i64)))]), (false, [.data (.int .i64)]), (false, [.data (.int .i64)])], [], [(false, [.data .bool])], [], fun x k => c x.1.1.1 x.1.2.1.1 x.1.2.2.1.1 (fun r0 => k (((r0, ()), ()), ()))⟩
section
variable (c_order_matrix_before : zq1y)
@[reducible] def order_matrix_open_X : Ctx := ⟨look tab, pick1 [(28, .spec (zq1z c_order_matrix_before))], false, false, false, false, false⟩
def zq3f {β : Type} (m : List (List Int)) (a : Int) (b : Int) (k : (Bool → Option β)) : Option β :=
  c_order_matrix_before m a b (fun (rbefore : Bool) =>
  cond (!rbefore)
  (c_order_matrix_before m b a (fun (rbefore2 : Bool) =>
  k (!rbefore2)))
  (k false))
theorem zq3g (hΓ : ΓOk Tryd.prog (order_matrix_open_X c_order_matrix_before).Γ) : SpecOk Tryd.prog 49 (zq3e (zq3f c_order_matrix_before)) :=
  spec_exec (X := (order_matrix_open_X c_order_matrix_before)) (Λ := pick1 []) (rs := [.tmp 6]) (c := bodyOf Tryd.f49) mixed tab_ok hΓ Tryd.func49 (by kernel_rfl) (by kernel_rfl) (by kernel_rfl) (by kernel_rfl) CutsOk_nil (fun x k r h => Eq.trans (b := (zq3e (zq3f c_order_matrix_before)).run x k) (by kernel_rfl) h)
end
theorem zq3hΓ : ΓOk Tryd.prog (pick1 [(28, .spec (zq1z zq23))]) := (ΓOk_cons zq24 ΓOk_nil)
def zq3i : zq3d := zq3f zq23
theorem zq3j : SpecOk Tryd.prog 49 (zq3e zq3i) := zq3g zq23 zq3hΓ

/-- pagewatch/order.in -/
abbrev zq3k := {β : Type} → Int → Int → Int → (Bool → Option β) → Option β
def zq3l (c : zq3k) : Spec :=
  ⟨[(false, [.data (.int .i64)]), (false, [.data (.int .i64)]), (false, [.data (.int .i64)])], [], [(false, [.data .bool])], [], fun x k => c x.1.1.1 x.1.2.1.1 x.1.2.2.1.1 (fun r0 => k (((r0, ()), ()), ()))⟩
section
@[reducible] def order_in_X : Ctx := ⟨look tab, pick1 [], false, false, false, false, false⟩
def zq3m {β : Type} (n : Int) (low : Int) (high : Int) (k : (Bool → Option β)) : Option β :=
  cond (decide (low ≤ n))
  (k (decide (n ≤ high)))
  (k false)
theorem zq3n (hΓ : ΓOk Tryd.prog order_in_X.Γ) : SpecOk Tryd.prog 52 (zq3l (zq3m)) :=
  spec_exec (X := order_in_X) (Λ := pick1 []) (rs := [.tmp 6]) (c := bodyOf Tryd.f52) mixed tab_ok hΓ Tryd.func52 (by kernel_rfl) (by kernel_rfl) (by kernel_rfl) (by kernel_rfl) CutsOk_nil (fun x k r h => Eq.trans (b := (zq3l (zq3m)).run x k) (by kernel_rfl) h)
end
theorem zq3oΓ : ΓOk Tryd.prog (pick1 []) := ΓOk_nil
def zq3p : zq3k := zq3m
theorem zq3q : SpecOk Tryd.prog 52 (zq3l zq3p) := zq3n zq3oΓ

/-- pagewatch/order.Allows$1 -/
abbrev zq3r := {β : Type} → Int → (List (List Int)) → Int → (Bool → (List (List Int)) → Int → Option β) → Option β
def zq3s (c : zq3r) : Spec :=
  ⟨[(false, [.data (.int .i64)]), (false, [.ptr 0 0]), (false, [.ptr 1 0])], [.cells 82 [.data (.slice (.slice (.int .i64)))], .cells 3 [.data (.int .i64)]], [(false, [.data .bool])], [.cells 82 [.data (.slice (.slice (.int .i64)))], .cells 3 [.data (.int .i64)]], fun x k => c x.1.1.1 x.2.1.1 x.2.2.1.1 (fun r0 r1 r2 => k (((r0, ()), ()), ((r1, ()), (r2, ()), ())))⟩
section
variable (c_order_matrix_before : zq1y)
@[reducible] def order_Allows_f1_X : Ctx := ⟨look tab, pick1 [(28, .spec (zq1z c_order_matrix_before))], false, false, false, false, false⟩
def zq3t {β : Type} (y : Int) (t1 : List (List Int)) (t2 : Int) (k : (Bool → (List (List Int)) → Int → Option β)) : Option β :=
  c_order_matrix_before t1 t2 y (fun (rbefore : Bool) =>
  k rbefore t1 t2)
theorem zq3u (hΓ : ΓOk Tryd.prog (order_Allows_f1_X c_order_matrix_before).Γ) : SpecOk Tryd.prog 55 (zq3s (zq3t c_order_matrix_before)) :=
  spec_exec (X := (order_Allows_f1_X c_order_matrix_before)) (Λ := pick1 []) (rs := [.tmp 4]) (c := bodyOf Tryd.f55) mixed tab_ok hΓ Tryd.func55 (by kernel_rfl) (by kernel_rfl) (by kernel_rfl) (by kernel_rfl) CutsOk_nil (fun x k r h => Eq.trans (b := (zq3s (zq3t c_order_matrix_before)).run x k) (by kernel_rfl) h)
end
theorem zq3vΓ : ΓOk Tryd.prog (pick1 [(28, .spec (zq1z zq23))]) := (ΓOk_cons zq24 ΓOk_nil)
def zq3w : zq3r := zq3t zq23
theorem zq3x : SpecOk Tryd.prog 55 (zq3s zq3w) := zq3u zq23 zq3vΓ

/-- pagewatch/constraint.direct -/
abbrev zq3y := {β : Type} → Int → (List (Int × (Int × Int))) → ((List (List Int)) → Option β) → Option β
def zq3z (c : zq3y) : Spec :=
  ⟨[(false, [.data (.int .i64)]), (false, [.data (.slice (.prod (.int .i64) (.prod (.int .i64) (.int .i64))))])], [], [(false, [.math 0])], [.mat 22 3 (.int .i64)], fun x k => c x.1.1.1 x.1.2.1.1 (fun r0 => k (((), ()), (r0, ())))⟩
noncomputable def constraint_direct_p2_code : Code := codeAt 58 (bodyOf Tryd.f61)
noncomputable def constraint_direct_p3_code : Code := codeAt 122 (bodyOf Tryd.f61)
noncomputable def constraint_direct_p1_code : Code := codeAt 462 (loopBody constraint_direct_p2_code)
abbrev zq40 (β : Type) := Int → (List (Int × (Int × Int))) → Int → Int → (List (List Int)) → Option β
abbrev zq41 := {β : Type} → zq40 β → Int → (List (Int × (Int × Int))) → Int → Int → Int → Int → Int → (List (List Int)) → Option β
def zq42 : View := ⟨0, [0, 1, 5, 6, 13, 14, 26, 27], [(false, [.data (.int .i64)]), (false, [.data (.slice (.prod (.int .i64) (.prod (.int .i64) (.int .i64))))]), (false, [.math 0]), (false, [.data (.int .i64)]), (false, [.data (.int .i64)]), (false, [.data (.int .i64)]), (false, [.data (.int .i64)]), (false, [.data (.int .i64)])], [.mat 22 3 (.int .i64)]⟩
def zq43 : List (AExit × View) := [(.exit 2, ⟨0, [0, 1, 5, 13, 14], [(false, [.data (.int .i64)]), (false, [.data (.slice (.prod (.int .i64) (.prod (.int .i64) (.int .i64))))]), (false, [.math 0]), (false, [.data (.int .i64)]), (false, [.data (.int .i64)])], [.mat 22 3 (.int .i64)]⟩)]
@[reducible] def constraint_direct_p1_G (p : zq41) {β : Type} (d : zq42.den) (ks : Outs.K β zq43) : Option β :=
  p (fun a0 a1 a2 a3 a4 => ks.1 (((a0, ()), (a1, ()), (), (a2, ()), (a3, ()), ()), (a4, ()))) d.1.1.1 d.1.2.1.1 d.1.2.2.2.1.1 d.1.2.2.2.2.1.1 d.1.2.2.2.2.2.1.1 d.1.2.2.2.2.2.2.1.1 d.1.2.2.2.2.2.2.2.1.1 d.2.1
abbrev zq44 (β : Type) := (List (Int × (Int × Int))) → (List (List Int)) → Option β
abbrev zq45 := {β : Type} → zq44 β → Int → (List (Int × (Int × Int))) → Int → Int → (List (List Int)) → Option β
def zq46 : View := ⟨0, [0, 1, 5, 13, 14], [(false, [.data (.int .i64)]), (false, [.data (.slice (.prod (.int .i64) (.prod (.int .i64) (.int .i64))))]), (false, [.math 0]), (false, [.data (.int .i64)]), (false, [.data (.int .i64)])], [.mat 22 3 (.int .i64)]⟩
def zq47 : List (AExit × View) := [(.exit 0, ⟨0, [1, 5], [(false, [.data (.slice (.prod (.int .i64) (.prod (.int .i64) (.int .i64))))]), (false, [.math 0])], [.mat 22 3 (.int .i64)]⟩)]
@[reducible] def constraint_direct_p2_G (p : zq45) {β : Type} (d : zq46.den) (ks : Outs.K β zq47) : Option β :=
  p (fun a0 a1 => ks.1 (((a0, ()), (), ()), (a1, ()))) d.1.1.1 d.1.2.1.1 d.1.2.2.2.1.1 d.1.2.2.2.2.1.1 d.2.1
abbrev zq48 (β : Type) := (List (List Int)) → Option β
abbrev zq49 := {β : Type} → zq48 β → (List (Int × (Int × Int))) → Int → Int → (List (List Int)) → Option β
def zq4a : View := ⟨0, [5, 38, 39, 40], [(false, [.math 0]), (false, [.data (.slice (.prod (.int .i64) (.prod (.int .i64) (.int .i64))))]), (false, [.data (.int .i64)]), (false, [.data (.int .i64)])], [.mat 22 3 (.int .i64)]⟩
def zq4b : List (AExit × View) := [(.exit 4, ⟨0, [5], [(false, [.math 0])], [.mat 22 3 (.int .i64)]⟩)]
@[reducible] def constraint_direct_p3_G (p : zq49) {β : Type} (d : zq4a.den) (ks : Outs.K β zq4b) : Option β :=
  p (fun a0 => ks.1 (((), ()), (a0, ()))) d.1.2.1.1 d.1.2.2.1.1 d.1.2.2.2.1.1 d.2.1
section
@[reducible] def constraint_direct_X : Ctx := ⟨look tab, pick1 [], true, false, false, false, false⟩
def zq4c {β : Type} (rec : Int → (List (Int × (Int × Int))) → Int → Int → Int → Int → Int → (List (List Int)) → Option β) (k1 : zq40 β) (n : Int) (l : List (Int × (Int × Int))) (i_ : Int) (t13 : Int) (t14 : Int) (t26 : Int) (t27 : Int) (out : List (List Int)) : Option β :=
  cond (decide (t27 < t26))
  (cond (decide (0 ≤ i_) && decide (i_ < (List.length out : Int)))
  (cond (decide (0 ≤ t27) && decide (t27 < (List.length (List.getD out (Int.toNat i_) []) : Int)))
  (let m_ : List (List Int) := (List.set out (Int.toNat i_) (List.set (List.getD out (Int.toNat i_) []) (Int.toNat t27) (1099511627776 : Int)));
  rec n l i_ t13 t14 t26 (IntKind.i64.wrap (t27 + (1 : Int))) m_)
  none)
  none)
  (k1 n l t13 t14 out)
def zq4d {β : Type} : Nat → zq40 β → Int → (List (Int × (Int × Int))) → Int → Int → Int → Int → Int → (List (List Int)) → Option β
  | 0 => fun _ _ _ _ _ _ _ _ _ => none
  | i + 1 => fun k1 n l i_ t13 t14 t26 t27 out => zq4c (zq4d i k1) k1 n l i_ t13 t14 t26 t27 out
theorem zq4e (hΓ : ΓOk Tryd.prog constraint_direct_X.Γ) (i : Nat) : PieceOk Tryd.prog 66 0 constraint_direct_p1_code zq42 zq43 (constraint_direct_p1_G (zq4d i)) := by
  rw [show constraint_direct_p1_code = .loop (loopBody constraint_direct_p1_code) by kernel_rfl]
  exact piece_loop (X := constraint_direct_X) (p := 1) (Λ := pick1 []) (G := fun i => @fun β d ks => constraint_direct_p1_G (zq4d i) d ks) mixed tab_ok hΓ rfl (by kernel_rfl) CutsOk_nil (fun _ _ => rfl) (fun i => @fun β d ks r h => Eq.trans (b := constraint_direct_p1_G (zq4d (i + 1)) d ks) (by kernel_rfl) h) i
def zq4f (p1 : zq41) {β : Type} (rec : Int → (List (Int × (Int × Int))) → Int → Int → (List (List Int)) → Option β) (k1 : zq44 β) (n : Int) (l : List (Int × (Int × Int))) (t13 : Int) (t14 : Int) (out : List (List Int)) : Option β :=
  cond (decide (t14 < t13))
  (cond (decide (0 ≤ n) && (decide (n = n) && (decide (Int.toNat n * 8 ≤ roomMax) && decide (n ≤ 9223372036854775807))))
  (let l2 : List Int := (List.replicate (Int.toNat n) (0 : Int));
  cond (decide (0 ≤ t14) && decide (t14 < (List.length out : Int)))
  (let m_ : List (List Int) := (List.set out (Int.toNat t14) l2);
  cond (decide (0 ≤ t14) && decide (t14 < (List.length m_ : Int)))
  (p1 (fun (n2 : Int) (l3 : List (Int × (Int × Int))) (t132 : Int) (t142 : Int) (out2 : List (List Int)) =>
  rec n2 l3 t132 (IntKind.i64.wrap (t142 + (1 : Int))) out2) n l t14 t13 t14 (List.length (List.getD m_ (Int.toNat t14) []) : Int) (0 : Int) m_)
  none)
  none)
  none)
  (k1 l out)
def zq4g (p1 : zq41) {β : Type} : Nat → zq44 β → Int → (List (Int × (Int × Int))) → Int → Int → (List (List Int)) → Option β
  | 0 => fun _ _ _ _ _ _ => none
  | i + 1 => fun k1 n l t13 t14 out => zq4f p1 (zq4g p1 i k1) k1 n l t13 t14 out
theorem zq4h (hΓ : ΓOk Tryd.prog constraint_direct_X.Γ) (p1 : zq41) (hp1 : PieceOk Tryd.prog 66 0 constraint_direct_p1_code zq42 zq43 (constraint_direct_p1_G p1)) (i : Nat) : PieceOk Tryd.prog 66 0 constraint_direct_p2_code zq46 zq47 (constraint_direct_p2_G (zq4g p1 i)) := by
  rw [show constraint_direct_p2_code = .loop (loopBody constraint_direct_p2_code) by kernel_rfl]
  exact piece_loop (X := constraint_direct_X) (p := 1) (Λ := pick1 [(462, pieceCut zq42 zq43 (constraint_direct_p1_G p1))]) (G := fun i => @fun β d ks => constraint_direct_p2_G (zq4g p1 i) d ks) mixed tab_ok hΓ rfl (by kernel_rfl) (CutsOk_cons (q := 462) (c' := constraint_direct_p1_code) (by kernel_rfl) rfl hp1 CutsOk_nil) (fun _ _ => rfl) (fun i => @fun β d ks r h => Eq.trans (b := constraint_direct_p2_G (zq4g p1 (i + 1)) d ks) (by kernel_rfl) h) i
def zq4i {β : Type} (rec : (List (Int × (Int × Int))) → Int → Int → (List (List Int)) → Option β) (k1 : zq48 β) (t38 : List (Int × (Int × Int))) (t39 : Int) (t40 : Int) (out : List (List Int)) : Option β :=
  cond (decide (t40 < t39))
  (cond (decide (0 ≤ t40) && decide (t40 < (List.length t38 : Int)))
  (let e : (Int × (Int × Int)) := List.getD t38 (Int.toNat t40) ((0 : Int), ((0 : Int), (0 : Int)));
  cond (decide (0 ≤ e.1) && decide (e.1 < (List.length out : Int)))
  (cond (decide (0 ≤ e.1) && decide (e.1 < (List.length out : Int)))
  (cond (decide (0 ≤ e.2.1) && decide (e.2.1 < (List.length (List.getD out (Int.toNat e.1) []) : Int)))
  (cond (decide (0 ≤ e.2.1) && decide (e.2.1 < (List.length (List.getD out (Int.toNat e.1) []) : Int)))
  (let m_ : List (List Int) := (List.set out (Int.toNat e.1) (List.set (List.getD out (Int.toNat e.1) []) (Int.toNat e.2.1) (if e.2.2 < (List.getD (List.getD out (Int.toNat e.1) []) (Int.toNat e.2.1) (0 : Int)) then e.2.2 else (List.getD (List.getD out (Int.toNat e.1) []) (Int.toNat e.2.1) (0 : Int)))));
  rec t38 t39 (IntKind.i64.wrap (t40 + (1 : Int))) m_)
  none)
  none)
  none)
  none)
  none)
  (k1 out)
def zq4j {β : Type} : Nat → zq48 β → (List (Int × (Int × Int))) → Int → Int → (List (List Int)) → Option β
  | 0 => fun _ _ _ _ _ => none
  | i + 1 => fun k1 t38 t39 t40 out => zq4i (zq4j i k1) k1 t38 t39 t40 out
theorem zq4k (hΓ : ΓOk Tryd.prog constraint_direct_X.Γ) (i : Nat) : PieceOk Tryd.prog 66 0 constraint_direct_p3_code zq4a zq4b (constraint_direct_p3_G (zq4j i)) := by
  rw [show constraint_direct_p3_code = .loop (loopBody constraint_direct_p3_code) by kernel_rfl]
  exact piece_loop (X := constraint_direct_X) (p := 1) (Λ := pick1 []) (G := fun i => @fun β d ks => constraint_direct_p3_G (zq4j i) d ks) mixed tab_ok hΓ rfl (by kernel_rfl) CutsOk_nil (fun _ _ => rfl) (fun i => @fun β d ks r h => Eq.trans (b := constraint_direct_p3_G (zq4j (i + 1)) d ks) (by kernel_rfl) h) i
def zq4l (p2 : zq45) (p3 : zq49) {β : Type} (n : Int) (l : List (Int × (Int × Int))) (k : ((List (List Int)) → Option β)) : Option β :=
  cond (decide (0 ≤ n) && (decide (n = n) && (decide (Int.toNat n * 24 ≤ roomMax) && decide (n ≤ 9223372036854775807))))
  (let m_ : List (List Int) := (List.replicate (Int.toNat n) ([] : List Int));
  p2 (fun (l2 : List (Int × (Int × Int))) (out : List (List Int)) =>
  p3 (fun (out2 : List (List Int)) =>
  k out2) l2 (List.length l2 : Int) (0 : Int) out) n l (List.length m_ : Int) (0 : Int) m_)
  none
theorem zq4m (hΓ : ΓOk Tryd.prog constraint_direct_X.Γ) (p2 : zq45) (p3 : zq49) (hp2 : PieceOk Tryd.prog 66 0 constraint_direct_p2_code zq46 zq47 (constraint_direct_p2_G p2)) (hp3 : PieceOk Tryd.prog 66 0 constraint_direct_p3_code zq4a zq4b (constraint_direct_p3_G p3)) : SpecOk Tryd.prog 61 (zq3z (zq4l p2 p3)) :=
  spec_exec (X := constraint_direct_X) (Λ := pick1 [(58, pieceCut zq46 zq47 (constraint_direct_p2_G p2)), (122, pieceCut zq4a zq4b (constraint_direct_p3_G p3))]) (rs := [.tmp 4]) (c := bodyOf Tryd.f61) mixed tab_ok hΓ Tryd.func61 (by kernel_rfl) (by kernel_rfl) (by kernel_rfl) (by kernel_rfl) (CutsOk_cons (q := 58) (c' := constraint_direct_p2_code) (by kernel_rfl) rfl hp2 (CutsOk_cons (q := 122) (c' := constraint_direct_p3_code) (by kernel_rfl) rfl hp3 CutsOk_nil)) (fun x k r h => Eq.trans (b := (zq3z (zq4l p2 p3)).run x k) (by kernel_rfl) h)
end
theorem zq4nΓ : ΓOk Tryd.prog (pick1 []) := ΓOk_nil
def zq4o (m : Nat) : zq41 := zq4d m
theorem zq4p {β : Type} (i : Nat) (k1 n l i_ t13 t14 t26 t27 out) : (zq4o (i + 1) k1 n l i_ t13 t14 t26 t27 out : Option β) = zq4c (zq4o i k1) k1 n l i_ t13 t14 t26 t27 out := rfl
def zq4q : zq41 := zq4o fuel
theorem zq4r : PieceOk Tryd.prog 66 0 constraint_direct_p1_code zq42 zq43 (constraint_direct_p1_G zq4q) := zq4e zq4nΓ fuel
def zq4s (m : Nat) : zq45 := zq4g zq4q m
theorem zq4t {β : Type} (i : Nat) (k1 n l t13 t14 out) : (zq4s (i + 1) k1 n l t13 t14 out : Option β) = zq4f zq4q (zq4s i k1) k1 n l t13 t14 out := rfl
def zq4u : zq45 := zq4s fuel
theorem zq4v : PieceOk Tryd.prog 66 0 constraint_direct_p2_code zq46 zq47 (constraint_direct_p2_G zq4u) := zq4h zq4nΓ zq4q zq4r fuel
def zq4w (m : Nat) : zq49 := zq4j m
theorem zq4x {β : Type} (i : Nat) (k1 t38 t39 t40 out) : (zq4w (i + 1) k1 t38 t39 t40 out : Option β) = zq4i (zq4w i k1) k1 t38 t39 t40 out := rfl
def zq4y : zq49 := zq4w fuel
theorem zq4z : PieceOk Tryd.prog 66 0 constraint_direct_p3_code zq4a zq4b (constraint_direct_p3_G zq4y) := zq4k zq4nΓ fuel
def zq50 : zq3y := zq4l zq4u zq4y
theorem zq51 : SpecOk Tryd.prog 61 (zq3z zq50) := zq4m zq4nΓ zq4u zq4y zq4v zq4z

/-- slices.Index[[]int,int] -/
abbrev zq52 := {β : Type} → (List Int) → Int → (Int → Option β) → Option β
def zq53 (c : zq52) : Spec :=
  ⟨[(false, [.data (.slice (.int .i64))]), (false, [.data (.int .i64)])], [], [(false, [.data (.int .i64)])], [], fun x k => c x.1.1.1 x.1.2.1.1 (fun r0 => k (((r0, ()), ()), ()))⟩
noncomputable def slices_Index_int_int_p1_code : Code := codeAt 26 (bodyOf Tryd.f73)
abbrev zq54 (β : Type) := Int → Option β
abbrev zq55 (β : Type) := Unit → Option β
abbrev zq56 := {β : Type} → zq54 β → zq55 β → (List Int) → Int → Int → Int → Option β
def zq57 : View := ⟨0, [0, 1, 7, 8], [(false, [.data (.slice (.int .i64))]), (false, [.data (.int .i64)]), (false, [.data (.int .i64)]), (false, [.data (.int .i64)])], []⟩
def zq58 : List (AExit × View) := [(.ret, ⟨0, [4], [(false, [.data (.int .i64)])], []⟩), (.exit 0, ⟨0, [], [], []⟩)]
@[reducible] def slices_Index_int_int_p1_G (p : zq56) {β : Type} (d : zq57.den) (ks : Outs.K β zq58) : Option β :=
  p (fun a0 => ks.1 (((a0, ()), ()), ())) (fun _ => ks.2.1 ((), ())) d.1.1.1 d.1.2.1.1 d.1.2.2.1.1 d.1.2.2.2.1.1
section
@[reducible] def slices_Index_int_int_X : Ctx := ⟨look tab, pick1 [], false, false, false, false, false⟩
def zq59 {β : Type} (rec : (List Int) → Int → Int → Int → Option β) (k1 : zq54 β) (k2 : zq55 β) (s : List Int) (v : Int) (t7 : Int) (t8 : Int) : Option β :=
  cond (decide (t8 < t7))
  (cond (decide (0 ≤ t8) && decide (t8 < (List.length s : Int)))
  (let e : Int := List.getD s (Int.toNat t8) (0 : Int);
  cond (decide (v = e))
  (k1 t8)
  (rec s v t7 (IntKind.i64.wrap (t8 + (1 : Int)))))
  none)
  (k2 ())
def zq5a {β : Type} : Nat → zq54 β → zq55 β → (List Int) → Int → Int → Int → Option β
  | 0 => fun _ _ _ _ _ _ => none
  | i + 1 => fun k1 k2 s v t7 t8 => zq59 (zq5a i k1 k2) k1 k2 s v t7 t8
theorem zq5b (hΓ : ΓOk Tryd.prog slices_Index_int_int_X.Γ) (i : Nat) : PieceOk Tryd.prog 19 0 slices_Index_int_int_p1_code zq57 zq58 (slices_Index_int_int_p1_G (zq5a i)) := by
  rw [show slices_Index_int_int_p1_code = .loop (loopBody slices_Index_int_int_p1_code) by kernel_rfl]
  exact piece_loop (X := slices_Index_int_int_X) (p := 1) (Λ := pick1 []) (G := fun i => @fun β d ks => slices_Index_int_int_p1_G (zq5a i) d ks) mixed tab_ok hΓ rfl (by kernel_rfl) CutsOk_nil (fun _ _ => rfl) (fun i => @fun β d ks r h => Eq.trans (b := slices_Index_int_int_p1_G (zq5a (i + 1)) d ks) (by kernel_rfl) h) i
def zq5c (p1 : zq56) {β : Type} (s : List Int) (v : Int) (k : (Int → Option β)) : Option β :=
  p1 (fun (t4 : Int) =>
  k t4) (fun (_ : Unit) =>
  k (-1 : Int)) s v (List.length s : Int) (0 : Int)
theorem zq5d (hΓ : ΓOk Tryd.prog slices_Index_int_int_X.Γ) (p1 : zq56) (hp1 : PieceOk Tryd.prog 19 0 slices_Index_int_int_p1_code zq57 zq58 (slices_Index_int_int_p1_G p1)) : SpecOk Tryd.prog 73 (zq53 (zq5c p1)) :=
  spec_exec (X := slices_Index_int_int_X) (Λ := pick1 [(26, pieceCut zq57 zq58 (slices_Index_int_int_p1_G p1))]) (rs := [.tmp 4]) (c := bodyOf Tryd.f73) mixed tab_ok hΓ Tryd.func73 (by kernel_rfl) (by kernel_rfl) (by kernel_rfl) (by kernel_rfl) (CutsOk_cons (q := 26) (c' := slices_Index_int_int_p1_code) (by kernel_rfl) rfl hp1 CutsOk_nil) (fun x k r h => Eq.trans (b := (zq53 (zq5c p1)).run x k) (by kernel_rfl) h)
end
theorem zq5eΓ : ΓOk Tryd.prog (pick1 []) := ΓOk_nil
def zq5f (m : Nat) : zq56 := zq5a m
theorem zq5g {β : Type} (i : Nat) (k1 k2 s v t7 t8) : (zq5f (i + 1) k1 k2 s v t7 t8 : Option β) = zq59 (zq5f i k1 k2) k1 k2 s v t7 t8 := rfl
def zq5h : zq56 := zq5f fuel
theorem zq5i : PieceOk Tryd.prog 19 0 slices_Index_int_int_p1_code zq57 zq58 (slices_Index_int_int_p1_G zq5h) := zq5b zq5eΓ fuel
def zq5j : zq52 := zq5c zq5h
theorem zq5k : SpecOk Tryd.prog 73 (zq53 zq5j) := zq5d zq5eΓ zq5h zq5i

/-- pagewatch/clock.Meet -/
abbrev zq5l := {β : Type} → (Int × Int) → (Int × Int) → ((Int × Int) → Option β) → Option β
def zq5m (c : zq5l) : Spec :=
  ⟨[(true, [.data (.prod (.int .i64) (.int .i64))]), (true, [.data (.prod (.int .i64) (.int .i64))])], [], [(true, [.data (.prod (.int .i64) (.int .i64))])], [], fun x k => c x.1.1.1 x.1.2.1.1 (fun r0 => k (((r0, ()), ()), ()))⟩
section
@[reducible] def clock_Meet_X : Ctx := ⟨look tab, pick1 [], false, false, false, false, false⟩
def zq5n {β : Type} (a : (Int × Int)) (b : (Int × Int)) (k : ((Int × Int) → Option β)) : Option β :=
  k ((if b.1 > a.1 then b.1 else a.1), (if b.2 < a.2 then b.2 else a.2))
theorem zq5o (hΓ : ΓOk Tryd.prog clock_Meet_X.Γ) : SpecOk Tryd.prog 79 (zq5m (zq5n)) :=
  spec_exec (X := clock_Meet_X) (Λ := pick1 []) (rs := [.cell 4 44]) (c := bodyOf Tryd.f79) mixed tab_ok hΓ Tryd.func79 (by kernel_rfl) (by kernel_rfl) (by kernel_rfl) (by kernel_rfl) CutsOk_nil (fun x k r h => Eq.trans (b := (zq5m (zq5n)).run x k) (by kernel_rfl) h)
end
theorem zq5pΓ : ΓOk Tryd.prog (pick1 []) := ΓOk_nil
def zq5q : zq5l := zq5n
theorem zq5r : SpecOk Tryd.prog 79 (zq5m zq5q) := zq5o zq5pΓ

/-- pagewatch/clock.Empty -/
abbrev zq5s := {β : Type} → (Int × Int) → (Bool → Option β) → Option β
def zq5t (c : zq5s) : Spec :=
  ⟨[(true, [.data (.prod (.int .i64) (.int .i64))])], [], [(false, [.data .bool])], [], fun x k => c x.1.1.1 (fun r0 => k (((r0, ()), ()), ()))⟩
section
@[reducible] def clock_Empty_X : Ctx := ⟨look tab, pick1 [], false, false, false, false, false⟩
def zq5u {β : Type} (a : (Int × Int)) (k : (Bool → Option β)) : Option β :=
  k (decide (a.2 < a.1))
theorem zq5v (hΓ : ΓOk Tryd.prog clock_Empty_X.Γ) : SpecOk Tryd.prog 81 (zq5t (zq5u)) :=
  spec_exec (X := clock_Empty_X) (Λ := pick1 []) (rs := [.tmp 2]) (c := bodyOf Tryd.f81) mixed tab_ok hΓ Tryd.func81 (by kernel_rfl) (by kernel_rfl) (by kernel_rfl) (by kernel_rfl) CutsOk_nil (fun x k r h => Eq.trans (b := (zq5t (zq5u)).run x k) (by kernel_rfl) h)
end
theorem zq5wΓ : ΓOk Tryd.prog (pick1 []) := ΓOk_nil
def zq5x : zq5s := zq5u
theorem zq5y : SpecOk Tryd.prog 81 (zq5t zq5x) := zq5v zq5wΓ

/-- pagewatch/constraint.in -/
abbrev zq5z := {β : Type} → Int → Int → Int → (Bool → Option β) → Option β
def zq60 (c : zq5z) : Spec :=
  ⟨[(false, [.data (.int .i64)]), (false, [.data (.int .i64)]), (false, [.data (.int .i64)])], [], [(false, [.data .bool])], [], fun x k => c x.1.1.1 x.1.2.1.1 x.1.2.2.1.1 (fun r0 => k (((r0, ()), ()), ()))⟩
section
@[reducible] def constraint_in_X : Ctx := ⟨look tab, pick1 [], false, false, false, false, false⟩
def zq61 {β : Type} (n : Int) (low : Int) (high : Int) (k : (Bool → Option β)) : Option β :=
  cond (decide (low ≤ n))
  (k (decide (n ≤ high)))
  (k false)
theorem zq62 (hΓ : ΓOk Tryd.prog constraint_in_X.Γ) : SpecOk Tryd.prog 83 (zq60 (zq61)) :=
  spec_exec (X := constraint_in_X) (Λ := pick1 []) (rs := [.tmp 6]) (c := bodyOf Tryd.f83) mixed tab_ok hΓ Tryd.func83 (by kernel_rfl) (by kernel_rfl) (by kernel_rfl) (by kernel_rfl) CutsOk_nil (fun x k r h => Eq.trans (b := (zq60 (zq61)).run x k) (by kernel_rfl) h)
end
theorem zq63Γ : ΓOk Tryd.prog (pick1 []) := ΓOk_nil
def zq64 : zq5z := zq61
theorem zq65 : SpecOk Tryd.prog 83 (zq60 zq64) := zq62 zq63Γ

/-- pagewatch/constraint.Valid$1 -/
abbrev zq66 := {β : Type} → (Int × (Int × Int)) → Int → (Bool → Int → Option β) → Option β
def zq67 (c : zq66) : Spec :=
  ⟨[(true, [.data (.prod (.int .i64) (.prod (.int .i64) (.int .i64)))]), (false, [.ptr 0 0])], [.cells 3 [.data (.int .i64)]], [(false, [.data .bool])], [.cells 3 [.data (.int .i64)]], fun x k => c x.1.1.1 x.2.1.1 (fun r0 r1 => k (((r0, ()), ()), ((r1, ()), ())))⟩
section
variable (c_constraint_in : zq5z)
@[reducible] def constraint_Valid_f1_X : Ctx := ⟨look tab, pick1 [(83, .spec (zq60 c_constraint_in))], false, false, false, false, false⟩
def zq68 {β : Type} (d : (Int × (Int × Int))) (t1 : Int) (k : (Bool → Int → Option β)) : Option β :=
  c_constraint_in d.1 (0 : Int) (IntKind.i64.wrap (t1 - (1 : Int))) (fun (rin : Bool) =>
  cond (!rin)
  (k true t1)
  (c_constraint_in d.2.1 (0 : Int) (IntKind.i64.wrap (t1 - (1 : Int))) (fun (rin2 : Bool) =>
  cond (!rin2)
  (k true t1)
  (c_constraint_in d.2.2 (-17179869184 : Int) (17179869184 : Int) (fun (rin3 : Bool) =>
  k (!rin3) t1)))))
theorem zq69 (hΓ : ΓOk Tryd.prog (constraint_Valid_f1_X c_constraint_in).Γ) : SpecOk Tryd.prog 85 (zq67 (zq68 c_constraint_in)) :=
  spec_exec (X := (constraint_Valid_f1_X c_constraint_in)) (Λ := pick1 []) (rs := [.tmp 3]) (c := bodyOf Tryd.f85) mixed tab_ok hΓ Tryd.func85 (by kernel_rfl) (by kernel_rfl) (by kernel_rfl) (by kernel_rfl) CutsOk_nil (fun x k r h => Eq.trans (b := (zq67 (zq68 c_constraint_in)).run x k) (by kernel_rfl) h)
end
theorem zq6aΓ : ΓOk Tryd.prog (pick1 [(83, .spec (zq60 zq64))]) := (ΓOk_cons zq65 ΓOk_nil)
def zq6b : zq66 := zq68 zq64
theorem zq6c : SpecOk Tryd.prog 85 (zq67 zq6b) := zq69 zq64 zq6aΓ

/-- pagewatch/clock.Elapsed$1 -/
abbrev zq6d := {β : Type} → Int → Int → (Int → Option β) → Option β
def zq6e (c : zq6d) : Spec :=
  ⟨[(false, [.data (.int .i64)]), (false, [.data (.int .i64)])], [], [(false, [.data (.int .i64)])], [], fun x k => c x.1.1.1 x.1.2.1.1 (fun r0 => k (((r0, ()), ()), ()))⟩
section
@[reducible] def clock_Elapsed_f1_X : Ctx := ⟨look tab, pick1 [], false, false, false, false, false⟩
def zq6f {β : Type} (a : Int) (b : Int) (k : (Int → Option β)) : Option β :=
  cond (!decide (b = 0))
  (let t : Int := (IntKind.i64.wrap (Int.tdiv (IntKind.i64.wrap ((IntKind.i64.wrap (a + b)) - (1 : Int))) b));
  k t)
  none
theorem zq6g (hΓ : ΓOk Tryd.prog clock_Elapsed_f1_X.Γ) : SpecOk Tryd.prog 96 (zq6e (zq6f)) :=
  spec_exec (X := clock_Elapsed_f1_X) (Λ := pick1 []) (rs := [.tmp 4]) (c := bodyOf Tryd.f96) mixed tab_ok hΓ Tryd.func96 (by kernel_rfl) (by kernel_rfl) (by kernel_rfl) (by kernel_rfl) CutsOk_nil (fun x k r h => Eq.trans (b := (zq6e (zq6f)).run x k) (by kernel_rfl) h)
end
theorem zq6hΓ : ΓOk Tryd.prog (pick1 []) := ΓOk_nil
def zq6i : zq6d := zq6f
theorem zq6j : SpecOk Tryd.prog 96 (zq6e zq6i) := zq6g zq6hΓ

/-- (*pagewatch/pagewatchmade.Dice).Record -/
abbrev zq6k := {β : Type} → Int → (List Int × Int) → ((List Int × Int) → (List (List UInt8 × Int)) → (List (Int × (Int × (Int × Int)))) → (List zq0) → (List (Int × (Int × Int))) → (List Int) → Option β) → Option β
def zq6l (c : zq6k) : Spec :=
  ⟨[(false, [.ptr 0 0]), (false, [.data (.int .i64)])], [.cells 56 [.data (.prod (.slice (.int .i64)) (.int .i64))]], [(true, [.rowh 1, .rowh 2, .rowh 3, .rowh 4]), (false, [.rowh 5])], [.cells 56 [.data (.prod (.slice (.int .i64)) (.int .i64))], .row 36 (.prod .str (.int .i64)), .row 54 (.prod (.int .i64) (.prod (.int .i64) (.prod (.int .i64) (.int .i64)))), .row 49 zq1, .row 60 (.prod (.int .i64) (.prod (.int .i64) (.int .i64))), .row 3 (.int .i64)], fun x k => c x.1.2.1.1 x.2.1.1 (fun r0 r1 r2 r3 r4 r5 => k (((), (), ()), ((r0, ()), r1, r2, r3, r4, r5, ())))⟩
noncomputable def made_Dice_Record_p1_code : Code := codeAt 122 (bodyOf Tryd.f8)
noncomputable def made_Dice_Record_p2_code : Code := codeAt 250 (bodyOf Tryd.f8)
noncomputable def made_Dice_Record_p3_code : Code := codeAt 1018 (bodyOf Tryd.f8)
noncomputable def made_Dice_Record_p5_code : Code := codeAt 2042 (bodyOf Tryd.f8)
noncomputable def made_Dice_Record_p4_code : Code := codeAt 51 (loopBody made_Dice_Record_p5_code)
abbrev zq6m (β : Type) := Int → (List Int) → Int → (List Int) → (List (List UInt8 × Int)) → (List (Int × (Int × (Int × Int)))) → (List zq0) → (List (Int × (Int × Int))) → (List (List UInt8 × Int)) → (List (Int × (Int × (Int × Int)))) → (List zq0) → (List (Int × (Int × Int))) → Option β
abbrev zq6n := {β : Type} → zq6m β → Int → Int → (List Int) → Int → (List Int) → (List (List UInt8 × Int)) → (List (Int × (Int × (Int × Int)))) → (List zq0) → (List (Int × (Int × Int))) → (List (List UInt8 × Int)) → (List (Int × (Int × (Int × Int)))) → (List zq0) → (List (Int × (Int × Int))) → Option β
def zq6o : View := ⟨1, [0, 1, 4, 6, 7, 8], [(false, [.ptr 0 0]), (false, [.data (.int .i64)]), (false, [.ptr 1 0]), (false, [.ptr 2 0]), (false, [.rowh 3]), (false, [.data (.int .i64)])], [.cells 56 [.data (.slice (.int .i64)), .data (.int .i64)], .cells 32 [.rowh 4, .rowh 5, .rowh 6, .rowh 7], .cells 32 [.rowh 8, .rowh 9, .rowh 10, .rowh 11], .row 3 (.int .i64), .row 36 (.prod .str (.int .i64)), .row 54 (.prod (.int .i64) (.prod (.int .i64) (.prod (.int .i64) (.int .i64)))), .row 49 zq1, .row 60 (.prod (.int .i64) (.prod (.int .i64) (.int .i64))), .row 36 (.prod .str (.int .i64)), .row 54 (.prod (.int .i64) (.prod (.int .i64) (.prod (.int .i64) (.int .i64)))), .row 49 zq1, .row 60 (.prod (.int .i64) (.prod (.int .i64) (.int .i64)))]⟩
def zq6p : List (AExit × View) := [(.exit 0, ⟨1, [0, 1, 4, 6, 7], [(false, [.ptr 0 0]), (false, [.data (.int .i64)]), (false, [.ptr 1 0]), (false, [.ptr 2 0]), (false, [.rowh 3])], [.cells 56 [.data (.slice (.int .i64)), .data (.int .i64)], .cells 32 [.rowh 4, .rowh 5, .rowh 6, .rowh 7], .cells 32 [.rowh 8, .rowh 9, .rowh 10, .rowh 11], .row 3 (.int .i64), .row 36 (.prod .str (.int .i64)), .row 54 (.prod (.int .i64) (.prod (.int .i64) (.prod (.int .i64) (.int .i64)))), .row 49 zq1, .row 60 (.prod (.int .i64) (.prod (.int .i64) (.int .i64))), .row 36 (.prod .str (.int .i64)), .row 54 (.prod (.int .i64) (.prod (.int .i64) (.prod (.int .i64) (.int .i64)))), .row 49 zq1, .row 60 (.prod (.int .i64) (.prod (.int .i64) (.int .i64)))]⟩)]
@[reducible] def made_Dice_Record_p1_G (p : zq6n) {β : Type} (d : zq6o.den) (ks : Outs.K β zq6p) : Option β :=
  p (fun a0 a1 a2 a3 a4 a5 a6 a7 a8 a9 a10 a11 => ks.1 (((), (a0, ()), (), (), (), ()), ((a1, a2, ()), (), (), a3, a4, a5, a6, a7, a8, a9, a10, a11, ()))) d.1.2.1.1 d.1.2.2.2.2.2.1.1 d.2.1.1 d.2.1.2.1 d.2.2.2.2.1 d.2.2.2.2.2.1 d.2.2.2.2.2.2.1 d.2.2.2.2.2.2.2.1 d.2.2.2.2.2.2.2.2.1 d.2.2.2.2.2.2.2.2.2.1 d.2.2.2.2.2.2.2.2.2.2.1 d.2.2.2.2.2.2.2.2.2.2.2.1 d.2.2.2.2.2.2.2.2.2.2.2.2.1
abbrev zq6q (β : Type) := Int → (List Int) → Int → (List Int) → (List (List UInt8 × Int)) → (List (Int × (Int × (Int × Int)))) → (List zq0) → (List (Int × (Int × Int))) → (List (List UInt8 × Int)) → (List (Int × (Int × (Int × Int)))) → (List zq0) → (List (Int × (Int × Int))) → Option β
abbrev zq6r := {β : Type} → zq6q β → Int → Int → (List Int) → Int → (List Int) → (List (List UInt8 × Int)) → (List (Int × (Int × (Int × Int)))) → (List zq0) → (List (Int × (Int × Int))) → (List (List UInt8 × Int)) → (List (Int × (Int × (Int × Int)))) → (List zq0) → (List (Int × (Int × Int))) → Option β
def zq6s : View := ⟨1, [0, 1, 4, 6, 7, 9], [(false, [.ptr 0 0]), (false, [.data (.int .i64)]), (false, [.ptr 1 0]), (false, [.ptr 2 0]), (false, [.rowh 3]), (false, [.data (.int .i64)])], [.cells 56 [.data (.slice (.int .i64)), .data (.int .i64)], .cells 32 [.rowh 4, .rowh 5, .rowh 6, .rowh 7], .cells 32 [.rowh 8, .rowh 9, .rowh 10, .rowh 11], .row 3 (.int .i64), .row 36 (.prod .str (.int .i64)), .row 54 (.prod (.int .i64) (.prod (.int .i64) (.prod (.int .i64) (.int .i64)))), .row 49 zq1, .row 60 (.prod (.int .i64) (.prod (.int .i64) (.int .i64))), .row 36 (.prod .str (.int .i64)), .row 54 (.prod (.int .i64) (.prod (.int .i64) (.prod (.int .i64) (.int .i64)))), .row 49 zq1, .row 60 (.prod (.int .i64) (.prod (.int .i64) (.int .i64)))]⟩
def zq6t : List (AExit × View) := [(.exit 2, ⟨1, [0, 1, 4, 6, 7], [(false, [.ptr 0 0]), (false, [.data (.int .i64)]), (false, [.ptr 1 0]), (false, [.ptr 2 0]), (false, [.rowh 3])], [.cells 56 [.data (.slice (.int .i64)), .data (.int .i64)], .cells 32 [.rowh 4, .rowh 5, .rowh 6, .rowh 7], .cells 32 [.rowh 8, .rowh 9, .rowh 10, .rowh 11], .row 3 (.int .i64), .row 36 (.prod .str (.int .i64)), .row 54 (.prod (.int .i64) (.prod (.int .i64) (.prod (.int .i64) (.int .i64)))), .row 49 zq1, .row 60 (.prod (.int .i64) (.prod (.int .i64) (.int .i64))), .row 36 (.prod .str (.int .i64)), .row 54 (.prod (.int .i64) (.prod (.int .i64) (.prod (.int .i64) (.int .i64)))), .row 49 zq1, .row 60 (.prod (.int .i64) (.prod (.int .i64) (.int .i64)))]⟩)]
@[reducible] def made_Dice_Record_p2_G (p : zq6r) {β : Type} (d : zq6s.den) (ks : Outs.K β zq6t) : Option β :=
  p (fun a0 a1 a2 a3 a4 a5 a6 a7 a8 a9 a10 a11 => ks.1 (((), (a0, ()), (), (), (), ()), ((a1, a2, ()), (), (), a3, a4, a5, a6, a7, a8, a9, a10, a11, ()))) d.1.2.1.1 d.1.2.2.2.2.2.1.1 d.2.1.1 d.2.1.2.1 d.2.2.2.2.1 d.2.2.2.2.2.1 d.2.2.2.2.2.2.1 d.2.2.2.2.2.2.2.1 d.2.2.2.2.2.2.2.2.1 d.2.2.2.2.2.2.2.2.2.1 d.2.2.2.2.2.2.2.2.2.2.1 d.2.2.2.2.2.2.2.2.2.2.2.1 d.2.2.2.2.2.2.2.2.2.2.2.2.1
abbrev zq6u (β : Type) := (List Int) → Int → (List Int) → (List (List UInt8 × Int)) → (List (Int × (Int × (Int × Int)))) → (List zq0) → (List (Int × (Int × Int))) → (List (List UInt8 × Int)) → (List (Int × (Int × (Int × Int)))) → (List zq0) → (List (Int × (Int × Int))) → Option β
abbrev zq6v := {β : Type} → zq6u β → Int → (List Int) → Int → (List Int) → (List Int) → (List (List UInt8 × Int)) → (List (Int × (Int × (Int × Int)))) → (List zq0) → (List (Int × (Int × Int))) → (List (List UInt8 × Int)) → (List (Int × (Int × (Int × Int)))) → (List zq0) → (List (Int × (Int × Int))) → Option β
def zq6w : View := ⟨1, [0, 4, 6, 7, 12, 13], [(false, [.ptr 0 0]), (false, [.ptr 1 0]), (false, [.ptr 2 0]), (false, [.rowh 3]), (false, [.rowh 4]), (false, [.data (.int .i64)])], [.cells 56 [.data (.slice (.int .i64)), .data (.int .i64)], .cells 32 [.rowh 5, .rowh 6, .rowh 7, .rowh 8], .cells 32 [.rowh 9, .rowh 10, .rowh 11, .rowh 12], .row 3 (.int .i64), .row 3 (.int .i64), .row 36 (.prod .str (.int .i64)), .row 54 (.prod (.int .i64) (.prod (.int .i64) (.prod (.int .i64) (.int .i64)))), .row 49 zq1, .row 60 (.prod (.int .i64) (.prod (.int .i64) (.int .i64))), .row 36 (.prod .str (.int .i64)), .row 54 (.prod (.int .i64) (.prod (.int .i64) (.prod (.int .i64) (.int .i64)))), .row 49 zq1, .row 60 (.prod (.int .i64) (.prod (.int .i64) (.int .i64)))]⟩
def zq6x : List (AExit × View) := [(.exit 4, ⟨1, [0, 4, 6, 12], [(false, [.ptr 0 0]), (false, [.ptr 1 0]), (false, [.ptr 2 0]), (false, [.rowh 3])], [.cells 56 [.data (.slice (.int .i64)), .data (.int .i64)], .cells 32 [.rowh 4, .rowh 5, .rowh 6, .rowh 7], .cells 32 [.rowh 8, .rowh 9, .rowh 10, .rowh 11], .row 3 (.int .i64), .row 36 (.prod .str (.int .i64)), .row 54 (.prod (.int .i64) (.prod (.int .i64) (.prod (.int .i64) (.int .i64)))), .row 49 zq1, .row 60 (.prod (.int .i64) (.prod (.int .i64) (.int .i64))), .row 36 (.prod .str (.int .i64)), .row 54 (.prod (.int .i64) (.prod (.int .i64) (.prod (.int .i64) (.int .i64)))), .row 49 zq1, .row 60 (.prod (.int .i64) (.prod (.int .i64) (.int .i64)))]⟩)]
@[reducible] def made_Dice_Record_p3_G (p : zq6v) {β : Type} (d : zq6w.den) (ks : Outs.K β zq6x) : Option β :=
  p (fun a0 a1 a2 a3 a4 a5 a6 a7 a8 a9 a10 => ks.1 (((), (), (), (), ()), ((a0, a1, ()), (), (), a2, a3, a4, a5, a6, a7, a8, a9, a10, ()))) d.1.2.2.2.2.2.1.1 d.2.1.1 d.2.1.2.1 d.2.2.2.2.1 d.2.2.2.2.2.1 d.2.2.2.2.2.2.1 d.2.2.2.2.2.2.2.1 d.2.2.2.2.2.2.2.2.1 d.2.2.2.2.2.2.2.2.2.1 d.2.2.2.2.2.2.2.2.2.2.1 d.2.2.2.2.2.2.2.2.2.2.2.1 d.2.2.2.2.2.2.2.2.2.2.2.2.1 d.2.2.2.2.2.2.2.2.2.2.2.2.2.1
abbrev zq6y (β : Type) := Int → (List Int) → Int → (List Int) → (List (List UInt8 × Int)) → (List (Int × (Int × (Int × Int)))) → (List zq0) → (List (Int × (Int × Int))) → (List (List UInt8 × Int)) → (List (Int × (Int × (Int × Int)))) → (List zq0) → (List (Int × (Int × Int))) → Option β
abbrev zq6z := {β : Type} → zq6y β → Int → Int → Int → Bool → (List Int) → Int → (List Int) → (List (List UInt8 × Int)) → (List (Int × (Int × (Int × Int)))) → (List zq0) → (List (Int × (Int × Int))) → (List (List UInt8 × Int)) → (List (Int × (Int × (Int × Int)))) → (List zq0) → (List (Int × (Int × Int))) → Option β
def zq70 : View := ⟨1, [0, 4, 6, 12, 16, 17, 18, 154], [(false, [.ptr 0 0]), (false, [.ptr 1 0]), (false, [.ptr 2 0]), (false, [.rowh 3]), (false, [.data (.int .i64)]), (false, [.data (.int .i64)]), (false, [.data (.int .i64)]), (false, [.data .bool])], [.cells 56 [.data (.slice (.int .i64)), .data (.int .i64)], .cells 32 [.rowh 4, .rowh 5, .rowh 6, .rowh 7], .cells 32 [.rowh 8, .rowh 9, .rowh 10, .rowh 11], .row 3 (.int .i64), .row 36 (.prod .str (.int .i64)), .row 54 (.prod (.int .i64) (.prod (.int .i64) (.prod (.int .i64) (.int .i64)))), .row 49 zq1, .row 60 (.prod (.int .i64) (.prod (.int .i64) (.int .i64))), .row 36 (.prod .str (.int .i64)), .row 54 (.prod (.int .i64) (.prod (.int .i64) (.prod (.int .i64) (.int .i64)))), .row 49 zq1, .row 60 (.prod (.int .i64) (.prod (.int .i64) (.int .i64)))]⟩
def zq71 : List (AExit × View) := [(.normal, ⟨1, [0, 4, 6, 12, 16], [(false, [.ptr 0 0]), (false, [.ptr 1 0]), (false, [.ptr 2 0]), (false, [.rowh 3]), (false, [.data (.int .i64)])], [.cells 56 [.data (.slice (.int .i64)), .data (.int .i64)], .cells 32 [.rowh 4, .rowh 5, .rowh 6, .rowh 7], .cells 32 [.rowh 8, .rowh 9, .rowh 10, .rowh 11], .row 3 (.int .i64), .row 36 (.prod .str (.int .i64)), .row 54 (.prod (.int .i64) (.prod (.int .i64) (.prod (.int .i64) (.int .i64)))), .row 49 zq1, .row 60 (.prod (.int .i64) (.prod (.int .i64) (.int .i64))), .row 36 (.prod .str (.int .i64)), .row 54 (.prod (.int .i64) (.prod (.int .i64) (.prod (.int .i64) (.int .i64)))), .row 49 zq1, .row 60 (.prod (.int .i64) (.prod (.int .i64) (.int .i64)))]⟩)]
@[reducible] def made_Dice_Record_p4_G (p : zq6z) {β : Type} (d : zq70.den) (ks : Outs.K β zq71) : Option β :=
  p (fun a0 a1 a2 a3 a4 a5 a6 a7 a8 a9 a10 a11 => ks.1 (((), (), (), (), (a0, ()), ()), ((a1, a2, ()), (), (), a3, a4, a5, a6, a7, a8, a9, a10, a11, ()))) d.1.2.2.2.2.1.1 d.1.2.2.2.2.2.1.1 d.1.2.2.2.2.2.2.1.1 d.1.2.2.2.2.2.2.2.1.1 d.2.1.1 d.2.1.2.1 d.2.2.2.2.1 d.2.2.2.2.2.1 d.2.2.2.2.2.2.1 d.2.2.2.2.2.2.2.1 d.2.2.2.2.2.2.2.2.1 d.2.2.2.2.2.2.2.2.2.1 d.2.2.2.2.2.2.2.2.2.2.1 d.2.2.2.2.2.2.2.2.2.2.2.1 d.2.2.2.2.2.2.2.2.2.2.2.2.1
abbrev zq72 (β : Type) := (List Int) → Int → (List Int) → (List (List UInt8 × Int)) → (List (Int × (Int × (Int × Int)))) → (List zq0) → (List (Int × (Int × Int))) → (List (List UInt8 × Int)) → (List (Int × (Int × (Int × Int)))) → (List zq0) → (List (Int × (Int × Int))) → Option β
abbrev zq73 := {β : Type} → zq72 β → Int → (List Int) → Int → (List Int) → (List (List UInt8 × Int)) → (List (Int × (Int × (Int × Int)))) → (List zq0) → (List (Int × (Int × Int))) → (List (List UInt8 × Int)) → (List (Int × (Int × (Int × Int)))) → (List zq0) → (List (Int × (Int × Int))) → Option β
def zq74 : View := ⟨1, [0, 4, 6, 12, 16], [(false, [.ptr 0 0]), (false, [.ptr 1 0]), (false, [.ptr 2 0]), (false, [.rowh 3]), (false, [.data (.int .i64)])], [.cells 56 [.data (.slice (.int .i64)), .data (.int .i64)], .cells 32 [.rowh 4, .rowh 5, .rowh 6, .rowh 7], .cells 32 [.rowh 8, .rowh 9, .rowh 10, .rowh 11], .row 3 (.int .i64), .row 36 (.prod .str (.int .i64)), .row 54 (.prod (.int .i64) (.prod (.int .i64) (.prod (.int .i64) (.int .i64)))), .row 49 zq1, .row 60 (.prod (.int .i64) (.prod (.int .i64) (.int .i64))), .row 36 (.prod .str (.int .i64)), .row 54 (.prod (.int .i64) (.prod (.int .i64) (.prod (.int .i64) (.int .i64)))), .row 49 zq1, .row 60 (.prod (.int .i64) (.prod (.int .i64) (.int .i64)))]⟩
def zq75 : List (AExit × View) := [(.exit 6, ⟨1, [4, 6, 12], [(false, [.ptr 1 0]), (false, [.ptr 2 0]), (false, [.rowh 3])], [.cells 56 [.data (.slice (.int .i64)), .data (.int .i64)], .cells 32 [.rowh 4, .rowh 5, .rowh 6, .rowh 7], .cells 32 [.rowh 8, .rowh 9, .rowh 10, .rowh 11], .row 3 (.int .i64), .row 36 (.prod .str (.int .i64)), .row 54 (.prod (.int .i64) (.prod (.int .i64) (.prod (.int .i64) (.int .i64)))), .row 49 zq1, .row 60 (.prod (.int .i64) (.prod (.int .i64) (.int .i64))), .row 36 (.prod .str (.int .i64)), .row 54 (.prod (.int .i64) (.prod (.int .i64) (.prod (.int .i64) (.int .i64)))), .row 49 zq1, .row 60 (.prod (.int .i64) (.prod (.int .i64) (.int .i64)))]⟩)]
@[reducible] def made_Dice_Record_p5_G (p : zq73) {β : Type} (d : zq74.den) (ks : Outs.K β zq75) : Option β :=
  p (fun a0 a1 a2 a3 a4 a5 a6 a7 a8 a9 a10 => ks.1 (((), (), (), ()), ((a0, a1, ()), (), (), a2, a3, a4, a5, a6, a7, a8, a9, a10, ()))) d.1.2.2.2.2.1.1 d.2.1.1 d.2.1.2.1 d.2.2.2.2.1 d.2.2.2.2.2.1 d.2.2.2.2.2.2.1 d.2.2.2.2.2.2.2.1 d.2.2.2.2.2.2.2.2.1 d.2.2.2.2.2.2.2.2.2.1 d.2.2.2.2.2.2.2.2.2.2.1 d.2.2.2.2.2.2.2.2.2.2.2.1 d.2.2.2.2.2.2.2.2.2.2.2.2.1
section
variable (c_made_Dice_Next : zqj) (c_made_Dice_One : zqq)
@[reducible] def made_Dice_Record_X : Ctx := ⟨look tab, pick1 [(11, .spec (zqk c_made_Dice_Next)), (14, .spec (zqr c_made_Dice_One))], false, false, false, false, false⟩
def zq76 {β : Type} (rec : Int → Int → (List Int) → Int → (List Int) → (List (List UInt8 × Int)) → (List (Int × (Int × (Int × Int)))) → (List zq0) → (List (Int × (Int × Int))) → (List (List UInt8 × Int)) → (List (Int × (Int × (Int × Int)))) → (List zq0) → (List (Int × (Int × Int))) → Option β) (k1 : zq6m β) (n : Int) (i_ : Int) (d : List Int) (d2 : Int) (ahead : List Int) (b4_ : List (List UInt8 × Int)) (b5_ : List (Int × (Int × (Int × Int)))) (b6_ : List zq0) (b7_ : List (Int × (Int × Int))) (b8_ : List (List UInt8 × Int)) (b9_ : List (Int × (Int × (Int × Int)))) (b10_ : List zq0) (b11_ : List (Int × (Int × Int))) : Option β :=
  cond (decide ((0 : Int) < i_))
  (let l : List (List UInt8) := ([([100, 98] : List UInt8), ([119, 101, 98] : List UInt8), ([108, 98] : List UInt8)] : List (List UInt8));
  cond (decide (0 ≤ (List.length b8_ : Int)) && decide ((List.length b8_ : Int) < (List.length l : Int)))
  (let l2 : List Int := ([(0 : Int), (0 : Int), (100 : Int), (50000 : Int), (500000 : Int)] : List Int);
  c_made_Dice_One l2 (d, d2) (fun (rOne : Int) (mrOne : (List Int × Int)) =>
  let l3 : List (List UInt8 × Int) := ([((List.getD l (Int.toNat (List.length b8_ : Int)) ([] : List UInt8)), rOne)] : List (List UInt8 × Int));
  cond (decide ((List.length b8_ + List.length l3) * 24 ≤ roomMax))
  (let l4 : List (List UInt8 × Int) := (b8_ ++ l3);
  let l5 : List Int := ([(0 : Int), (7 : Int), (100 : Int)] : List Int);
  c_made_Dice_One l5 mrOne (fun (rOne2 : Int) (mrOne2 : (List Int × Int)) =>
  let l6 : List Int := ([rOne2] : List Int);
  cond (decide ((List.length ahead + List.length l6) * 8 ≤ roomMax))
  (let l7 : List Int := (ahead ++ l6);
  let i_2 : Int := (IntKind.i64.wrap (i_ - (1 : Int)));
  rec n i_2 mrOne2.1 mrOne2.2 l7 b4_ b5_ b6_ b7_ l4 b9_ b10_ b11_)
  none))
  none))
  none)
  (k1 n d d2 ahead b4_ b5_ b6_ b7_ b8_ b9_ b10_ b11_)
def zq77 {β : Type} : Nat → zq6m β → Int → Int → (List Int) → Int → (List Int) → (List (List UInt8 × Int)) → (List (Int × (Int × (Int × Int)))) → (List zq0) → (List (Int × (Int × Int))) → (List (List UInt8 × Int)) → (List (Int × (Int × (Int × Int)))) → (List zq0) → (List (Int × (Int × Int))) → Option β
  | 0 => fun _ _ _ _ _ _ _ _ _ _ _ _ _ _ => none
  | i + 1 => fun k1 n i_ d d2 ahead b4_ b5_ b6_ b7_ b8_ b9_ b10_ b11_ => zq76 c_made_Dice_One (zq77 i k1) k1 n i_ d d2 ahead b4_ b5_ b6_ b7_ b8_ b9_ b10_ b11_
theorem zq78 (hΓ : ΓOk Tryd.prog (made_Dice_Record_X c_made_Dice_Next c_made_Dice_One).Γ) (i : Nat) : PieceOk Tryd.prog 177 1 made_Dice_Record_p1_code zq6o zq6p (made_Dice_Record_p1_G (zq77 c_made_Dice_One i)) := by
  rw [show made_Dice_Record_p1_code = .loop (loopBody made_Dice_Record_p1_code) by kernel_rfl]
  exact piece_loop (X := (made_Dice_Record_X c_made_Dice_Next c_made_Dice_One)) (p := 1) (Λ := pick1 []) (G := fun i => @fun β d ks => made_Dice_Record_p1_G (zq77 c_made_Dice_One i) d ks) mixed tab_ok hΓ rfl (by kernel_rfl) CutsOk_nil (fun _ _ => rfl) (fun i => @fun β d ks r h => Eq.trans (b := made_Dice_Record_p1_G (zq77 c_made_Dice_One (i + 1)) d ks) (by kernel_rfl) h) i
def zq79 {β : Type} (rec : Int → Int → (List Int) → Int → (List Int) → (List (List UInt8 × Int)) → (List (Int × (Int × (Int × Int)))) → (List zq0) → (List (Int × (Int × Int))) → (List (List UInt8 × Int)) → (List (Int × (Int × (Int × Int)))) → (List zq0) → (List (Int × (Int × Int))) → Option β) (k1 : zq6q β) (n : Int) (i_ : Int) (d : List Int) (d2 : Int) (ahead : List Int) (b4_ : List (List UInt8 × Int)) (b5_ : List (Int × (Int × (Int × Int)))) (b6_ : List zq0) (b7_ : List (Int × (Int × Int))) (b8_ : List (List UInt8 × Int)) (b9_ : List (Int × (Int × (Int × Int)))) (b10_ : List zq0) (b11_ : List (Int × (Int × Int))) : Option β :=
  cond (decide ((0 : Int) < i_))
  (c_made_Dice_Next (List.length b8_ : Int) (d, d2) (fun (rNext : Int) (mrNext : (List Int × Int)) =>
  c_made_Dice_Next (400 : Int) mrNext (fun (rNext2 : Int) (mrNext2 : (List Int × Int)) =>
  let t : Int := (IntKind.i64.wrap ((864000 : Int) + rNext2));
  cond (decide (0 ≤ rNext) && decide (rNext < (List.length ahead : Int)))
  (let l : List Int := ([(0 : Int), (3 : Int), (20 : Int)] : List Int);
  c_made_Dice_One l mrNext2 (fun (rOne : Int) (mrOne : (List Int × Int)) =>
  let l2 : List Int := ([(0 : Int), (2 : Int), (15 : Int)] : List Int);
  c_made_Dice_One l2 mrOne (fun (rOne2 : Int) (mrOne2 : (List Int × Int)) =>
  let l3 : List (Int × (Int × (Int × Int))) := ([(rNext, ((IntKind.i64.wrap (t + (List.getD ahead (Int.toNat rNext) (0 : Int)))), ((IntKind.i64.wrap (t - rOne)), (IntKind.i64.wrap (t + rOne2)))))] : List (Int × (Int × (Int × Int))));
  cond (decide ((List.length b9_ + List.length l3) * 32 ≤ roomMax))
  (let l4 : List (Int × (Int × (Int × Int))) := (b9_ ++ l3);
  let i_2 : Int := (IntKind.i64.wrap (i_ - (1 : Int)));
  rec n i_2 mrOne2.1 mrOne2.2 ahead b4_ b5_ b6_ b7_ b8_ l4 b10_ b11_)
  none)))
  none)))
  (k1 n d d2 ahead b4_ b5_ b6_ b7_ b8_ b9_ b10_ b11_)
def zq7a {β : Type} : Nat → zq6q β → Int → Int → (List Int) → Int → (List Int) → (List (List UInt8 × Int)) → (List (Int × (Int × (Int × Int)))) → (List zq0) → (List (Int × (Int × Int))) → (List (List UInt8 × Int)) → (List (Int × (Int × (Int × Int)))) → (List zq0) → (List (Int × (Int × Int))) → Option β
  | 0 => fun _ _ _ _ _ _ _ _ _ _ _ _ _ _ => none
  | i + 1 => fun k1 n i_ d d2 ahead b4_ b5_ b6_ b7_ b8_ b9_ b10_ b11_ => zq79 c_made_Dice_Next c_made_Dice_One (zq7a i k1) k1 n i_ d d2 ahead b4_ b5_ b6_ b7_ b8_ b9_ b10_ b11_
theorem zq7b (hΓ : ΓOk Tryd.prog (made_Dice_Record_X c_made_Dice_Next c_made_Dice_One).Γ) (i : Nat) : PieceOk Tryd.prog 177 1 made_Dice_Record_p2_code zq6s zq6t (made_Dice_Record_p2_G (zq7a c_made_Dice_Next c_made_Dice_One i)) := by
  rw [show made_Dice_Record_p2_code = .loop (loopBody made_Dice_Record_p2_code) by kernel_rfl]
  exact piece_loop (X := (made_Dice_Record_X c_made_Dice_Next c_made_Dice_One)) (p := 1) (Λ := pick1 []) (G := fun i => @fun β d ks => made_Dice_Record_p2_G (zq7a c_made_Dice_Next c_made_Dice_One i) d ks) mixed tab_ok hΓ rfl (by kernel_rfl) CutsOk_nil (fun _ _ => rfl) (fun i => @fun β d ks r h => Eq.trans (b := made_Dice_Record_p2_G (zq7a c_made_Dice_Next c_made_Dice_One (i + 1)) d ks) (by kernel_rfl) h) i
def zq7c {β : Type} (rec : Int → (List Int) → Int → (List Int) → (List Int) → (List (List UInt8 × Int)) → (List (Int × (Int × (Int × Int)))) → (List zq0) → (List (Int × (Int × Int))) → (List (List UInt8 × Int)) → (List (Int × (Int × (Int × Int)))) → (List zq0) → (List (Int × (Int × Int))) → Option β) (k1 : zq6u β) (i_ : Int) (d : List Int) (d2 : Int) (ahead : List Int) (times : List Int) (b5_ : List (List UInt8 × Int)) (b6_ : List (Int × (Int × (Int × Int)))) (b7_ : List zq0) (b8_ : List (Int × (Int × Int))) (b9_ : List (List UInt8 × Int)) (b10_ : List (Int × (Int × (Int × Int)))) (b11_ : List zq0) (b12_ : List (Int × (Int × Int))) : Option β :=
  cond (decide ((0 : Int) < i_))
  (c_made_Dice_Next (List.length b9_ : Int) (d, d2) (fun (rNext : Int) (mrNext : (List Int × Int)) =>
  c_made_Dice_Next (300 : Int) mrNext (fun (rNext2 : Int) (mrNext2 : (List Int × Int)) =>
  let t : Int := (IntKind.i64.wrap ((864000 : Int) + rNext2));
  cond (decide (0 ≤ rNext) && decide (rNext < (List.length ahead : Int)))
  (let l : List (List UInt8) := ([([117, 112] : List UInt8), ([100, 111, 119, 110] : List UInt8), ([115, 108, 111, 119] : List UInt8)] : List (List UInt8));
  c_made_Dice_Next (3 : Int) mrNext2 (fun (rNext3 : Int) (mrNext3 : (List Int × Int)) =>
  cond (decide (0 ≤ rNext3) && decide (rNext3 < (List.length l : Int)))
  (let l2 : List zq0 := ([(rNext, ((IntKind.i64.wrap (t + (List.getD ahead (Int.toNat rNext) (0 : Int)))), (List.getD l (Int.toNat rNext3) ([] : List UInt8))))] : List zq0);
  cond (decide ((List.length b11_ + List.length l2) * 32 ≤ roomMax))
  (let l3 : List zq0 := (b11_ ++ l2);
  let l4 : List Int := ([t] : List Int);
  cond (decide ((List.length times + List.length l4) * 8 ≤ roomMax))
  (let l5 : List Int := (times ++ l4);
  let i_2 : Int := (IntKind.i64.wrap (i_ - (1 : Int)));
  rec i_2 mrNext3.1 mrNext3.2 ahead l5 b5_ b6_ b7_ b8_ b9_ b10_ l3 b12_)
  none)
  none)
  none))
  none)))
  (k1 d d2 times b5_ b6_ b7_ b8_ b9_ b10_ b11_ b12_)
def zq7d {β : Type} : Nat → zq6u β → Int → (List Int) → Int → (List Int) → (List Int) → (List (List UInt8 × Int)) → (List (Int × (Int × (Int × Int)))) → (List zq0) → (List (Int × (Int × Int))) → (List (List UInt8 × Int)) → (List (Int × (Int × (Int × Int)))) → (List zq0) → (List (Int × (Int × Int))) → Option β
  | 0 => fun _ _ _ _ _ _ _ _ _ _ _ _ _ _ => none
  | i + 1 => fun k1 i_ d d2 ahead times b5_ b6_ b7_ b8_ b9_ b10_ b11_ b12_ => zq7c c_made_Dice_Next (zq7d i k1) k1 i_ d d2 ahead times b5_ b6_ b7_ b8_ b9_ b10_ b11_ b12_
theorem zq7e (hΓ : ΓOk Tryd.prog (made_Dice_Record_X c_made_Dice_Next c_made_Dice_One).Γ) (i : Nat) : PieceOk Tryd.prog 177 1 made_Dice_Record_p3_code zq6w zq6x (made_Dice_Record_p3_G (zq7d c_made_Dice_Next i)) := by
  rw [show made_Dice_Record_p3_code = .loop (loopBody made_Dice_Record_p3_code) by kernel_rfl]
  exact piece_loop (X := (made_Dice_Record_X c_made_Dice_Next c_made_Dice_One)) (p := 1) (Λ := pick1 []) (G := fun i => @fun β d ks => made_Dice_Record_p3_G (zq7d c_made_Dice_Next i) d ks) mixed tab_ok hΓ rfl (by kernel_rfl) CutsOk_nil (fun _ _ => rfl) (fun i => @fun β d ks r h => Eq.trans (b := made_Dice_Record_p3_G (zq7d c_made_Dice_Next (i + 1)) d ks) (by kernel_rfl) h) i
def zq7f {β : Type} (k1 : zq6y β) (i_ : Int) (a : Int) (b : Int) (t154 : Bool) (d : List Int) (d2 : Int) (times : List Int) (b4_ : List (List UInt8 × Int)) (b5_ : List (Int × (Int × (Int × Int)))) (b6_ : List zq0) (b7_ : List (Int × (Int × Int))) (b8_ : List (List UInt8 × Int)) (b9_ : List (Int × (Int × (Int × Int)))) (b10_ : List zq0) (b11_ : List (Int × (Int × Int))) : Option β :=
  cond t154
  (cond (decide (0 ≤ b) && decide (b < (List.length times : Int)))
  (cond (decide (0 ≤ a) && decide (a < (List.length times : Int)))
  (c_made_Dice_Next (IntKind.i64.wrap ((IntKind.i64.wrap ((List.getD times (Int.toNat b) (0 : Int)) - (List.getD times (Int.toNat a) (0 : Int)))) + (1 : Int))) (d, d2) (fun (rNext : Int) (mrNext : (List Int × Int)) =>
  let l : List (Int × (Int × Int)) := ([(a, (b, rNext))] : List (Int × (Int × Int)));
  cond (decide ((List.length b11_ + List.length l) * 24 ≤ roomMax))
  (let l2 : List (Int × (Int × Int)) := (b11_ ++ l);
  k1 i_ mrNext.1 mrNext.2 times b4_ b5_ b6_ b7_ b8_ b9_ b10_ l2)
  none))
  none)
  none)
  (k1 i_ d d2 times b4_ b5_ b6_ b7_ b8_ b9_ b10_ b11_)
def zq7g {β : Type} (k1 : zq6y β) (i_ : Int) (a : Int) (b : Int) (t154 : Bool) (d : List Int) (d2 : Int) (times : List Int) (b4_ : List (List UInt8 × Int)) (b5_ : List (Int × (Int × (Int × Int)))) (b6_ : List zq0) (b7_ : List (Int × (Int × Int))) (b8_ : List (List UInt8 × Int)) (b9_ : List (Int × (Int × (Int × Int)))) (b10_ : List zq0) (b11_ : List (Int × (Int × Int))) : Option β := zq7f c_made_Dice_Next k1 i_ a b t154 d d2 times b4_ b5_ b6_ b7_ b8_ b9_ b10_ b11_
theorem zq7h (hΓ : ΓOk Tryd.prog (made_Dice_Record_X c_made_Dice_Next c_made_Dice_One).Γ) : PieceOk Tryd.prog 177 1 made_Dice_Record_p4_code zq70 zq71 (made_Dice_Record_p4_G (zq7g c_made_Dice_Next)) :=
  piece_exec (X := (made_Dice_Record_X c_made_Dice_Next c_made_Dice_One)) (p := 51) (Λ := pick1 []) mixed tab_ok hΓ (by kernel_rfl) CutsOk_nil (fun d ks r h => Eq.trans (b := made_Dice_Record_p4_G (zq7g c_made_Dice_Next) d ks) (by kernel_rfl) h)
def zq7i (p4 : zq6z) {β : Type} (rec : Int → (List Int) → Int → (List Int) → (List (List UInt8 × Int)) → (List (Int × (Int × (Int × Int)))) → (List zq0) → (List (Int × (Int × Int))) → (List (List UInt8 × Int)) → (List (Int × (Int × (Int × Int)))) → (List zq0) → (List (Int × (Int × Int))) → Option β) (k1 : zq72 β) (i_ : Int) (d : List Int) (d2 : Int) (times : List Int) (b4_ : List (List UInt8 × Int)) (b5_ : List (Int × (Int × (Int × Int)))) (b6_ : List zq0) (b7_ : List (Int × (Int × Int))) (b8_ : List (List UInt8 × Int)) (b9_ : List (Int × (Int × (Int × Int)))) (b10_ : List zq0) (b11_ : List (Int × (Int × Int))) : Option β :=
  cond (decide ((0 : Int) < i_))
  (cond (decide ((1 : Int) < (List.length times : Int)))
  (c_made_Dice_Next (List.length times : Int) (d, d2) (fun (rNext : Int) (mrNext : (List Int × Int)) =>
  c_made_Dice_Next (List.length times : Int) mrNext (fun (rNext2 : Int) (mrNext2 : (List Int × Int)) =>
  cond (!decide (rNext = rNext2))
  (cond (decide (0 ≤ rNext) && decide (rNext < (List.length times : Int)))
  (cond (decide (0 ≤ rNext2) && decide (rNext2 < (List.length times : Int)))
  (p4 (fun (i_2 : Int) (d3 : List Int) (d4 : Int) (times2 : List Int) (b4_2 : List (List UInt8 × Int)) (b5_2 : List (Int × (Int × (Int × Int)))) (b6_2 : List zq0) (b7_2 : List (Int × (Int × Int))) (b8_2 : List (List UInt8 × Int)) (b9_2 : List (Int × (Int × (Int × Int)))) (b10_2 : List zq0) (b11_2 : List (Int × (Int × Int))) =>
  let i_3 : Int := (IntKind.i64.wrap (i_2 - (1 : Int)));
  rec i_3 d3 d4 times2 b4_2 b5_2 b6_2 b7_2 b8_2 b9_2 b10_2 b11_2) i_ rNext rNext2 (decide ((List.getD times (Int.toNat rNext) (0 : Int)) ≤ (List.getD times (Int.toNat rNext2) (0 : Int)))) mrNext2.1 mrNext2.2 times b4_ b5_ b6_ b7_ b8_ b9_ b10_ b11_)
  none)
  none)
  (p4 (fun (i_2 : Int) (d3 : List Int) (d4 : Int) (times2 : List Int) (b4_2 : List (List UInt8 × Int)) (b5_2 : List (Int × (Int × (Int × Int)))) (b6_2 : List zq0) (b7_2 : List (Int × (Int × Int))) (b8_2 : List (List UInt8 × Int)) (b9_2 : List (Int × (Int × (Int × Int)))) (b10_2 : List zq0) (b11_2 : List (Int × (Int × Int))) =>
  let i_3 : Int := (IntKind.i64.wrap (i_2 - (1 : Int)));
  rec i_3 d3 d4 times2 b4_2 b5_2 b6_2 b7_2 b8_2 b9_2 b10_2 b11_2) i_ rNext rNext2 false mrNext2.1 mrNext2.2 times b4_ b5_ b6_ b7_ b8_ b9_ b10_ b11_))))
  (k1 d d2 times b4_ b5_ b6_ b7_ b8_ b9_ b10_ b11_))
  (k1 d d2 times b4_ b5_ b6_ b7_ b8_ b9_ b10_ b11_)
def zq7j (p4 : zq6z) {β : Type} : Nat → zq72 β → Int → (List Int) → Int → (List Int) → (List (List UInt8 × Int)) → (List (Int × (Int × (Int × Int)))) → (List zq0) → (List (Int × (Int × Int))) → (List (List UInt8 × Int)) → (List (Int × (Int × (Int × Int)))) → (List zq0) → (List (Int × (Int × Int))) → Option β
  | 0 => fun _ _ _ _ _ _ _ _ _ _ _ _ _ => none
  | i + 1 => fun k1 i_ d d2 times b4_ b5_ b6_ b7_ b8_ b9_ b10_ b11_ => zq7i c_made_Dice_Next p4 (zq7j p4 i k1) k1 i_ d d2 times b4_ b5_ b6_ b7_ b8_ b9_ b10_ b11_
theorem zq7k (hΓ : ΓOk Tryd.prog (made_Dice_Record_X c_made_Dice_Next c_made_Dice_One).Γ) (p4 : zq6z) (hp4 : PieceOk Tryd.prog 177 1 made_Dice_Record_p4_code zq70 zq71 (made_Dice_Record_p4_G p4)) (i : Nat) : PieceOk Tryd.prog 177 1 made_Dice_Record_p5_code zq74 zq75 (made_Dice_Record_p5_G (zq7j c_made_Dice_Next p4 i)) := by
  rw [show made_Dice_Record_p5_code = .loop (loopBody made_Dice_Record_p5_code) by kernel_rfl]
  exact piece_loop (X := (made_Dice_Record_X c_made_Dice_Next c_made_Dice_One)) (p := 1) (Λ := pick1 [(51, pieceCut zq70 zq71 (made_Dice_Record_p4_G p4))]) (G := fun i => @fun β d ks => made_Dice_Record_p5_G (zq7j c_made_Dice_Next p4 i) d ks) mixed tab_ok hΓ rfl (by kernel_rfl) (CutsOk_cons (q := 51) (c' := made_Dice_Record_p4_code) (by kernel_rfl) rfl hp4 CutsOk_nil) (fun _ _ => rfl) (fun i => @fun β d ks r h => Eq.trans (b := made_Dice_Record_p5_G (zq7j c_made_Dice_Next p4 (i + 1)) d ks) (by kernel_rfl) h) i
def zq7l (p1 : zq6n) (p2 : zq6r) (p3 : zq6v) (p5 : zq73) {β : Type} (n : Int) (d : (List Int × Int)) (k : ((List Int × Int) → (List (List UInt8 × Int)) → (List (Int × (Int × (Int × Int)))) → (List zq0) → (List (Int × (Int × Int))) → (List Int) → Option β)) : Option β :=
  c_made_Dice_Next (3 : Int) d (fun (rNext : Int) (mrNext : (List Int × Int)) =>
  let i_ : Int := (IntKind.i64.wrap ((1 : Int) + rNext));
  p1 (fun (n2 : Int) (d2 : List Int) (d3 : Int) (ahead : List Int) (b4_ : List (List UInt8 × Int)) (b5_ : List (Int × (Int × (Int × Int)))) (b6_ : List zq0) (b7_ : List (Int × (Int × Int))) (b8_ : List (List UInt8 × Int)) (b9_ : List (Int × (Int × (Int × Int)))) (b10_ : List zq0) (b11_ : List (Int × (Int × Int))) =>
  c_made_Dice_Next (5 : Int) (d2, d3) (fun (rNext2 : Int) (mrNext2 : (List Int × Int)) =>
  p2 (fun (n3 : Int) (d4 : List Int) (d5 : Int) (ahead2 : List Int) (b4_2 : List (List UInt8 × Int)) (b5_2 : List (Int × (Int × (Int × Int)))) (b6_2 : List zq0) (b7_2 : List (Int × (Int × Int))) (b8_2 : List (List UInt8 × Int)) (b9_2 : List (Int × (Int × (Int × Int)))) (b10_2 : List zq0) (b11_2 : List (Int × (Int × Int))) =>
  c_made_Dice_Next (IntKind.i64.wrap (n3 + (1 : Int))) (d4, d5) (fun (rNext3 : Int) (mrNext3 : (List Int × Int)) =>
  p3 (fun (d6 : List Int) (d7 : Int) (times : List Int) (b4_3 : List (List UInt8 × Int)) (b5_3 : List (Int × (Int × (Int × Int)))) (b6_3 : List zq0) (b7_3 : List (Int × (Int × Int))) (b8_3 : List (List UInt8 × Int)) (b9_3 : List (Int × (Int × (Int × Int)))) (b10_3 : List zq0) (b11_3 : List (Int × (Int × Int))) =>
  c_made_Dice_Next (4 : Int) (d6, d7) (fun (rNext4 : Int) (mrNext4 : (List Int × Int)) =>
  p5 (fun (b0_ : List Int) (b0_2 : Int) (times2 : List Int) (b4_4 : List (List UInt8 × Int)) (b5_4 : List (Int × (Int × (Int × Int)))) (b6_4 : List zq0) (b7_4 : List (Int × (Int × Int))) (b8_4 : List (List UInt8 × Int)) (b9_4 : List (Int × (Int × (Int × Int)))) (b10_4 : List zq0) (b11_4 : List (Int × (Int × Int))) =>
  k (b0_, b0_2) b8_4 b9_4 b10_4 b11_4 times2) rNext4 mrNext4.1 mrNext4.2 times b4_3 b5_3 b6_3 b7_3 b8_3 b9_3 b10_3 b11_3)) rNext3 mrNext3.1 mrNext3.2 ahead2 ([] : List Int) b4_2 b5_2 b6_2 b7_2 b8_2 b9_2 b10_2 b11_2)) n2 rNext2 mrNext2.1 mrNext2.2 ahead b4_ b5_ b6_ b7_ b8_ b9_ b10_ b11_)) n i_ mrNext.1 mrNext.2 ([] : List Int) ([] : List (List UInt8 × Int)) ([] : List (Int × (Int × (Int × Int)))) ([] : List zq0) ([] : List (Int × (Int × Int))) ([] : List (List UInt8 × Int)) ([] : List (Int × (Int × (Int × Int)))) ([] : List zq0) ([] : List (Int × (Int × Int))))
theorem zq7m (hΓ : ΓOk Tryd.prog (made_Dice_Record_X c_made_Dice_Next c_made_Dice_One).Γ) (p1 : zq6n) (p2 : zq6r) (p3 : zq6v) (p5 : zq73) (hp1 : PieceOk Tryd.prog 177 1 made_Dice_Record_p1_code zq6o zq6p (made_Dice_Record_p1_G p1)) (hp2 : PieceOk Tryd.prog 177 1 made_Dice_Record_p2_code zq6s zq6t (made_Dice_Record_p2_G p2)) (hp3 : PieceOk Tryd.prog 177 1 made_Dice_Record_p3_code zq6w zq6x (made_Dice_Record_p3_G p3)) (hp5 : PieceOk Tryd.prog 177 1 made_Dice_Record_p5_code zq74 zq75 (made_Dice_Record_p5_G p5)) : SpecOk Tryd.prog 8 (zq6l (zq7l c_made_Dice_Next p1 p2 p3 p5)) :=
  spec_exec (X := (made_Dice_Record_X c_made_Dice_Next c_made_Dice_One)) (Λ := pick1 [(122, pieceCut zq6o zq6p (made_Dice_Record_p1_G p1)), (250, pieceCut zq6s zq6t (made_Dice_Record_p2_G p2)), (1018, pieceCut zq6w zq6x (made_Dice_Record_p3_G p3)), (2042, pieceCut zq74 zq75 (made_Dice_Record_p5_G p5))]) (rs := [.cell 4 32, .tmp 5]) (c := bodyOf Tryd.f8) mixed tab_ok hΓ Tryd.func8 (by kernel_rfl) (by kernel_rfl) (by kernel_rfl) (by kernel_rfl) (CutsOk_cons (q := 122) (c' := made_Dice_Record_p1_code) (by kernel_rfl) rfl hp1 (CutsOk_cons (q := 250) (c' := made_Dice_Record_p2_code) (by kernel_rfl) rfl hp2 (CutsOk_cons (q := 1018) (c' := made_Dice_Record_p3_code) (by kernel_rfl) rfl hp3 (CutsOk_cons (q := 2042) (c' := made_Dice_Record_p5_code) (by kernel_rfl) rfl hp5 CutsOk_nil)))) (fun x k r h => Eq.trans (b := (zq6l (zq7l c_made_Dice_Next p1 p2 p3 p5)).run x k) (by kernel_rfl) h)
end
theorem zq7nΓ : ΓOk Tryd.prog (pick1 [(11, .spec (zqk zqo)), (14, .spec (zqr zqv))]) := (ΓOk_cons zqp (ΓOk_cons zqw ΓOk_nil))
def zq7o (m : Nat) : zq6n := zq77 zqv m
theorem zq7p {β : Type} (i : Nat) (k1 n i_ d d2 ahead b4_ b5_ b6_ b7_ b8_ b9_ b10_ b11_) : (zq7o (i + 1) k1 n i_ d d2 ahead b4_ b5_ b6_ b7_ b8_ b9_ b10_ b11_ : Option β) = zq76 zqv (zq7o i k1) k1 n i_ d d2 ahead b4_ b5_ b6_ b7_ b8_ b9_ b10_ b11_ := rfl
def zq7q : zq6n := zq7o fuel
theorem zq7r : PieceOk Tryd.prog 177 1 made_Dice_Record_p1_code zq6o zq6p (made_Dice_Record_p1_G zq7q) := zq78 zqo zqv zq7nΓ fuel
def zq7s (m : Nat) : zq6r := zq7a zqo zqv m
theorem zq7t {β : Type} (i : Nat) (k1 n i_ d d2 ahead b4_ b5_ b6_ b7_ b8_ b9_ b10_ b11_) : (zq7s (i + 1) k1 n i_ d d2 ahead b4_ b5_ b6_ b7_ b8_ b9_ b10_ b11_ : Option β) = zq79 zqo zqv (zq7s i k1) k1 n i_ d d2 ahead b4_ b5_ b6_ b7_ b8_ b9_ b10_ b11_ := rfl
def zq7u : zq6r := zq7s fuel
theorem zq7v : PieceOk Tryd.prog 177 1 made_Dice_Record_p2_code zq6s zq6t (made_Dice_Record_p2_G zq7u) := zq7b zqo zqv zq7nΓ fuel
def zq7w (m : Nat) : zq6v := zq7d zqo m
theorem zq7x {β : Type} (i : Nat) (k1 i_ d d2 ahead times b5_ b6_ b7_ b8_ b9_ b10_ b11_ b12_) : (zq7w (i + 1) k1 i_ d d2 ahead times b5_ b6_ b7_ b8_ b9_ b10_ b11_ b12_ : Option β) = zq7c zqo (zq7w i k1) k1 i_ d d2 ahead times b5_ b6_ b7_ b8_ b9_ b10_ b11_ b12_ := rfl
def zq7y : zq6v := zq7w fuel
theorem zq7z : PieceOk Tryd.prog 177 1 made_Dice_Record_p3_code zq6w zq6x (made_Dice_Record_p3_G zq7y) := zq7e zqo zqv zq7nΓ fuel
def zq80 : zq6z := zq7g zqo
theorem zq81 : PieceOk Tryd.prog 177 1 made_Dice_Record_p4_code zq70 zq71 (made_Dice_Record_p4_G zq80) := zq7h zqo zqv zq7nΓ
def zq82 (m : Nat) : zq73 := zq7j zqo zq80 m
theorem zq83 {β : Type} (i : Nat) (k1 i_ d d2 times b4_ b5_ b6_ b7_ b8_ b9_ b10_ b11_) : (zq82 (i + 1) k1 i_ d d2 times b4_ b5_ b6_ b7_ b8_ b9_ b10_ b11_ : Option β) = zq7i zqo zq80 (zq82 i k1) k1 i_ d d2 times b4_ b5_ b6_ b7_ b8_ b9_ b10_ b11_ := rfl
def zq84 : zq73 := zq82 fuel
theorem zq85 : PieceOk Tryd.prog 177 1 made_Dice_Record_p5_code zq74 zq75 (made_Dice_Record_p5_G zq84) := zq7k zqo zqv zq7nΓ zq80 zq81 fuel
def zq86 : zq6k := zq7l zqo zq7q zq7u zq7y zq84
theorem zq87 : SpecOk Tryd.prog 8 (zq6l zq86) := zq7m zqo zqv zq7nΓ zq7q zq7u zq7y zq84 zq7r zq7v zq7z zq85

/-- (pagewatch/order.matrix).earlier -/
abbrev zq88 := {β : Type} → (List (List Int)) → Int → Int → (Bool → Option β) → Option β
def zq89 (c : zq88) : Spec :=
  ⟨[(false, [.data (.slice (.slice (.int .i64)))]), (false, [.data (.int .i64)]), (false, [.data (.int .i64)])], [], [(false, [.data .bool])], [], fun x k => c x.1.1.1 x.1.2.1.1 x.1.2.2.1.1 (fun r0 => k (((r0, ()), ()), ()))⟩
section
variable (c_order_matrix_when : zq36)
@[reducible] def order_matrix_earlier_X : Ctx := ⟨look tab, pick1 [(48, .spec (zq37 c_order_matrix_when))], false, false, false, false, false⟩
def zq8a {β : Type} (m : List (List Int)) (a : Int) (b : Int) (k : (Bool → Option β)) : Option β :=
  c_order_matrix_when m a (fun (rwhen : (Int × Int)) =>
  c_order_matrix_when m b (fun (rwhen2 : (Int × Int)) =>
  cond (decide (rwhen.1 < rwhen2.1))
  (k true)
  (cond (decide (rwhen.1 = rwhen2.1))
  (let t : Bool := (decide (rwhen.2 < rwhen2.2));
  k t)
  (k false))))
theorem zq8b (hΓ : ΓOk Tryd.prog (order_matrix_earlier_X c_order_matrix_when).Γ) : SpecOk Tryd.prog 29 (zq89 (zq8a c_order_matrix_when)) :=
  spec_exec (X := (order_matrix_earlier_X c_order_matrix_when)) (Λ := pick1 []) (rs := [.tmp 6]) (c := bodyOf Tryd.f29) mixed tab_ok hΓ Tryd.func29 (by kernel_rfl) (by kernel_rfl) (by kernel_rfl) (by kernel_rfl) CutsOk_nil (fun x k r h => Eq.trans (b := (zq89 (zq8a c_order_matrix_when)).run x k) (by kernel_rfl) h)
end
theorem zq8cΓ : ΓOk Tryd.prog (pick1 [(48, .spec (zq37 zq3b))]) := (ΓOk_cons zq3c ΓOk_nil)
def zq8d : zq88 := zq8a zq3b
theorem zq8e : SpecOk Tryd.prog 29 (zq89 zq8d) := zq8b zq3b zq8cΓ

/-- pagewatch/timeline.Check$1 -/
abbrev zq8f := {β : Type} → api_Row → api_Row → (Bool → Option β) → Option β
def zq8g (c : zq8f) : Spec :=
  ⟨[(true, [.data zq4]), (true, [.data zq4])], [], [(false, [.data .bool])], [], fun x k => c x.1.1.1 x.1.2.1.1 (fun r0 => k (((r0, ()), ()), ()))⟩
section
variable (c_slices_Equal_int_int : zq29)
@[reducible] def timeline_Check_f1_X : Ctx := ⟨look tab, pick1 [(36, .spec (zq2a c_slices_Equal_int_int))], false, false, false, false, false⟩
def zq8h {β : Type} (a : api_Row) (b : api_Row) (k : (Bool → Option β)) : Option β :=
  cond (decide (a.1 = b.1))
  (cond (decide (a.2.1.1 = b.2.1.1) && (decide (a.2.1.2 = b.2.1.2) && true))
  (c_slices_Equal_int_int a.2.2 b.2.2 (fun (rEqualintint : Bool) =>
  k rEqualintint))
  (k false))
  (k false)
theorem zq8i (hΓ : ΓOk Tryd.prog (timeline_Check_f1_X c_slices_Equal_int_int).Γ) : SpecOk Tryd.prog 35 (zq8g (zq8h c_slices_Equal_int_int)) :=
  spec_exec (X := (timeline_Check_f1_X c_slices_Equal_int_int)) (Λ := pick1 []) (rs := [.tmp 4]) (c := bodyOf Tryd.f35) mixed tab_ok hΓ Tryd.func35 (by kernel_rfl) (by kernel_rfl) (by kernel_rfl) (by kernel_rfl) CutsOk_nil (fun x k r h => Eq.trans (b := (zq8g (zq8h c_slices_Equal_int_int)).run x k) (by kernel_rfl) h)
end
theorem zq8jΓ : ΓOk Tryd.prog (pick1 [(36, .spec (zq2a zq2q))]) := (ΓOk_cons zq2r ΓOk_nil)
def zq8k : zq8f := zq8h zq2q
theorem zq8l : SpecOk Tryd.prog 35 (zq8g zq8k) := zq8i zq2q zq8jΓ

/-- pagewatch/clock.compared -/
abbrev zq8m := {β : Type} → (Int × (Int × (Int × Int))) → (Bool → Option β) → Option β
def zq8n (c : zq8m) : Spec :=
  ⟨[(true, [.data (.prod (.int .i64) (.prod (.int .i64) (.prod (.int .i64) (.int .i64))))])], [], [(false, [.data .bool])], [], fun x k => c x.1.1.1 (fun r0 => k (((r0, ()), ()), ()))⟩
section
variable (c_clock_instant : zq2z)
@[reducible] def clock_compared_X : Ctx := ⟨look tab, pick1 [(41, .spec (zq30 c_clock_instant))], false, false, false, false, false⟩
def zq8o {β : Type} (s : (Int × (Int × (Int × Int)))) (k : (Bool → Option β)) : Option β :=
  c_clock_instant s.2.1 (fun (rinstant : Bool) =>
  cond rinstant
  (c_clock_instant s.2.2.1 (fun (rinstant2 : Bool) =>
  cond rinstant2
  (c_clock_instant s.2.2.2 (fun (rinstant3 : Bool) =>
  cond rinstant3
  (let t : Bool := (decide (s.2.2.1 ≤ s.2.2.2));
  k t)
  (k false)))
  (k false)))
  (k false))
theorem zq8p (hΓ : ΓOk Tryd.prog (clock_compared_X c_clock_instant).Γ) : SpecOk Tryd.prog 40 (zq8n (zq8o c_clock_instant)) :=
  spec_exec (X := (clock_compared_X c_clock_instant)) (Λ := pick1 []) (rs := [.tmp 2]) (c := bodyOf Tryd.f40) mixed tab_ok hΓ Tryd.func40 (by kernel_rfl) (by kernel_rfl) (by kernel_rfl) (by kernel_rfl) CutsOk_nil (fun x k r h => Eq.trans (b := (zq8n (zq8o c_clock_instant)).run x k) (by kernel_rfl) h)
end
theorem zq8qΓ : ΓOk Tryd.prog (pick1 [(41, .spec (zq30 zq34))]) := (ΓOk_cons zq35 ΓOk_nil)
def zq8r : zq8m := zq8o zq34
theorem zq8s : SpecOk Tryd.prog 40 (zq8n zq8r) := zq8p zq34 zq8qΓ

/-- slices.Contains[[]int,int] -/
abbrev zq8t := {β : Type} → (List Int) → Int → (Bool → Option β) → Option β
def zq8u (c : zq8t) : Spec :=
  ⟨[(false, [.data (.slice (.int .i64))]), (false, [.data (.int .i64)])], [], [(false, [.data .bool])], [], fun x k => c x.1.1.1 x.1.2.1.1 (fun r0 => k (((r0, ()), ()), ()))⟩
section
variable (c_slices_Index_int_int : zq52)
@[reducible] def slices_Contains_int_int_X : Ctx := ⟨look tab, pick1 [(73, .spec (zq53 c_slices_Index_int_int))], false, false, false, false, false⟩
def zq8v {β : Type} (s : List Int) (v : Int) (k : (Bool → Option β)) : Option β :=
  c_slices_Index_int_int s v (fun (rIndexintint : Int) =>
  let t : Bool := (decide ((0 : Int) ≤ rIndexintint));
  k t)
theorem zq8w (hΓ : ΓOk Tryd.prog (slices_Contains_int_int_X c_slices_Index_int_int).Γ) : SpecOk Tryd.prog 53 (zq8u (zq8v c_slices_Index_int_int)) :=
  spec_exec (X := (slices_Contains_int_int_X c_slices_Index_int_int)) (Λ := pick1 []) (rs := [.tmp 4]) (c := bodyOf Tryd.f53) mixed tab_ok hΓ Tryd.func53 (by kernel_rfl) (by kernel_rfl) (by kernel_rfl) (by kernel_rfl) CutsOk_nil (fun x k r h => Eq.trans (b := (zq8u (zq8v c_slices_Index_int_int)).run x k) (by kernel_rfl) h)
end
theorem zq8xΓ : ΓOk Tryd.prog (pick1 [(73, .spec (zq53 zq5j))]) := (ΓOk_cons zq5k ΓOk_nil)
def zq8y : zq8t := zq8v zq5j
theorem zq8z : SpecOk Tryd.prog 53 (zq8u zq8y) := zq8w zq5j zq8xΓ

/-- pagewatch/clock.Elapsed -/
abbrev zq90 := {β : Type} → Int → Int → (Int → Int → Option β) → Option β
def zq91 (c : zq90) : Spec :=
  ⟨[(false, [.data (.int .i64)]), (false, [.data (.int .i64)])], [], [(false, [.data (.int .i64)]), (false, [.data (.int .i64)])], [], fun x k => c x.1.1.1 x.1.2.1.1 (fun r0 r1 => k (((r0, ()), (r1, ()), ()), ()))⟩
section
variable (c_clock_Elapsed_f1 : zq6d) (c_clock_in : zq2s) (c_clock_instant : zq2z)
@[reducible] def clock_Elapsed_X : Ctx := ⟨look tab, pick1 [(96, .spec (zq6e c_clock_Elapsed_f1)), (39, .spec (zq2t c_clock_in)), (41, .spec (zq30 c_clock_instant))], false, false, false, false, false⟩
def zq92 {β : Type} (drift : Int) (d : Int) (k : (Int → Int → Option β)) : Option β :=
  c_clock_in drift (0 : Int) (500000 : Int) (fun (rin : Bool) =>
  cond (!rin)
  (k (0 : Int) (0 : Int))
  (c_clock_instant d (fun (rinstant : Bool) =>
  cond (!rinstant)
  (k (0 : Int) (0 : Int))
  (cond (!decide ((IntKind.i64.wrap ((1000000 : Int) + drift)) = 0))
  (c_clock_Elapsed_f1 (IntKind.i64.wrap (d * (1000000 : Int))) (IntKind.i64.wrap ((1000000 : Int) - drift)) (fun (rElapsed1 : Int) =>
  let low : Int := (IntKind.i64.wrap (Int.tdiv (IntKind.i64.wrap (d * (1000000 : Int))) (IntKind.i64.wrap ((1000000 : Int) + drift))));
  k low rElapsed1))
  none))))
theorem zq93 (hΓ : ΓOk Tryd.prog (clock_Elapsed_X c_clock_Elapsed_f1 c_clock_in c_clock_instant).Γ) : SpecOk Tryd.prog 82 (zq91 (zq92 c_clock_Elapsed_f1 c_clock_in c_clock_instant)) :=
  spec_exec (X := (clock_Elapsed_X c_clock_Elapsed_f1 c_clock_in c_clock_instant)) (Λ := pick1 []) (rs := [.tmp 4, .tmp 5]) (c := bodyOf Tryd.f82) mixed tab_ok hΓ Tryd.func82 (by kernel_rfl) (by kernel_rfl) (by kernel_rfl) (by kernel_rfl) CutsOk_nil (fun x k r h => Eq.trans (b := (zq91 (zq92 c_clock_Elapsed_f1 c_clock_in c_clock_instant)).run x k) (by kernel_rfl) h)
end
theorem zq94Γ : ΓOk Tryd.prog (pick1 [(96, .spec (zq6e zq6i)), (39, .spec (zq2t zq2x)), (41, .spec (zq30 zq34))]) := (ΓOk_cons zq6j (ΓOk_cons zq2y (ΓOk_cons zq35 ΓOk_nil)))
def zq95 : zq90 := zq92 zq6i zq2x zq34
theorem zq96 : SpecOk Tryd.prog 82 (zq91 zq95) := zq93 zq6i zq2x zq34 zq94Γ

/-- pagewatch/clock.Valid -/
abbrev zq97 := {β : Type} → zq2 → (Bool → Option β) → Option β
def zq98 (c : zq97) : Spec :=
  ⟨[(true, [.data zq3])], [], [(false, [.data .bool])], [], fun x k => c x.1.1.1 (fun r0 => k (((r0, ()), ()), ()))⟩
noncomputable def clock_Valid_p1_code : Code := codeAt 58 (bodyOf Tryd.f23)
noncomputable def clock_Valid_p2_code : Code := codeAt 122 (bodyOf Tryd.f23)
noncomputable def clock_Valid_p3_code : Code := codeAt 250 (bodyOf Tryd.f23)
noncomputable def clock_Valid_p4_code : Code := codeAt 506 (bodyOf Tryd.f23)
abbrev zq99 (β : Type) := Bool → Option β
abbrev zq9a (β : Type) := (List (List UInt8 × Int)) → (List (Int × (Int × (Int × Int)))) → (List zq0) → (List (Int × (Int × Int))) → Option β
abbrev zq9b := {β : Type} → zq99 β → zq9a β → (List (List UInt8 × Int)) → Int → Int → (List (List UInt8 × Int)) → (List (Int × (Int × (Int × Int)))) → (List zq0) → (List (Int × (Int × Int))) → Option β
def zq9c : View := ⟨0, [1, 34, 35, 36], [(false, [.ptr 0 0]), (false, [.data (.slice (.prod .str (.int .i64)))]), (false, [.data (.int .i64)]), (false, [.data (.int .i64)])], [.cells 32 [.data (.slice (.prod .str (.int .i64))), .data (.slice (.prod (.int .i64) (.prod (.int .i64) (.prod (.int .i64) (.int .i64))))), .data (.slice zq1), .data (.slice (.prod (.int .i64) (.prod (.int .i64) (.int .i64))))]]⟩
def zq9d : List (AExit × View) := [(.ret, ⟨0, [2], [(false, [.data .bool])], []⟩), (.exit 0, ⟨0, [1], [(false, [.ptr 0 0])], [.cells 32 [.data (.slice (.prod .str (.int .i64))), .data (.slice (.prod (.int .i64) (.prod (.int .i64) (.prod (.int .i64) (.int .i64))))), .data (.slice zq1), .data (.slice (.prod (.int .i64) (.prod (.int .i64) (.int .i64))))]]⟩)]
@[reducible] def clock_Valid_p1_G (p : zq9b) {β : Type} (d : zq9c.den) (ks : Outs.K β zq9d) : Option β :=
  p (fun a0 => ks.1 (((a0, ()), ()), ())) (fun a0 a1 a2 a3 => ks.2.1 (((), ()), ((a0, a1, a2, a3, ()), ()))) d.1.2.1.1 d.1.2.2.1.1 d.1.2.2.2.1.1 d.2.1.1 d.2.1.2.1 d.2.1.2.2.1 d.2.1.2.2.2.1
abbrev zq9e (β : Type) := Bool → Option β
abbrev zq9f (β : Type) := (List (List UInt8 × Int)) → (List (Int × (Int × (Int × Int)))) → (List zq0) → (List (Int × (Int × Int))) → Option β
abbrev zq9g := {β : Type} → zq9e β → zq9f β → (List (Int × (Int × (Int × Int)))) → Int → Int → (List (List UInt8 × Int)) → (List (Int × (Int × (Int × Int)))) → (List zq0) → (List (Int × (Int × Int))) → Option β
def zq9h : View := ⟨0, [1, 46, 47, 48], [(false, [.ptr 0 0]), (false, [.data (.slice (.prod (.int .i64) (.prod (.int .i64) (.prod (.int .i64) (.int .i64)))))]), (false, [.data (.int .i64)]), (false, [.data (.int .i64)])], [.cells 32 [.data (.slice (.prod .str (.int .i64))), .data (.slice (.prod (.int .i64) (.prod (.int .i64) (.prod (.int .i64) (.int .i64))))), .data (.slice zq1), .data (.slice (.prod (.int .i64) (.prod (.int .i64) (.int .i64))))]]⟩
def zq9i : List (AExit × View) := [(.ret, ⟨0, [2], [(false, [.data .bool])], []⟩), (.exit 2, ⟨0, [1], [(false, [.ptr 0 0])], [.cells 32 [.data (.slice (.prod .str (.int .i64))), .data (.slice (.prod (.int .i64) (.prod (.int .i64) (.prod (.int .i64) (.int .i64))))), .data (.slice zq1), .data (.slice (.prod (.int .i64) (.prod (.int .i64) (.int .i64))))]]⟩)]
@[reducible] def clock_Valid_p2_G (p : zq9g) {β : Type} (d : zq9h.den) (ks : Outs.K β zq9i) : Option β :=
  p (fun a0 => ks.1 (((a0, ()), ()), ())) (fun a0 a1 a2 a3 => ks.2.1 (((), ()), ((a0, a1, a2, a3, ()), ()))) d.1.2.1.1 d.1.2.2.1.1 d.1.2.2.2.1.1 d.2.1.1 d.2.1.2.1 d.2.1.2.2.1 d.2.1.2.2.2.1
abbrev zq9j (β : Type) := Bool → Option β
abbrev zq9k (β : Type) := (List (List UInt8 × Int)) → (List (Int × (Int × (Int × Int)))) → (List zq0) → (List (Int × (Int × Int))) → Option β
abbrev zq9l := {β : Type} → zq9j β → zq9k β → (List zq0) → Int → Int → (List (List UInt8 × Int)) → (List (Int × (Int × (Int × Int)))) → (List zq0) → (List (Int × (Int × Int))) → Option β
def zq9m : View := ⟨0, [1, 67, 68, 69], [(false, [.ptr 0 0]), (false, [.data (.slice zq1)]), (false, [.data (.int .i64)]), (false, [.data (.int .i64)])], [.cells 32 [.data (.slice (.prod .str (.int .i64))), .data (.slice (.prod (.int .i64) (.prod (.int .i64) (.prod (.int .i64) (.int .i64))))), .data (.slice zq1), .data (.slice (.prod (.int .i64) (.prod (.int .i64) (.int .i64))))]]⟩
def zq9n : List (AExit × View) := [(.ret, ⟨0, [2], [(false, [.data .bool])], []⟩), (.exit 4, ⟨0, [1], [(false, [.ptr 0 0])], [.cells 32 [.data (.slice (.prod .str (.int .i64))), .data (.slice (.prod (.int .i64) (.prod (.int .i64) (.prod (.int .i64) (.int .i64))))), .data (.slice zq1), .data (.slice (.prod (.int .i64) (.prod (.int .i64) (.int .i64))))]]⟩)]
@[reducible] def clock_Valid_p3_G (p : zq9l) {β : Type} (d : zq9m.den) (ks : Outs.K β zq9n) : Option β :=
  p (fun a0 => ks.1 (((a0, ()), ()), ())) (fun a0 a1 a2 a3 => ks.2.1 (((), ()), ((a0, a1, a2, a3, ()), ()))) d.1.2.1.1 d.1.2.2.1.1 d.1.2.2.2.1.1 d.2.1.1 d.2.1.2.1 d.2.1.2.2.1 d.2.1.2.2.2.1
abbrev zq9o (β : Type) := Bool → Option β
abbrev zq9p (β : Type) := Unit → Option β
abbrev zq9q := {β : Type} → zq9o β → zq9p β → (List (Int × (Int × Int))) → Int → Int → (List (List UInt8 × Int)) → (List (Int × (Int × (Int × Int)))) → (List zq0) → (List (Int × (Int × Int))) → Option β
def zq9r : View := ⟨0, [1, 89, 90, 91], [(false, [.ptr 0 0]), (false, [.data (.slice (.prod (.int .i64) (.prod (.int .i64) (.int .i64))))]), (false, [.data (.int .i64)]), (false, [.data (.int .i64)])], [.cells 32 [.data (.slice (.prod .str (.int .i64))), .data (.slice (.prod (.int .i64) (.prod (.int .i64) (.prod (.int .i64) (.int .i64))))), .data (.slice zq1), .data (.slice (.prod (.int .i64) (.prod (.int .i64) (.int .i64))))]]⟩
def zq9s : List (AExit × View) := [(.ret, ⟨0, [2], [(false, [.data .bool])], []⟩), (.exit 6, ⟨0, [], [], []⟩)]
@[reducible] def clock_Valid_p4_G (p : zq9q) {β : Type} (d : zq9r.den) (ks : Outs.K β zq9s) : Option β :=
  p (fun a0 => ks.1 (((a0, ()), ()), ())) (fun _ => ks.2.1 ((), ())) d.1.2.1.1 d.1.2.2.1.1 d.1.2.2.2.1.1 d.2.1.1 d.2.1.2.1 d.2.1.2.2.1 d.2.1.2.2.2.1
section
variable (c_clock_compared : zq8m) (c_clock_in : zq2s) (c_clock_instant : zq2z)
@[reducible] def clock_Valid_X : Ctx := ⟨look tab, pick1 [(40, .spec (zq8n c_clock_compared)), (39, .spec (zq2t c_clock_in)), (41, .spec (zq30 c_clock_instant))], false, false, false, false, false⟩
def zq9t {β : Type} (rec : (List (List UInt8 × Int)) → Int → Int → (List (List UInt8 × Int)) → (List (Int × (Int × (Int × Int)))) → (List zq0) → (List (Int × (Int × Int))) → Option β) (k1 : zq99 β) (k2 : zq9a β) (t34 : List (List UInt8 × Int)) (t35 : Int) (t36 : Int) (r_ : List (List UInt8 × Int)) (r_2 : List (Int × (Int × (Int × Int)))) (r_3 : List zq0) (r_4 : List (Int × (Int × Int))) : Option β :=
  cond (decide (t36 < t35))
  (cond (decide (0 ≤ t36) && decide (t36 < (List.length t34 : Int)))
  (let e : (List UInt8 × Int) := List.getD t34 (Int.toNat t36) (([] : List UInt8), (0 : Int));
  c_clock_in e.2 (0 : Int) (500000 : Int) (fun (rin : Bool) =>
  cond (!rin)
  (k1 false)
  (rec t34 t35 (IntKind.i64.wrap (t36 + (1 : Int))) r_ r_2 r_3 r_4)))
  none)
  (k2 r_ r_2 r_3 r_4)
def zq9u {β : Type} : Nat → zq99 β → zq9a β → (List (List UInt8 × Int)) → Int → Int → (List (List UInt8 × Int)) → (List (Int × (Int × (Int × Int)))) → (List zq0) → (List (Int × (Int × Int))) → Option β
  | 0 => fun _ _ _ _ _ _ _ _ _ => none
  | i + 1 => fun k1 k2 t34 t35 t36 r_ r_2 r_3 r_4 => zq9t c_clock_in (zq9u i k1 k2) k1 k2 t34 t35 t36 r_ r_2 r_3 r_4
theorem zq9v (hΓ : ΓOk Tryd.prog (clock_Valid_X c_clock_compared c_clock_in c_clock_instant).Γ) (i : Nat) : PieceOk Tryd.prog 127 0 clock_Valid_p1_code zq9c zq9d (clock_Valid_p1_G (zq9u c_clock_in i)) := by
  rw [show clock_Valid_p1_code = .loop (loopBody clock_Valid_p1_code) by kernel_rfl]
  exact piece_loop (X := (clock_Valid_X c_clock_compared c_clock_in c_clock_instant)) (p := 1) (Λ := pick1 []) (G := fun i => @fun β d ks => clock_Valid_p1_G (zq9u c_clock_in i) d ks) mixed tab_ok hΓ rfl (by kernel_rfl) CutsOk_nil (fun _ _ => rfl) (fun i => @fun β d ks r h => Eq.trans (b := clock_Valid_p1_G (zq9u c_clock_in (i + 1)) d ks) (by kernel_rfl) h) i
def zq9w {β : Type} (rec : (List (Int × (Int × (Int × Int)))) → Int → Int → (List (List UInt8 × Int)) → (List (Int × (Int × (Int × Int)))) → (List zq0) → (List (Int × (Int × Int))) → Option β) (k1 : zq9e β) (k2 : zq9f β) (t46 : List (Int × (Int × (Int × Int)))) (t47 : Int) (t48 : Int) (r_ : List (List UInt8 × Int)) (r_2 : List (Int × (Int × (Int × Int)))) (r_3 : List zq0) (r_4 : List (Int × (Int × Int))) : Option β :=
  cond (decide (t48 < t47))
  (cond (decide (0 ≤ t48) && decide (t48 < (List.length t46 : Int)))
  (let e : (Int × (Int × (Int × Int))) := List.getD t46 (Int.toNat t48) ((0 : Int), ((0 : Int), ((0 : Int), (0 : Int))));
  c_clock_in e.1 (0 : Int) (IntKind.i64.wrap ((List.length r_ : Int) - (1 : Int))) (fun (rin : Bool) =>
  cond (!rin)
  (k1 false)
  (c_clock_compared e (fun (rcompared : Bool) =>
  cond (!rcompared)
  (k1 false)
  (rec t46 t47 (IntKind.i64.wrap (t48 + (1 : Int))) r_ r_2 r_3 r_4)))))
  none)
  (k2 r_ r_2 r_3 r_4)
def zq9x {β : Type} : Nat → zq9e β → zq9f β → (List (Int × (Int × (Int × Int)))) → Int → Int → (List (List UInt8 × Int)) → (List (Int × (Int × (Int × Int)))) → (List zq0) → (List (Int × (Int × Int))) → Option β
  | 0 => fun _ _ _ _ _ _ _ _ _ => none
  | i + 1 => fun k1 k2 t46 t47 t48 r_ r_2 r_3 r_4 => zq9w c_clock_compared c_clock_in (zq9x i k1 k2) k1 k2 t46 t47 t48 r_ r_2 r_3 r_4
theorem zq9y (hΓ : ΓOk Tryd.prog (clock_Valid_X c_clock_compared c_clock_in c_clock_instant).Γ) (i : Nat) : PieceOk Tryd.prog 127 0 clock_Valid_p2_code zq9h zq9i (clock_Valid_p2_G (zq9x c_clock_compared c_clock_in i)) := by
  rw [show clock_Valid_p2_code = .loop (loopBody clock_Valid_p2_code) by kernel_rfl]
  exact piece_loop (X := (clock_Valid_X c_clock_compared c_clock_in c_clock_instant)) (p := 1) (Λ := pick1 []) (G := fun i => @fun β d ks => clock_Valid_p2_G (zq9x c_clock_compared c_clock_in i) d ks) mixed tab_ok hΓ rfl (by kernel_rfl) CutsOk_nil (fun _ _ => rfl) (fun i => @fun β d ks r h => Eq.trans (b := clock_Valid_p2_G (zq9x c_clock_compared c_clock_in (i + 1)) d ks) (by kernel_rfl) h) i
def zq9z {β : Type} (rec : (List zq0) → Int → Int → (List (List UInt8 × Int)) → (List (Int × (Int × (Int × Int)))) → (List zq0) → (List (Int × (Int × Int))) → Option β) (k1 : zq9j β) (k2 : zq9k β) (t67 : List zq0) (t68 : Int) (t69 : Int) (r_ : List (List UInt8 × Int)) (r_2 : List (Int × (Int × (Int × Int)))) (r_3 : List zq0) (r_4 : List (Int × (Int × Int))) : Option β :=
  cond (decide (t69 < t68))
  (cond (decide (0 ≤ t69) && decide (t69 < (List.length t67 : Int)))
  (let e : zq0 := List.getD t67 (Int.toNat t69) ((0 : Int), ((0 : Int), ([] : List UInt8)));
  c_clock_in e.1 (0 : Int) (IntKind.i64.wrap ((List.length r_ : Int) - (1 : Int))) (fun (rin : Bool) =>
  cond (!rin)
  (k1 false)
  (c_clock_instant e.2.1 (fun (rinstant : Bool) =>
  cond (!rinstant)
  (k1 false)
  (rec t67 t68 (IntKind.i64.wrap (t69 + (1 : Int))) r_ r_2 r_3 r_4)))))
  none)
  (k2 r_ r_2 r_3 r_4)
def zqa0 {β : Type} : Nat → zq9j β → zq9k β → (List zq0) → Int → Int → (List (List UInt8 × Int)) → (List (Int × (Int × (Int × Int)))) → (List zq0) → (List (Int × (Int × Int))) → Option β
  | 0 => fun _ _ _ _ _ _ _ _ _ => none
  | i + 1 => fun k1 k2 t67 t68 t69 r_ r_2 r_3 r_4 => zq9z c_clock_in c_clock_instant (zqa0 i k1 k2) k1 k2 t67 t68 t69 r_ r_2 r_3 r_4
theorem zqa1 (hΓ : ΓOk Tryd.prog (clock_Valid_X c_clock_compared c_clock_in c_clock_instant).Γ) (i : Nat) : PieceOk Tryd.prog 127 0 clock_Valid_p3_code zq9m zq9n (clock_Valid_p3_G (zqa0 c_clock_in c_clock_instant i)) := by
  rw [show clock_Valid_p3_code = .loop (loopBody clock_Valid_p3_code) by kernel_rfl]
  exact piece_loop (X := (clock_Valid_X c_clock_compared c_clock_in c_clock_instant)) (p := 1) (Λ := pick1 []) (G := fun i => @fun β d ks => clock_Valid_p3_G (zqa0 c_clock_in c_clock_instant i) d ks) mixed tab_ok hΓ rfl (by kernel_rfl) CutsOk_nil (fun _ _ => rfl) (fun i => @fun β d ks r h => Eq.trans (b := clock_Valid_p3_G (zqa0 c_clock_in c_clock_instant (i + 1)) d ks) (by kernel_rfl) h) i
def zqa2 {β : Type} (rec : (List (Int × (Int × Int))) → Int → Int → (List (List UInt8 × Int)) → (List (Int × (Int × (Int × Int)))) → (List zq0) → (List (Int × (Int × Int))) → Option β) (k1 : zq9o β) (k2 : zq9p β) (t89 : List (Int × (Int × Int))) (t90 : Int) (t91 : Int) (r_ : List (List UInt8 × Int)) (r_2 : List (Int × (Int × (Int × Int)))) (r_3 : List zq0) (r_4 : List (Int × (Int × Int))) : Option β :=
  cond (decide (t91 < t90))
  (cond (decide (0 ≤ t91) && decide (t91 < (List.length t89 : Int)))
  (let e : (Int × (Int × Int)) := List.getD t89 (Int.toNat t91) ((0 : Int), ((0 : Int), (0 : Int)));
  c_clock_in e.1 (0 : Int) (IntKind.i64.wrap ((List.length r_3 : Int) - (1 : Int))) (fun (rin : Bool) =>
  cond (!rin)
  (k1 false)
  (c_clock_in e.2.1 (0 : Int) (IntKind.i64.wrap ((List.length r_3 : Int) - (1 : Int))) (fun (rin2 : Bool) =>
  cond (!rin2)
  (k1 false)
  (cond (decide (e.1 = e.2.1))
  (k1 false)
  (c_clock_instant e.2.2 (fun (rinstant : Bool) =>
  cond (!rinstant)
  (k1 false)
  (rec t89 t90 (IntKind.i64.wrap (t91 + (1 : Int))) r_ r_2 r_3 r_4))))))))
  none)
  (k2 ())
def zqa3 {β : Type} : Nat → zq9o β → zq9p β → (List (Int × (Int × Int))) → Int → Int → (List (List UInt8 × Int)) → (List (Int × (Int × (Int × Int)))) → (List zq0) → (List (Int × (Int × Int))) → Option β
  | 0 => fun _ _ _ _ _ _ _ _ _ => none
  | i + 1 => fun k1 k2 t89 t90 t91 r_ r_2 r_3 r_4 => zqa2 c_clock_in c_clock_instant (zqa3 i k1 k2) k1 k2 t89 t90 t91 r_ r_2 r_3 r_4
theorem zqa4 (hΓ : ΓOk Tryd.prog (clock_Valid_X c_clock_compared c_clock_in c_clock_instant).Γ) (i : Nat) : PieceOk Tryd.prog 127 0 clock_Valid_p4_code zq9r zq9s (clock_Valid_p4_G (zqa3 c_clock_in c_clock_instant i)) := by
  rw [show clock_Valid_p4_code = .loop (loopBody clock_Valid_p4_code) by kernel_rfl]
  exact piece_loop (X := (clock_Valid_X c_clock_compared c_clock_in c_clock_instant)) (p := 1) (Λ := pick1 []) (G := fun i => @fun β d ks => clock_Valid_p4_G (zqa3 c_clock_in c_clock_instant i) d ks) mixed tab_ok hΓ rfl (by kernel_rfl) CutsOk_nil (fun _ _ => rfl) (fun i => @fun β d ks r h => Eq.trans (b := clock_Valid_p4_G (zqa3 c_clock_in c_clock_instant (i + 1)) d ks) (by kernel_rfl) h) i
def zqa5 (p1 : zq9b) (p2 : zq9g) (p3 : zq9l) (p4 : zq9q) {β : Type} (r_ : zq2) (k : (Bool → Option β)) : Option β :=
  cond (decide ((8 : Int) < (List.length r_.1 : Int)))
  (k false)
  (cond (decide ((64 : Int) < (List.length r_.2.1 : Int)))
  (k false)
  (cond (decide ((40 : Int) < (List.length r_.2.2.1 : Int)))
  (k false)
  (cond (decide ((64 : Int) < (List.length r_.2.2.2 : Int)))
  (k false)
  (p1 (fun (t2 : Bool) =>
  k t2) (fun (r_2 : List (List UInt8 × Int)) (r_3 : List (Int × (Int × (Int × Int)))) (r_4 : List zq0) (r_5 : List (Int × (Int × Int))) =>
  p2 (fun (t2 : Bool) =>
  k t2) (fun (r_6 : List (List UInt8 × Int)) (r_7 : List (Int × (Int × (Int × Int)))) (r_8 : List zq0) (r_9 : List (Int × (Int × Int))) =>
  p3 (fun (t2 : Bool) =>
  k t2) (fun (r_10 : List (List UInt8 × Int)) (r_11 : List (Int × (Int × (Int × Int)))) (r_12 : List zq0) (r_13 : List (Int × (Int × Int))) =>
  p4 (fun (t2 : Bool) =>
  k t2) (fun (_ : Unit) =>
  k true) r_13 (List.length r_13 : Int) (0 : Int) r_10 r_11 r_12 r_13) r_8 (List.length r_8 : Int) (0 : Int) r_6 r_7 r_8 r_9) r_3 (List.length r_3 : Int) (0 : Int) r_2 r_3 r_4 r_5) r_.1 (List.length r_.1 : Int) (0 : Int) r_.1 r_.2.1 r_.2.2.1 r_.2.2.2))))
theorem zqa6 (hΓ : ΓOk Tryd.prog (clock_Valid_X c_clock_compared c_clock_in c_clock_instant).Γ) (p1 : zq9b) (p2 : zq9g) (p3 : zq9l) (p4 : zq9q) (hp1 : PieceOk Tryd.prog 127 0 clock_Valid_p1_code zq9c zq9d (clock_Valid_p1_G p1)) (hp2 : PieceOk Tryd.prog 127 0 clock_Valid_p2_code zq9h zq9i (clock_Valid_p2_G p2)) (hp3 : PieceOk Tryd.prog 127 0 clock_Valid_p3_code zq9m zq9n (clock_Valid_p3_G p3)) (hp4 : PieceOk Tryd.prog 127 0 clock_Valid_p4_code zq9r zq9s (clock_Valid_p4_G p4)) : SpecOk Tryd.prog 23 (zq98 (zqa5 p1 p2 p3 p4)) :=
  spec_exec (X := (clock_Valid_X c_clock_compared c_clock_in c_clock_instant)) (Λ := pick1 [(58, pieceCut zq9c zq9d (clock_Valid_p1_G p1)), (122, pieceCut zq9h zq9i (clock_Valid_p2_G p2)), (250, pieceCut zq9m zq9n (clock_Valid_p3_G p3)), (506, pieceCut zq9r zq9s (clock_Valid_p4_G p4))]) (rs := [.tmp 2]) (c := bodyOf Tryd.f23) mixed tab_ok hΓ Tryd.func23 (by kernel_rfl) (by kernel_rfl) (by kernel_rfl) (by kernel_rfl) (CutsOk_cons (q := 58) (c' := clock_Valid_p1_code) (by kernel_rfl) rfl hp1 (CutsOk_cons (q := 122) (c' := clock_Valid_p2_code) (by kernel_rfl) rfl hp2 (CutsOk_cons (q := 250) (c' := clock_Valid_p3_code) (by kernel_rfl) rfl hp3 (CutsOk_cons (q := 506) (c' := clock_Valid_p4_code) (by kernel_rfl) rfl hp4 CutsOk_nil)))) (fun x k r h => Eq.trans (b := (zq98 (zqa5 p1 p2 p3 p4)).run x k) (by kernel_rfl) h)
end
theorem zqa7Γ : ΓOk Tryd.prog (pick1 [(40, .spec (zq8n zq8r)), (39, .spec (zq2t zq2x)), (41, .spec (zq30 zq34))]) := (ΓOk_cons zq8s (ΓOk_cons zq2y (ΓOk_cons zq35 ΓOk_nil)))
def zqa8 (m : Nat) : zq9b := zq9u zq2x m
theorem zqa9 {β : Type} (i : Nat) (k1 k2 t34 t35 t36 r_ r_2 r_3 r_4) : (zqa8 (i + 1) k1 k2 t34 t35 t36 r_ r_2 r_3 r_4 : Option β) = zq9t zq2x (zqa8 i k1 k2) k1 k2 t34 t35 t36 r_ r_2 r_3 r_4 := rfl
def zqaa : zq9b := zqa8 fuel
theorem zqab : PieceOk Tryd.prog 127 0 clock_Valid_p1_code zq9c zq9d (clock_Valid_p1_G zqaa) := zq9v zq8r zq2x zq34 zqa7Γ fuel
def zqac (m : Nat) : zq9g := zq9x zq8r zq2x m
theorem zqad {β : Type} (i : Nat) (k1 k2 t46 t47 t48 r_ r_2 r_3 r_4) : (zqac (i + 1) k1 k2 t46 t47 t48 r_ r_2 r_3 r_4 : Option β) = zq9w zq8r zq2x (zqac i k1 k2) k1 k2 t46 t47 t48 r_ r_2 r_3 r_4 := rfl
def zqae : zq9g := zqac fuel
theorem zqaf : PieceOk Tryd.prog 127 0 clock_Valid_p2_code zq9h zq9i (clock_Valid_p2_G zqae) := zq9y zq8r zq2x zq34 zqa7Γ fuel
def zqag (m : Nat) : zq9l := zqa0 zq2x zq34 m
theorem zqah {β : Type} (i : Nat) (k1 k2 t67 t68 t69 r_ r_2 r_3 r_4) : (zqag (i + 1) k1 k2 t67 t68 t69 r_ r_2 r_3 r_4 : Option β) = zq9z zq2x zq34 (zqag i k1 k2) k1 k2 t67 t68 t69 r_ r_2 r_3 r_4 := rfl
def zqai : zq9l := zqag fuel
theorem zqaj : PieceOk Tryd.prog 127 0 clock_Valid_p3_code zq9m zq9n (clock_Valid_p3_G zqai) := zqa1 zq8r zq2x zq34 zqa7Γ fuel
def zqak (m : Nat) : zq9q := zqa3 zq2x zq34 m
theorem zqal {β : Type} (i : Nat) (k1 k2 t89 t90 t91 r_ r_2 r_3 r_4) : (zqak (i + 1) k1 k2 t89 t90 t91 r_ r_2 r_3 r_4 : Option β) = zqa2 zq2x zq34 (zqak i k1 k2) k1 k2 t89 t90 t91 r_ r_2 r_3 r_4 := rfl
def zqam : zq9q := zqak fuel
theorem zqan : PieceOk Tryd.prog 127 0 clock_Valid_p4_code zq9r zq9s (clock_Valid_p4_G zqam) := zqa4 zq8r zq2x zq34 zqa7Γ fuel
def zqao : zq97 := zqa5 zqaa zqae zqai zqam
theorem zqap : SpecOk Tryd.prog 23 (zq98 zqao) := zqa6 zq8r zq2x zq34 zqa7Γ zqaa zqae zqai zqam zqab zqaf zqaj zqan

/-- pagewatch/order.pair -/
abbrev zqaq := {β : Type} → zq2 → Int → Int → ((List (Int × (Int × Int))) → Option β) → Option β
def zqar (c : zqaq) : Spec :=
  ⟨[(true, [.data zq3]), (false, [.data (.int .i64)]), (false, [.data (.int .i64)])], [], [(false, [.rowh 0])], [.row 123 (.prod (.int .i64) (.prod (.int .i64) (.int .i64)))], fun x k => c x.1.1.1 x.1.2.1.1 x.1.2.2.1.1 (fun r0 => k (((), ()), (r0, ())))⟩
noncomputable def order_pair_p1_code : Code := codeAt 15 (bodyOf Tryd.f59)
abbrev zqas (β : Type) := (List (Int × (Int × Int))) → Option β
abbrev zqat := {β : Type} → zqas β → Int → Int → (List (List UInt8 × Int)) → (List (Int × (Int × (Int × Int)))) → (List zq0) → (List (Int × (Int × Int))) → Int → Int → (List UInt8) → Int → Int → (List UInt8) → Option β
def zqau : View := ⟨0, [1, 2, 3, 7, 8], [(false, [.data (.int .i64)]), (false, [.data (.int .i64)]), (false, [.ptr 0 0]), (false, [.ptr 1 0]), (false, [.ptr 2 0])], [.cells 32 [.data (.slice (.prod .str (.int .i64))), .data (.slice (.prod (.int .i64) (.prod (.int .i64) (.prod (.int .i64) (.int .i64))))), .data (.slice zq1), .data (.slice (.prod (.int .i64) (.prod (.int .i64) (.int .i64))))], .cells 49 [.data (.int .i64), .data (.int .i64), .data .str], .cells 49 [.data (.int .i64), .data (.int .i64), .data .str]]⟩
def zqav : List (AExit × View) := [(.ret, ⟨0, [6], [(false, [.rowh 0])], [.row 123 (.prod (.int .i64) (.prod (.int .i64) (.int .i64)))]⟩)]
@[reducible] def order_pair_p1_G (p : zqat) {β : Type} (d : zqau.den) (ks : Outs.K β zqav) : Option β :=
  p (fun a0 => ks.1 (((), ()), (a0, ()))) d.1.1.1 d.1.2.1.1 d.2.1.1 d.2.1.2.1 d.2.1.2.2.1 d.2.1.2.2.2.1 d.2.2.1.1 d.2.2.1.2.1 d.2.2.1.2.2.1 d.2.2.2.1.1 d.2.2.2.1.2.1 d.2.2.2.1.2.2.1
section
variable (c_clock_Elapsed : zq90)
@[reducible] def order_pair_X : Ctx := ⟨look tab, pick1 [(82, .spec (zq91 c_clock_Elapsed))], false, false, false, false, false⟩
def zqaw {β : Type} (k1 : zqas β) (i_ : Int) (j : Int) (r_ : List (List UInt8 × Int)) (r_2 : List (Int × (Int × (Int × Int)))) (r_3 : List zq0) (r_4 : List (Int × (Int × Int))) (a : Int) (a2 : Int) (a3 : List UInt8) (b : Int) (b2 : Int) (b3 : List UInt8) : Option β :=
  cond (decide (0 ≤ a) && decide (a < (List.length r_ : Int)))
  (let e : (List UInt8 × Int) := List.getD r_ (Int.toNat a) (([] : List UInt8), (0 : Int));
  c_clock_Elapsed e.2 (IntKind.i64.wrap (b2 - a2)) (fun (rElapsed : Int) (rElapsed2 : Int) =>
  let l : List (Int × (Int × Int)) := ([((IntKind.i64.wrap (i_ + (1 : Int))), ((IntKind.i64.wrap (j + (1 : Int))), rElapsed2)), ((IntKind.i64.wrap (j + (1 : Int))), ((IntKind.i64.wrap (i_ + (1 : Int))), (IntKind.i64.wrap (0 - rElapsed))))] : List (Int × (Int × Int)));
  k1 l))
  none
def zqax {β : Type} (k1 : zqas β) (i_ : Int) (j : Int) (r_ : List (List UInt8 × Int)) (r_2 : List (Int × (Int × (Int × Int)))) (r_3 : List zq0) (r_4 : List (Int × (Int × Int))) (a : Int) (a2 : Int) (a3 : List UInt8) (b : Int) (b2 : Int) (b3 : List UInt8) : Option β := zqaw c_clock_Elapsed k1 i_ j r_ r_2 r_3 r_4 a a2 a3 b b2 b3
theorem zqay (hΓ : ΓOk Tryd.prog (order_pair_X c_clock_Elapsed).Γ) : PieceOk Tryd.prog 60 0 order_pair_p1_code zqau zqav (order_pair_p1_G (zqax c_clock_Elapsed)) :=
  piece_exec (X := (order_pair_X c_clock_Elapsed)) (p := 15) (Λ := pick1 []) mixed tab_ok hΓ (by kernel_rfl) CutsOk_nil (fun d ks r h => Eq.trans (b := order_pair_p1_G (zqax c_clock_Elapsed) d ks) (by kernel_rfl) h)
def zqaz (p1 : zqat) {β : Type} (r_ : zq2) (i_ : Int) (j : Int) (k : ((List (Int × (Int × Int))) → Option β)) : Option β :=
  cond (decide (0 ≤ i_) && decide (i_ < (List.length r_.2.2.1 : Int)))
  (let e : zq0 := List.getD r_.2.2.1 (Int.toNat i_) ((0 : Int), ((0 : Int), ([] : List UInt8)));
  cond (decide (0 ≤ j) && decide (j < (List.length r_.2.2.1 : Int)))
  (let e2 : zq0 := List.getD r_.2.2.1 (Int.toNat j) ((0 : Int), ((0 : Int), ([] : List UInt8)));
  cond (decide (e2.2.1 < e.2.1))
  (p1 (fun (t6 : List (Int × (Int × Int))) =>
  k t6) j i_ r_.1 r_.2.1 r_.2.2.1 r_.2.2.2 e2.1 e2.2.1 e2.2.2 e.1 e.2.1 e.2.2)
  (p1 (fun (t6 : List (Int × (Int × Int))) =>
  k t6) i_ j r_.1 r_.2.1 r_.2.2.1 r_.2.2.2 e.1 e.2.1 e.2.2 e2.1 e2.2.1 e2.2.2))
  none)
  none
theorem zqb0 (hΓ : ΓOk Tryd.prog (order_pair_X c_clock_Elapsed).Γ) (p1 : zqat) (hp1 : PieceOk Tryd.prog 60 0 order_pair_p1_code zqau zqav (order_pair_p1_G p1)) : SpecOk Tryd.prog 59 (zqar (zqaz p1)) :=
  spec_exec (X := (order_pair_X c_clock_Elapsed)) (Λ := pick1 [(15, pieceCut zqau zqav (order_pair_p1_G p1))]) (rs := [.tmp 6]) (c := bodyOf Tryd.f59) mixed tab_ok hΓ Tryd.func59 (by kernel_rfl) (by kernel_rfl) (by kernel_rfl) (by kernel_rfl) (CutsOk_cons (q := 15) (c' := order_pair_p1_code) (by kernel_rfl) rfl hp1 CutsOk_nil) (fun x k r h => Eq.trans (b := (zqar (zqaz p1)).run x k) (by kernel_rfl) h)
end
theorem zqb1Γ : ΓOk Tryd.prog (pick1 [(82, .spec (zq91 zq95))]) := (ΓOk_cons zq96 ΓOk_nil)
def zqb2 : zqat := zqax zq95
theorem zqb3 : PieceOk Tryd.prog 60 0 order_pair_p1_code zqau zqav (order_pair_p1_G zqb2) := zqay zq95 zqb1Γ
def zqb4 : zqaq := zqaz zqb2
theorem zqb5 : SpecOk Tryd.prog 59 (zqar zqb4) := zqb0 zq95 zqb1Γ zqb2 zqb3

/-- pagewatch/clock.From -/
abbrev zqb6 := {β : Type} → (List UInt8 × Int) → (Int × (Int × (Int × Int))) → Int → ((Int × Int) → Option β) → Option β
def zqb7 (c : zqb6) : Spec :=
  ⟨[(true, [.data (.prod .str (.int .i64))]), (true, [.data (.prod (.int .i64) (.prod (.int .i64) (.prod (.int .i64) (.int .i64))))]), (false, [.data (.int .i64)])], [], [(true, [.data (.prod (.int .i64) (.int .i64))])], [], fun x k => c x.1.1.1 x.1.2.1.1 x.1.2.2.1.1 (fun r0 => k (((r0, ()), ()), ()))⟩
section
variable (c_clock_Elapsed : zq90) (c_clock_compared : zq8m) (c_clock_in : zq2s) (c_clock_instant : zq2z)
@[reducible] def clock_From_X : Ctx := ⟨look tab, pick1 [(82, .spec (zq91 c_clock_Elapsed)), (40, .spec (zq8n c_clock_compared)), (39, .spec (zq2t c_clock_in)), (41, .spec (zq30 c_clock_instant))], false, false, false, false, false⟩
def zqb8 {β : Type} (h : (List UInt8 × Int)) (s : (Int × (Int × (Int × Int)))) (clock : Int) (k : ((Int × Int) → Option β)) : Option β :=
  c_clock_in h.2 (0 : Int) (500000 : Int) (fun (rin : Bool) =>
  cond (!rin)
  (k ((-1099511627776 : Int), (1099511627776 : Int)))
  (c_clock_compared s (fun (rcompared : Bool) =>
  cond (!rcompared)
  (k ((-1099511627776 : Int), (1099511627776 : Int)))
  (c_clock_instant clock (fun (rinstant : Bool) =>
  cond (!rinstant)
  (k ((-1099511627776 : Int), (1099511627776 : Int)))
  (cond (decide (s.2.1 ≤ clock))
  (c_clock_Elapsed h.2 (IntKind.i64.wrap (clock - s.2.1)) (fun (rElapsed : Int) (rElapsed2 : Int) =>
  k ((IntKind.i64.wrap (s.2.2.1 + rElapsed)), (IntKind.i64.wrap (s.2.2.2 + rElapsed2)))))
  (c_clock_Elapsed h.2 (IntKind.i64.wrap (s.2.1 - clock)) (fun (rElapsed : Int) (rElapsed2 : Int) =>
  k ((IntKind.i64.wrap (s.2.2.1 - rElapsed2)), (IntKind.i64.wrap (s.2.2.2 - rElapsed)))))))))))
theorem zqb9 (hΓ : ΓOk Tryd.prog (clock_From_X c_clock_Elapsed c_clock_compared c_clock_in c_clock_instant).Γ) : SpecOk Tryd.prog 80 (zqb7 (zqb8 c_clock_Elapsed c_clock_compared c_clock_in c_clock_instant)) :=
  spec_exec (X := (clock_From_X c_clock_Elapsed c_clock_compared c_clock_in c_clock_instant)) (Λ := pick1 []) (rs := [.cell 6 44]) (c := bodyOf Tryd.f80) mixed tab_ok hΓ Tryd.func80 (by kernel_rfl) (by kernel_rfl) (by kernel_rfl) (by kernel_rfl) CutsOk_nil (fun x k r h => Eq.trans (b := (zqb7 (zqb8 c_clock_Elapsed c_clock_compared c_clock_in c_clock_instant)).run x k) (by kernel_rfl) h)
end
theorem zqbaΓ : ΓOk Tryd.prog (pick1 [(82, .spec (zq91 zq95)), (40, .spec (zq8n zq8r)), (39, .spec (zq2t zq2x)), (41, .spec (zq30 zq34))]) := (ΓOk_cons zq96 (ΓOk_cons zq8s (ΓOk_cons zq2y (ΓOk_cons zq35 ΓOk_nil))))
def zqbb : zqb6 := zqb8 zq95 zq8r zq2x zq34
theorem zqbc : SpecOk Tryd.prog 80 (zqb7 zqbb) := zqb9 zq95 zq8r zq2x zq34 zqbaΓ

/-- pagewatch/clock.When -/
abbrev zqbd := {β : Type} → zq2 → Int → Int → ((Int × Int) → Bool → Option β) → Option β
def zqbe (c : zqbd) : Spec :=
  ⟨[(true, [.data zq3]), (false, [.data (.int .i64)]), (false, [.data (.int .i64)])], [], [(true, [.data (.prod (.int .i64) (.int .i64))]), (false, [.data .bool])], [], fun x k => c x.1.1.1 x.1.2.1.1 x.1.2.2.1.1 (fun r0 r1 => k (((r0, ()), (r1, ()), ()), ()))⟩
noncomputable def clock_When_p1_code : Code := codeAt 122 (bodyOf Tryd.f58)
abbrev zqbf (β : Type) := Int → Int → Int → Int → Option β
abbrev zqbg := {β : Type} → zqbf β → Int → Int → (List (Int × (Int × (Int × Int)))) → Int → Int → (List (List UInt8 × Int)) → (List (Int × (Int × (Int × Int)))) → (List zq0) → (List (Int × (Int × Int))) → Int → Int → Int → Int → Option β
def zqbh : View := ⟨0, [1, 2, 3, 6, 8, 31, 32, 33], [(false, [.data (.int .i64)]), (false, [.data (.int .i64)]), (false, [.ptr 0 0]), (false, [.ptr 1 0]), (false, [.ptr 2 0]), (false, [.data (.slice (.prod (.int .i64) (.prod (.int .i64) (.prod (.int .i64) (.int .i64)))))]), (false, [.data (.int .i64)]), (false, [.data (.int .i64)])], [.cells 32 [.data (.slice (.prod .str (.int .i64))), .data (.slice (.prod (.int .i64) (.prod (.int .i64) (.prod (.int .i64) (.int .i64))))), .data (.slice zq1), .data (.slice (.prod (.int .i64) (.prod (.int .i64) (.int .i64))))], .cells 44 [.data (.int .i64), .data (.int .i64)], .cells 44 [.data (.int .i64), .data (.int .i64)]]⟩
def zqbi : List (AExit × View) := [(.exit 0, ⟨0, [6, 8], [(false, [.ptr 0 0]), (false, [.ptr 1 0])], [.cells 44 [.data (.int .i64), .data (.int .i64)], .cells 44 [.data (.int .i64), .data (.int .i64)]]⟩)]
@[reducible] def clock_When_p1_G (p : zqbg) {β : Type} (d : zqbh.den) (ks : Outs.K β zqbi) : Option β :=
  p (fun a0 a1 a2 a3 => ks.1 (((), (), ()), ((a0, a1, ()), (a2, a3, ()), ()))) d.1.1.1 d.1.2.1.1 d.1.2.2.2.2.2.1.1 d.1.2.2.2.2.2.2.1.1 d.1.2.2.2.2.2.2.2.1.1 d.2.1.1 d.2.1.2.1 d.2.1.2.2.1 d.2.1.2.2.2.1 d.2.2.1.1 d.2.2.1.2.1 d.2.2.2.1.1 d.2.2.2.1.2.1
section
variable (c_clock_Empty : zq5s) (c_clock_From : zqb6) (c_clock_Meet : zq5l) (c_clock_Valid : zq97) (c_clock_in : zq2s) (c_clock_instant : zq2z)
@[reducible] def clock_When_X : Ctx := ⟨look tab, pick1 [(81, .spec (zq5t c_clock_Empty)), (80, .spec (zqb7 c_clock_From)), (79, .spec (zq5m c_clock_Meet)), (23, .spec (zq98 c_clock_Valid)), (39, .spec (zq2t c_clock_in)), (41, .spec (zq30 c_clock_instant))], false, false, false, false, false⟩
def zqbj {β : Type} (rec : Int → Int → (List (Int × (Int × (Int × Int)))) → Int → Int → (List (List UInt8 × Int)) → (List (Int × (Int × (Int × Int)))) → (List zq0) → (List (Int × (Int × Int))) → Int → Int → Int → Int → Option β) (k1 : zqbf β) (host : Int) (clock : Int) (t31 : List (Int × (Int × (Int × Int)))) (t32 : Int) (t33 : Int) (r_ : List (List UInt8 × Int)) (r_2 : List (Int × (Int × (Int × Int)))) (r_3 : List zq0) (r_4 : List (Int × (Int × Int))) (t6 : Int) (t62 : Int) (out : Int) (out2 : Int) : Option β :=
  cond (decide (t33 < t32))
  (cond (decide (0 ≤ t33) && decide (t33 < (List.length t31 : Int)))
  (let e : (Int × (Int × (Int × Int))) := List.getD t31 (Int.toNat t33) ((0 : Int), ((0 : Int), ((0 : Int), (0 : Int))));
  cond (decide (e.1 = host))
  (cond (decide (0 ≤ host) && decide (host < (List.length r_ : Int)))
  (let e2 : (List UInt8 × Int) := List.getD r_ (Int.toNat host) (([] : List UInt8), (0 : Int));
  c_clock_From e2 e clock (fun (rFrom : (Int × Int)) =>
  c_clock_Meet (out, out2) rFrom (fun (rMeet : (Int × Int)) =>
  rec host clock t31 t32 (IntKind.i64.wrap (t33 + (1 : Int))) r_ r_2 r_3 r_4 t6 t62 rMeet.1 rMeet.2)))
  none)
  (rec host clock t31 t32 (IntKind.i64.wrap (t33 + (1 : Int))) r_ r_2 r_3 r_4 t6 t62 out out2))
  none)
  (k1 t6 t62 out out2)
def zqbk {β : Type} : Nat → zqbf β → Int → Int → (List (Int × (Int × (Int × Int)))) → Int → Int → (List (List UInt8 × Int)) → (List (Int × (Int × (Int × Int)))) → (List zq0) → (List (Int × (Int × Int))) → Int → Int → Int → Int → Option β
  | 0 => fun _ _ _ _ _ _ _ _ _ _ _ _ _ _ => none
  | i + 1 => fun k1 host clock t31 t32 t33 r_ r_2 r_3 r_4 t6 t62 out out2 => zqbj c_clock_From c_clock_Meet (zqbk i k1) k1 host clock t31 t32 t33 r_ r_2 r_3 r_4 t6 t62 out out2
theorem zqbl (hΓ : ΓOk Tryd.prog (clock_When_X c_clock_Empty c_clock_From c_clock_Meet c_clock_Valid c_clock_in c_clock_instant).Γ) (i : Nat) : PieceOk Tryd.prog 56 0 clock_When_p1_code zqbh zqbi (clock_When_p1_G (zqbk c_clock_From c_clock_Meet i)) := by
  rw [show clock_When_p1_code = .loop (loopBody clock_When_p1_code) by kernel_rfl]
  exact piece_loop (X := (clock_When_X c_clock_Empty c_clock_From c_clock_Meet c_clock_Valid c_clock_in c_clock_instant)) (p := 1) (Λ := pick1 []) (G := fun i => @fun β d ks => clock_When_p1_G (zqbk c_clock_From c_clock_Meet i) d ks) mixed tab_ok hΓ rfl (by kernel_rfl) CutsOk_nil (fun _ _ => rfl) (fun i => @fun β d ks r h => Eq.trans (b := clock_When_p1_G (zqbk c_clock_From c_clock_Meet (i + 1)) d ks) (by kernel_rfl) h) i
def zqbm (p1 : zqbg) {β : Type} (r_ : zq2) (host : Int) (clock : Int) (k : ((Int × Int) → Bool → Option β)) : Option β :=
  c_clock_Valid r_ (fun (rValid : Bool) =>
  cond (!rValid)
  (k ((0 : Int), (0 : Int)) false)
  (c_clock_in host (0 : Int) (IntKind.i64.wrap ((List.length r_.1 : Int) - (1 : Int))) (fun (rin : Bool) =>
  cond (!rin)
  (k ((0 : Int), (0 : Int)) false)
  (c_clock_instant clock (fun (rinstant : Bool) =>
  cond (!rinstant)
  (k ((0 : Int), (0 : Int)) false)
  (p1 (fun (t6 : Int) (t62 : Int) (out : Int) (out2 : Int) =>
  c_clock_Empty (out, out2) (fun (rEmpty : Bool) =>
  k (out, out2) (!rEmpty))) host clock r_.2.1 (List.length r_.2.1 : Int) (0 : Int) r_.1 r_.2.1 r_.2.2.1 r_.2.2.2 (0 : Int) (0 : Int) (0 : Int) (8589934592 : Int)))))))
theorem zqbn (hΓ : ΓOk Tryd.prog (clock_When_X c_clock_Empty c_clock_From c_clock_Meet c_clock_Valid c_clock_in c_clock_instant).Γ) (p1 : zqbg) (hp1 : PieceOk Tryd.prog 56 0 clock_When_p1_code zqbh zqbi (clock_When_p1_G p1)) : SpecOk Tryd.prog 58 (zqbe (zqbm c_clock_Empty c_clock_Valid c_clock_in c_clock_instant p1)) :=
  spec_exec (X := (clock_When_X c_clock_Empty c_clock_From c_clock_Meet c_clock_Valid c_clock_in c_clock_instant)) (Λ := pick1 [(122, pieceCut zqbh zqbi (clock_When_p1_G p1))]) (rs := [.cell 6 44, .tmp 7]) (c := bodyOf Tryd.f58) mixed tab_ok hΓ Tryd.func58 (by kernel_rfl) (by kernel_rfl) (by kernel_rfl) (by kernel_rfl) (CutsOk_cons (q := 122) (c' := clock_When_p1_code) (by kernel_rfl) rfl hp1 CutsOk_nil) (fun x k r h => Eq.trans (b := (zqbe (zqbm c_clock_Empty c_clock_Valid c_clock_in c_clock_instant p1)).run x k) (by kernel_rfl) h)
end
theorem zqboΓ : ΓOk Tryd.prog (pick1 [(81, .spec (zq5t zq5x)), (80, .spec (zqb7 zqbb)), (79, .spec (zq5m zq5q)), (23, .spec (zq98 zqao)), (39, .spec (zq2t zq2x)), (41, .spec (zq30 zq34))]) := (ΓOk_cons zq5y (ΓOk_cons zqbc (ΓOk_cons zq5r (ΓOk_cons zqap (ΓOk_cons zq2y (ΓOk_cons zq35 ΓOk_nil))))))
def zqbp (m : Nat) : zqbg := zqbk zqbb zq5q m
theorem zqbq {β : Type} (i : Nat) (k1 host clock t31 t32 t33 r_ r_2 r_3 r_4 t6 t62 out out2) : (zqbp (i + 1) k1 host clock t31 t32 t33 r_ r_2 r_3 r_4 t6 t62 out out2 : Option β) = zqbj zqbb zq5q (zqbp i k1) k1 host clock t31 t32 t33 r_ r_2 r_3 r_4 t6 t62 out out2 := rfl
def zqbr : zqbg := zqbp fuel
theorem zqbs : PieceOk Tryd.prog 56 0 clock_When_p1_code zqbh zqbi (clock_When_p1_G zqbr) := zqbl zq5x zqbb zq5q zqao zq2x zq34 zqboΓ fuel
def zqbt : zqbd := zqbm zq5x zqao zq2x zq34 zqbr
theorem zqbu : SpecOk Tryd.prog 58 (zqbe zqbt) := zqbn zq5x zqbb zq5q zqao zq2x zq34 zqboΓ zqbr zqbs

/-- slices.IndexFunc[[]pagewatch/api.Diff,pagewatch/api.Diff] -/
abbrev zqbv := {β : Type} → (List (Int × (Int × Int))) → Int → (Int → Int → Option β) → Option β
def zqbw (c : zqbv) : Spec :=
  ⟨[(false, [.data (.slice (.prod (.int .i64) (.prod (.int .i64) (.int .i64))))]), (false, [.fn 85 [0]])], [.cells 3 [.data (.int .i64)]], [(false, [.data (.int .i64)])], [.cells 3 [.data (.int .i64)]], fun x k => c x.1.1.1 x.2.1.1 (fun r0 r1 => k (((r0, ()), ()), ((r1, ()), ())))⟩
noncomputable def slices_IndexFunc_api_Diff_api_Diff_vconstraint_Valid_f1_p1_code : Code := codeAt 26 (bodyOf Tryd.f97)
abbrev zqbx (β : Type) := Int → Int → Option β
abbrev zqby (β : Type) := Int → Option β
abbrev zqbz := {β : Type} → zqbx β → zqby β → (List (Int × (Int × Int))) → Int → Int → Int → Option β
def zqc0 : View := ⟨1, [0, 1, 7, 8], [(false, [.data (.slice (.prod (.int .i64) (.prod (.int .i64) (.int .i64))))]), (false, [.fn 85 [0]]), (false, [.data (.int .i64)]), (false, [.data (.int .i64)])], [.cells 3 [.data (.int .i64)]]⟩
def zqc1 : List (AExit × View) := [(.ret, ⟨1, [4], [(false, [.data (.int .i64)])], [.cells 3 [.data (.int .i64)]]⟩), (.exit 0, ⟨1, [], [], [.cells 3 [.data (.int .i64)]]⟩)]
@[reducible] def slices_IndexFunc_api_Diff_api_Diff_vconstraint_Valid_f1_p1_G (p : zqbz) {β : Type} (d : zqc0.den) (ks : Outs.K β zqc1) : Option β :=
  p (fun a0 a1 => ks.1 (((a0, ()), ()), ((a1, ()), ()))) (fun a0 => ks.2.1 ((), ((a0, ()), ()))) d.1.1.1 d.1.2.2.1.1 d.1.2.2.2.1.1 d.2.1.1
section
variable (c_constraint_Valid_f1 : zq66)
@[reducible] def slices_IndexFunc_api_Diff_api_Diff_vconstraint_Valid_f1_X : Ctx := ⟨look tab, pick1 [(85, .spec (zq67 c_constraint_Valid_f1))], false, false, false, false, false⟩
def zqc2 {β : Type} (rec : (List (Int × (Int × Int))) → Int → Int → Int → Option β) (k1 : zqbx β) (k2 : zqby β) (s : List (Int × (Int × Int))) (t7 : Int) (t8 : Int) (b0_ : Int) : Option β :=
  cond (decide (t8 < t7))
  (cond (decide (0 ≤ t8) && decide (t8 < (List.length s : Int)))
  (let e : (Int × (Int × Int)) := List.getD s (Int.toNat t8) ((0 : Int), ((0 : Int), (0 : Int)));
  c_constraint_Valid_f1 e b0_ (fun (rValid1 : Bool) (mrValid1 : Int) =>
  cond rValid1
  (k1 t8 mrValid1)
  (rec s t7 (IntKind.i64.wrap (t8 + (1 : Int))) mrValid1)))
  none)
  (k2 b0_)
def zqc3 {β : Type} : Nat → zqbx β → zqby β → (List (Int × (Int × Int))) → Int → Int → Int → Option β
  | 0 => fun _ _ _ _ _ _ => none
  | i + 1 => fun k1 k2 s t7 t8 b0_ => zqc2 c_constraint_Valid_f1 (zqc3 i k1 k2) k1 k2 s t7 t8 b0_
theorem zqc4 (hΓ : ΓOk Tryd.prog (slices_IndexFunc_api_Diff_api_Diff_vconstraint_Valid_f1_X c_constraint_Valid_f1).Γ) (i : Nat) : PieceOk Tryd.prog 19 1 slices_IndexFunc_api_Diff_api_Diff_vconstraint_Valid_f1_p1_code zqc0 zqc1 (slices_IndexFunc_api_Diff_api_Diff_vconstraint_Valid_f1_p1_G (zqc3 c_constraint_Valid_f1 i)) := by
  rw [show slices_IndexFunc_api_Diff_api_Diff_vconstraint_Valid_f1_p1_code = .loop (loopBody slices_IndexFunc_api_Diff_api_Diff_vconstraint_Valid_f1_p1_code) by kernel_rfl]
  exact piece_loop (X := (slices_IndexFunc_api_Diff_api_Diff_vconstraint_Valid_f1_X c_constraint_Valid_f1)) (p := 1) (Λ := pick1 []) (G := fun i => @fun β d ks => slices_IndexFunc_api_Diff_api_Diff_vconstraint_Valid_f1_p1_G (zqc3 c_constraint_Valid_f1 i) d ks) mixed tab_ok hΓ rfl (by kernel_rfl) CutsOk_nil (fun _ _ => rfl) (fun i => @fun β d ks r h => Eq.trans (b := slices_IndexFunc_api_Diff_api_Diff_vconstraint_Valid_f1_p1_G (zqc3 c_constraint_Valid_f1 (i + 1)) d ks) (by kernel_rfl) h) i
def zqc5 (p1 : zqbz) {β : Type} (s : List (Int × (Int × Int))) (b0_ : Int) (k : (Int → Int → Option β)) : Option β :=
  p1 (fun (t4 : Int) (b0_2 : Int) =>
  k t4 b0_2) (fun (b0_2 : Int) =>
  k (-1 : Int) b0_2) s (List.length s : Int) (0 : Int) b0_
theorem zqc6 (hΓ : ΓOk Tryd.prog (slices_IndexFunc_api_Diff_api_Diff_vconstraint_Valid_f1_X c_constraint_Valid_f1).Γ) (p1 : zqbz) (hp1 : PieceOk Tryd.prog 19 1 slices_IndexFunc_api_Diff_api_Diff_vconstraint_Valid_f1_p1_code zqc0 zqc1 (slices_IndexFunc_api_Diff_api_Diff_vconstraint_Valid_f1_p1_G p1)) : SpecOk Tryd.prog 97 (zqbw (zqc5 p1)) :=
  spec_exec (X := (slices_IndexFunc_api_Diff_api_Diff_vconstraint_Valid_f1_X c_constraint_Valid_f1)) (Λ := pick1 [(26, pieceCut zqc0 zqc1 (slices_IndexFunc_api_Diff_api_Diff_vconstraint_Valid_f1_p1_G p1))]) (rs := [.tmp 4]) (c := bodyOf Tryd.f97) mixed tab_ok hΓ Tryd.func97 (by kernel_rfl) (by kernel_rfl) (by kernel_rfl) (by kernel_rfl) (CutsOk_cons (q := 26) (c' := slices_IndexFunc_api_Diff_api_Diff_vconstraint_Valid_f1_p1_code) (by kernel_rfl) rfl hp1 CutsOk_nil) (fun x k r h => Eq.trans (b := (zqbw (zqc5 p1)).run x k) (by kernel_rfl) h)
end
theorem zqc7Γ : ΓOk Tryd.prog (pick1 [(85, .spec (zq67 zq6b))]) := (ΓOk_cons zq6c ΓOk_nil)
def zqc8 (m : Nat) : zqbz := zqc3 zq6b m
theorem zqc9 {β : Type} (i : Nat) (k1 k2 s t7 t8 b0_) : (zqc8 (i + 1) k1 k2 s t7 t8 b0_ : Option β) = zqc2 zq6b (zqc8 i k1 k2) k1 k2 s t7 t8 b0_ := rfl
def zqca : zqbz := zqc8 fuel
theorem zqcb : PieceOk Tryd.prog 19 1 slices_IndexFunc_api_Diff_api_Diff_vconstraint_Valid_f1_p1_code zqc0 zqc1 (slices_IndexFunc_api_Diff_api_Diff_vconstraint_Valid_f1_p1_G zqca) := zqc4 zq6b zqc7Γ fuel
def zqcc : zqbv := zqc5 zqca
theorem zqcd : SpecOk Tryd.prog 97 (zqbw zqcc) := zqc6 zq6b zqc7Γ zqca zqcb

/-- pagewatch/order.Constraints -/
abbrev zqce := {β : Type} → zq2 → (Bool → (List (Int × (Int × Int))) → Option β) → Option β
def zqcf (c : zqce) : Spec :=
  ⟨[(true, [.data zq3])], [], [(false, [.rowh 0]), (false, [.data .bool])], [.row 123 (.prod (.int .i64) (.prod (.int .i64) (.int .i64)))], fun x k => c x.1.1.1 (fun r0 r1 => k (((), (r0, ()), ()), (r1, ())))⟩
noncomputable def order_Constraints_p1_code : Code := codeAt 122 (bodyOf Tryd.f46)
noncomputable def order_Constraints_p3_code : Code := codeAt 250 (bodyOf Tryd.f46)
noncomputable def order_Constraints_p4_code : Code := codeAt 506 (bodyOf Tryd.f46)
noncomputable def order_Constraints_p2_code : Code := codeAt 230 (loopBody order_Constraints_p3_code)
abbrev zqcg (β : Type) := Bool → (List (Int × (Int × Int))) → Option β
abbrev zqch (β : Type) := (List (List UInt8 × Int)) → (List (Int × (Int × (Int × Int)))) → (List zq0) → (List (Int × (Int × Int))) → (List (Int × (Int × Int))) → Option β
abbrev zqci := {β : Type} → zqcg β → zqch β → (List zq0) → Int → Int → (List (List UInt8 × Int)) → (List (Int × (Int × (Int × Int)))) → (List zq0) → (List (Int × (Int × Int))) → (List (Int × (Int × Int))) → Option β
def zqcj : View := ⟨0, [1, 4, 18, 19, 20], [(false, [.ptr 0 0]), (false, [.rowh 1]), (false, [.data (.slice zq1)]), (false, [.data (.int .i64)]), (false, [.data (.int .i64)])], [.cells 32 [.data (.slice (.prod .str (.int .i64))), .data (.slice (.prod (.int .i64) (.prod (.int .i64) (.prod (.int .i64) (.int .i64))))), .data (.slice zq1), .data (.slice (.prod (.int .i64) (.prod (.int .i64) (.int .i64))))], .row 123 (.prod (.int .i64) (.prod (.int .i64) (.int .i64)))]⟩
def zqck : List (AExit × View) := [(.ret, ⟨0, [2, 3], [(false, [.rowh 0]), (false, [.data .bool])], [.row 123 (.prod (.int .i64) (.prod (.int .i64) (.int .i64)))]⟩), (.exit 0, ⟨0, [1, 4], [(false, [.ptr 0 0]), (false, [.rowh 1])], [.cells 32 [.data (.slice (.prod .str (.int .i64))), .data (.slice (.prod (.int .i64) (.prod (.int .i64) (.prod (.int .i64) (.int .i64))))), .data (.slice zq1), .data (.slice (.prod (.int .i64) (.prod (.int .i64) (.int .i64))))], .row 123 (.prod (.int .i64) (.prod (.int .i64) (.int .i64)))]⟩)]
@[reducible] def order_Constraints_p1_G (p : zqci) {β : Type} (d : zqcj.den) (ks : Outs.K β zqck) : Option β :=
  p (fun a0 a1 => ks.1 (((), (a0, ()), ()), (a1, ()))) (fun a0 a1 a2 a3 a4 => ks.2.1 (((), (), ()), ((a0, a1, a2, a3, ()), a4, ()))) d.1.2.2.1.1 d.1.2.2.2.1.1 d.1.2.2.2.2.1.1 d.2.1.1 d.2.1.2.1 d.2.1.2.2.1 d.2.1.2.2.2.1 d.2.2.1
abbrev zqcl (β : Type) := (List zq0) → Int → Int → (List (List UInt8 × Int)) → (List (Int × (Int × (Int × Int)))) → (List zq0) → (List (Int × (Int × Int))) → (List (Int × (Int × Int))) → Option β
abbrev zqcm := {β : Type} → zqcl β → Int → Int → (List zq0) → Int → Int → (List (List UInt8 × Int)) → (List (Int × (Int × (Int × Int)))) → (List zq0) → (List (Int × (Int × Int))) → (List (Int × (Int × Int))) → Int → Int → (List UInt8) → Option β
def zqcn : View := ⟨0, [1, 4, 9, 10, 11, 52, 53, 54], [(false, [.ptr 0 0]), (false, [.rowh 1]), (false, [.data (.int .i64)]), (false, [.ptr 2 0]), (false, [.data (.int .i64)]), (false, [.data (.slice zq1)]), (false, [.data (.int .i64)]), (false, [.data (.int .i64)])], [.cells 32 [.data (.slice (.prod .str (.int .i64))), .data (.slice (.prod (.int .i64) (.prod (.int .i64) (.prod (.int .i64) (.int .i64))))), .data (.slice zq1), .data (.slice (.prod (.int .i64) (.prod (.int .i64) (.int .i64))))], .row 123 (.prod (.int .i64) (.prod (.int .i64) (.int .i64))), .cells 49 [.data (.int .i64), .data (.int .i64), .data .str]]⟩
def zqco : List (AExit × View) := [(.exit 4, ⟨0, [1, 4, 52, 53, 54], [(false, [.ptr 0 0]), (false, [.rowh 1]), (false, [.data (.slice zq1)]), (false, [.data (.int .i64)]), (false, [.data (.int .i64)])], [.cells 32 [.data (.slice (.prod .str (.int .i64))), .data (.slice (.prod (.int .i64) (.prod (.int .i64) (.prod (.int .i64) (.int .i64))))), .data (.slice zq1), .data (.slice (.prod (.int .i64) (.prod (.int .i64) (.int .i64))))], .row 123 (.prod (.int .i64) (.prod (.int .i64) (.int .i64)))]⟩)]
@[reducible] def order_Constraints_p2_G (p : zqcm) {β : Type} (d : zqcn.den) (ks : Outs.K β zqco) : Option β :=
  p (fun a0 a1 a2 a3 a4 a5 a6 a7 => ks.1 (((), (), (a0, ()), (a1, ()), (a2, ()), ()), ((a3, a4, a5, a6, ()), a7, ()))) d.1.2.2.1.1 d.1.2.2.2.2.1.1 d.1.2.2.2.2.2.1.1 d.1.2.2.2.2.2.2.1.1 d.1.2.2.2.2.2.2.2.1.1 d.2.1.1 d.2.1.2.1 d.2.1.2.2.1 d.2.1.2.2.2.1 d.2.2.1 d.2.2.2.1.1 d.2.2.2.1.2.1 d.2.2.2.1.2.2.1
abbrev zqcp (β : Type) := (List (List UInt8 × Int)) → (List (Int × (Int × (Int × Int)))) → (List zq0) → (List (Int × (Int × Int))) → (List (Int × (Int × Int))) → Option β
abbrev zqcq := {β : Type} → zqcp β → (List zq0) → Int → Int → (List (List UInt8 × Int)) → (List (Int × (Int × (Int × Int)))) → (List zq0) → (List (Int × (Int × Int))) → (List (Int × (Int × Int))) → Option β
def zqcr : View := ⟨0, [1, 4, 52, 53, 54], [(false, [.ptr 0 0]), (false, [.rowh 1]), (false, [.data (.slice zq1)]), (false, [.data (.int .i64)]), (false, [.data (.int .i64)])], [.cells 32 [.data (.slice (.prod .str (.int .i64))), .data (.slice (.prod (.int .i64) (.prod (.int .i64) (.prod (.int .i64) (.int .i64))))), .data (.slice zq1), .data (.slice (.prod (.int .i64) (.prod (.int .i64) (.int .i64))))], .row 123 (.prod (.int .i64) (.prod (.int .i64) (.int .i64)))]⟩
def zqcs : List (AExit × View) := [(.exit 2, ⟨0, [1, 4], [(false, [.ptr 0 0]), (false, [.rowh 1])], [.cells 32 [.data (.slice (.prod .str (.int .i64))), .data (.slice (.prod (.int .i64) (.prod (.int .i64) (.prod (.int .i64) (.int .i64))))), .data (.slice zq1), .data (.slice (.prod (.int .i64) (.prod (.int .i64) (.int .i64))))], .row 123 (.prod (.int .i64) (.prod (.int .i64) (.int .i64)))]⟩)]
@[reducible] def order_Constraints_p3_G (p : zqcq) {β : Type} (d : zqcr.den) (ks : Outs.K β zqcs) : Option β :=
  p (fun a0 a1 a2 a3 a4 => ks.1 (((), (), ()), ((a0, a1, a2, a3, ()), a4, ()))) d.1.2.2.1.1 d.1.2.2.2.1.1 d.1.2.2.2.2.1.1 d.2.1.1 d.2.1.2.1 d.2.1.2.2.1 d.2.1.2.2.2.1 d.2.2.1
abbrev zqct (β : Type) := (List (Int × (Int × Int))) → Option β
abbrev zqcu := {β : Type} → zqct β → (List (Int × (Int × Int))) → Int → Int → (List (Int × (Int × Int))) → Option β
def zqcv : View := ⟨0, [4, 85, 86, 87], [(false, [.rowh 0]), (false, [.data (.slice (.prod (.int .i64) (.prod (.int .i64) (.int .i64))))]), (false, [.data (.int .i64)]), (false, [.data (.int .i64)])], [.row 123 (.prod (.int .i64) (.prod (.int .i64) (.int .i64)))]⟩
def zqcw : List (AExit × View) := [(.exit 6, ⟨0, [4], [(false, [.rowh 0])], [.row 123 (.prod (.int .i64) (.prod (.int .i64) (.int .i64)))]⟩)]
@[reducible] def order_Constraints_p4_G (p : zqcu) {β : Type} (d : zqcv.den) (ks : Outs.K β zqcw) : Option β :=
  p (fun a0 => ks.1 (((), ()), (a0, ()))) d.1.2.1.1 d.1.2.2.1.1 d.1.2.2.2.1.1 d.2.1
section
variable (c_clock_Valid : zq97) (c_clock_When : zqbd) (c_order_pair : zqaq)
@[reducible] def order_Constraints_X : Ctx := ⟨look tab, pick1 [(23, .spec (zq98 c_clock_Valid)), (58, .spec (zqbe c_clock_When)), (59, .spec (zqar c_order_pair))], false, false, false, false, false⟩
def zqcx {β : Type} (rec : (List zq0) → Int → Int → (List (List UInt8 × Int)) → (List (Int × (Int × (Int × Int)))) → (List zq0) → (List (Int × (Int × Int))) → (List (Int × (Int × Int))) → Option β) (k1 : zqcg β) (k2 : zqch β) (t18 : List zq0) (t19 : Int) (t20 : Int) (r_ : List (List UInt8 × Int)) (r_2 : List (Int × (Int × (Int × Int)))) (r_3 : List zq0) (r_4 : List (Int × (Int × Int))) (out : List (Int × (Int × Int))) : Option β :=
  cond (decide (t20 < t19))
  (cond (decide (0 ≤ t20) && decide (t20 < (List.length t18 : Int)))
  (let e : zq0 := List.getD t18 (Int.toNat t20) ((0 : Int), ((0 : Int), ([] : List UInt8)));
  c_clock_When (r_, (r_2, (r_3, r_4))) e.1 e.2.1 (fun (rWhen : (Int × Int)) (rWhen2 : Bool) =>
  cond (!rWhen2)
  (k1 false ([] : List (Int × (Int × Int))))
  (let l : List (Int × (Int × Int)) := ([((0 : Int), ((IntKind.i64.wrap (t20 + (1 : Int))), rWhen.2)), ((IntKind.i64.wrap (t20 + (1 : Int))), ((0 : Int), (IntKind.i64.wrap (0 - rWhen.1))))] : List (Int × (Int × Int)));
  cond (decide ((List.length out + List.length l) * 24 ≤ roomMax))
  (let l2 : List (Int × (Int × Int)) := (out ++ l);
  rec t18 t19 (IntKind.i64.wrap (t20 + (1 : Int))) r_ r_2 r_3 r_4 l2)
  none)))
  none)
  (k2 r_ r_2 r_3 r_4 out)
def zqcy {β : Type} : Nat → zqcg β → zqch β → (List zq0) → Int → Int → (List (List UInt8 × Int)) → (List (Int × (Int × (Int × Int)))) → (List zq0) → (List (Int × (Int × Int))) → (List (Int × (Int × Int))) → Option β
  | 0 => fun _ _ _ _ _ _ _ _ _ _ => none
  | i + 1 => fun k1 k2 t18 t19 t20 r_ r_2 r_3 r_4 out => zqcx c_clock_When (zqcy i k1 k2) k1 k2 t18 t19 t20 r_ r_2 r_3 r_4 out
theorem zqcz (hΓ : ΓOk Tryd.prog (order_Constraints_X c_clock_Valid c_clock_When c_order_pair).Γ) (i : Nat) : PieceOk Tryd.prog 106 0 order_Constraints_p1_code zqcj zqck (order_Constraints_p1_G (zqcy c_clock_When i)) := by
  rw [show order_Constraints_p1_code = .loop (loopBody order_Constraints_p1_code) by kernel_rfl]
  exact piece_loop (X := (order_Constraints_X c_clock_Valid c_clock_When c_order_pair)) (p := 1) (Λ := pick1 []) (G := fun i => @fun β d ks => order_Constraints_p1_G (zqcy c_clock_When i) d ks) mixed tab_ok hΓ rfl (by kernel_rfl) CutsOk_nil (fun _ _ => rfl) (fun i => @fun β d ks r h => Eq.trans (b := order_Constraints_p1_G (zqcy c_clock_When (i + 1)) d ks) (by kernel_rfl) h) i
def zqd0 {β : Type} (rec : Int → Int → (List zq0) → Int → Int → (List (List UInt8 × Int)) → (List (Int × (Int × (Int × Int)))) → (List zq0) → (List (Int × (Int × Int))) → (List (Int × (Int × Int))) → Int → Int → (List UInt8) → Option β) (k1 : zqcl β) (i_ : Int) (j : Int) (t52 : List zq0) (t53 : Int) (t54 : Int) (r_ : List (List UInt8 × Int)) (r_2 : List (Int × (Int × (Int × Int)))) (r_3 : List zq0) (r_4 : List (Int × (Int × Int))) (out : List (Int × (Int × Int))) (a : Int) (a2 : Int) (a3 : List UInt8) : Option β :=
  cond (decide (j < (List.length r_3 : Int)))
  (cond (decide (0 ≤ j) && decide (j < (List.length r_3 : Int)))
  (let e : zq0 := List.getD r_3 (Int.toNat j) ((0 : Int), ((0 : Int), ([] : List UInt8)));
  cond (decide (e.1 = a))
  (c_order_pair (r_, (r_2, (r_3, r_4))) i_ j (fun (lrpair : List (Int × (Int × Int))) =>
  cond (decide ((List.length out + List.length lrpair) * 24 ≤ roomMax))
  (let l : List (Int × (Int × Int)) := (out ++ lrpair);
  let j2 : Int := (IntKind.i64.wrap (j + (1 : Int)));
  rec i_ j2 t52 t53 t54 r_ r_2 r_3 r_4 l a a2 a3)
  none))
  (let j2 : Int := (IntKind.i64.wrap (j + (1 : Int)));
  rec i_ j2 t52 t53 t54 r_ r_2 r_3 r_4 out a a2 a3))
  none)
  (k1 t52 t53 t54 r_ r_2 r_3 r_4 out)
def zqd1 {β : Type} : Nat → zqcl β → Int → Int → (List zq0) → Int → Int → (List (List UInt8 × Int)) → (List (Int × (Int × (Int × Int)))) → (List zq0) → (List (Int × (Int × Int))) → (List (Int × (Int × Int))) → Int → Int → (List UInt8) → Option β
  | 0 => fun _ _ _ _ _ _ _ _ _ _ _ _ _ _ => none
  | i + 1 => fun k1 i_ j t52 t53 t54 r_ r_2 r_3 r_4 out a a2 a3 => zqd0 c_order_pair (zqd1 i k1) k1 i_ j t52 t53 t54 r_ r_2 r_3 r_4 out a a2 a3
theorem zqd2 (hΓ : ΓOk Tryd.prog (order_Constraints_X c_clock_Valid c_clock_When c_order_pair).Γ) (i : Nat) : PieceOk Tryd.prog 106 0 order_Constraints_p2_code zqcn zqco (order_Constraints_p2_G (zqd1 c_order_pair i)) := by
  rw [show order_Constraints_p2_code = .loop (loopBody order_Constraints_p2_code) by kernel_rfl]
  exact piece_loop (X := (order_Constraints_X c_clock_Valid c_clock_When c_order_pair)) (p := 1) (Λ := pick1 []) (G := fun i => @fun β d ks => order_Constraints_p2_G (zqd1 c_order_pair i) d ks) mixed tab_ok hΓ rfl (by kernel_rfl) CutsOk_nil (fun _ _ => rfl) (fun i => @fun β d ks r h => Eq.trans (b := order_Constraints_p2_G (zqd1 c_order_pair (i + 1)) d ks) (by kernel_rfl) h) i
def zqd3 (p2 : zqcm) {β : Type} (rec : (List zq0) → Int → Int → (List (List UInt8 × Int)) → (List (Int × (Int × (Int × Int)))) → (List zq0) → (List (Int × (Int × Int))) → (List (Int × (Int × Int))) → Option β) (k1 : zqcp β) (t52 : List zq0) (t53 : Int) (t54 : Int) (r_ : List (List UInt8 × Int)) (r_2 : List (Int × (Int × (Int × Int)))) (r_3 : List zq0) (r_4 : List (Int × (Int × Int))) (out : List (Int × (Int × Int))) : Option β :=
  cond (decide (t54 < t53))
  (cond (decide (0 ≤ t54) && decide (t54 < (List.length t52 : Int)))
  (let e : zq0 := List.getD t52 (Int.toNat t54) ((0 : Int), ((0 : Int), ([] : List UInt8)));
  let j : Int := (IntKind.i64.wrap (t54 + (1 : Int)));
  p2 (fun (t522 : List zq0) (t532 : Int) (t542 : Int) (r_5 : List (List UInt8 × Int)) (r_6 : List (Int × (Int × (Int × Int)))) (r_7 : List zq0) (r_8 : List (Int × (Int × Int))) (out2 : List (Int × (Int × Int))) =>
  rec t522 t532 (IntKind.i64.wrap (t542 + (1 : Int))) r_5 r_6 r_7 r_8 out2) t54 j t52 t53 t54 r_ r_2 r_3 r_4 out e.1 e.2.1 e.2.2)
  none)
  (k1 r_ r_2 r_3 r_4 out)
def zqd4 (p2 : zqcm) {β : Type} : Nat → zqcp β → (List zq0) → Int → Int → (List (List UInt8 × Int)) → (List (Int × (Int × (Int × Int)))) → (List zq0) → (List (Int × (Int × Int))) → (List (Int × (Int × Int))) → Option β
  | 0 => fun _ _ _ _ _ _ _ _ _ => none
  | i + 1 => fun k1 t52 t53 t54 r_ r_2 r_3 r_4 out => zqd3 p2 (zqd4 p2 i k1) k1 t52 t53 t54 r_ r_2 r_3 r_4 out
theorem zqd5 (hΓ : ΓOk Tryd.prog (order_Constraints_X c_clock_Valid c_clock_When c_order_pair).Γ) (p2 : zqcm) (hp2 : PieceOk Tryd.prog 106 0 order_Constraints_p2_code zqcn zqco (order_Constraints_p2_G p2)) (i : Nat) : PieceOk Tryd.prog 106 0 order_Constraints_p3_code zqcr zqcs (order_Constraints_p3_G (zqd4 p2 i)) := by
  rw [show order_Constraints_p3_code = .loop (loopBody order_Constraints_p3_code) by kernel_rfl]
  exact piece_loop (X := (order_Constraints_X c_clock_Valid c_clock_When c_order_pair)) (p := 1) (Λ := pick1 [(230, pieceCut zqcn zqco (order_Constraints_p2_G p2))]) (G := fun i => @fun β d ks => order_Constraints_p3_G (zqd4 p2 i) d ks) mixed tab_ok hΓ rfl (by kernel_rfl) (CutsOk_cons (q := 230) (c' := order_Constraints_p2_code) (by kernel_rfl) rfl hp2 CutsOk_nil) (fun _ _ => rfl) (fun i => @fun β d ks r h => Eq.trans (b := order_Constraints_p3_G (zqd4 p2 (i + 1)) d ks) (by kernel_rfl) h) i
def zqd6 {β : Type} (rec : (List (Int × (Int × Int))) → Int → Int → (List (Int × (Int × Int))) → Option β) (k1 : zqct β) (t85 : List (Int × (Int × Int))) (t86 : Int) (t87 : Int) (out : List (Int × (Int × Int))) : Option β :=
  cond (decide (t87 < t86))
  (cond (decide (0 ≤ t87) && decide (t87 < (List.length t85 : Int)))
  (let e : (Int × (Int × Int)) := List.getD t85 (Int.toNat t87) ((0 : Int), ((0 : Int), (0 : Int)));
  let l : List (Int × (Int × Int)) := ([((IntKind.i64.wrap (e.2.1 + (1 : Int))), ((IntKind.i64.wrap (e.1 + (1 : Int))), (IntKind.i64.wrap (0 - e.2.2))))] : List (Int × (Int × Int)));
  cond (decide ((List.length out + List.length l) * 24 ≤ roomMax))
  (let l2 : List (Int × (Int × Int)) := (out ++ l);
  rec t85 t86 (IntKind.i64.wrap (t87 + (1 : Int))) l2)
  none)
  none)
  (k1 out)
def zqd7 {β : Type} : Nat → zqct β → (List (Int × (Int × Int))) → Int → Int → (List (Int × (Int × Int))) → Option β
  | 0 => fun _ _ _ _ _ => none
  | i + 1 => fun k1 t85 t86 t87 out => zqd6 (zqd7 i k1) k1 t85 t86 t87 out
theorem zqd8 (hΓ : ΓOk Tryd.prog (order_Constraints_X c_clock_Valid c_clock_When c_order_pair).Γ) (i : Nat) : PieceOk Tryd.prog 106 0 order_Constraints_p4_code zqcv zqcw (order_Constraints_p4_G (zqd7 i)) := by
  rw [show order_Constraints_p4_code = .loop (loopBody order_Constraints_p4_code) by kernel_rfl]
  exact piece_loop (X := (order_Constraints_X c_clock_Valid c_clock_When c_order_pair)) (p := 1) (Λ := pick1 []) (G := fun i => @fun β d ks => order_Constraints_p4_G (zqd7 i) d ks) mixed tab_ok hΓ rfl (by kernel_rfl) CutsOk_nil (fun _ _ => rfl) (fun i => @fun β d ks r h => Eq.trans (b := order_Constraints_p4_G (zqd7 (i + 1)) d ks) (by kernel_rfl) h) i
def zqd9 (p1 : zqci) (p3 : zqcq) (p4 : zqcu) {β : Type} (r_ : zq2) (k : (Bool → (List (Int × (Int × Int))) → Option β)) : Option β :=
  c_clock_Valid r_ (fun (rValid : Bool) =>
  cond (!rValid)
  (k false ([] : List (Int × (Int × Int))))
  (p1 (fun (t3 : Bool) (t2 : List (Int × (Int × Int))) =>
  k t3 t2) (fun (r_2 : List (List UInt8 × Int)) (r_3 : List (Int × (Int × (Int × Int)))) (r_4 : List zq0) (r_5 : List (Int × (Int × Int))) (out : List (Int × (Int × Int))) =>
  p3 (fun (r_6 : List (List UInt8 × Int)) (r_7 : List (Int × (Int × (Int × Int)))) (r_8 : List zq0) (r_9 : List (Int × (Int × Int))) (out2 : List (Int × (Int × Int))) =>
  p4 (fun (out3 : List (Int × (Int × Int))) =>
  k true out3) r_9 (List.length r_9 : Int) (0 : Int) out2) r_4 (List.length r_4 : Int) (0 : Int) r_2 r_3 r_4 r_5 out) r_.2.2.1 (List.length r_.2.2.1 : Int) (0 : Int) r_.1 r_.2.1 r_.2.2.1 r_.2.2.2 ([] : List (Int × (Int × Int)))))
theorem zqda (hΓ : ΓOk Tryd.prog (order_Constraints_X c_clock_Valid c_clock_When c_order_pair).Γ) (p1 : zqci) (p3 : zqcq) (p4 : zqcu) (hp1 : PieceOk Tryd.prog 106 0 order_Constraints_p1_code zqcj zqck (order_Constraints_p1_G p1)) (hp3 : PieceOk Tryd.prog 106 0 order_Constraints_p3_code zqcr zqcs (order_Constraints_p3_G p3)) (hp4 : PieceOk Tryd.prog 106 0 order_Constraints_p4_code zqcv zqcw (order_Constraints_p4_G p4)) : SpecOk Tryd.prog 46 (zqcf (zqd9 c_clock_Valid p1 p3 p4)) :=
  spec_exec (X := (order_Constraints_X c_clock_Valid c_clock_When c_order_pair)) (Λ := pick1 [(122, pieceCut zqcj zqck (order_Constraints_p1_G p1)), (250, pieceCut zqcr zqcs (order_Constraints_p3_G p3)), (506, pieceCut zqcv zqcw (order_Constraints_p4_G p4))]) (rs := [.tmp 2, .tmp 3]) (c := bodyOf Tryd.f46) mixed tab_ok hΓ Tryd.func46 (by kernel_rfl) (by kernel_rfl) (by kernel_rfl) (by kernel_rfl) (CutsOk_cons (q := 122) (c' := order_Constraints_p1_code) (by kernel_rfl) rfl hp1 (CutsOk_cons (q := 250) (c' := order_Constraints_p3_code) (by kernel_rfl) rfl hp3 (CutsOk_cons (q := 506) (c' := order_Constraints_p4_code) (by kernel_rfl) rfl hp4 CutsOk_nil))) (fun x k r h => Eq.trans (b := (zqcf (zqd9 c_clock_Valid p1 p3 p4)).run x k) (by kernel_rfl) h)
end
theorem zqdbΓ : ΓOk Tryd.prog (pick1 [(23, .spec (zq98 zqao)), (58, .spec (zqbe zqbt)), (59, .spec (zqar zqb4))]) := (ΓOk_cons zqap (ΓOk_cons zqbu (ΓOk_cons zqb5 ΓOk_nil)))
def zqdc (m : Nat) : zqci := zqcy zqbt m
theorem zqdd {β : Type} (i : Nat) (k1 k2 t18 t19 t20 r_ r_2 r_3 r_4 out) : (zqdc (i + 1) k1 k2 t18 t19 t20 r_ r_2 r_3 r_4 out : Option β) = zqcx zqbt (zqdc i k1 k2) k1 k2 t18 t19 t20 r_ r_2 r_3 r_4 out := rfl
def zqde : zqci := zqdc fuel
theorem zqdf : PieceOk Tryd.prog 106 0 order_Constraints_p1_code zqcj zqck (order_Constraints_p1_G zqde) := zqcz zqao zqbt zqb4 zqdbΓ fuel
def zqdg (m : Nat) : zqcm := zqd1 zqb4 m
theorem zqdh {β : Type} (i : Nat) (k1 i_ j t52 t53 t54 r_ r_2 r_3 r_4 out a a2 a3) : (zqdg (i + 1) k1 i_ j t52 t53 t54 r_ r_2 r_3 r_4 out a a2 a3 : Option β) = zqd0 zqb4 (zqdg i k1) k1 i_ j t52 t53 t54 r_ r_2 r_3 r_4 out a a2 a3 := rfl
def zqdi : zqcm := zqdg fuel
theorem zqdj : PieceOk Tryd.prog 106 0 order_Constraints_p2_code zqcn zqco (order_Constraints_p2_G zqdi) := zqd2 zqao zqbt zqb4 zqdbΓ fuel
def zqdk (m : Nat) : zqcq := zqd4 zqdi m
theorem zqdl {β : Type} (i : Nat) (k1 t52 t53 t54 r_ r_2 r_3 r_4 out) : (zqdk (i + 1) k1 t52 t53 t54 r_ r_2 r_3 r_4 out : Option β) = zqd3 zqdi (zqdk i k1) k1 t52 t53 t54 r_ r_2 r_3 r_4 out := rfl
def zqdm : zqcq := zqdk fuel
theorem zqdn : PieceOk Tryd.prog 106 0 order_Constraints_p3_code zqcr zqcs (order_Constraints_p3_G zqdm) := zqd5 zqao zqbt zqb4 zqdbΓ zqdi zqdj fuel
def zqdo (m : Nat) : zqcu := zqd7 m
theorem zqdp {β : Type} (i : Nat) (k1 t85 t86 t87 out) : (zqdo (i + 1) k1 t85 t86 t87 out : Option β) = zqd6 (zqdo i k1) k1 t85 t86 t87 out := rfl
def zqdq : zqcu := zqdo fuel
theorem zqdr : PieceOk Tryd.prog 106 0 order_Constraints_p4_code zqcv zqcw (order_Constraints_p4_G zqdq) := zqd8 zqao zqbt zqb4 zqdbΓ fuel
def zqds : zqce := zqd9 zqao zqde zqdm zqdq
theorem zqdt : SpecOk Tryd.prog 46 (zqcf zqds) := zqda zqao zqbt zqb4 zqdbΓ zqde zqdm zqdq zqdf zqdn zqdr

/-- slices.ContainsFunc[[]pagewatch/api.Diff,pagewatch/api.Diff] -/
abbrev zqdu := {β : Type} → (List (Int × (Int × Int))) → Int → (Bool → Int → Option β) → Option β
def zqdv (c : zqdu) : Spec :=
  ⟨[(false, [.data (.slice (.prod (.int .i64) (.prod (.int .i64) (.int .i64))))]), (false, [.fn 85 [0]])], [.cells 3 [.data (.int .i64)]], [(false, [.data .bool])], [.cells 3 [.data (.int .i64)]], fun x k => c x.1.1.1 x.2.1.1 (fun r0 r1 => k (((r0, ()), ()), ((r1, ()), ())))⟩
section
variable (c_slices_IndexFunc_api_Diff_api_Diff_vconstraint_Valid_f1 : zqbv)
@[reducible] def slices_ContainsFunc_api_Diff_api_Diff_vconstraint_Valid_f1_X : Ctx := ⟨look tab, pick1 [(97, .spec (zqbw c_slices_IndexFunc_api_Diff_api_Diff_vconstraint_Valid_f1))], false, false, false, false, false⟩
def zqdw {β : Type} (s : List (Int × (Int × Int))) (b0_ : Int) (k : (Bool → Int → Option β)) : Option β :=
  c_slices_IndexFunc_api_Diff_api_Diff_vconstraint_Valid_f1 s b0_ (fun (rDiff : Int) (mrDiff : Int) =>
  let t : Bool := (decide ((0 : Int) ≤ rDiff));
  k t mrDiff)
theorem zqdx (hΓ : ΓOk Tryd.prog (slices_ContainsFunc_api_Diff_api_Diff_vconstraint_Valid_f1_X c_slices_IndexFunc_api_Diff_api_Diff_vconstraint_Valid_f1).Γ) : SpecOk Tryd.prog 84 (zqdv (zqdw c_slices_IndexFunc_api_Diff_api_Diff_vconstraint_Valid_f1)) :=
  spec_exec (X := (slices_ContainsFunc_api_Diff_api_Diff_vconstraint_Valid_f1_X c_slices_IndexFunc_api_Diff_api_Diff_vconstraint_Valid_f1)) (Λ := pick1 []) (rs := [.tmp 4]) (c := bodyOf Tryd.f84) mixed tab_ok hΓ Tryd.func84 (by kernel_rfl) (by kernel_rfl) (by kernel_rfl) (by kernel_rfl) CutsOk_nil (fun x k r h => Eq.trans (b := (zqdv (zqdw c_slices_IndexFunc_api_Diff_api_Diff_vconstraint_Valid_f1)).run x k) (by kernel_rfl) h)
end
theorem zqdyΓ : ΓOk Tryd.prog (pick1 [(97, .spec (zqbw zqcc))]) := (ΓOk_cons zqcd ΓOk_nil)
def zqdz : zqdu := zqdw zqcc
theorem zqe0 : SpecOk Tryd.prog 84 (zqdv zqdz) := zqdx zqcc zqdyΓ

/-- pagewatch/constraint.Valid -/
abbrev zqe1 := {β : Type} → Int → (List (Int × (Int × Int))) → (Bool → Option β) → Option β
def zqe2 (c : zqe1) : Spec :=
  ⟨[(false, [.data (.int .i64)]), (false, [.data (.slice (.prod (.int .i64) (.prod (.int .i64) (.int .i64))))])], [], [(false, [.data .bool])], [], fun x k => c x.1.1.1 x.1.2.1.1 (fun r0 => k (((r0, ()), ()), ()))⟩
section
variable (c_constraint_in : zq5z) (c_slices_ContainsFunc_api_Diff_api_Diff_vconstraint_Valid_f1 : zqdu)
@[reducible] def constraint_Valid_X : Ctx := ⟨look tab, pick1 [(83, .spec (zq60 c_constraint_in)), (84, .spec (zqdv c_slices_ContainsFunc_api_Diff_api_Diff_vconstraint_Valid_f1))], false, false, false, false, false⟩
def zqe3 {β : Type} (n : Int) (l : List (Int × (Int × Int))) (k : (Bool → Option β)) : Option β :=
  c_constraint_in n (1 : Int) (41 : Int) (fun (rin : Bool) =>
  cond (!rin)
  (k false)
  (cond (decide ((4000 : Int) < (List.length l : Int)))
  (k false)
  (c_slices_ContainsFunc_api_Diff_api_Diff_vconstraint_Valid_f1 l n (fun (rDiff : Bool) (mrDiff : Int) =>
  k (!rDiff)))))
theorem zqe4 (hΓ : ΓOk Tryd.prog (constraint_Valid_X c_constraint_in c_slices_ContainsFunc_api_Diff_api_Diff_vconstraint_Valid_f1).Γ) : SpecOk Tryd.prog 60 (zqe2 (zqe3 c_constraint_in c_slices_ContainsFunc_api_Diff_api_Diff_vconstraint_Valid_f1)) :=
  spec_exec (X := (constraint_Valid_X c_constraint_in c_slices_ContainsFunc_api_Diff_api_Diff_vconstraint_Valid_f1)) (Λ := pick1 []) (rs := [.tmp 4]) (c := bodyOf Tryd.f60) mixed tab_ok hΓ Tryd.func60 (by kernel_rfl) (by kernel_rfl) (by kernel_rfl) (by kernel_rfl) CutsOk_nil (fun x k r h => Eq.trans (b := (zqe2 (zqe3 c_constraint_in c_slices_ContainsFunc_api_Diff_api_Diff_vconstraint_Valid_f1)).run x k) (by kernel_rfl) h)
end
theorem zqe5Γ : ΓOk Tryd.prog (pick1 [(83, .spec (zq60 zq64)), (84, .spec (zqdv zqdz))]) := (ΓOk_cons zq65 (ΓOk_cons zqe0 ΓOk_nil))
def zqe6 : zqe1 := zqe3 zq64 zqdz
theorem zqe7 : SpecOk Tryd.prog 60 (zqe2 zqe6) := zqe4 zq64 zqdz zqe5Γ

/-- pagewatch/constraint.Close -/
abbrev zqe8 := {β : Type} → Int → (List (Int × (Int × Int))) → ((List (List Int)) → Bool → Option β) → Option β
def zqe9 (c : zqe8) : Spec :=
  ⟨[(false, [.data (.int .i64)]), (false, [.data (.slice (.prod (.int .i64) (.prod (.int .i64) (.int .i64))))])], [], [(false, [.data (.slice (.slice (.int .i64)))]), (false, [.data .bool])], [], fun x k => c x.1.1.1 x.1.2.1.1 (fun r0 r1 => k (((r0, ()), (r1, ()), ()), ()))⟩
noncomputable def constraint_Close_p1_code : Code := codeAt 122 (bodyOf Tryd.f47)
noncomputable def constraint_Close_p5_code : Code := codeAt 250 (bodyOf Tryd.f47)
noncomputable def constraint_Close_p6_code : Code := codeAt 506 (bodyOf Tryd.f47)
noncomputable def constraint_Close_p4_code : Code := codeAt 458 (loopBody constraint_Close_p5_code)
noncomputable def constraint_Close_p3_code : Code := codeAt 230 (loopBody constraint_Close_p4_code)
noncomputable def constraint_Close_p2_code : Code := codeAt 115 (loopBody constraint_Close_p3_code)
abbrev zqea (β : Type) := Int → (List (List Int)) → Option β
abbrev zqeb := {β : Type} → zqea β → Int → Int → Int → (List (List Int)) → Option β
def zqec : View := ⟨0, [0, 6, 19, 20], [(false, [.data (.int .i64)]), (false, [.math 0]), (false, [.data (.int .i64)]), (false, [.data (.int .i64)])], [.mat 22 3 (.int .i64)]⟩
def zqed : List (AExit × View) := [(.exit 0, ⟨0, [0, 6], [(false, [.data (.int .i64)]), (false, [.math 0])], [.mat 22 3 (.int .i64)]⟩)]
@[reducible] def constraint_Close_p1_G (p : zqeb) {β : Type} (d : zqec.den) (ks : Outs.K β zqed) : Option β :=
  p (fun a0 a1 => ks.1 (((a0, ()), (), ()), (a1, ()))) d.1.1.1 d.1.2.2.1.1 d.1.2.2.2.1.1 d.2.1
abbrev zqee (β : Type) := Int → Int → Int → Int → Int → Int → Int → Int → Int → (List (List Int)) → Option β
abbrev zqef := {β : Type} → zqee β → Int → Int → Int → Int → Int → Int → Int → Int → Int → Int → Bool → (List (List Int)) → Option β
def zqeg : View := ⟨0, [0, 6, 8, 9, 10, 38, 39, 42, 43, 46, 47, 67], [(false, [.data (.int .i64)]), (false, [.math 0]), (false, [.data (.int .i64)]), (false, [.data (.int .i64)]), (false, [.data (.int .i64)]), (false, [.data (.int .i64)]), (false, [.data (.int .i64)]), (false, [.data (.int .i64)]), (false, [.data (.int .i64)]), (false, [.data (.int .i64)]), (false, [.data (.int .i64)]), (false, [.data .bool])], [.mat 22 3 (.int .i64)]⟩
def zqeh : List (AExit × View) := [(.normal, ⟨0, [0, 6, 8, 9, 38, 39, 42, 43, 46, 47], [(false, [.data (.int .i64)]), (false, [.math 0]), (false, [.data (.int .i64)]), (false, [.data (.int .i64)]), (false, [.data (.int .i64)]), (false, [.data (.int .i64)]), (false, [.data (.int .i64)]), (false, [.data (.int .i64)]), (false, [.data (.int .i64)]), (false, [.data (.int .i64)])], [.mat 22 3 (.int .i64)]⟩)]
@[reducible] def constraint_Close_p2_G (p : zqef) {β : Type} (d : zqeg.den) (ks : Outs.K β zqeh) : Option β :=
  p (fun a0 a1 a2 a3 a4 a5 a6 a7 a8 a9 => ks.1 (((a0, ()), (), (a1, ()), (a2, ()), (a3, ()), (a4, ()), (a5, ()), (a6, ()), (a7, ()), (a8, ()), ()), (a9, ()))) d.1.1.1 d.1.2.2.1.1 d.1.2.2.2.1.1 d.1.2.2.2.2.1.1 d.1.2.2.2.2.2.1.1 d.1.2.2.2.2.2.2.1.1 d.1.2.2.2.2.2.2.2.1.1 d.1.2.2.2.2.2.2.2.2.1.1 d.1.2.2.2.2.2.2.2.2.2.1.1 d.1.2.2.2.2.2.2.2.2.2.2.1.1 d.1.2.2.2.2.2.2.2.2.2.2.2.1.1 d.2.1
abbrev zqei (β : Type) := Int → Int → Int → Int → Int → Int → (List (List Int)) → Option β
abbrev zqej := {β : Type} → zqei β → Int → Int → Int → Int → Int → Int → Int → Int → Int → (List (List Int)) → Option β
def zqek : View := ⟨0, [0, 6, 8, 9, 38, 39, 42, 43, 46, 47], [(false, [.data (.int .i64)]), (false, [.math 0]), (false, [.data (.int .i64)]), (false, [.data (.int .i64)]), (false, [.data (.int .i64)]), (false, [.data (.int .i64)]), (false, [.data (.int .i64)]), (false, [.data (.int .i64)]), (false, [.data (.int .i64)]), (false, [.data (.int .i64)])], [.mat 22 3 (.int .i64)]⟩
def zqel : List (AExit × View) := [(.exit 6, ⟨0, [0, 6, 8, 38, 39, 42, 43], [(false, [.data (.int .i64)]), (false, [.math 0]), (false, [.data (.int .i64)]), (false, [.data (.int .i64)]), (false, [.data (.int .i64)]), (false, [.data (.int .i64)]), (false, [.data (.int .i64)])], [.mat 22 3 (.int .i64)]⟩)]
@[reducible] def constraint_Close_p3_G (p : zqej) {β : Type} (d : zqek.den) (ks : Outs.K β zqel) : Option β :=
  p (fun a0 a1 a2 a3 a4 a5 a6 => ks.1 (((a0, ()), (), (a1, ()), (a2, ()), (a3, ()), (a4, ()), (a5, ()), ()), (a6, ()))) d.1.1.1 d.1.2.2.1.1 d.1.2.2.2.1.1 d.1.2.2.2.2.1.1 d.1.2.2.2.2.2.1.1 d.1.2.2.2.2.2.2.1.1 d.1.2.2.2.2.2.2.2.1.1 d.1.2.2.2.2.2.2.2.2.1.1 d.1.2.2.2.2.2.2.2.2.2.1.1 d.2.1
abbrev zqem (β : Type) := Int → Int → Int → Int → (List (List Int)) → Option β
abbrev zqen := {β : Type} → zqem β → Int → Int → Int → Int → Int → Int → (List (List Int)) → Option β
def zqeo : View := ⟨0, [0, 6, 8, 38, 39, 42, 43], [(false, [.data (.int .i64)]), (false, [.math 0]), (false, [.data (.int .i64)]), (false, [.data (.int .i64)]), (false, [.data (.int .i64)]), (false, [.data (.int .i64)]), (false, [.data (.int .i64)])], [.mat 22 3 (.int .i64)]⟩
def zqep : List (AExit × View) := [(.exit 4, ⟨0, [0, 6, 8, 38, 39], [(false, [.data (.int .i64)]), (false, [.math 0]), (false, [.data (.int .i64)]), (false, [.data (.int .i64)]), (false, [.data (.int .i64)])], [.mat 22 3 (.int .i64)]⟩)]
@[reducible] def constraint_Close_p4_G (p : zqen) {β : Type} (d : zqeo.den) (ks : Outs.K β zqep) : Option β :=
  p (fun a0 a1 a2 a3 a4 => ks.1 (((a0, ()), (), (a1, ()), (a2, ()), (a3, ()), ()), (a4, ()))) d.1.1.1 d.1.2.2.1.1 d.1.2.2.2.1.1 d.1.2.2.2.2.1.1 d.1.2.2.2.2.2.1.1 d.1.2.2.2.2.2.2.1.1 d.2.1
abbrev zqeq (β : Type) := Bool → (List (List Int)) → Option β
abbrev zqer (β : Type) := Int → (List (List Int)) → Option β
abbrev zqes := {β : Type} → zqeq β → zqer β → Int → Int → Int → (List (List Int)) → Option β
def zqet : View := ⟨0, [0, 6, 38, 39], [(false, [.data (.int .i64)]), (false, [.math 0]), (false, [.data (.int .i64)]), (false, [.data (.int .i64)])], [.mat 22 3 (.int .i64)]⟩
def zqeu : List (AExit × View) := [(.ret, ⟨0, [4, 5], [(false, [.math 0]), (false, [.data .bool])], [.mat 22 3 (.int .i64)]⟩), (.exit 2, ⟨0, [0, 6], [(false, [.data (.int .i64)]), (false, [.math 0])], [.mat 22 3 (.int .i64)]⟩)]
@[reducible] def constraint_Close_p5_G (p : zqes) {β : Type} (d : zqet.den) (ks : Outs.K β zqeu) : Option β :=
  p (fun a0 a1 => ks.1 (((), (a0, ()), ()), (a1, ()))) (fun a0 a1 => ks.2.1 (((a0, ()), (), ()), (a1, ()))) d.1.1.1 d.1.2.2.1.1 d.1.2.2.2.1.1 d.2.1
abbrev zqev (β : Type) := Bool → (List (List Int)) → Option β
abbrev zqew (β : Type) := (List (List Int)) → Option β
abbrev zqex := {β : Type} → zqev β → zqew β → Int → Int → (List (List Int)) → Option β
def zqey : View := ⟨0, [6, 108, 109], [(false, [.math 0]), (false, [.data (.int .i64)]), (false, [.data (.int .i64)])], [.mat 22 3 (.int .i64)]⟩
def zqez : List (AExit × View) := [(.ret, ⟨0, [4, 5], [(false, [.math 0]), (false, [.data .bool])], [.mat 22 3 (.int .i64)]⟩), (.exit 8, ⟨0, [6], [(false, [.math 0])], [.mat 22 3 (.int .i64)]⟩)]
@[reducible] def constraint_Close_p6_G (p : zqex) {β : Type} (d : zqey.den) (ks : Outs.K β zqez) : Option β :=
  p (fun a0 a1 => ks.1 (((), (a0, ()), ()), (a1, ()))) (fun a0 => ks.2.1 (((), ()), (a0, ()))) d.1.2.1.1 d.1.2.2.1.1 d.2.1
section
variable (c_constraint_Valid : zqe1) (c_constraint_direct : zq3y)
@[reducible] def constraint_Close_X : Ctx := ⟨look tab, pick1 [(60, .spec (zqe2 c_constraint_Valid)), (61, .spec (zq3z c_constraint_direct))], true, false, false, false, false⟩
def zqf0 {β : Type} (rec : Int → Int → Int → (List (List Int)) → Option β) (k1 : zqea β) (n : Int) (t19 : Int) (t20 : Int) (m : List (List Int)) : Option β :=
  cond (decide (t20 < t19))
  (cond (decide (0 ≤ t20) && decide (t20 < (List.length m : Int)))
  (cond (decide (0 ≤ t20) && decide (t20 < (List.length m : Int)))
  (cond (decide (0 ≤ t20) && decide (t20 < (List.length (List.getD m (Int.toNat t20) []) : Int)))
  (cond (decide (0 ≤ t20) && decide (t20 < (List.length (List.getD m (Int.toNat t20) []) : Int)))
  (let m_ : List (List Int) := (List.set m (Int.toNat t20) (List.set (List.getD m (Int.toNat t20) []) (Int.toNat t20) (if (0 : Int) < (List.getD (List.getD m (Int.toNat t20) []) (Int.toNat t20) (0 : Int)) then (0 : Int) else (List.getD (List.getD m (Int.toNat t20) []) (Int.toNat t20) (0 : Int)))));
  rec n t19 (IntKind.i64.wrap (t20 + (1 : Int))) m_)
  none)
  none)
  none)
  none)
  (k1 n m)
def zqf1 {β : Type} : Nat → zqea β → Int → Int → Int → (List (List Int)) → Option β
  | 0 => fun _ _ _ _ _ => none
  | i + 1 => fun k1 n t19 t20 m => zqf0 (zqf1 i k1) k1 n t19 t20 m
theorem zqf2 (hΓ : ΓOk Tryd.prog (constraint_Close_X c_constraint_Valid c_constraint_direct).Γ) (i : Nat) : PieceOk Tryd.prog 122 0 constraint_Close_p1_code zqec zqed (constraint_Close_p1_G (zqf1 i)) := by
  rw [show constraint_Close_p1_code = .loop (loopBody constraint_Close_p1_code) by kernel_rfl]
  exact piece_loop (X := (constraint_Close_X c_constraint_Valid c_constraint_direct)) (p := 1) (Λ := pick1 []) (G := fun i => @fun β d ks => constraint_Close_p1_G (zqf1 i) d ks) mixed tab_ok hΓ rfl (by kernel_rfl) CutsOk_nil (fun _ _ => rfl) (fun i => @fun β d ks r h => Eq.trans (b := constraint_Close_p1_G (zqf1 (i + 1)) d ks) (by kernel_rfl) h) i
def zqf3 {β : Type} (k1 : zqee β) (n : Int) (k_ : Int) (i_ : Int) (j : Int) (t38 : Int) (t39 : Int) (t42 : Int) (t43 : Int) (t46 : Int) (t47 : Int) (t67 : Bool) (m : List (List Int)) : Option β :=
  cond t67
  (cond (decide (0 ≤ i_) && decide (i_ < (List.length m : Int)))
  (cond (decide (0 ≤ i_) && decide (i_ < (List.length m : Int)))
  (cond (decide (0 ≤ j) && decide (j < (List.length (List.getD m (Int.toNat i_) []) : Int)))
  (cond (decide (0 ≤ i_) && decide (i_ < (List.length m : Int)))
  (cond (decide (0 ≤ k_) && decide (k_ < (List.length (List.getD m (Int.toNat i_) []) : Int)))
  (cond (decide (0 ≤ k_) && decide (k_ < (List.length m : Int)))
  (cond (decide (0 ≤ j) && decide (j < (List.length (List.getD m (Int.toNat k_) []) : Int)))
  (cond (decide (0 ≤ j) && decide (j < (List.length (List.getD m (Int.toNat i_) []) : Int)))
  (let m_ : List (List Int) := (List.set m (Int.toNat i_) (List.set (List.getD m (Int.toNat i_) []) (Int.toNat j) (if (IntKind.i64.wrap ((List.getD (List.getD m (Int.toNat i_) []) (Int.toNat k_) (0 : Int)) + (List.getD (List.getD m (Int.toNat k_) []) (Int.toNat j) (0 : Int)))) < (List.getD (List.getD m (Int.toNat i_) []) (Int.toNat j) (0 : Int)) then (IntKind.i64.wrap ((List.getD (List.getD m (Int.toNat i_) []) (Int.toNat k_) (0 : Int)) + (List.getD (List.getD m (Int.toNat k_) []) (Int.toNat j) (0 : Int)))) else (List.getD (List.getD m (Int.toNat i_) []) (Int.toNat j) (0 : Int)))));
  k1 n k_ i_ t38 t39 t42 t43 t46 t47 m_)
  none)
  none)
  none)
  none)
  none)
  none)
  none)
  none)
  (k1 n k_ i_ t38 t39 t42 t43 t46 t47 m)
def zqf4 {β : Type} (k1 : zqee β) (n : Int) (k_ : Int) (i_ : Int) (j : Int) (t38 : Int) (t39 : Int) (t42 : Int) (t43 : Int) (t46 : Int) (t47 : Int) (t67 : Bool) (m : List (List Int)) : Option β := zqf3 k1 n k_ i_ j t38 t39 t42 t43 t46 t47 t67 m
theorem zqf5 (hΓ : ΓOk Tryd.prog (constraint_Close_X c_constraint_Valid c_constraint_direct).Γ) : PieceOk Tryd.prog 122 0 constraint_Close_p2_code zqeg zqeh (constraint_Close_p2_G (zqf4)) :=
  piece_exec (X := (constraint_Close_X c_constraint_Valid c_constraint_direct)) (p := 115) (Λ := pick1 []) mixed tab_ok hΓ (by kernel_rfl) CutsOk_nil (fun d ks r h => Eq.trans (b := constraint_Close_p2_G (zqf4) d ks) (by kernel_rfl) h)
def zqf6 (p2 : zqef) {β : Type} (rec : Int → Int → Int → Int → Int → Int → Int → Int → Int → (List (List Int)) → Option β) (k1 : zqei β) (n : Int) (k_ : Int) (i_ : Int) (t38 : Int) (t39 : Int) (t42 : Int) (t43 : Int) (t46 : Int) (t47 : Int) (m : List (List Int)) : Option β :=
  cond (decide (t47 < t46))
  (cond (decide (0 ≤ i_) && decide (i_ < (List.length m : Int)))
  (cond (decide (0 ≤ k_) && decide (k_ < (List.length (List.getD m (Int.toNat i_) []) : Int)))
  (cond (!decide ((List.getD (List.getD m (Int.toNat i_) []) (Int.toNat k_) (0 : Int)) = (1099511627776 : Int)))
  (cond (decide (0 ≤ k_) && decide (k_ < (List.length m : Int)))
  (cond (decide (0 ≤ t47) && decide (t47 < (List.length (List.getD m (Int.toNat k_) []) : Int)))
  (p2 (fun (n2 : Int) (k_2 : Int) (i_2 : Int) (t382 : Int) (t392 : Int) (t422 : Int) (t432 : Int) (t462 : Int) (t472 : Int) (m2 : List (List Int)) =>
  rec n2 k_2 i_2 t382 t392 t422 t432 t462 (IntKind.i64.wrap (t472 + (1 : Int))) m2) n k_ i_ t47 t38 t39 t42 t43 t46 t47 (!decide ((List.getD (List.getD m (Int.toNat k_) []) (Int.toNat t47) (0 : Int)) = (1099511627776 : Int))) m)
  none)
  none)
  (p2 (fun (n2 : Int) (k_2 : Int) (i_2 : Int) (t382 : Int) (t392 : Int) (t422 : Int) (t432 : Int) (t462 : Int) (t472 : Int) (m2 : List (List Int)) =>
  rec n2 k_2 i_2 t382 t392 t422 t432 t462 (IntKind.i64.wrap (t472 + (1 : Int))) m2) n k_ i_ t47 t38 t39 t42 t43 t46 t47 false m))
  none)
  none)
  (k1 n k_ t38 t39 t42 t43 m)
def zqf7 (p2 : zqef) {β : Type} : Nat → zqei β → Int → Int → Int → Int → Int → Int → Int → Int → Int → (List (List Int)) → Option β
  | 0 => fun _ _ _ _ _ _ _ _ _ _ _ => none
  | i + 1 => fun k1 n k_ i_ t38 t39 t42 t43 t46 t47 m => zqf6 p2 (zqf7 p2 i k1) k1 n k_ i_ t38 t39 t42 t43 t46 t47 m
theorem zqf8 (hΓ : ΓOk Tryd.prog (constraint_Close_X c_constraint_Valid c_constraint_direct).Γ) (p2 : zqef) (hp2 : PieceOk Tryd.prog 122 0 constraint_Close_p2_code zqeg zqeh (constraint_Close_p2_G p2)) (i : Nat) : PieceOk Tryd.prog 122 0 constraint_Close_p3_code zqek zqel (constraint_Close_p3_G (zqf7 p2 i)) := by
  rw [show constraint_Close_p3_code = .loop (loopBody constraint_Close_p3_code) by kernel_rfl]
  exact piece_loop (X := (constraint_Close_X c_constraint_Valid c_constraint_direct)) (p := 1) (Λ := pick1 [(115, pieceCut zqeg zqeh (constraint_Close_p2_G p2))]) (G := fun i => @fun β d ks => constraint_Close_p3_G (zqf7 p2 i) d ks) mixed tab_ok hΓ rfl (by kernel_rfl) (CutsOk_cons (q := 115) (c' := constraint_Close_p2_code) (by kernel_rfl) rfl hp2 CutsOk_nil) (fun _ _ => rfl) (fun i => @fun β d ks r h => Eq.trans (b := constraint_Close_p3_G (zqf7 p2 (i + 1)) d ks) (by kernel_rfl) h) i
def zqf9 (p3 : zqej) {β : Type} (rec : Int → Int → Int → Int → Int → Int → (List (List Int)) → Option β) (k1 : zqem β) (n : Int) (k_ : Int) (t38 : Int) (t39 : Int) (t42 : Int) (t43 : Int) (m : List (List Int)) : Option β :=
  cond (decide (t43 < t42))
  (p3 (fun (n2 : Int) (k_2 : Int) (t382 : Int) (t392 : Int) (t422 : Int) (t432 : Int) (m2 : List (List Int)) =>
  rec n2 k_2 t382 t392 t422 (IntKind.i64.wrap (t432 + (1 : Int))) m2) n k_ t43 t38 t39 t42 t43 n (0 : Int) m)
  (k1 n k_ t38 t39 m)
def zqfa (p3 : zqej) {β : Type} : Nat → zqem β → Int → Int → Int → Int → Int → Int → (List (List Int)) → Option β
  | 0 => fun _ _ _ _ _ _ _ _ => none
  | i + 1 => fun k1 n k_ t38 t39 t42 t43 m => zqf9 p3 (zqfa p3 i k1) k1 n k_ t38 t39 t42 t43 m
theorem zqfb (hΓ : ΓOk Tryd.prog (constraint_Close_X c_constraint_Valid c_constraint_direct).Γ) (p3 : zqej) (hp3 : PieceOk Tryd.prog 122 0 constraint_Close_p3_code zqek zqel (constraint_Close_p3_G p3)) (i : Nat) : PieceOk Tryd.prog 122 0 constraint_Close_p4_code zqeo zqep (constraint_Close_p4_G (zqfa p3 i)) := by
  rw [show constraint_Close_p4_code = .loop (loopBody constraint_Close_p4_code) by kernel_rfl]
  exact piece_loop (X := (constraint_Close_X c_constraint_Valid c_constraint_direct)) (p := 1) (Λ := pick1 [(230, pieceCut zqek zqel (constraint_Close_p3_G p3))]) (G := fun i => @fun β d ks => constraint_Close_p4_G (zqfa p3 i) d ks) mixed tab_ok hΓ rfl (by kernel_rfl) (CutsOk_cons (q := 230) (c' := constraint_Close_p3_code) (by kernel_rfl) rfl hp3 CutsOk_nil) (fun _ _ => rfl) (fun i => @fun β d ks r h => Eq.trans (b := constraint_Close_p4_G (zqfa p3 (i + 1)) d ks) (by kernel_rfl) h) i
def zqfc (p4 : zqen) {β : Type} (rec : Int → Int → Int → (List (List Int)) → Option β) (k1 : zqeq β) (k2 : zqer β) (n : Int) (t38 : Int) (t39 : Int) (m : List (List Int)) : Option β :=
  cond (decide (t39 < t38))
  (p4 (fun (n2 : Int) (k_ : Int) (t382 : Int) (t392 : Int) (m2 : List (List Int)) =>
  cond (decide (0 ≤ k_) && decide (k_ < (List.length m2 : Int)))
  (cond (decide (0 ≤ k_) && decide (k_ < (List.length (List.getD m2 (Int.toNat k_) []) : Int)))
  (cond (decide ((List.getD (List.getD m2 (Int.toNat k_) []) (Int.toNat k_) (0 : Int)) < (0 : Int)))
  (k1 false ([] : List (List Int)))
  (rec n2 t382 (IntKind.i64.wrap (t392 + (1 : Int))) m2))
  none)
  none) n t39 t38 t39 n (0 : Int) m)
  (k2 n m)
def zqfd (p4 : zqen) {β : Type} : Nat → zqeq β → zqer β → Int → Int → Int → (List (List Int)) → Option β
  | 0 => fun _ _ _ _ _ _ => none
  | i + 1 => fun k1 k2 n t38 t39 m => zqfc p4 (zqfd p4 i k1 k2) k1 k2 n t38 t39 m
theorem zqfe (hΓ : ΓOk Tryd.prog (constraint_Close_X c_constraint_Valid c_constraint_direct).Γ) (p4 : zqen) (hp4 : PieceOk Tryd.prog 122 0 constraint_Close_p4_code zqeo zqep (constraint_Close_p4_G p4)) (i : Nat) : PieceOk Tryd.prog 122 0 constraint_Close_p5_code zqet zqeu (constraint_Close_p5_G (zqfd p4 i)) := by
  rw [show constraint_Close_p5_code = .loop (loopBody constraint_Close_p5_code) by kernel_rfl]
  exact piece_loop (X := (constraint_Close_X c_constraint_Valid c_constraint_direct)) (p := 1) (Λ := pick1 [(458, pieceCut zqeo zqep (constraint_Close_p4_G p4))]) (G := fun i => @fun β d ks => constraint_Close_p5_G (zqfd p4 i) d ks) mixed tab_ok hΓ rfl (by kernel_rfl) (CutsOk_cons (q := 458) (c' := constraint_Close_p4_code) (by kernel_rfl) rfl hp4 CutsOk_nil) (fun _ _ => rfl) (fun i => @fun β d ks r h => Eq.trans (b := constraint_Close_p5_G (zqfd p4 (i + 1)) d ks) (by kernel_rfl) h) i
def zqff {β : Type} (rec : Int → Int → (List (List Int)) → Option β) (k1 : zqev β) (k2 : zqew β) (t108 : Int) (t109 : Int) (m : List (List Int)) : Option β :=
  cond (decide (t109 < t108))
  (cond (decide (0 ≤ t109) && decide (t109 < (List.length m : Int)))
  (cond (decide (0 ≤ t109) && decide (t109 < (List.length (List.getD m (Int.toNat t109) []) : Int)))
  (cond (decide ((List.getD (List.getD m (Int.toNat t109) []) (Int.toNat t109) (0 : Int)) < (0 : Int)))
  (k1 false ([] : List (List Int)))
  (rec t108 (IntKind.i64.wrap (t109 + (1 : Int))) m))
  none)
  none)
  (k2 m)
def zqfg {β : Type} : Nat → zqev β → zqew β → Int → Int → (List (List Int)) → Option β
  | 0 => fun _ _ _ _ _ => none
  | i + 1 => fun k1 k2 t108 t109 m => zqff (zqfg i k1 k2) k1 k2 t108 t109 m
theorem zqfh (hΓ : ΓOk Tryd.prog (constraint_Close_X c_constraint_Valid c_constraint_direct).Γ) (i : Nat) : PieceOk Tryd.prog 122 0 constraint_Close_p6_code zqey zqez (constraint_Close_p6_G (zqfg i)) := by
  rw [show constraint_Close_p6_code = .loop (loopBody constraint_Close_p6_code) by kernel_rfl]
  exact piece_loop (X := (constraint_Close_X c_constraint_Valid c_constraint_direct)) (p := 1) (Λ := pick1 []) (G := fun i => @fun β d ks => constraint_Close_p6_G (zqfg i) d ks) mixed tab_ok hΓ rfl (by kernel_rfl) CutsOk_nil (fun _ _ => rfl) (fun i => @fun β d ks r h => Eq.trans (b := constraint_Close_p6_G (zqfg (i + 1)) d ks) (by kernel_rfl) h) i
def zqfi (p1 : zqeb) (p5 : zqes) (p6 : zqex) {β : Type} (n : Int) (l : List (Int × (Int × Int))) (k : ((List (List Int)) → Bool → Option β)) : Option β :=
  c_constraint_Valid n l (fun (rValid : Bool) =>
  cond (!rValid)
  (k ([] : List (List Int)) false)
  (c_constraint_direct n l (fun (lrdirect : List (List Int)) =>
  p1 (fun (n2 : Int) (m : List (List Int)) =>
  p5 (fun (t5 : Bool) (t4 : List (List Int)) =>
  k t4 t5) (fun (n3 : Int) (m2 : List (List Int)) =>
  p6 (fun (t5 : Bool) (t4 : List (List Int)) =>
  k t4 t5) (fun (m3 : List (List Int)) =>
  k m3 true) n3 (0 : Int) m2) n2 n2 (0 : Int) m) n n (0 : Int) lrdirect)))
theorem zqfj (hΓ : ΓOk Tryd.prog (constraint_Close_X c_constraint_Valid c_constraint_direct).Γ) (p1 : zqeb) (p5 : zqes) (p6 : zqex) (hp1 : PieceOk Tryd.prog 122 0 constraint_Close_p1_code zqec zqed (constraint_Close_p1_G p1)) (hp5 : PieceOk Tryd.prog 122 0 constraint_Close_p5_code zqet zqeu (constraint_Close_p5_G p5)) (hp6 : PieceOk Tryd.prog 122 0 constraint_Close_p6_code zqey zqez (constraint_Close_p6_G p6)) : SpecOk Tryd.prog 47 (zqe9 (zqfi c_constraint_Valid c_constraint_direct p1 p5 p6)) :=
  spec_exec (X := (constraint_Close_X c_constraint_Valid c_constraint_direct)) (Λ := pick1 [(122, pieceCut zqec zqed (constraint_Close_p1_G p1)), (250, pieceCut zqet zqeu (constraint_Close_p5_G p5)), (506, pieceCut zqey zqez (constraint_Close_p6_G p6))]) (rs := [.tmp 4, .tmp 5]) (c := bodyOf Tryd.f47) mixed tab_ok hΓ Tryd.func47 (by kernel_rfl) (by kernel_rfl) (by kernel_rfl) (by kernel_rfl) (CutsOk_cons (q := 122) (c' := constraint_Close_p1_code) (by kernel_rfl) rfl hp1 (CutsOk_cons (q := 250) (c' := constraint_Close_p5_code) (by kernel_rfl) rfl hp5 (CutsOk_cons (q := 506) (c' := constraint_Close_p6_code) (by kernel_rfl) rfl hp6 CutsOk_nil))) (fun x k r h => Eq.trans (b := (zqe9 (zqfi c_constraint_Valid c_constraint_direct p1 p5 p6)).run x k) (by kernel_rfl) h)
end
theorem zqfkΓ : ΓOk Tryd.prog (pick1 [(60, .spec (zqe2 zqe6)), (61, .spec (zq3z zq50))]) := (ΓOk_cons zqe7 (ΓOk_cons zq51 ΓOk_nil))
def zqfl (m : Nat) : zqeb := zqf1 m
theorem zqfm {β : Type} (i : Nat) (k1 n t19 t20 m) : (zqfl (i + 1) k1 n t19 t20 m : Option β) = zqf0 (zqfl i k1) k1 n t19 t20 m := rfl
def zqfn : zqeb := zqfl fuel
theorem zqfo : PieceOk Tryd.prog 122 0 constraint_Close_p1_code zqec zqed (constraint_Close_p1_G zqfn) := zqf2 zqe6 zq50 zqfkΓ fuel
def zqfp : zqef := zqf4
theorem zqfq : PieceOk Tryd.prog 122 0 constraint_Close_p2_code zqeg zqeh (constraint_Close_p2_G zqfp) := zqf5 zqe6 zq50 zqfkΓ
def zqfr (m : Nat) : zqej := zqf7 zqfp m
theorem zqfs {β : Type} (i : Nat) (k1 n k_ i_ t38 t39 t42 t43 t46 t47 m) : (zqfr (i + 1) k1 n k_ i_ t38 t39 t42 t43 t46 t47 m : Option β) = zqf6 zqfp (zqfr i k1) k1 n k_ i_ t38 t39 t42 t43 t46 t47 m := rfl
def zqft : zqej := zqfr fuel
theorem zqfu : PieceOk Tryd.prog 122 0 constraint_Close_p3_code zqek zqel (constraint_Close_p3_G zqft) := zqf8 zqe6 zq50 zqfkΓ zqfp zqfq fuel
def zqfv (m : Nat) : zqen := zqfa zqft m
theorem zqfw {β : Type} (i : Nat) (k1 n k_ t38 t39 t42 t43 m) : (zqfv (i + 1) k1 n k_ t38 t39 t42 t43 m : Option β) = zqf9 zqft (zqfv i k1) k1 n k_ t38 t39 t42 t43 m := rfl
def zqfx : zqen := zqfv fuel
theorem zqfy : PieceOk Tryd.prog 122 0 constraint_Close_p4_code zqeo zqep (constraint_Close_p4_G zqfx) := zqfb zqe6 zq50 zqfkΓ zqft zqfu fuel
def zqfz (m : Nat) : zqes := zqfd zqfx m
theorem zqg0 {β : Type} (i : Nat) (k1 k2 n t38 t39 m) : (zqfz (i + 1) k1 k2 n t38 t39 m : Option β) = zqfc zqfx (zqfz i k1 k2) k1 k2 n t38 t39 m := rfl
def zqg1 : zqes := zqfz fuel
theorem zqg2 : PieceOk Tryd.prog 122 0 constraint_Close_p5_code zqet zqeu (constraint_Close_p5_G zqg1) := zqfe zqe6 zq50 zqfkΓ zqfx zqfy fuel
def zqg3 (m : Nat) : zqex := zqfg m
theorem zqg4 {β : Type} (i : Nat) (k1 k2 t108 t109 m) : (zqg3 (i + 1) k1 k2 t108 t109 m : Option β) = zqff (zqg3 i k1 k2) k1 k2 t108 t109 m := rfl
def zqg5 : zqex := zqg3 fuel
theorem zqg6 : PieceOk Tryd.prog 122 0 constraint_Close_p6_code zqey zqez (constraint_Close_p6_G zqg5) := zqfh zqe6 zq50 zqfkΓ fuel
def zqg7 : zqe8 := zqfi zqe6 zq50 zqfn zqg1 zqg5
theorem zqg8 : SpecOk Tryd.prog 47 (zqe9 zqg7) := zqfj zqe6 zq50 zqfkΓ zqfn zqg1 zqg5 zqfo zqg2 zqg6

/-- pagewatch/order.closed -/
abbrev zqg9 := {β : Type} → zq2 → ((List (List Int)) → Bool → Option β) → Option β
def zqga (c : zqg9) : Spec :=
  ⟨[(true, [.data zq3])], [], [(false, [.data (.slice (.slice (.int .i64)))]), (false, [.data .bool])], [], fun x k => c x.1.1.1 (fun r0 r1 => k (((r0, ()), (r1, ()), ()), ()))⟩
section
variable (c_constraint_Close : zqe8) (c_order_Constraints : zqce)
@[reducible] def order_closed_X : Ctx := ⟨look tab, pick1 [(47, .spec (zqe9 c_constraint_Close)), (46, .spec (zqcf c_order_Constraints))], false, false, false, false, false⟩
def zqgb {β : Type} (r_ : zq2) (k : ((List (List Int)) → Bool → Option β)) : Option β :=
  c_order_Constraints r_ (fun (rConstraints : Bool) (lrConstraints : List (Int × (Int × Int))) =>
  cond (!rConstraints)
  (k ([] : List (List Int)) false)
  (c_constraint_Close (IntKind.i64.wrap ((List.length r_.2.2.1 : Int) + (1 : Int))) lrConstraints (fun (rClose : List (List Int)) (rClose2 : Bool) =>
  k rClose rClose2)))
theorem zqgc (hΓ : ΓOk Tryd.prog (order_closed_X c_constraint_Close c_order_Constraints).Γ) : SpecOk Tryd.prog 27 (zqga (zqgb c_constraint_Close c_order_Constraints)) :=
  spec_exec (X := (order_closed_X c_constraint_Close c_order_Constraints)) (Λ := pick1 []) (rs := [.tmp 2, .tmp 3]) (c := bodyOf Tryd.f27) mixed tab_ok hΓ Tryd.func27 (by kernel_rfl) (by kernel_rfl) (by kernel_rfl) (by kernel_rfl) CutsOk_nil (fun x k r h => Eq.trans (b := (zqga (zqgb c_constraint_Close c_order_Constraints)).run x k) (by kernel_rfl) h)
end
theorem zqgdΓ : ΓOk Tryd.prog (pick1 [(47, .spec (zqe9 zqg7)), (46, .spec (zqcf zqds))]) := (ΓOk_cons zqg8 (ΓOk_cons zqdt ΓOk_nil))
def zqge : zqg9 := zqgb zqg7 zqds
theorem zqgf : SpecOk Tryd.prog 27 (zqga zqge) := zqgc zqg7 zqds zqgdΓ

/-- pagewatch/order.When -/
abbrev zqgg := {β : Type} → zq2 → (Bool → (List (Int × Int)) → Option β) → Option β
def zqgh (c : zqgg) : Spec :=
  ⟨[(true, [.data zq3])], [], [(false, [.rowh 0]), (false, [.data .bool])], [.row 44 (.prod (.int .i64) (.int .i64))], fun x k => c x.1.1.1 (fun r0 r1 => k (((), (r0, ()), ()), (r1, ())))⟩
noncomputable def order_When_p1_code : Code := codeAt 250 (bodyOf Tryd.f30)
abbrev zqgi (β : Type) := (List (Int × Int)) → Option β
abbrev zqgj := {β : Type} → zqgi β → (List (List Int)) → Int → Int → (List (Int × Int)) → Option β
def zqgk : View := ⟨0, [4, 6, 17, 18], [(false, [.data (.slice (.slice (.int .i64)))]), (false, [.rowh 0]), (false, [.data (.int .i64)]), (false, [.data (.int .i64)])], [.row 44 (.prod (.int .i64) (.int .i64))]⟩
def zqgl : List (AExit × View) := [(.exit 0, ⟨0, [6], [(false, [.rowh 0])], [.row 44 (.prod (.int .i64) (.int .i64))]⟩)]
@[reducible] def order_When_p1_G (p : zqgj) {β : Type} (d : zqgk.den) (ks : Outs.K β zqgl) : Option β :=
  p (fun a0 => ks.1 (((), ()), (a0, ()))) d.1.1.1 d.1.2.2.1.1 d.1.2.2.2.1.1 d.2.1
section
variable (c_order_closed : zqg9) (c_order_matrix_when : zq36)
@[reducible] def order_When_X : Ctx := ⟨look tab, pick1 [(27, .spec (zqga c_order_closed)), (48, .spec (zq37 c_order_matrix_when))], false, false, false, false, false⟩
def zqgm {β : Type} (rec : (List (List Int)) → Int → Int → (List (Int × Int)) → Option β) (k1 : zqgi β) (m : List (List Int)) (t17 : Int) (t18 : Int) (out : List (Int × Int)) : Option β :=
  cond (decide (t18 < t17))
  (c_order_matrix_when m t18 (fun (rwhen : (Int × Int)) =>
  let l : List (Int × Int) := ([rwhen] : List (Int × Int));
  cond (decide ((List.length out + List.length l) * 16 ≤ roomMax))
  (let l2 : List (Int × Int) := (out ++ l);
  rec m t17 (IntKind.i64.wrap (t18 + (1 : Int))) l2)
  none))
  (k1 out)
def zqgn {β : Type} : Nat → zqgi β → (List (List Int)) → Int → Int → (List (Int × Int)) → Option β
  | 0 => fun _ _ _ _ _ => none
  | i + 1 => fun k1 m t17 t18 out => zqgm c_order_matrix_when (zqgn i k1) k1 m t17 t18 out
theorem zqgo (hΓ : ΓOk Tryd.prog (order_When_X c_order_closed c_order_matrix_when).Γ) (i : Nat) : PieceOk Tryd.prog 29 0 order_When_p1_code zqgk zqgl (order_When_p1_G (zqgn c_order_matrix_when i)) := by
  rw [show order_When_p1_code = .loop (loopBody order_When_p1_code) by kernel_rfl]
  exact piece_loop (X := (order_When_X c_order_closed c_order_matrix_when)) (p := 1) (Λ := pick1 []) (G := fun i => @fun β d ks => order_When_p1_G (zqgn c_order_matrix_when i) d ks) mixed tab_ok hΓ rfl (by kernel_rfl) CutsOk_nil (fun _ _ => rfl) (fun i => @fun β d ks r h => Eq.trans (b := order_When_p1_G (zqgn c_order_matrix_when (i + 1)) d ks) (by kernel_rfl) h) i
def zqgp (p1 : zqgj) {β : Type} (r_ : zq2) (k : (Bool → (List (Int × Int)) → Option β)) : Option β :=
  c_order_closed r_ (fun (rclosed : List (List Int)) (rclosed2 : Bool) =>
  cond (!rclosed2)
  (k false ([] : List (Int × Int)))
  (p1 (fun (out : List (Int × Int)) =>
  k true out) rclosed (List.length r_.2.2.1 : Int) (0 : Int) ([] : List (Int × Int))))
theorem zqgq (hΓ : ΓOk Tryd.prog (order_When_X c_order_closed c_order_matrix_when).Γ) (p1 : zqgj) (hp1 : PieceOk Tryd.prog 29 0 order_When_p1_code zqgk zqgl (order_When_p1_G p1)) : SpecOk Tryd.prog 30 (zqgh (zqgp c_order_closed p1)) :=
  spec_exec (X := (order_When_X c_order_closed c_order_matrix_when)) (Λ := pick1 [(250, pieceCut zqgk zqgl (order_When_p1_G p1))]) (rs := [.tmp 2, .tmp 3]) (c := bodyOf Tryd.f30) mixed tab_ok hΓ Tryd.func30 (by kernel_rfl) (by kernel_rfl) (by kernel_rfl) (by kernel_rfl) (CutsOk_cons (q := 250) (c' := order_When_p1_code) (by kernel_rfl) rfl hp1 CutsOk_nil) (fun x k r h => Eq.trans (b := (zqgh (zqgp c_order_closed p1)).run x k) (by kernel_rfl) h)
end
theorem zqgrΓ : ΓOk Tryd.prog (pick1 [(27, .spec (zqga zqge)), (48, .spec (zq37 zq3b))]) := (ΓOk_cons zqgf (ΓOk_cons zq3c ΓOk_nil))
def zqgs (m : Nat) : zqgj := zqgn zq3b m
theorem zqgt {β : Type} (i : Nat) (k1 m t17 t18 out) : (zqgs (i + 1) k1 m t17 t18 out : Option β) = zqgm zq3b (zqgs i k1) k1 m t17 t18 out := rfl
def zqgu : zqgj := zqgs fuel
theorem zqgv : PieceOk Tryd.prog 29 0 order_When_p1_code zqgk zqgl (order_When_p1_G zqgu) := zqgo zqge zq3b zqgrΓ fuel
def zqgw : zqgg := zqgp zqge zqgu
theorem zqgx : SpecOk Tryd.prog 30 (zqgh zqgw) := zqgq zqge zq3b zqgrΓ zqgu zqgv

/-- pagewatch/order.Open -/
abbrev zqgy := {β : Type} → zq2 → ((List (Int × Int)) → Option β) → Option β
def zqgz (c : zqgy) : Spec :=
  ⟨[(true, [.data zq3])], [], [(false, [.rowh 0])], [.row 93 (.prod (.int .i64) (.int .i64))], fun x k => c x.1.1.1 (fun r0 => k (((), ()), (r0, ())))⟩
noncomputable def order_Open_p2_code : Code := codeAt 122 (bodyOf Tryd.f31)
noncomputable def order_Open_p1_code : Code := codeAt 230 (loopBody order_Open_p2_code)
abbrev zqh0 (β : Type) := (List (List Int)) → Bool → Int → Int → (List (List UInt8 × Int)) → (List (Int × (Int × (Int × Int)))) → (List zq0) → (List (Int × (Int × Int))) → (List (Int × Int)) → Option β
abbrev zqh1 := {β : Type} → zqh0 β → (List (List Int)) → Bool → Int → Int → Int → Int → (List (List UInt8 × Int)) → (List (Int × (Int × (Int × Int)))) → (List zq0) → (List (Int × (Int × Int))) → (List (Int × Int)) → Option β
def zqh2 : View := ⟨0, [1, 3, 4, 5, 6, 7, 15, 16], [(false, [.ptr 0 0]), (false, [.data (.slice (.slice (.int .i64)))]), (false, [.data .bool]), (false, [.rowh 1]), (false, [.data (.int .i64)]), (false, [.data (.int .i64)]), (false, [.data (.int .i64)]), (false, [.data (.int .i64)])], [.cells 32 [.data (.slice (.prod .str (.int .i64))), .data (.slice (.prod (.int .i64) (.prod (.int .i64) (.prod (.int .i64) (.int .i64))))), .data (.slice zq1), .data (.slice (.prod (.int .i64) (.prod (.int .i64) (.int .i64))))], .row 93 (.prod (.int .i64) (.int .i64))]⟩
def zqh3 : List (AExit × View) := [(.exit 2, ⟨0, [1, 3, 4, 5, 15, 16], [(false, [.ptr 0 0]), (false, [.data (.slice (.slice (.int .i64)))]), (false, [.data .bool]), (false, [.rowh 1]), (false, [.data (.int .i64)]), (false, [.data (.int .i64)])], [.cells 32 [.data (.slice (.prod .str (.int .i64))), .data (.slice (.prod (.int .i64) (.prod (.int .i64) (.prod (.int .i64) (.int .i64))))), .data (.slice zq1), .data (.slice (.prod (.int .i64) (.prod (.int .i64) (.int .i64))))], .row 93 (.prod (.int .i64) (.int .i64))]⟩)]
@[reducible] def order_Open_p1_G (p : zqh1) {β : Type} (d : zqh2.den) (ks : Outs.K β zqh3) : Option β :=
  p (fun a0 a1 a2 a3 a4 a5 a6 a7 a8 => ks.1 (((), (a0, ()), (a1, ()), (), (a2, ()), (a3, ()), ()), ((a4, a5, a6, a7, ()), a8, ()))) d.1.2.1.1 d.1.2.2.1.1 d.1.2.2.2.2.1.1 d.1.2.2.2.2.2.1.1 d.1.2.2.2.2.2.2.1.1 d.1.2.2.2.2.2.2.2.1.1 d.2.1.1 d.2.1.2.1 d.2.1.2.2.1 d.2.1.2.2.2.1 d.2.2.1
abbrev zqh4 (β : Type) := (List (Int × Int)) → Option β
abbrev zqh5 := {β : Type} → zqh4 β → (List (List Int)) → Bool → Int → Int → (List (List UInt8 × Int)) → (List (Int × (Int × (Int × Int)))) → (List zq0) → (List (Int × (Int × Int))) → (List (Int × Int)) → Option β
def zqh6 : View := ⟨0, [1, 3, 4, 5, 15, 16], [(false, [.ptr 0 0]), (false, [.data (.slice (.slice (.int .i64)))]), (false, [.data .bool]), (false, [.rowh 1]), (false, [.data (.int .i64)]), (false, [.data (.int .i64)])], [.cells 32 [.data (.slice (.prod .str (.int .i64))), .data (.slice (.prod (.int .i64) (.prod (.int .i64) (.prod (.int .i64) (.int .i64))))), .data (.slice zq1), .data (.slice (.prod (.int .i64) (.prod (.int .i64) (.int .i64))))], .row 93 (.prod (.int .i64) (.int .i64))]⟩
def zqh7 : List (AExit × View) := [(.exit 0, ⟨0, [5], [(false, [.rowh 0])], [.row 93 (.prod (.int .i64) (.int .i64))]⟩)]
@[reducible] def order_Open_p2_G (p : zqh5) {β : Type} (d : zqh6.den) (ks : Outs.K β zqh7) : Option β :=
  p (fun a0 => ks.1 (((), ()), (a0, ()))) d.1.2.1.1 d.1.2.2.1.1 d.1.2.2.2.2.1.1 d.1.2.2.2.2.2.1.1 d.2.1.1 d.2.1.2.1 d.2.1.2.2.1 d.2.1.2.2.2.1 d.2.2.1
section
variable (c_order_closed : zqg9) (c_order_matrix_open : zq3d)
@[reducible] def order_Open_X : Ctx := ⟨look tab, pick1 [(27, .spec (zqga c_order_closed)), (49, .spec (zq3e c_order_matrix_open))], false, false, false, false, false⟩
def zqh8 {β : Type} (rec : (List (List Int)) → Bool → Int → Int → Int → Int → (List (List UInt8 × Int)) → (List (Int × (Int × (Int × Int)))) → (List zq0) → (List (Int × (Int × Int))) → (List (Int × Int)) → Option β) (k1 : zqh0 β) (m : List (List Int)) (ok : Bool) (a : Int) (b : Int) (t15 : Int) (t16 : Int) (r_ : List (List UInt8 × Int)) (r_2 : List (Int × (Int × (Int × Int)))) (r_3 : List zq0) (r_4 : List (Int × (Int × Int))) (out : List (Int × Int)) : Option β :=
  cond (decide (b < (List.length r_3 : Int)))
  (cond ok
  (c_order_matrix_open m a b (fun (ropen : Bool) =>
  cond ropen
  (let l : List (Int × Int) := ([(a, b)] : List (Int × Int));
  cond (decide ((List.length out + List.length l) * 16 ≤ roomMax))
  (let l2 : List (Int × Int) := (out ++ l);
  let b2 : Int := (IntKind.i64.wrap (b + (1 : Int)));
  rec m ok a b2 t15 t16 r_ r_2 r_3 r_4 l2)
  none)
  (let b2 : Int := (IntKind.i64.wrap (b + (1 : Int)));
  rec m ok a b2 t15 t16 r_ r_2 r_3 r_4 out)))
  (k1 m ok t15 t16 r_ r_2 r_3 r_4 out))
  (k1 m ok t15 t16 r_ r_2 r_3 r_4 out)
def zqh9 {β : Type} : Nat → zqh0 β → (List (List Int)) → Bool → Int → Int → Int → Int → (List (List UInt8 × Int)) → (List (Int × (Int × (Int × Int)))) → (List zq0) → (List (Int × (Int × Int))) → (List (Int × Int)) → Option β
  | 0 => fun _ _ _ _ _ _ _ _ _ _ _ _ => none
  | i + 1 => fun k1 m ok a b t15 t16 r_ r_2 r_3 r_4 out => zqh8 c_order_matrix_open (zqh9 i k1) k1 m ok a b t15 t16 r_ r_2 r_3 r_4 out
theorem zqha (hΓ : ΓOk Tryd.prog (order_Open_X c_order_closed c_order_matrix_open).Γ) (i : Nat) : PieceOk Tryd.prog 43 0 order_Open_p1_code zqh2 zqh3 (order_Open_p1_G (zqh9 c_order_matrix_open i)) := by
  rw [show order_Open_p1_code = .loop (loopBody order_Open_p1_code) by kernel_rfl]
  exact piece_loop (X := (order_Open_X c_order_closed c_order_matrix_open)) (p := 1) (Λ := pick1 []) (G := fun i => @fun β d ks => order_Open_p1_G (zqh9 c_order_matrix_open i) d ks) mixed tab_ok hΓ rfl (by kernel_rfl) CutsOk_nil (fun _ _ => rfl) (fun i => @fun β d ks r h => Eq.trans (b := order_Open_p1_G (zqh9 c_order_matrix_open (i + 1)) d ks) (by kernel_rfl) h) i
def zqhb (p1 : zqh1) {β : Type} (rec : (List (List Int)) → Bool → Int → Int → (List (List UInt8 × Int)) → (List (Int × (Int × (Int × Int)))) → (List zq0) → (List (Int × (Int × Int))) → (List (Int × Int)) → Option β) (k1 : zqh4 β) (m : List (List Int)) (ok : Bool) (t15 : Int) (t16 : Int) (r_ : List (List UInt8 × Int)) (r_2 : List (Int × (Int × (Int × Int)))) (r_3 : List zq0) (r_4 : List (Int × (Int × Int))) (out : List (Int × Int)) : Option β :=
  cond (decide (t16 < t15))
  (let b : Int := (IntKind.i64.wrap (t16 + (1 : Int)));
  p1 (fun (m2 : List (List Int)) (ok2 : Bool) (t152 : Int) (t162 : Int) (r_5 : List (List UInt8 × Int)) (r_6 : List (Int × (Int × (Int × Int)))) (r_7 : List zq0) (r_8 : List (Int × (Int × Int))) (out2 : List (Int × Int)) =>
  rec m2 ok2 t152 (IntKind.i64.wrap (t162 + (1 : Int))) r_5 r_6 r_7 r_8 out2) m ok t16 b t15 t16 r_ r_2 r_3 r_4 out)
  (k1 out)
def zqhc (p1 : zqh1) {β : Type} : Nat → zqh4 β → (List (List Int)) → Bool → Int → Int → (List (List UInt8 × Int)) → (List (Int × (Int × (Int × Int)))) → (List zq0) → (List (Int × (Int × Int))) → (List (Int × Int)) → Option β
  | 0 => fun _ _ _ _ _ _ _ _ _ _ => none
  | i + 1 => fun k1 m ok t15 t16 r_ r_2 r_3 r_4 out => zqhb p1 (zqhc p1 i k1) k1 m ok t15 t16 r_ r_2 r_3 r_4 out
theorem zqhd (hΓ : ΓOk Tryd.prog (order_Open_X c_order_closed c_order_matrix_open).Γ) (p1 : zqh1) (hp1 : PieceOk Tryd.prog 43 0 order_Open_p1_code zqh2 zqh3 (order_Open_p1_G p1)) (i : Nat) : PieceOk Tryd.prog 43 0 order_Open_p2_code zqh6 zqh7 (order_Open_p2_G (zqhc p1 i)) := by
  rw [show order_Open_p2_code = .loop (loopBody order_Open_p2_code) by kernel_rfl]
  exact piece_loop (X := (order_Open_X c_order_closed c_order_matrix_open)) (p := 1) (Λ := pick1 [(230, pieceCut zqh2 zqh3 (order_Open_p1_G p1))]) (G := fun i => @fun β d ks => order_Open_p2_G (zqhc p1 i) d ks) mixed tab_ok hΓ rfl (by kernel_rfl) (CutsOk_cons (q := 230) (c' := order_Open_p1_code) (by kernel_rfl) rfl hp1 CutsOk_nil) (fun _ _ => rfl) (fun i => @fun β d ks r h => Eq.trans (b := order_Open_p2_G (zqhc p1 (i + 1)) d ks) (by kernel_rfl) h) i
def zqhe (p2 : zqh5) {β : Type} (r_ : zq2) (k : ((List (Int × Int)) → Option β)) : Option β :=
  c_order_closed r_ (fun (rclosed : List (List Int)) (rclosed2 : Bool) =>
  p2 (fun (out : List (Int × Int)) =>
  k out) rclosed rclosed2 (List.length r_.2.2.1 : Int) (0 : Int) r_.1 r_.2.1 r_.2.2.1 r_.2.2.2 ([] : List (Int × Int)))
theorem zqhf (hΓ : ΓOk Tryd.prog (order_Open_X c_order_closed c_order_matrix_open).Γ) (p2 : zqh5) (hp2 : PieceOk Tryd.prog 43 0 order_Open_p2_code zqh6 zqh7 (order_Open_p2_G p2)) : SpecOk Tryd.prog 31 (zqgz (zqhe c_order_closed p2)) :=
  spec_exec (X := (order_Open_X c_order_closed c_order_matrix_open)) (Λ := pick1 [(122, pieceCut zqh6 zqh7 (order_Open_p2_G p2))]) (rs := [.tmp 2]) (c := bodyOf Tryd.f31) mixed tab_ok hΓ Tryd.func31 (by kernel_rfl) (by kernel_rfl) (by kernel_rfl) (by kernel_rfl) (CutsOk_cons (q := 122) (c' := order_Open_p2_code) (by kernel_rfl) rfl hp2 CutsOk_nil) (fun x k r h => Eq.trans (b := (zqgz (zqhe c_order_closed p2)).run x k) (by kernel_rfl) h)
end
theorem zqhgΓ : ΓOk Tryd.prog (pick1 [(27, .spec (zqga zqge)), (49, .spec (zq3e zq3i))]) := (ΓOk_cons zqgf (ΓOk_cons zq3j ΓOk_nil))
def zqhh (m : Nat) : zqh1 := zqh9 zq3i m
theorem zqhi {β : Type} (i : Nat) (k1 m ok a b t15 t16 r_ r_2 r_3 r_4 out) : (zqhh (i + 1) k1 m ok a b t15 t16 r_ r_2 r_3 r_4 out : Option β) = zqh8 zq3i (zqhh i k1) k1 m ok a b t15 t16 r_ r_2 r_3 r_4 out := rfl
def zqhj : zqh1 := zqhh fuel
theorem zqhk : PieceOk Tryd.prog 43 0 order_Open_p1_code zqh2 zqh3 (order_Open_p1_G zqhj) := zqha zqge zq3i zqhgΓ fuel
def zqhl (m : Nat) : zqh5 := zqhc zqhj m
theorem zqhm {β : Type} (i : Nat) (k1 m ok t15 t16 r_ r_2 r_3 r_4 out) : (zqhl (i + 1) k1 m ok t15 t16 r_ r_2 r_3 r_4 out : Option β) = zqhb zqhj (zqhl i k1) k1 m ok t15 t16 r_ r_2 r_3 r_4 out := rfl
def zqhn : zqh5 := zqhl fuel
theorem zqho : PieceOk Tryd.prog 43 0 order_Open_p2_code zqh6 zqh7 (order_Open_p2_G zqhn) := zqhd zqge zq3i zqhgΓ zqhj zqhk fuel
def zqhp : zqgy := zqhe zqge zqhn
theorem zqhq : SpecOk Tryd.prog 31 (zqgz zqhp) := zqhf zqge zq3i zqhgΓ zqhn zqho
end
end Go.Lift
