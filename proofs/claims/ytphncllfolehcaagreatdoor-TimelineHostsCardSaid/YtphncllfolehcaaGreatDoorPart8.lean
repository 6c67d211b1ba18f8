/- Part8: Fn0. -/
import Derived.Test.YtphncllfolehcaaGreatDoorProg
import Derived.Test.YtphncllfolehcaaGreatDoorPart7
namespace Go.Lift
open Go.Proofs
noncomputable section
set_option maxRecDepth 100000
set_option linter.unusedVariables false

abbrev zq0 := (Int × (Int × List UInt8))
abbrev zq1 : Ty := (.prod (.int .i64) (.prod (.int .i64) .str))
abbrev zq2 := (List (List UInt8 × Int) × (List (Int × (Int × (Int × Int))) × (List zq0 × List (Int × (Int × Int)))))
abbrev zq3 : Ty := (.prod (.slice (.prod .str (.int .i64))) (.prod (.slice (.prod (.int .i64) (.prod (.int .i64) (.prod (.int .i64) (.int .i64))))) (.prod (.slice zq1) (.slice (.prod (.int .i64) (.prod (.int .i64) (.int .i64)))))))
abbrev api_Row := (Int × ((Int × Int) × List Int))
abbrev zq4 : Ty := (.prod (.int .i64) (.prod (.prod (.int .i64) (.int .i64)) (.slice (.int .i64))))

def tab : List (Nat × TI) := [
  (3, ⟨false, 1, 8, [.int .i64 (0 : Int)], [], none, none, (some (.int .i64)), (some .i64), false, false, none, none⟩),
  (4, ⟨false, 1, 1, [.bool false], [], none, none, (some .bool), none, true, false, none, none⟩),
  (5, ⟨false, 1, 1, [.int .u8 (0 : Int)], [], none, none, (some (.int .u8)), (some .u8), false, false, none, none⟩),
  (9, ⟨false, 1, 16, [.str ([] : List UInt8)], [], none, none, (some .str), none, false, true, none, none⟩),
  (22, ⟨false, 1, 24, [.nils], [], (some 3), none, (some (.slice (.int .i64))), none, false, false, none, none⟩),
  (27, ⟨false, 1, 24, [.nils], [], (some 62), none, (some (.slice (.prod .str (.int .i64)))), none, false, false, none, none⟩),
  (28, ⟨false, 1, 24, [.nils], [], (some 64), none, (some (.slice (.prod (.int .i64) (.prod (.int .i64) (.prod (.int .i64) (.int .i64)))))), none, false, false, none, none⟩),
  (29, ⟨false, 1, 24, [.nils], [], (some 60), none, (some (.slice zq1)), none, false, false, none, none⟩),
  (30, ⟨false, 1, 24, [.nils], [], (some 73), none, (some (.slice (.prod (.int .i64) (.prod (.int .i64) (.int .i64))))), none, false, false, none, none⟩),
  (32, ⟨true, 4, 96, [.nils, .nils, .nils, .nils], [(0, 1, false), (1, 1, false), (2, 1, false), (3, 1, false)], none, none, (some zq3), none, false, false, none, none⟩),
  (35, ⟨false, 1, 24, [.nils], [], (some 42), none, (some (.slice zq4)), none, false, false, none, none⟩),
  (40, ⟨true, 2, 16, [.int .i64 (0 : Int), .int .i64 (0 : Int)], [(0, 1, false), (1, 1, false)], none, none, (some (.prod (.int .i64) (.int .i64))), none, false, false, (some [.i, .i]), none⟩),
  (42, ⟨true, 4, 48, [.int .i64 (0 : Int), .int .i64 (0 : Int), .int .i64 (0 : Int), .nils], [(0, 1, false), (1, 2, true), (3, 1, false)], none, none, (some zq4), none, false, false, none, none⟩),
  (50, ⟨false, 1, 24, [.nils], [], (some 40), none, (some (.slice (.prod (.int .i64) (.int .i64)))), none, false, false, none, none⟩),
  (56, ⟨false, 1, 24, [.nils], [], (some 58), none, (some (.slice (.prod (.int .i64) (.int .i64)))), none, false, false, none, none⟩),
  (58, ⟨true, 2, 16, [.int .i64 (0 : Int), .int .i64 (0 : Int)], [], (some 3), (some 2), (some (.prod (.int .i64) (.int .i64))), none, false, false, (some [.i, .i]), none⟩),
  (60, ⟨true, 3, 32, [.int .i64 (0 : Int), .int .i64 (0 : Int), .str ([] : List UInt8)], [(0, 1, false), (1, 1, false), (2, 1, false)], none, none, (some zq1), none, false, false, (some [.i, .i, .s]), none⟩),
  (62, ⟨true, 2, 24, [.str ([] : List UInt8), .int .i64 (0 : Int)], [(0, 1, false), (1, 1, false)], none, none, (some (.prod .str (.int .i64))), none, false, false, (some [.s, .i]), none⟩),
  (64, ⟨true, 4, 32, [.int .i64 (0 : Int), .int .i64 (0 : Int), .int .i64 (0 : Int), .int .i64 (0 : Int)], [(0, 1, false), (1, 1, false), (2, 1, false), (3, 1, false)], none, none, (some (.prod (.int .i64) (.prod (.int .i64) (.prod (.int .i64) (.int .i64))))), none, false, false, (some [.i, .i, .i, .i]), none⟩),
  (68, ⟨true, 2, 32, [.nils, .int .i64 (0 : Int)], [(0, 1, false), (1, 1, false)], none, none, (some (.prod (.slice (.int .i64)) (.int .i64))), none, false, false, none, none⟩),
  (70, ⟨false, 1, 24, [.nils], [], (some 9), none, (some (.slice .str)), none, false, false, none, none⟩),
  (73, ⟨true, 3, 24, [.int .i64 (0 : Int), .int .i64 (0 : Int), .int .i64 (0 : Int)], [(0, 1, false), (1, 1, false), (2, 1, false)], none, none, (some (.prod (.int .i64) (.prod (.int .i64) (.int .i64)))), none, false, false, (some [.i, .i, .i]), none⟩),
  (80, ⟨false, 1, 24, [.nils], [], (some 22), none, (some (.slice (.slice (.int .i64)))), none, false, false, none, none⟩),
  (87, ⟨false, 1, 24, [.nils], [], (some 122), none, (some (.slice (.prod (.int .i64) (.prod (.int .i64) (.int .i64))))), none, false, false, none, none⟩),
  (91, ⟨false, 1, 8, [.junk], [], none, none, none, none, false, false, none, (some (3, 3))⟩),
  (95, ⟨true, 2, 32, [.nilp, .nils], [(0, 1, false), (1, 1, false)], none, none, none, none, false, false, none, none⟩),
  (104, ⟨false, 1, 24, [.nils], [], (some 22), none, (some (.slice (.slice (.int .i64)))), none, false, false, none, none⟩),
  (107, ⟨false, 1, 8, [.junk], [], none, none, none, none, false, false, none, (some (3, 4))⟩),
  (109, ⟨false, 1, 8, [.junk], [], none, none, none, none, false, false, none, (some (58, 4))⟩),
  (122, ⟨true, 3, 24, [.int .i64 (0 : Int), .int .i64 (0 : Int), .int .i64 (0 : Int)], [(0, 1, false), (1, 1, false), (2, 1, false)], none, none, (some (.prod (.int .i64) (.prod (.int .i64) (.int .i64)))), none, false, false, (some [.i, .i, .i]), none⟩)]

theorem tab_ok : TOk Tryz.prog (look tab) := TOk_of (by kernel_rfl)
theorem mixed : Tryz.prog.follows .mixedOrders = true := by kernel_rfl

/-- pagewatch/pagewatchmade.Light -/
abbrev zq5 := {β : Type} → (List Int) → (Bool → Option β) → Option β
def zq6 (c : zq5) : Spec :=
  ⟨[(false, [.data (.slice (.int .i64))])], [], [(false, [.data .bool])], [], fun x k => c x.1.1.1 (fun r0 => k (((r0, ()), ()), ()))⟩
section
@[reducible] def made_Light_X : Ctx := ⟨look tab, pick1 [], false, false, false, false⟩
def zq7 {β : Type} (l : List Int) (k : (Bool → Option β)) : Option β :=
  let t : Bool := (decide ((List.length l : Int) ≤ (500 : Int)));
  k t
theorem zq8 (hΓ : ΓOk Tryz.prog made_Light_X.Γ) : SpecOk Tryz.prog 6 (zq6 (zq7)) :=
  spec_exec (X := made_Light_X) (Λ := pick1 []) (rs := [.tmp 2]) (c := bodyOf Tryz.f6) mixed tab_ok hΓ Tryz.func6 (by kernel_rfl) (by kernel_rfl) (by kernel_rfl) (by kernel_rfl) CutsOk_nil (fun x k r h => Eq.trans (b := (zq6 (zq7)).run x k) (by kernel_rfl) h)
end
theorem zq9Γ : ΓOk Tryz.prog (pick1 []) := ΓOk_nil
def zqa : zq5 := zq7
theorem zqb : SpecOk Tryz.prog 6 (zq6 zqa) := zq8 zq9Γ

/-- pagewatch/pagewatchmade.Roll -/
abbrev zqc := {β : Type} → (List Int) → ((List Int × Int) → Option β) → Option β
def zqd (c : zqc) : Spec :=
  ⟨[(false, [.data (.slice (.int .i64))])], [], [(false, [.ptr 0 0])], [.cells 68 [.data (.prod (.slice (.int .i64)) (.int .i64))]], fun x k => c x.1.1.1 (fun r0 => k (((), ()), ((r0, ()), ())))⟩
section
@[reducible] def made_Roll_X : Ctx := ⟨look tab, pick1 [], false, false, false, false⟩
def zqe {β : Type} (l : List Int) (k : ((List Int × Int) → Option β)) : Option β :=
  k (l, (0 : Int))
theorem zqf (hΓ : ΓOk Tryz.prog made_Roll_X.Γ) : SpecOk Tryz.prog 8 (zqd (zqe)) :=
  spec_exec (X := made_Roll_X) (Λ := pick1 []) (rs := [.tmp 2]) (c := bodyOf Tryz.f8) mixed tab_ok hΓ Tryz.func8 (by kernel_rfl) (by kernel_rfl) (by kernel_rfl) (by kernel_rfl) CutsOk_nil (fun x k r h => Eq.trans (b := (zqd (zqe)).run x k) (by kernel_rfl) h)
end
theorem zqgΓ : ΓOk Tryz.prog (pick1 []) := ΓOk_nil
def zqh : zqc := zqe
theorem zqi : SpecOk Tryz.prog 8 (zqd zqh) := zqf zqgΓ

/-- (*pagewatch/pagewatchmade.Dice).Next -/
abbrev zqj := {β : Type} → Int → (List Int × Int) → (Int → (List Int × Int) → Option β) → Option β
def zqk (c : zqj) : Spec :=
  ⟨[(false, [.ptr 0 0]), (false, [.data (.int .i64)])], [.cells 68 [.data (.prod (.slice (.int .i64)) (.int .i64))]], [(false, [.data (.int .i64)])], [.cells 68 [.data (.prod (.slice (.int .i64)) (.int .i64))]], fun x k => c x.1.2.1.1 x.2.1.1 (fun r0 r1 => k (((r0, ()), ()), ((r1, ()), ())))⟩
section
@[reducible] def made_Dice_Next_X : Ctx := ⟨look tab, pick1 [], false, false, false, false⟩
def zql {β : Type} (n : Int) (d : (List Int × Int)) (k : (Int → (List Int × Int) → Option β)) : Option β :=
  cond (decide ((List.length d.1 : Int) ≤ d.2))
  (k (0 : Int) d)
  (cond (decide (n < (1 : Int)))
  (k (0 : Int) d)
  (cond (decide (0 ≤ d.2) && decide (d.2 < (List.length d.1 : Int)))
  (let e : Int := List.getD d.1 (Int.toNat d.2) (0 : Int);
  cond (!decide (n = 0))
  (cond (decide ((Int.tmod e n) < (0 : Int)))
  (let x : Int := (IntKind.i64.wrap ((Int.tmod e n) + n));
  k x (d.1, (IntKind.i64.wrap (d.2 + (1 : Int)))))
  (k (Int.tmod e n) (d.1, (IntKind.i64.wrap (d.2 + (1 : Int))))))
  none)
  none))
theorem zqm (hΓ : ΓOk Tryz.prog made_Dice_Next_X.Γ) : SpecOk Tryz.prog 22 (zqk (zql)) :=
  spec_exec (X := made_Dice_Next_X) (Λ := pick1 []) (rs := [.tmp 4]) (c := bodyOf Tryz.f22) mixed tab_ok hΓ Tryz.func22 (by kernel_rfl) (by kernel_rfl) (by kernel_rfl) (by kernel_rfl) CutsOk_nil (fun x k r h => Eq.trans (b := (zqk (zql)).run x k) (by kernel_rfl) h)
end
theorem zqnΓ : ΓOk Tryz.prog (pick1 []) := ΓOk_nil
def zqo : zqj := zql
theorem zqp : SpecOk Tryz.prog 22 (zqk zqo) := zqm zqnΓ

/-- (*pagewatch/pagewatchmade.Dice).One -/
abbrev zqq := {β : Type} → (List Int) → (List Int × Int) → (Int → (List Int × Int) → Option β) → Option β
def zqr (c : zqq) : Spec :=
  ⟨[(false, [.ptr 0 0]), (false, [.data (.slice (.int .i64))])], [.cells 68 [.data (.prod (.slice (.int .i64)) (.int .i64))]], [(false, [.data (.int .i64)])], [.cells 68 [.data (.prod (.slice (.int .i64)) (.int .i64))]], fun x k => c x.1.2.1.1 x.2.1.1 (fun r0 r1 => k (((r0, ()), ()), ((r1, ()), ())))⟩
section
variable (c_made_Dice_Next : zqj)
@[reducible] def made_Dice_One_X : Ctx := ⟨look tab, pick1 [(22, .spec (zqk c_made_Dice_Next))], false, false, false, false⟩
def zqs {β : Type} (l : List Int) (d : (List Int × Int)) (k : (Int → (List Int × Int) → Option β)) : Option β :=
  c_made_Dice_Next (List.length l : Int) d (fun (rNext : Int) (mrNext : (List Int × Int)) =>
  cond (decide (0 ≤ rNext) && decide (rNext < (List.length l : Int)))
  (let e : Int := List.getD l (Int.toNat rNext) (0 : Int);
  k e mrNext)
  none)
theorem zqt (hΓ : ΓOk Tryz.prog (made_Dice_One_X c_made_Dice_Next).Γ) : SpecOk Tryz.prog 23 (zqr (zqs c_made_Dice_Next)) :=
  spec_exec (X := (made_Dice_One_X c_made_Dice_Next)) (Λ := pick1 []) (rs := [.tmp 4]) (c := bodyOf Tryz.f23) mixed tab_ok hΓ Tryz.func23 (by kernel_rfl) (by kernel_rfl) (by kernel_rfl) (by kernel_rfl) CutsOk_nil (fun x k r h => Eq.trans (b := (zqr (zqs c_made_Dice_Next)).run x k) (by kernel_rfl) h)
end
theorem zquΓ : ΓOk Tryz.prog (pick1 [(22, .spec (zqk zqo))]) := (ΓOk_cons zqp ΓOk_nil)
def zqv : zqq := zqs zqo
theorem zqw : SpecOk Tryz.prog 23 (zqr zqv) := zqt zqo zquΓ

/-- slices.Equal[[]int,int] -/
abbrev zqx := {β : Type} → (List Int) → (List Int) → (Bool → Option β) → Option β
def zqy (c : zqx) : Spec :=
  ⟨[(false, [.data (.slice (.int .i64))]), (false, [.data (.slice (.int .i64))])], [], [(false, [.data .bool])], [], fun x k => c x.1.1.1 x.1.2.1.1 (fun r0 => k (((r0, ()), ()), ()))⟩
noncomputable def slices_Equal_int_int_p1_code : Code := codeAt 58 (bodyOf Tryz.f29)
abbrev zqz (β : Type) := Bool → Option β
abbrev zq10 (β : Type) := Unit → Option β
abbrev zq11 := {β : Type} → zqz β → zq10 β → (List Int) → (List Int) → Int → Int → Option β
def zq12 : View := ⟨0, [0, 1, 12, 13], [(false, [.data (.slice (.int .i64))]), (false, [.data (.slice (.int .i64))]), (false, [.data (.int .i64)]), (false, [.data (.int .i64)])], []⟩
def zq13 : List (AExit × View) := [(.ret, ⟨0, [4], [(false, [.data .bool])], []⟩), (.exit 0, ⟨0, [], [], []⟩)]
@[reducible] def slices_Equal_int_int_p1_G (p : zq11) {β : Type} (d : zq12.den) (ks : Outs.K β zq13) : Option β :=
  p (fun a0 => ks.1 (((a0, ()), ()), ())) (fun _ => ks.2.1 ((), ())) d.1.1.1 d.1.2.1.1 d.1.2.2.1.1 d.1.2.2.2.1.1
section
@[reducible] def slices_Equal_int_int_X : Ctx := ⟨look tab, pick1 [], false, false, false, false⟩
def zq14 {β : Type} (rec : (List Int) → (List Int) → Int → Int → Option β) (k1 : zqz β) (k2 : zq10 β) (s1 : List Int) (s2 : List Int) (t12 : Int) (t13 : Int) : Option β :=
  cond (decide (t13 < t12))
  (cond (decide (0 ≤ t13) && decide (t13 < (List.length s1 : Int)))
  (let e : Int := List.getD s1 (Int.toNat t13) (0 : Int);
  cond (decide (0 ≤ t13) && decide (t13 < (List.length s2 : Int)))
  (let e2 : Int := List.getD s2 (Int.toNat t13) (0 : Int);
  cond (!decide (e = e2))
  (k1 false)
  (rec s1 s2 t12 (IntKind.i64.wrap (t13 + (1 : Int)))))
  none)
  none)
  (k2 ())
def zq15 {β : Type} : Nat → zqz β → zq10 β → (List Int) → (List Int) → Int → Int → Option β
  | 0 => fun _ _ _ _ _ _ => none
  | i + 1 => fun k1 k2 s1 s2 t12 t13 => zq14 (zq15 i k1 k2) k1 k2 s1 s2 t12 t13
theorem zq16 (hΓ : ΓOk Tryz.prog slices_Equal_int_int_X.Γ) (i : Nat) : PieceOk Tryz.prog 26 0 slices_Equal_int_int_p1_code zq12 zq13 (slices_Equal_int_int_p1_G (zq15 i)) := by
  rw [show slices_Equal_int_int_p1_code = .loop (loopBody slices_Equal_int_int_p1_code) by kernel_rfl]
  exact piece_loop (X := slices_Equal_int_int_X) (p := 1) (Λ := pick1 []) (G := fun i => @fun β d ks => slices_Equal_int_int_p1_G (zq15 i) d ks) mixed tab_ok hΓ rfl (by kernel_rfl) CutsOk_nil (fun _ _ => rfl) (fun i => @fun β d ks r h => Eq.trans (b := slices_Equal_int_int_p1_G (zq15 (i + 1)) d ks) (by kernel_rfl) h) i
def zq17 (p1 : zq11) {β : Type} (s1 : List Int) (s2 : List Int) (k : (Bool → Option β)) : Option β :=
  cond (!decide ((List.length s1 : Int) = (List.length s2 : Int)))
  (k false)
  (p1 (fun (t4 : Bool) =>
  k t4) (fun (_ : Unit) =>
  k true) s1 s2 (List.length s1 : Int) (0 : Int))
theorem zq18 (hΓ : ΓOk Tryz.prog slices_Equal_int_int_X.Γ) (p1 : zq11) (hp1 : PieceOk Tryz.prog 26 0 slices_Equal_int_int_p1_code zq12 zq13 (slices_Equal_int_int_p1_G p1)) : SpecOk Tryz.prog 29 (zqy (zq17 p1)) :=
  spec_exec (X := slices_Equal_int_int_X) (Λ := pick1 [(58, pieceCut zq12 zq13 (slices_Equal_int_int_p1_G p1))]) (rs := [.tmp 4]) (c := bodyOf Tryz.f29) mixed tab_ok hΓ Tryz.func29 (by kernel_rfl) (by kernel_rfl) (by kernel_rfl) (by kernel_rfl) (CutsOk_cons (q := 58) (c' := slices_Equal_int_int_p1_code) (by kernel_rfl) rfl hp1 CutsOk_nil) (fun x k r h => Eq.trans (b := (zqy (zq17 p1)).run x k) (by kernel_rfl) h)
end
theorem zq19Γ : ΓOk Tryz.prog (pick1 []) := ΓOk_nil
def zq1a (m : Nat) : zq11 := zq15 m
theorem zq1b {β : Type} (i : Nat) (k1 k2 s1 s2 t12 t13) : (zq1a (i + 1) k1 k2 s1 s2 t12 t13 : Option β) = zq14 (zq1a i k1 k2) k1 k2 s1 s2 t12 t13 := rfl
def zq1c : zq11 := zq1a fuel
theorem zq1d : PieceOk Tryz.prog 26 0 slices_Equal_int_int_p1_code zq12 zq13 (slices_Equal_int_int_p1_G zq1c) := zq16 zq19Γ fuel
def zq1e : zqx := zq17 zq1c
theorem zq1f : SpecOk Tryz.prog 29 (zqy zq1e) := zq18 zq19Γ zq1c zq1d

/-- pagewatch/pagewatchref25.In -/
abbrev zq1g := {β : Type} → Int → Int → Int → (Bool → Option β) → Option β
def zq1h (c : zq1g) : Spec :=
  ⟨[(false, [.data (.int .i64)]), (false, [.data (.int .i64)]), (false, [.data (.int .i64)])], [], [(false, [.data .bool])], [], fun x k => c x.1.1.1 x.1.2.1.1 x.1.2.2.1.1 (fun r0 => k (((r0, ()), ()), ()))⟩
section
@[reducible] def ref25_In_X : Ctx := ⟨look tab, pick1 [], false, false, false, false⟩
def zq1i {β : Type} (n : Int) (lo : Int) (hi : Int) (k : (Bool → Option β)) : Option β :=
  cond (decide (lo ≤ n))
  (k (decide (n ≤ hi)))
  (k false)
theorem zq1j (hΓ : ΓOk Tryz.prog ref25_In_X.Γ) : SpecOk Tryz.prog 31 (zq1h (zq1i)) :=
  spec_exec (X := ref25_In_X) (Λ := pick1 []) (rs := [.tmp 6]) (c := bodyOf Tryz.f31) mixed tab_ok hΓ Tryz.func31 (by kernel_rfl) (by kernel_rfl) (by kernel_rfl) (by kernel_rfl) CutsOk_nil (fun x k r h => Eq.trans (b := (zq1h (zq1i)).run x k) (by kernel_rfl) h)
end
theorem zq1kΓ : ΓOk Tryz.prog (pick1 []) := ΓOk_nil
def zq1l : zq1g := zq1i
theorem zq1m : SpecOk Tryz.prog 31 (zq1h zq1l) := zq1j zq1kΓ

/-- pagewatch/pagewatchref40.compare -/
abbrev zq1n := {β : Type} → (List (List Int)) → Int → Int → (Int → Option β) → Option β
def zq1o (c : zq1n) : Spec :=
  ⟨[(false, [.data (.slice (.slice (.int .i64)))]), (false, [.data (.int .i64)]), (false, [.data (.int .i64)])], [], [(false, [.data (.int .i64)])], [], fun x k => c x.1.1.1 x.1.2.1.1 x.1.2.2.1.1 (fun r0 => k (((r0, ()), ()), ()))⟩
section
@[reducible] def ref40_compare_X : Ctx := ⟨look tab, pick1 [], false, false, false, false⟩
def zq1p {β : Type} (d : List (List Int)) (a : Int) (b : Int) (k : (Int → Option β)) : Option β :=
  cond (decide (0 ≤ (IntKind.i64.wrap (b + (1 : Int)))) && decide ((IntKind.i64.wrap (b + (1 : Int))) < (List.length d : Int)))
  (let e : List Int := List.getD d (Int.toNat (IntKind.i64.wrap (b + (1 : Int)))) ([] : List Int);
  cond (decide (0 ≤ (IntKind.i64.wrap (a + (1 : Int)))) && decide ((IntKind.i64.wrap (a + (1 : Int))) < (List.length e : Int)))
  (let e2 : Int := List.getD e (Int.toNat (IntKind.i64.wrap (a + (1 : Int)))) (0 : Int);
  let t : Bool := (decide (e2 ≤ (-1 : Int)));
  cond t
  (k (-1 : Int))
  (cond (decide (0 ≤ (IntKind.i64.wrap (a + (1 : Int)))) && decide ((IntKind.i64.wrap (a + (1 : Int))) < (List.length d : Int)))
  (let e3 : List Int := List.getD d (Int.toNat (IntKind.i64.wrap (a + (1 : Int)))) ([] : List Int);
  cond (decide (0 ≤ (IntKind.i64.wrap (b + (1 : Int)))) && decide ((IntKind.i64.wrap (b + (1 : Int))) < (List.length e3 : Int)))
  (let e4 : Int := List.getD e3 (Int.toNat (IntKind.i64.wrap (b + (1 : Int)))) (0 : Int);
  let t2 : Bool := (decide (e4 ≤ (-1 : Int)));
  cond t2
  (k (1 : Int))
  (k (0 : Int)))
  none)
  none))
  none)
  none
theorem zq1q (hΓ : ΓOk Tryz.prog ref40_compare_X.Γ) : SpecOk Tryz.prog 32 (zq1o (zq1p)) :=
  spec_exec (X := ref40_compare_X) (Λ := pick1 []) (rs := [.tmp 6]) (c := bodyOf Tryz.f32) mixed tab_ok hΓ Tryz.func32 (by kernel_rfl) (by kernel_rfl) (by kernel_rfl) (by kernel_rfl) CutsOk_nil (fun x k r h => Eq.trans (b := (zq1o (zq1p)).run x k) (by kernel_rfl) h)
end
theorem zq1rΓ : ΓOk Tryz.prog (pick1 []) := ΓOk_nil
def zq1s : zq1n := zq1p
theorem zq1t : SpecOk Tryz.prog 32 (zq1o zq1s) := zq1q zq1rΓ

/-- pagewatch/timeline.in -/
abbrev zq1u := {β : Type} → Int → Int → Int → (Bool → Option β) → Option β
def zq1v (c : zq1u) : Spec :=
  ⟨[(false, [.data (.int .i64)]), (false, [.data (.int .i64)]), (false, [.data (.int .i64)])], [], [(false, [.data .bool])], [], fun x k => c x.1.1.1 x.1.2.1.1 x.1.2.2.1.1 (fun r0 => k (((r0, ()), ()), ()))⟩
section
@[reducible] def timeline_in_X : Ctx := ⟨look tab, pick1 [], false, false, false, false⟩
def zq1w {β : Type} (n : Int) (low : Int) (high : Int) (k : (Bool → Option β)) : Option β :=
  cond (decide (low ≤ n))
  (k (decide (n ≤ high)))
  (k false)
theorem zq1x (hΓ : ΓOk Tryz.prog timeline_in_X.Γ) : SpecOk Tryz.prog 38 (zq1v (zq1w)) :=
  spec_exec (X := timeline_in_X) (Λ := pick1 []) (rs := [.tmp 6]) (c := bodyOf Tryz.f38) mixed tab_ok hΓ Tryz.func38 (by kernel_rfl) (by kernel_rfl) (by kernel_rfl) (by kernel_rfl) CutsOk_nil (fun x k r h => Eq.trans (b := (zq1v (zq1w)).run x k) (by kernel_rfl) h)
end
theorem zq1yΓ : ΓOk Tryz.prog (pick1 []) := ΓOk_nil
def zq1z : zq1u := zq1w
theorem zq20 : SpecOk Tryz.prog 38 (zq1v zq1z) := zq1x zq1yΓ

/-- pagewatch/timeline.printed -/
abbrev zq21 := {β : Type} → (List UInt8) → Int → (Bool → Option β) → Option β
def zq22 (c : zq21) : Spec :=
  ⟨[(false, [.data .str]), (false, [.data (.int .u8)])], [], [(false, [.data .bool])], [], fun x k => c x.1.1.1 x.1.2.1.1 (fun r0 => k (((r0, ()), ()), ()))⟩
noncomputable def timeline_printed_p1_code : Code := codeAt 26 (bodyOf Tryz.f39)
abbrev zq23 (β : Type) := Bool → Option β
abbrev zq24 (β : Type) := (List UInt8) → Option β
abbrev zq25 := {β : Type} → zq23 β → zq24 β → (List UInt8) → Int → Int → Int → Option β
def zq26 : View := ⟨0, [0, 1, 7, 8], [(false, [.data .str]), (false, [.data (.int .u8)]), (false, [.data (.int .i64)]), (false, [.data (.int .i64)])], []⟩
def zq27 : List (AExit × View) := [(.ret, ⟨0, [4], [(false, [.data .bool])], []⟩), (.exit 0, ⟨0, [0], [(false, [.data .str])], []⟩)]
@[reducible] def timeline_printed_p1_G (p : zq25) {β : Type} (d : zq26.den) (ks : Outs.K β zq27) : Option β :=
  p (fun a0 => ks.1 (((a0, ()), ()), ())) (fun a0 => ks.2.1 (((a0, ()), ()), ())) d.1.1.1 d.1.2.1.1 d.1.2.2.1.1 d.1.2.2.2.1.1
section
@[reducible] def timeline_printed_X : Ctx := ⟨look tab, pick1 [], false, false, false, false⟩
def zq28 {β : Type} (rec : (List UInt8) → Int → Int → Int → Option β) (k1 : zq23 β) (k2 : zq24 β) (s : List UInt8) (least : Int) (t7 : Int) (t8 : Int) : Option β :=
  cond (decide (t8 < t7))
  (cond (decide (0 ≤ t8) && decide (t8 < (List.length s : Int)))
  (cond (decide (((List.getD s (Int.toNat t8) 0).toNat : Int) < least))
  (k1 false)
  (cond (decide (0 ≤ t8) && decide (t8 < (List.length s : Int)))
  (cond (decide ((126 : Int) < ((List.getD s (Int.toNat t8) 0).toNat : Int)))
  (k1 false)
  (rec s least t7 (IntKind.i64.wrap (t8 + (1 : Int)))))
  none))
  none)
  (k2 s)
def zq29 {β : Type} : Nat → zq23 β → zq24 β → (List UInt8) → Int → Int → Int → Option β
  | 0 => fun _ _ _ _ _ _ => none
  | i + 1 => fun k1 k2 s least t7 t8 => zq28 (zq29 i k1 k2) k1 k2 s least t7 t8
theorem zq2a (hΓ : ΓOk Tryz.prog timeline_printed_X.Γ) (i : Nat) : PieceOk Tryz.prog 25 0 timeline_printed_p1_code zq26 zq27 (timeline_printed_p1_G (zq29 i)) := by
  rw [show timeline_printed_p1_code = .loop (loopBody timeline_printed_p1_code) by kernel_rfl]
  exact piece_loop (X := timeline_printed_X) (p := 1) (Λ := pick1 []) (G := fun i => @fun β d ks => timeline_printed_p1_G (zq29 i) d ks) mixed tab_ok hΓ rfl (by kernel_rfl) CutsOk_nil (fun _ _ => rfl) (fun i => @fun β d ks r h => Eq.trans (b := timeline_printed_p1_G (zq29 (i + 1)) d ks) (by kernel_rfl) h) i
def zq2b (p1 : zq25) {β : Type} (s : List UInt8) (least : Int) (k : (Bool → Option β)) : Option β :=
  p1 (fun (t4 : Bool) =>
  k t4) (fun (s2 : List UInt8) =>
  let t : Bool := (!decide (s2 = ([] : List UInt8)));
  k t) s least (List.length s : Int) (0 : Int)
theorem zq2c (hΓ : ΓOk Tryz.prog timeline_printed_X.Γ) (p1 : zq25) (hp1 : PieceOk Tryz.prog 25 0 timeline_printed_p1_code zq26 zq27 (timeline_printed_p1_G p1)) : SpecOk Tryz.prog 39 (zq22 (zq2b p1)) :=
  spec_exec (X := timeline_printed_X) (Λ := pick1 [(26, pieceCut zq26 zq27 (timeline_printed_p1_G p1))]) (rs := [.tmp 4]) (c := bodyOf Tryz.f39) mixed tab_ok hΓ Tryz.func39 (by kernel_rfl) (by kernel_rfl) (by kernel_rfl) (by kernel_rfl) (CutsOk_cons (q := 26) (c' := timeline_printed_p1_code) (by kernel_rfl) rfl hp1 CutsOk_nil) (fun x k r h => Eq.trans (b := (zq22 (zq2b p1)).run x k) (by kernel_rfl) h)
end
theorem zq2dΓ : ΓOk Tryz.prog (pick1 []) := ΓOk_nil
def zq2e (m : Nat) : zq25 := zq29 m
theorem zq2f {β : Type} (i : Nat) (k1 k2 s least t7 t8) : (zq2e (i + 1) k1 k2 s least t7 t8 : Option β) = zq28 (zq2e i k1 k2) k1 k2 s least t7 t8 := rfl
def zq2g : zq25 := zq2e fuel
theorem zq2h : PieceOk Tryz.prog 25 0 timeline_printed_p1_code zq26 zq27 (timeline_printed_p1_G zq2g) := zq2a zq2dΓ fuel
def zq2i : zq21 := zq2b zq2g
theorem zq2j : SpecOk Tryz.prog 39 (zq22 zq2i) := zq2c zq2dΓ zq2g zq2h

/-- (*strings.Builder).WriteString -/
def zq2k : Shelf.Ren :=
      { 
      f := fun x =>
        match x with
        | 166 => 40
        | 240 => 66
        | 276 => 79
        | n => n,
      t := fun x =>
        match x with
        | 70 => 92
        | 9 => 9
        | 0 => 0
        | 72 => 95
        | 37 => 93
        | 127 => 126
        | 3 => 3
        | 5 => 5
        | 80 => 103
        | 4 => 4
        | 164 => 136
        | 20 => 20
        | 75 => 98
        | n => n,
      g := fun x => x }
theorem zq2l : Go.Proofs.Lays.n166 Tryz.prog zq2k :=
  { mixed := by kernel_rfl,
    f166 := Eq.trans Tryz.func40 (congrArg some (by kernel_rfl)),
    f240 := Eq.trans Tryz.func66 (congrArg some (by kernel_rfl)),
    f276 := Eq.trans Tryz.func79 (congrArg some (by kernel_rfl)),
    t0 := Tryz.underlying0,
    a0 := Tryz.isAgg0,
    z0 := Tryz.sizeOf0,
    v0 := Tryz.zeroValue0,
    t3 := Tryz.underlying3,
    a3 := Tryz.isAgg3,
    z3 := Tryz.sizeOf3,
    v3 := Tryz.zeroValue3,
    t4 := Tryz.underlying4,
    a4 := Tryz.isAgg4,
    z4 := Tryz.sizeOf4,
    v4 := Tryz.zeroValue4,
    t9 := Tryz.underlying9,
    a9 := Tryz.isAgg9,
    z9 := Tryz.sizeOf9,
    v9 := Tryz.zeroValue9,
    t20 := Tryz.underlying20,
    a20 := Tryz.isAgg20,
    z20 := Tryz.sizeOf20,
    v20 := Tryz.zeroValue20,
    t37 := Tryz.underlying93,
    a37 := Tryz.isAgg93,
    z37 := Tryz.sizeOf93,
    v37 := Tryz.zeroValue93,
    t70 := Tryz.underlying92,
    a70 := Tryz.isAgg92,
    z70 := Tryz.sizeOf92,
    v70 := Tryz.zeroValue92,
    t72 := Tryz.underlying95,
    a72 := Tryz.isAgg95,
    z72 := Tryz.sizeOf95,
    v72 := Tryz.zeroValue95,
    t75 := Tryz.underlying98,
    a75 := Tryz.isAgg98,
    z75 := Tryz.sizeOf98,
    v75 := Tryz.zeroValue98,
    t164 := Tryz.underlying136,
    a164 := Tryz.isAgg136,
    z164 := Tryz.sizeOf136,
    v164 := Tryz.zeroValue136 }
def zq2m : BldF := ⟨95, 5, 0⟩
theorem zq2n : BldOk Tryz.prog 40 zq2m :=
  bldWrite_ok zq2l { sizeBuilder := by kernel_rfl, liesBuilder := by kernel_rfl, t5 := Tryz.underlying5, a5 := Tryz.isAgg5, z5 := Tryz.sizeOf5, v5 := Tryz.zeroValue5, infoByte := by kernel_rfl, cellsByte := by kernel_rfl, sizeByte := by kernel_rfl, neB5 := by decide } rfl rfl rfl ⟨_, Tryz.func40, by kernel_rfl, by kernel_rfl⟩

/-- strconv.Itoa -/
def zq2o : Shelf.Ren :=
      { 
      f := fun x =>
        match x with
        | 171 => 41
        | 243 => 67
        | 246 => 80
        | 283 => 96
        | 284 => 97
        | 285 => 98
        | 286 => 99
        | 129 => 95
        | 317 => 113
        | 318 => 114
        | 319 => 115
        | 320 => 116
        | 337 => 120
        | 338 => 121
        | n => n,
      t := fun x =>
        match x with
        | 3 => 3
        | 9 => 9
        | 2 => 2
        | 4 => 4
        | 171 => 152
        | 0 => 0
        | 53 => 151
        | 37 => 93
        | 5 => 5
        | 173 => 154
        | 212 => 165
        | 51 => 149
        | 20 => 20
        | 213 => 166
        | 46 => 130
        | 232 => 171
        | 233 => 172
        | n => n,
      g := fun x =>
        match x with
        | 17 => 0
        | 18 => 1
        | 19 => 2
        | n => n }
theorem zq2p : Go.Proofs.LaysM.n171 Tryz.prog zq2o :=
  { mixed := by kernel_rfl,
    f129 := Eq.trans Tryz.func95 (congrArg some (by kernel_rfl)),
    f171 := Eq.trans Tryz.func41 (congrArg some (by kernel_rfl)),
    f243 := Eq.trans Tryz.func67 (congrArg some (by kernel_rfl)),
    f246 := Eq.trans Tryz.func80 (congrArg some (by kernel_rfl)),
    f283 := Eq.trans Tryz.func96 (congrArg some (by kernel_rfl)),
    f284 := Eq.trans Tryz.func97 (congrArg some (by kernel_rfl)),
    f285 := Eq.trans Tryz.func98 (congrArg some (by kernel_rfl)),
    f286 := Eq.trans Tryz.func99 (congrArg some (by kernel_rfl)),
    f317 := Eq.trans Tryz.func113 (congrArg some (by kernel_rfl)),
    f318 := Eq.trans Tryz.func114 (congrArg some (by kernel_rfl)),
    f319 := Eq.trans Tryz.func115 (congrArg some (by kernel_rfl)),
    f320 := Eq.trans Tryz.func116 (congrArg some (by kernel_rfl)),
    f337 := Eq.trans Tryz.func120 (congrArg some (by kernel_rfl)),
    f338 := Eq.trans Tryz.func121 (congrArg some (by kernel_rfl)),
    t0 := Tryz.underlying0,
    a0 := Tryz.isAgg0,
    z0 := Tryz.sizeOf0,
    v0 := Tryz.zeroValue0,
    t2 := Tryz.underlying2,
    a2 := Tryz.isAgg2,
    z2 := Tryz.sizeOf2,
    v2 := Tryz.zeroValue2,
    t3 := Tryz.underlying3,
    a3 := Tryz.isAgg3,
    z3 := Tryz.sizeOf3,
    v3 := Tryz.zeroValue3,
    t4 := Tryz.underlying4,
    a4 := Tryz.isAgg4,
    z4 := Tryz.sizeOf4,
    v4 := Tryz.zeroValue4,
    t5 := Tryz.underlying5,
    a5 := Tryz.isAgg5,
    z5 := Tryz.sizeOf5,
    v5 := Tryz.zeroValue5,
    t9 := Tryz.underlying9,
    a9 := Tryz.isAgg9,
    z9 := Tryz.sizeOf9,
    v9 := Tryz.zeroValue9,
    t20 := Tryz.underlying20,
    a20 := Tryz.isAgg20,
    z20 := Tryz.sizeOf20,
    v20 := Tryz.zeroValue20,
    t37 := Tryz.underlying93,
    a37 := Tryz.isAgg93,
    z37 := Tryz.sizeOf93,
    v37 := Tryz.zeroValue93,
    t46 := Tryz.underlying130,
    a46 := Tryz.isAgg130,
    z46 := Tryz.sizeOf130,
    v46 := Tryz.zeroValue130,
    t51 := Tryz.underlying149,
    a51 := Tryz.isAgg149,
    z51 := Tryz.sizeOf149,
    v51 := Tryz.zeroValue149,
    t53 := Tryz.underlying151,
    a53 := Tryz.isAgg151,
    z53 := Tryz.sizeOf151,
    v53 := Tryz.zeroValue151,
    t171 := Tryz.underlying152,
    a171 := Tryz.isAgg152,
    z171 := Tryz.sizeOf152,
    v171 := Tryz.zeroValue152,
    t173 := Tryz.underlying154,
    a173 := Tryz.isAgg154,
    z173 := Tryz.sizeOf154,
    v173 := Tryz.zeroValue154,
    t212 := Tryz.underlying165,
    a212 := Tryz.isAgg165,
    z212 := Tryz.sizeOf165,
    v212 := Tryz.zeroValue165,
    t213 := Tryz.underlying166,
    a213 := Tryz.isAgg166,
    z213 := Tryz.sizeOf166,
    t232 := Tryz.underlying171,
    a232 := Tryz.isAgg171,
    z232 := Tryz.sizeOf171,
    v232 := Tryz.zeroValue171,
    t233 := Tryz.underlying172,
    a233 := Tryz.isAgg172,
    z233 := Tryz.sizeOf172,
    v233 := Tryz.zeroValue172,
    g17 := by kernel_rfl,
    g18 := by kernel_rfl,
    g19 := by kernel_rfl,
    i0 := by kernel_rfl,
    i2 := by kernel_rfl,
    i3 := by kernel_rfl,
    i4 := by kernel_rfl,
    i5 := by kernel_rfl,
    i9 := by kernel_rfl,
    i20 := by kernel_rfl,
    i37 := by kernel_rfl,
    i46 := by kernel_rfl,
    i51 := by kernel_rfl,
    i53 := by kernel_rfl,
    i171 := by kernel_rfl,
    i173 := by kernel_rfl,
    i212 := by kernel_rfl,
    i232 := by kernel_rfl,
    i233 := by kernel_rfl,
    m17 := by kernel_rfl,
    m18 := by kernel_rfl,
    m19 := by kernel_rfl }
abbrev zq2q := itoaT
def zq2r (c : zq2q) : Spec := itoaS c
def zq2s : zq2q := fun x k => itoaF x k
theorem zq2t : SpecOk Tryz.prog 41 (zq2r zq2s) :=
  itoa_ok zq2p rfl (g := 0) (by kernel_rfl) ⟨_, Tryz.func41, by kernel_rfl, by kernel_rfl⟩

/-- (*strings.Builder).Len -/
def zq2u : Shelf.Ren :=
      { 
      f := fun x =>
        match x with
        | 170 => 42
        | n => n,
      t := fun x =>
        match x with
        | 70 => 92
        | 3 => 3
        | 0 => 0
        | 72 => 95
        | 37 => 93
        | 5 => 5
        | n => n,
      g := fun x => x }
theorem zq2v : Go.Proofs.Lays.n170 Tryz.prog zq2u :=
  { mixed := by kernel_rfl,
    f170 := Eq.trans Tryz.func42 (congrArg some (by kernel_rfl)),
    t0 := Tryz.underlying0,
    a0 := Tryz.isAgg0,
    z0 := Tryz.sizeOf0,
    v0 := Tryz.zeroValue0,
    t3 := Tryz.underlying3,
    a3 := Tryz.isAgg3,
    z3 := Tryz.sizeOf3,
    v3 := Tryz.zeroValue3,
    t37 := Tryz.underlying93,
    a37 := Tryz.isAgg93,
    z37 := Tryz.sizeOf93,
    v37 := Tryz.zeroValue93,
    t70 := Tryz.underlying92,
    a70 := Tryz.isAgg92,
    z70 := Tryz.sizeOf92,
    v70 := Tryz.zeroValue92,
    t72 := Tryz.underlying95,
    a72 := Tryz.isAgg95,
    z72 := Tryz.sizeOf95,
    v72 := Tryz.zeroValue95 }
def zq2w : BldF := ⟨95, 5, 2⟩
theorem zq2x : BldOk Tryz.prog 42 zq2w :=
  bldLen_ok zq2v rfl rfl rfl ⟨_, Tryz.func42, by kernel_rfl, by kernel_rfl⟩

/-- (*strings.Builder).String -/
def zq2y : Shelf.Ren :=
      { 
      f := fun x =>
        match x with
        | 169 => 43
        | n => n,
      t := fun x =>
        match x with
        | 70 => 92
        | 9 => 9
        | 0 => 0
        | 72 => 95
        | 37 => 93
        | 127 => 126
        | 3 => 3
        | 5 => 5
        | n => n,
      g := fun x => x }
theorem zq2z : Go.Proofs.Lays.n169 Tryz.prog zq2y :=
  { mixed := by kernel_rfl,
    f169 := Eq.trans Tryz.func43 (congrArg some (by kernel_rfl)),
    t0 := Tryz.underlying0,
    a0 := Tryz.isAgg0,
    z0 := Tryz.sizeOf0,
    v0 := Tryz.zeroValue0,
    t3 := Tryz.underlying3,
    a3 := Tryz.isAgg3,
    z3 := Tryz.sizeOf3,
    v3 := Tryz.zeroValue3,
    t9 := Tryz.underlying9,
    a9 := Tryz.isAgg9,
    z9 := Tryz.sizeOf9,
    v9 := Tryz.zeroValue9,
    t37 := Tryz.underlying93,
    a37 := Tryz.isAgg93,
    z37 := Tryz.sizeOf93,
    v37 := Tryz.zeroValue93,
    t70 := Tryz.underlying92,
    a70 := Tryz.isAgg92,
    z70 := Tryz.sizeOf92,
    v70 := Tryz.zeroValue92,
    t72 := Tryz.underlying95,
    a72 := Tryz.isAgg95,
    z72 := Tryz.sizeOf95,
    v72 := Tryz.zeroValue95,
    t127 := Tryz.underlying126,
    a127 := Tryz.isAgg126,
    z127 := Tryz.sizeOf126,
    v127 := Tryz.zeroValue126 }
def zq30 : BldF := ⟨95, 5, 1⟩
theorem zq31 : BldOk Tryz.prog 43 zq30 :=
  bldString_ok zq2z { sizeBuilder := by kernel_rfl, liesBuilder := by kernel_rfl, t5 := Tryz.underlying5, a5 := Tryz.isAgg5, z5 := Tryz.sizeOf5, v5 := Tryz.zeroValue5, infoByte := by kernel_rfl, cellsByte := by kernel_rfl, sizeByte := by kernel_rfl, neB5 := by decide } rfl rfl rfl ⟨_, Tryz.func43, by kernel_rfl, by kernel_rfl⟩

/-- (pagewatch/order.matrix).before -/
abbrev zq32 := {β : Type} → (List (List Int)) → Int → Int → (Bool → Option β) → Option β
def zq33 (c : zq32) : Spec :=
  ⟨[(false, [.data (.slice (.slice (.int .i64)))]), (false, [.data (.int .i64)]), (false, [.data (.int .i64)])], [], [(false, [.data .bool])], [], fun x k => c x.1.1.1 x.1.2.1.1 x.1.2.2.1.1 (fun r0 => k (((r0, ()), ()), ()))⟩
section
@[reducible] def order_matrix_before_X : Ctx := ⟨look tab, pick1 [], false, false, false, false⟩
def zq34 {β : Type} (m : List (List Int)) (a : Int) (b : Int) (k : (Bool → Option β)) : Option β :=
  cond (decide (0 ≤ (IntKind.i64.wrap (b + (1 : Int)))) && decide ((IntKind.i64.wrap (b + (1 : Int))) < (List.length m : Int)))
  (let e : List Int := List.getD m (Int.toNat (IntKind.i64.wrap (b + (1 : Int)))) ([] : List Int);
  cond (decide (0 ≤ (IntKind.i64.wrap (a + (1 : Int)))) && decide ((IntKind.i64.wrap (a + (1 : Int))) < (List.length e : Int)))
  (let e2 : Int := List.getD e (Int.toNat (IntKind.i64.wrap (a + (1 : Int)))) (0 : Int);
  let t : Bool := (decide (e2 ≤ (-1 : Int)));
  k t)
  none)
  none
theorem zq35 (hΓ : ΓOk Tryz.prog order_matrix_before_X.Γ) : SpecOk Tryz.prog 45 (zq33 (zq34)) :=
  spec_exec (X := order_matrix_before_X) (Λ := pick1 []) (rs := [.tmp 6]) (c := bodyOf Tryz.f45) mixed tab_ok hΓ Tryz.func45 (by kernel_rfl) (by kernel_rfl) (by kernel_rfl) (by kernel_rfl) CutsOk_nil (fun x k r h => Eq.trans (b := (zq33 (zq34)).run x k) (by kernel_rfl) h)
end
theorem zq36Γ : ΓOk Tryz.prog (pick1 []) := ΓOk_nil
def zq37 : zq32 := zq34
theorem zq38 : SpecOk Tryz.prog 45 (zq33 zq37) := zq35 zq36Γ

/-- slices.Sort[[]int,int] -/
def zq39 : Shelf.Ren :=
      { 
      f := fun x =>
        match x with
        | 189 => 49
        | 125 => 73
        | 257 => 72
        | 128 => 94
        | 129 => 95
        | 294 => 85
        | 295 => 86
        | 296 => 87
        | 297 => 88
        | 298 => 89
        | 299 => 90
        | 216 => 91
        | 300 => 92
        | 301 => 93
        | 328 => 107
        | 329 => 108
        | 330 => 109
        | 331 => 110
        | 332 => 111
        | 215 => 112
        | 343 => 119
        | n => n,
      t := fun x =>
        match x with
        | 28 => 22
        | 3 => 3
        | 46 => 130
        | 0 => 0
        | 51 => 149
        | 53 => 151
        | 4 => 4
        | 183 => 143
        | 182 => 142
        | 131 => 44
        | 5 => 5
        | 9 => 9
        | 218 => 158
        | 222 => 162
        | 228 => 169
        | 229 => 123
        | n => n,
      g := fun x => x }
theorem zq3a : Go.Proofs.Lays.n189 Tryz.prog zq39 :=
  { mixed := by kernel_rfl,
    f125 := Eq.trans Tryz.func73 (congrArg some (by kernel_rfl)),
    f128 := Eq.trans Tryz.func94 (congrArg some (by kernel_rfl)),
    f129 := Eq.trans Tryz.func95 (congrArg some (by kernel_rfl)),
    f189 := Eq.trans Tryz.func49 (congrArg some (by kernel_rfl)),
    f215 := Eq.trans Tryz.func112 (congrArg some (by kernel_rfl)),
    f216 := Eq.trans Tryz.func91 (congrArg some (by kernel_rfl)),
    f257 := Eq.trans Tryz.func72 (congrArg some (by kernel_rfl)),
    f294 := Eq.trans Tryz.func85 (congrArg some (by kernel_rfl)),
    f295 := Eq.trans Tryz.func86 (congrArg some (by kernel_rfl)),
    f296 := Eq.trans Tryz.func87 (congrArg some (by kernel_rfl)),
    f297 := Eq.trans Tryz.func88 (congrArg some (by kernel_rfl)),
    f298 := Eq.trans Tryz.func89 (congrArg some (by kernel_rfl)),
    f299 := Eq.trans Tryz.func90 (congrArg some (by kernel_rfl)),
    f300 := Eq.trans Tryz.func92 (congrArg some (by kernel_rfl)),
    f301 := Eq.trans Tryz.func93 (congrArg some (by kernel_rfl)),
    f328 := Eq.trans Tryz.func107 (congrArg some (by kernel_rfl)),
    f329 := Eq.trans Tryz.func108 (congrArg some (by kernel_rfl)),
    f330 := Eq.trans Tryz.func109 (congrArg some (by kernel_rfl)),
    f331 := Eq.trans Tryz.func110 (congrArg some (by kernel_rfl)),
    f332 := Eq.trans Tryz.func111 (congrArg some (by kernel_rfl)),
    f343 := Eq.trans Tryz.func119 (congrArg some (by kernel_rfl)),
    t0 := Tryz.underlying0,
    a0 := Tryz.isAgg0,
    z0 := Tryz.sizeOf0,
    v0 := Tryz.zeroValue0,
    t3 := Tryz.underlying3,
    a3 := Tryz.isAgg3,
    z3 := Tryz.sizeOf3,
    v3 := Tryz.zeroValue3,
    t4 := Tryz.underlying4,
    a4 := Tryz.isAgg4,
    z4 := Tryz.sizeOf4,
    v4 := Tryz.zeroValue4,
    t5 := Tryz.underlying5,
    a5 := Tryz.isAgg5,
    z5 := Tryz.sizeOf5,
    v5 := Tryz.zeroValue5,
    t9 := Tryz.underlying9,
    a9 := Tryz.isAgg9,
    z9 := Tryz.sizeOf9,
    v9 := Tryz.zeroValue9,
    t28 := Tryz.underlying22,
    a28 := Tryz.isAgg22,
    z28 := Tryz.sizeOf22,
    v28 := Tryz.zeroValue22,
    t46 := Tryz.underlying130,
    a46 := Tryz.isAgg130,
    z46 := Tryz.sizeOf130,
    v46 := Tryz.zeroValue130,
    t51 := Tryz.underlying149,
    a51 := Tryz.isAgg149,
    z51 := Tryz.sizeOf149,
    v51 := Tryz.zeroValue149,
    t53 := Tryz.underlying151,
    a53 := Tryz.isAgg151,
    z53 := Tryz.sizeOf151,
    v53 := Tryz.zeroValue151,
    t131 := Tryz.underlying44,
    a131 := Tryz.isAgg44,
    z131 := Tryz.sizeOf44,
    v131 := Tryz.zeroValue44,
    t182 := Tryz.underlying142,
    a182 := Tryz.isAgg142,
    z182 := Tryz.sizeOf142,
    v182 := Tryz.zeroValue142,
    t183 := Tryz.underlying143,
    a183 := Tryz.isAgg143,
    z183 := Tryz.sizeOf143,
    v183 := Tryz.zeroValue143,
    t218 := Tryz.underlying158,
    a218 := Tryz.isAgg158,
    z218 := Tryz.sizeOf158,
    v218 := Tryz.zeroValue158,
    t222 := Tryz.underlying162,
    a222 := Tryz.isAgg162,
    z222 := Tryz.sizeOf162,
    v222 := Tryz.zeroValue162,
    t228 := Tryz.underlying169,
    a228 := Tryz.isAgg169,
    z228 := Tryz.sizeOf169,
    v228 := Tryz.zeroValue169,
    t229 := Tryz.underlying123,
    a229 := Tryz.isAgg123,
    z229 := Tryz.sizeOf123,
    v229 := Tryz.zeroValue123 }
def zq3b : RowF := sortF 3
theorem zq3c : RowOk Tryz.prog 49 zq3b :=
  sort_rowok zq3a rfl ⟨_, Tryz.func49, by kernel_rfl, by kernel_rfl⟩

/-- pagewatch/order.in -/
abbrev zq3d := {β : Type} → Int → Int → Int → (Bool → Option β) → Option β
def zq3e (c : zq3d) : Spec :=
  ⟨[(false, [.data (.int .i64)]), (false, [.data (.int .i64)]), (false, [.data (.int .i64)])], [], [(false, [.data .bool])], [], fun x k => c x.1.1.1 x.1.2.1.1 x.1.2.2.1.1 (fun r0 => k (((r0, ()), ()), ()))⟩
section
@[reducible] def order_in_X : Ctx := ⟨look tab, pick1 [], false, false, false, false⟩
def zq3f {β : Type} (n : Int) (low : Int) (high : Int) (k : (Bool → Option β)) : Option β :=
  cond (decide (low ≤ n))
  (k (decide (n ≤ high)))
  (k false)
theorem zq3g (hΓ : ΓOk Tryz.prog order_in_X.Γ) : SpecOk Tryz.prog 50 (zq3e (zq3f)) :=
  spec_exec (X := order_in_X) (Λ := pick1 []) (rs := [.tmp 6]) (c := bodyOf Tryz.f50) mixed tab_ok hΓ Tryz.func50 (by kernel_rfl) (by kernel_rfl) (by kernel_rfl) (by kernel_rfl) CutsOk_nil (fun x k r h => Eq.trans (b := (zq3e (zq3f)).run x k) (by kernel_rfl) h)
end
theorem zq3hΓ : ΓOk Tryz.prog (pick1 []) := ΓOk_nil
def zq3i : zq3d := zq3f
theorem zq3j : SpecOk Tryz.prog 50 (zq3e zq3i) := zq3g zq3hΓ

/-- pagewatch/order.Allows$1 -/
abbrev zq3k := {β : Type} → Int → (List (List Int)) → Int → (Bool → (List (List Int)) → Int → Option β) → Option β
def zq3l (c : zq3k) : Spec :=
  ⟨[(false, [.data (.int .i64)]), (false, [.ptr 0 0]), (false, [.ptr 1 0])], [.cells 104 [.data (.slice (.slice (.int .i64)))], .cells 3 [.data (.int .i64)]], [(false, [.data .bool])], [.cells 104 [.data (.slice (.slice (.int .i64)))], .cells 3 [.data (.int .i64)]], fun x k => c x.1.1.1 x.2.1.1 x.2.2.1.1 (fun r0 r1 r2 => k (((r0, ()), ()), ((r1, ()), (r2, ()), ())))⟩
section
variable (c_order_matrix_before : zq32)
@[reducible] def order_Allows_f1_X : Ctx := ⟨look tab, pick1 [(45, .spec (zq33 c_order_matrix_before))], false, false, false, false⟩
def zq3m {β : Type} (y : Int) (t1 : List (List Int)) (t2 : Int) (k : (Bool → (List (List Int)) → Int → Option β)) : Option β :=
  c_order_matrix_before t1 t2 y (fun (rbefore : Bool) =>
  k rbefore t1 t2)
theorem zq3n (hΓ : ΓOk Tryz.prog (order_Allows_f1_X c_order_matrix_before).Γ) : SpecOk Tryz.prog 53 (zq3l (zq3m c_order_matrix_before)) :=
  spec_exec (X := (order_Allows_f1_X c_order_matrix_before)) (Λ := pick1 []) (rs := [.tmp 4]) (c := bodyOf Tryz.f53) mixed tab_ok hΓ Tryz.func53 (by kernel_rfl) (by kernel_rfl) (by kernel_rfl) (by kernel_rfl) CutsOk_nil (fun x k r h => Eq.trans (b := (zq3l (zq3m c_order_matrix_before)).run x k) (by kernel_rfl) h)
end
theorem zq3oΓ : ΓOk Tryz.prog (pick1 [(45, .spec (zq33 zq37))]) := (ΓOk_cons zq38 ΓOk_nil)
def zq3p : zq3k := zq3m zq37
theorem zq3q : SpecOk Tryz.prog 53 (zq3l zq3p) := zq3n zq37 zq3oΓ

/-- pagewatch/clock.in -/
abbrev zq3r := {β : Type} → Int → Int → Int → (Bool → Option β) → Option β
def zq3s (c : zq3r) : Spec :=
  ⟨[(false, [.data (.int .i64)]), (false, [.data (.int .i64)]), (false, [.data (.int .i64)])], [], [(false, [.data .bool])], [], fun x k => c x.1.1.1 x.1.2.1.1 x.1.2.2.1.1 (fun r0 => k (((r0, ()), ()), ()))⟩
section
@[reducible] def clock_in_X : Ctx := ⟨look tab, pick1 [], false, false, false, false⟩
def zq3t {β : Type} (n : Int) (low : Int) (high : Int) (k : (Bool → Option β)) : Option β :=
  cond (decide (low ≤ n))
  (k (decide (n ≤ high)))
  (k false)
theorem zq3u (hΓ : ΓOk Tryz.prog clock_in_X.Γ) : SpecOk Tryz.prog 55 (zq3s (zq3t)) :=
  spec_exec (X := clock_in_X) (Λ := pick1 []) (rs := [.tmp 6]) (c := bodyOf Tryz.f55) mixed tab_ok hΓ Tryz.func55 (by kernel_rfl) (by kernel_rfl) (by kernel_rfl) (by kernel_rfl) CutsOk_nil (fun x k r h => Eq.trans (b := (zq3s (zq3t)).run x k) (by kernel_rfl) h)
end
theorem zq3vΓ : ΓOk Tryz.prog (pick1 []) := ΓOk_nil
def zq3w : zq3r := zq3t
theorem zq3x : SpecOk Tryz.prog 55 (zq3s zq3w) := zq3u zq3vΓ

/-- pagewatch/clock.instant -/
abbrev zq3y := {β : Type} → Int → (Bool → Option β) → Option β
def zq3z (c : zq3y) : Spec :=
  ⟨[(false, [.data (.int .i64)])], [], [(false, [.data .bool])], [], fun x k => c x.1.1.1 (fun r0 => k (((r0, ()), ()), ()))⟩
section
variable (c_clock_in : zq3r)
@[reducible] def clock_instant_X : Ctx := ⟨look tab, pick1 [(55, .spec (zq3s c_clock_in))], false, false, false, false⟩
def zq40 {β : Type} (n : Int) (k : (Bool → Option β)) : Option β :=
  c_clock_in n (0 : Int) (8589934592 : Int) (fun (rin : Bool) =>
  k rin)
theorem zq41 (hΓ : ΓOk Tryz.prog (clock_instant_X c_clock_in).Γ) : SpecOk Tryz.prog 57 (zq3z (zq40 c_clock_in)) :=
  spec_exec (X := (clock_instant_X c_clock_in)) (Λ := pick1 []) (rs := [.tmp 2]) (c := bodyOf Tryz.f57) mixed tab_ok hΓ Tryz.func57 (by kernel_rfl) (by kernel_rfl) (by kernel_rfl) (by kernel_rfl) CutsOk_nil (fun x k r h => Eq.trans (b := (zq3z (zq40 c_clock_in)).run x k) (by kernel_rfl) h)
end
theorem zq42Γ : ΓOk Tryz.prog (pick1 [(55, .spec (zq3s zq3w))]) := (ΓOk_cons zq3x ΓOk_nil)
def zq43 : zq3y := zq40 zq3w
theorem zq44 : SpecOk Tryz.prog 57 (zq3z zq43) := zq41 zq3w zq42Γ

/-- slices.Clone[[]pagewatch/api.Host,pagewatch/api.Host] -/
abbrev zq45 := {β : Type} → (List (List UInt8 × Int)) → ((List (List UInt8 × Int)) → Option β) → Option β
def zq46 (c : zq45) : Spec :=
  ⟨[(false, [.data (.slice (.prod .str (.int .i64)))])], [], [(false, [.rowh 0])], [.row 62 (.prod .str (.int .i64))], fun x k => c x.1.1.1 (fun r0 => k (((), ()), (r0, ())))⟩
def zq47 : zq45 := fun l k => cloneF (.prod .str (.int .i64)) 24 l k
theorem zq48 : SpecOk Tryz.prog 58 (zq46 zq47) :=
  clone_ok (et := 62) (e := (.prod .str (.int .i64))) (bytes := 24) (by kernel_rfl)
    (spec_exec (X := ⟨look tab, pick1 [], false, false, false, false⟩) (Λ := pick1 []) (rs := [.tmp 2]) (c := bodyOf Tryz.f58) mixed tab_ok ΓOk_nil Tryz.func58 (by kernel_rfl) (by kernel_rfl) (by kernel_rfl) (by kernel_rfl) CutsOk_nil (fun x k r h => Eq.trans (b := (clone1S 62 (.prod .str (.int .i64)) 24).run x k) (by kernel_rfl) h))
    (spec_exec (X := ⟨look tab, pick1 [], false, false, false, false⟩) (Λ := pick1 []) (rs := [.tmp 2]) (c := bodyOf Tryz.f58) mixed tab_ok ΓOk_nil Tryz.func58 (by kernel_rfl) (by kernel_rfl) (by kernel_rfl) (by kernel_rfl) CutsOk_nil (fun x k r h => Eq.trans (b := (clone2S 62 (.prod .str (.int .i64))).run x k) (by kernel_rfl) h))

/-- slices.Clone[[]pagewatch/api.Sync,pagewatch/api.Sync] -/
abbrev zq49 := {β : Type} → (List (Int × (Int × (Int × Int)))) → ((List (Int × (Int × (Int × Int)))) → Option β) → Option β
def zq4a (c : zq49) : Spec :=
  ⟨[(false, [.data (.slice (.prod (.int .i64) (.prod (.int .i64) (.prod (.int .i64) (.int .i64)))))])], [], [(false, [.rowh 0])], [.row 64 (.prod (.int .i64) (.prod (.int .i64) (.prod (.int .i64) (.int .i64))))], fun x k => c x.1.1.1 (fun r0 => k (((), ()), (r0, ())))⟩
def zq4b : zq49 := fun l k => cloneF (.prod (.int .i64) (.prod (.int .i64) (.prod (.int .i64) (.int .i64)))) 32 l k
theorem zq4c : SpecOk Tryz.prog 59 (zq4a zq4b) :=
  clone_ok (et := 64) (e := (.prod (.int .i64) (.prod (.int .i64) (.prod (.int .i64) (.int .i64))))) (bytes := 32) (by kernel_rfl)
    (spec_exec (X := ⟨look tab, pick1 [], false, false, false, false⟩) (Λ := pick1 []) (rs := [.tmp 2]) (c := bodyOf Tryz.f59) mixed tab_ok ΓOk_nil Tryz.func59 (by kernel_rfl) (by kernel_rfl) (by kernel_rfl) (by kernel_rfl) CutsOk_nil (fun x k r h => Eq.trans (b := (clone1S 64 (.prod (.int .i64) (.prod (.int .i64) (.prod (.int .i64) (.int .i64)))) 32).run x k) (by kernel_rfl) h))
    (spec_exec (X := ⟨look tab, pick1 [], false, false, false, false⟩) (Λ := pick1 []) (rs := [.tmp 2]) (c := bodyOf Tryz.f59) mixed tab_ok ΓOk_nil Tryz.func59 (by kernel_rfl) (by kernel_rfl) (by kernel_rfl) (by kernel_rfl) CutsOk_nil (fun x k r h => Eq.trans (b := (clone2S 64 (.prod (.int .i64) (.prod (.int .i64) (.prod (.int .i64) (.int .i64))))).run x k) (by kernel_rfl) h))

/-- slices.Clone[[]pagewatch/api.Event,pagewatch/api.Event] -/
abbrev zq4d := {β : Type} → (List zq0) → ((List zq0) → Option β) → Option β
def zq4e (c : zq4d) : Spec :=
  ⟨[(false, [.data (.slice zq1)])], [], [(false, [.rowh 0])], [.row 60 zq1], fun x k => c x.1.1.1 (fun r0 => k (((), ()), (r0, ())))⟩
def zq4f : zq4d := fun l k => cloneF zq1 32 l k
theorem zq4g : SpecOk Tryz.prog 60 (zq4e zq4f) :=
  clone_ok (et := 60) (e := zq1) (bytes := 32) (by kernel_rfl)
    (spec_exec (X := ⟨look tab, pick1 [], false, false, false, false⟩) (Λ := pick1 []) (rs := [.tmp 2]) (c := bodyOf Tryz.f60) mixed tab_ok ΓOk_nil Tryz.func60 (by kernel_rfl) (by kernel_rfl) (by kernel_rfl) (by kernel_rfl) CutsOk_nil (fun x k r h => Eq.trans (b := (clone1S 60 zq1 32).run x k) (by kernel_rfl) h))
    (spec_exec (X := ⟨look tab, pick1 [], false, false, false, false⟩) (Λ := pick1 []) (rs := [.tmp 2]) (c := bodyOf Tryz.f60) mixed tab_ok ΓOk_nil Tryz.func60 (by kernel_rfl) (by kernel_rfl) (by kernel_rfl) (by kernel_rfl) CutsOk_nil (fun x k r h => Eq.trans (b := (clone2S 60 zq1).run x k) (by kernel_rfl) h))

/-- slices.Clone[[]pagewatch/api.Link,pagewatch/api.Link] -/
abbrev zq4h := {β : Type} → (List (Int × (Int × Int))) → ((List (Int × (Int × Int))) → Option β) → Option β
def zq4i (c : zq4h) : Spec :=
  ⟨[(false, [.data (.slice (.prod (.int .i64) (.prod (.int .i64) (.int .i64))))])], [], [(false, [.rowh 0])], [.row 73 (.prod (.int .i64) (.prod (.int .i64) (.int .i64)))], fun x k => c x.1.1.1 (fun r0 => k (((), ()), (r0, ())))⟩
def zq4j : zq4h := fun l k => cloneF (.prod (.int .i64) (.prod (.int .i64) (.int .i64))) 24 l k
theorem zq4k : SpecOk Tryz.prog 61 (zq4i zq4j) :=
  clone_ok (et := 73) (e := (.prod (.int .i64) (.prod (.int .i64) (.int .i64)))) (bytes := 24) (by kernel_rfl)
    (spec_exec (X := ⟨look tab, pick1 [], false, false, false, false⟩) (Λ := pick1 []) (rs := [.tmp 2]) (c := bodyOf Tryz.f61) mixed tab_ok ΓOk_nil Tryz.func61 (by kernel_rfl) (by kernel_rfl) (by kernel_rfl) (by kernel_rfl) CutsOk_nil (fun x k r h => Eq.trans (b := (clone1S 73 (.prod (.int .i64) (.prod (.int .i64) (.int .i64))) 24).run x k) (by kernel_rfl) h))
    (spec_exec (X := ⟨look tab, pick1 [], false, false, false, false⟩) (Λ := pick1 []) (rs := [.tmp 2]) (c := bodyOf Tryz.f61) mixed tab_ok ΓOk_nil Tryz.func61 (by kernel_rfl) (by kernel_rfl) (by kernel_rfl) (by kernel_rfl) CutsOk_nil (fun x k r h => Eq.trans (b := (clone2S 73 (.prod (.int .i64) (.prod (.int .i64) (.int .i64)))).run x k) (by kernel_rfl) h))

/-- pagewatch/pagewatchref38.Valid -/
abbrev zq4l := {β : Type} → zq2 → (Bool → Option β) → Option β
def zq4m (c : zq4l) : Spec :=
  ⟨[(true, [.data zq3])], [], [(false, [.data .bool])], [], fun x k => c x.1.1.1 (fun r0 => k (((r0, ()), ()), ()))⟩
noncomputable def ref38_Valid_p1_code : Code := codeAt 58 (bodyOf Tryz.f62)
noncomputable def ref38_Valid_p2_code : Code := codeAt 122 (bodyOf Tryz.f62)
noncomputable def ref38_Valid_p3_code : Code := codeAt 250 (bodyOf Tryz.f62)
noncomputable def ref38_Valid_p4_code : Code := codeAt 506 (bodyOf Tryz.f62)
abbrev zq4n (β : Type) := Bool → Option β
abbrev zq4o (β : Type) := (List (List UInt8 × Int)) → (List (Int × (Int × (Int × Int)))) → (List zq0) → (List (Int × (Int × Int))) → Option β
abbrev zq4p := {β : Type} → zq4n β → zq4o β → Int → (List (List UInt8 × Int)) → (List (Int × (Int × (Int × Int)))) → (List zq0) → (List (Int × (Int × Int))) → Option β
def zq4q : View := ⟨0, [1, 3], [(false, [.ptr 0 0]), (false, [.data (.int .i64)])], [.cells 32 [.data (.slice (.prod .str (.int .i64))), .data (.slice (.prod (.int .i64) (.prod (.int .i64) (.prod (.int .i64) (.int .i64))))), .data (.slice zq1), .data (.slice (.prod (.int .i64) (.prod (.int .i64) (.int .i64))))]]⟩
def zq4r : List (AExit × View) := [(.ret, ⟨0, [2], [(false, [.data .bool])], []⟩), (.exit 0, ⟨0, [1], [(false, [.ptr 0 0])], [.cells 32 [.data (.slice (.prod .str (.int .i64))), .data (.slice (.prod (.int .i64) (.prod (.int .i64) (.prod (.int .i64) (.int .i64))))), .data (.slice zq1), .data (.slice (.prod (.int .i64) (.prod (.int .i64) (.int .i64))))]]⟩)]
@[reducible] def ref38_Valid_p1_G (p : zq4p) {β : Type} (d : zq4q.den) (ks : Outs.K β zq4r) : Option β :=
  p (fun a0 => ks.1 (((a0, ()), ()), ())) (fun a0 a1 a2 a3 => ks.2.1 (((), ()), ((a0, a1, a2, a3, ()), ()))) d.1.2.1.1 d.2.1.1 d.2.1.2.1 d.2.1.2.2.1 d.2.1.2.2.2.1
abbrev zq4s (β : Type) := Bool → Option β
abbrev zq4t (β : Type) := (List (List UInt8 × Int)) → (List (Int × (Int × (Int × Int)))) → (List zq0) → (List (Int × (Int × Int))) → Option β
abbrev zq4u := {β : Type} → zq4s β → zq4t β → Int → (List (List UInt8 × Int)) → (List (Int × (Int × (Int × Int)))) → (List zq0) → (List (Int × (Int × Int))) → Option β
def zq4v : View := ⟨0, [1, 4], [(false, [.ptr 0 0]), (false, [.data (.int .i64)])], [.cells 32 [.data (.slice (.prod .str (.int .i64))), .data (.slice (.prod (.int .i64) (.prod (.int .i64) (.prod (.int .i64) (.int .i64))))), .data (.slice zq1), .data (.slice (.prod (.int .i64) (.prod (.int .i64) (.int .i64))))]]⟩
def zq4w : List (AExit × View) := [(.ret, ⟨0, [2], [(false, [.data .bool])], []⟩), (.exit 2, ⟨0, [1], [(false, [.ptr 0 0])], [.cells 32 [.data (.slice (.prod .str (.int .i64))), .data (.slice (.prod (.int .i64) (.prod (.int .i64) (.prod (.int .i64) (.int .i64))))), .data (.slice zq1), .data (.slice (.prod (.int .i64) (.prod (.int .i64) (.int .i64))))]]⟩)]
@[reducible] def ref38_Valid_p2_G (p : zq4u) {β : Type} (d : zq4v.den) (ks : Outs.K β zq4w) : Option β :=
  p (fun a0 => ks.1 (((a0, ()), ()), ())) (fun a0 a1 a2 a3 => ks.2.1 (((), ()), ((a0, a1, a2, a3, ()), ()))) d.1.2.1.1 d.2.1.1 d.2.1.2.1 d.2.1.2.2.1 d.2.1.2.2.2.1
abbrev zq4x (β : Type) := Bool → Option β
abbrev zq4y (β : Type) := (List (List UInt8 × Int)) → (List (Int × (Int × (Int × Int)))) → (List zq0) → (List (Int × (Int × Int))) → Option β
abbrev zq4z := {β : Type} → zq4x β → zq4y β → Int → (List (List UInt8 × Int)) → (List (Int × (Int × (Int × Int)))) → (List zq0) → (List (Int × (Int × Int))) → Option β
def zq50 : View := ⟨0, [1, 6], [(false, [.ptr 0 0]), (false, [.data (.int .i64)])], [.cells 32 [.data (.slice (.prod .str (.int .i64))), .data (.slice (.prod (.int .i64) (.prod (.int .i64) (.prod (.int .i64) (.int .i64))))), .data (.slice zq1), .data (.slice (.prod (.int .i64) (.prod (.int .i64) (.int .i64))))]]⟩
def zq51 : List (AExit × View) := [(.ret, ⟨0, [2], [(false, [.data .bool])], []⟩), (.exit 4, ⟨0, [1], [(false, [.ptr 0 0])], [.cells 32 [.data (.slice (.prod .str (.int .i64))), .data (.slice (.prod (.int .i64) (.prod (.int .i64) (.prod (.int .i64) (.int .i64))))), .data (.slice zq1), .data (.slice (.prod (.int .i64) (.prod (.int .i64) (.int .i64))))]]⟩)]
@[reducible] def ref38_Valid_p3_G (p : zq4z) {β : Type} (d : zq50.den) (ks : Outs.K β zq51) : Option β :=
  p (fun a0 => ks.1 (((a0, ()), ()), ())) (fun a0 a1 a2 a3 => ks.2.1 (((), ()), ((a0, a1, a2, a3, ()), ()))) d.1.2.1.1 d.2.1.1 d.2.1.2.1 d.2.1.2.2.1 d.2.1.2.2.2.1
abbrev zq52 (β : Type) := Bool → Option β
abbrev zq53 (β : Type) := Unit → Option β
abbrev zq54 := {β : Type} → zq52 β → zq53 β → Int → (List (List UInt8 × Int)) → (List (Int × (Int × (Int × Int)))) → (List zq0) → (List (Int × (Int × Int))) → Option β
def zq55 : View := ⟨0, [1, 8], [(false, [.ptr 0 0]), (false, [.data (.int .i64)])], [.cells 32 [.data (.slice (.prod .str (.int .i64))), .data (.slice (.prod (.int .i64) (.prod (.int .i64) (.prod (.int .i64) (.int .i64))))), .data (.slice zq1), .data (.slice (.prod (.int .i64) (.prod (.int .i64) (.int .i64))))]]⟩
def zq56 : List (AExit × View) := [(.ret, ⟨0, [2], [(false, [.data .bool])], []⟩), (.exit 6, ⟨0, [], [], []⟩)]
@[reducible] def ref38_Valid_p4_G (p : zq54) {β : Type} (d : zq55.den) (ks : Outs.K β zq56) : Option β :=
  p (fun a0 => ks.1 (((a0, ()), ()), ())) (fun _ => ks.2.1 ((), ())) d.1.2.1.1 d.2.1.1 d.2.1.2.1 d.2.1.2.2.1 d.2.1.2.2.2.1
section
variable (c_ref25_In : zq1g)
@[reducible] def ref38_Valid_X : Ctx := ⟨look tab, pick1 [(31, .spec (zq1h c_ref25_In))], false, false, false, false⟩
def zq57 {β : Type} (rec : Int → (List (List UInt8 × Int)) → (List (Int × (Int × (Int × Int)))) → (List zq0) → (List (Int × (Int × Int))) → Option β) (k1 : zq4n β) (k2 : zq4o β) (i_ : Int) (r_ : List (List UInt8 × Int)) (r_2 : List (Int × (Int × (Int × Int)))) (r_3 : List zq0) (r_4 : List (Int × (Int × Int))) : Option β :=
  cond (decide (i_ < (List.length r_ : Int)))
  (cond (decide (0 ≤ i_) && decide (i_ < (List.length r_ : Int)))
  (let e : (List UInt8 × Int) := List.getD r_ (Int.toNat i_) (([] : List UInt8), (0 : Int));
  c_ref25_In e.2 (0 : Int) (500000 : Int) (fun (rIn : Bool) =>
  cond (!rIn)
  (k1 false)
  (let i_2 : Int := (IntKind.i64.wrap (i_ + (1 : Int)));
  rec i_2 r_ r_2 r_3 r_4)))
  none)
  (k2 r_ r_2 r_3 r_4)
def zq58 {β : Type} : Nat → zq4n β → zq4o β → Int → (List (List UInt8 × Int)) → (List (Int × (Int × (Int × Int)))) → (List zq0) → (List (Int × (Int × Int))) → Option β
  | 0 => fun _ _ _ _ _ _ _ => none
  | i + 1 => fun k1 k2 i_ r_ r_2 r_3 r_4 => zq57 c_ref25_In (zq58 i k1 k2) k1 k2 i_ r_ r_2 r_3 r_4
theorem zq59 (hΓ : ΓOk Tryz.prog (ref38_Valid_X c_ref25_In).Γ) (i : Nat) : PieceOk Tryz.prog 155 0 ref38_Valid_p1_code zq4q zq4r (ref38_Valid_p1_G (zq58 c_ref25_In i)) := by
  rw [show ref38_Valid_p1_code = .loop (loopBody ref38_Valid_p1_code) by kernel_rfl]
  exact piece_loop (X := (ref38_Valid_X c_ref25_In)) (p := 1) (Λ := pick1 []) (G := fun i => @fun β d ks => ref38_Valid_p1_G (zq58 c_ref25_In i) d ks) mixed tab_ok hΓ rfl (by kernel_rfl) CutsOk_nil (fun _ _ => rfl) (fun i => @fun β d ks r h => Eq.trans (b := ref38_Valid_p1_G (zq58 c_ref25_In (i + 1)) d ks) (by kernel_rfl) h) i
def zq5a {β : Type} (rec : Int → (List (List UInt8 × Int)) → (List (Int × (Int × (Int × Int)))) → (List zq0) → (List (Int × (Int × Int))) → Option β) (k1 : zq4s β) (k2 : zq4t β) (i_ : Int) (r_ : List (List UInt8 × Int)) (r_2 : List (Int × (Int × (Int × Int)))) (r_3 : List zq0) (r_4 : List (Int × (Int × Int))) : Option β :=
  cond (decide (i_ < (List.length r_2 : Int)))
  (cond (decide (0 ≤ i_) && decide (i_ < (List.length r_2 : Int)))
  (let e : (Int × (Int × (Int × Int))) := List.getD r_2 (Int.toNat i_) ((0 : Int), ((0 : Int), ((0 : Int), (0 : Int))));
  c_ref25_In e.1 (0 : Int) (IntKind.i64.wrap ((List.length r_ : Int) - (1 : Int))) (fun (rIn : Bool) =>
  cond (!rIn)
  (k1 false)
  (c_ref25_In e.2.1 (0 : Int) (8589934592 : Int) (fun (rIn2 : Bool) =>
  cond (!rIn2)
  (k1 false)
  (c_ref25_In e.2.2.1 (0 : Int) e.2.2.2 (fun (rIn3 : Bool) =>
  cond (!rIn3)
  (k1 false)
  (cond (decide ((8589934592 : Int) < e.2.2.2))
  (k1 false)
  (let i_2 : Int := (IntKind.i64.wrap (i_ + (1 : Int)));
  rec i_2 r_ r_2 r_3 r_4))))))))
  none)
  (k2 r_ r_2 r_3 r_4)
def zq5b {β : Type} : Nat → zq4s β → zq4t β → Int → (List (List UInt8 × Int)) → (List (Int × (Int × (Int × Int)))) → (List zq0) → (List (Int × (Int × Int))) → Option β
  | 0 => fun _ _ _ _ _ _ _ => none
  | i + 1 => fun k1 k2 i_ r_ r_2 r_3 r_4 => zq5a c_ref25_In (zq5b i k1 k2) k1 k2 i_ r_ r_2 r_3 r_4
theorem zq5c (hΓ : ΓOk Tryz.prog (ref38_Valid_X c_ref25_In).Γ) (i : Nat) : PieceOk Tryz.prog 155 0 ref38_Valid_p2_code zq4v zq4w (ref38_Valid_p2_G (zq5b c_ref25_In i)) := by
  rw [show ref38_Valid_p2_code = .loop (loopBody ref38_Valid_p2_code) by kernel_rfl]
  exact piece_loop (X := (ref38_Valid_X c_ref25_In)) (p := 1) (Λ := pick1 []) (G := fun i => @fun β d ks => ref38_Valid_p2_G (zq5b c_ref25_In i) d ks) mixed tab_ok hΓ rfl (by kernel_rfl) CutsOk_nil (fun _ _ => rfl) (fun i => @fun β d ks r h => Eq.trans (b := ref38_Valid_p2_G (zq5b c_ref25_In (i + 1)) d ks) (by kernel_rfl) h) i
def zq5d {β : Type} (rec : Int → (List (List UInt8 × Int)) → (List (Int × (Int × (Int × Int)))) → (List zq0) → (List (Int × (Int × Int))) → Option β) (k1 : zq4x β) (k2 : zq4y β) (i_ : Int) (r_ : List (List UInt8 × Int)) (r_2 : List (Int × (Int × (Int × Int)))) (r_3 : List zq0) (r_4 : List (Int × (Int × Int))) : Option β :=
  cond (decide (i_ < (List.length r_3 : Int)))
  (cond (decide (0 ≤ i_) && decide (i_ < (List.length r_3 : Int)))
  (let e : zq0 := List.getD r_3 (Int.toNat i_) ((0 : Int), ((0 : Int), ([] : List UInt8)));
  c_ref25_In e.1 (0 : Int) (IntKind.i64.wrap ((List.length r_ : Int) - (1 : Int))) (fun (rIn : Bool) =>
  cond (!rIn)
  (k1 false)
  (c_ref25_In e.2.1 (0 : Int) (8589934592 : Int) (fun (rIn2 : Bool) =>
  cond (!rIn2)
  (k1 false)
  (let i_2 : Int := (IntKind.i64.wrap (i_ + (1 : Int)));
  rec i_2 r_ r_2 r_3 r_4)))))
  none)
  (k2 r_ r_2 r_3 r_4)
def zq5e {β : Type} : Nat → zq4x β → zq4y β → Int → (List (List UInt8 × Int)) → (List (Int × (Int × (Int × Int)))) → (List zq0) → (List (Int × (Int × Int))) → Option β
  | 0 => fun _ _ _ _ _ _ _ => none
  | i + 1 => fun k1 k2 i_ r_ r_2 r_3 r_4 => zq5d c_ref25_In (zq5e i k1 k2) k1 k2 i_ r_ r_2 r_3 r_4
theorem zq5f (hΓ : ΓOk Tryz.prog (ref38_Valid_X c_ref25_In).Γ) (i : Nat) : PieceOk Tryz.prog 155 0 ref38_Valid_p3_code zq50 zq51 (ref38_Valid_p3_G (zq5e c_ref25_In i)) := by
  rw [show ref38_Valid_p3_code = .loop (loopBody ref38_Valid_p3_code) by kernel_rfl]
  exact piece_loop (X := (ref38_Valid_X c_ref25_In)) (p := 1) (Λ := pick1 []) (G := fun i => @fun β d ks => ref38_Valid_p3_G (zq5e c_ref25_In i) d ks) mixed tab_ok hΓ rfl (by kernel_rfl) CutsOk_nil (fun _ _ => rfl) (fun i => @fun β d ks r h => Eq.trans (b := ref38_Valid_p3_G (zq5e c_ref25_In (i + 1)) d ks) (by kernel_rfl) h) i
def zq5g {β : Type} (rec : Int → (List (List UInt8 × Int)) → (List (Int × (Int × (Int × Int)))) → (List zq0) → (List (Int × (Int × Int))) → Option β) (k1 : zq52 β) (k2 : zq53 β) (i_ : Int) (r_ : List (List UInt8 × Int)) (r_2 : List (Int × (Int × (Int × Int)))) (r_3 : List zq0) (r_4 : List (Int × (Int × Int))) : Option β :=
  cond (decide (i_ < (List.length r_4 : Int)))
  (cond (decide (0 ≤ i_) && decide (i_ < (List.length r_4 : Int)))
  (let e : (Int × (Int × Int)) := List.getD r_4 (Int.toNat i_) ((0 : Int), ((0 : Int), (0 : Int)));
  c_ref25_In e.1 (0 : Int) (IntKind.i64.wrap ((List.length r_3 : Int) - (1 : Int))) (fun (rIn : Bool) =>
  cond (!rIn)
  (k1 false)
  (c_ref25_In e.2.1 (0 : Int) (IntKind.i64.wrap ((List.length r_3 : Int) - (1 : Int))) (fun (rIn2 : Bool) =>
  cond (!rIn2)
  (k1 false)
  (cond (decide (e.1 = e.2.1))
  (k1 false)
  (c_ref25_In e.2.2 (0 : Int) (8589934592 : Int) (fun (rIn3 : Bool) =>
  cond (!rIn3)
  (k1 false)
  (let i_2 : Int := (IntKind.i64.wrap (i_ + (1 : Int)));
  rec i_2 r_ r_2 r_3 r_4))))))))
  none)
  (k2 ())
def zq5h {β : Type} : Nat → zq52 β → zq53 β → Int → (List (List UInt8 × Int)) → (List (Int × (Int × (Int × Int)))) → (List zq0) → (List (Int × (Int × Int))) → Option β
  | 0 => fun _ _ _ _ _ _ _ => none
  | i + 1 => fun k1 k2 i_ r_ r_2 r_3 r_4 => zq5g c_ref25_In (zq5h i k1 k2) k1 k2 i_ r_ r_2 r_3 r_4
theorem zq5i (hΓ : ΓOk Tryz.prog (ref38_Valid_X c_ref25_In).Γ) (i : Nat) : PieceOk Tryz.prog 155 0 ref38_Valid_p4_code zq55 zq56 (ref38_Valid_p4_G (zq5h c_ref25_In i)) := by
  rw [show ref38_Valid_p4_code = .loop (loopBody ref38_Valid_p4_code) by kernel_rfl]
  exact piece_loop (X := (ref38_Valid_X c_ref25_In)) (p := 1) (Λ := pick1 []) (G := fun i => @fun β d ks => ref38_Valid_p4_G (zq5h c_ref25_In i) d ks) mixed tab_ok hΓ rfl (by kernel_rfl) CutsOk_nil (fun _ _ => rfl) (fun i => @fun β d ks r h => Eq.trans (b := ref38_Valid_p4_G (zq5h c_ref25_In (i + 1)) d ks) (by kernel_rfl) h) i
def zq5j (p1 : zq4p) (p2 : zq4u) (p3 : zq4z) (p4 : zq54) {β : Type} (r_ : zq2) (k : (Bool → Option β)) : Option β :=
  cond (decide ((8 : Int) < (List.length r_.1 : Int)))
  (k false)
  (cond (decide ((64 : Int) < (List.length r_.2.1 : Int)))
  (k false)
  (cond (decide ((40 : Int) < (List.length r_.2.2.1 : Int)))
  (k false)
  (cond (decide ((64 : Int) < (List.length r_.2.2.2 : Int)))
  (k false)
  (p1 (fun (t2 : Bool) =>
  k t2) (fun (r_2 : List (List UInt8 × Int)) (r_3 : List (Int × (Int × (Int × Int)))) (r_4 : List zq0) (r_5 : List (Int × (Int × Int))) =>
  p2 (fun (t2 : Bool) =>
  k t2) (fun (r_6 : List (List UInt8 × Int)) (r_7 : List (Int × (Int × (Int × Int)))) (r_8 : List zq0) (r_9 : List (Int × (Int × Int))) =>
  p3 (fun (t2 : Bool) =>
  k t2) (fun (r_10 : List (List UInt8 × Int)) (r_11 : List (Int × (Int × (Int × Int)))) (r_12 : List zq0) (r_13 : List (Int × (Int × Int))) =>
  p4 (fun (t2 : Bool) =>
  k t2) (fun (_ : Unit) =>
  k true) (0 : Int) r_10 r_11 r_12 r_13) (0 : Int) r_6 r_7 r_8 r_9) (0 : Int) r_2 r_3 r_4 r_5) (0 : Int) r_.1 r_.2.1 r_.2.2.1 r_.2.2.2))))
theorem zq5k (hΓ : ΓOk Tryz.prog (ref38_Valid_X c_ref25_In).Γ) (p1 : zq4p) (p2 : zq4u) (p3 : zq4z) (p4 : zq54) (hp1 : PieceOk Tryz.prog 155 0 ref38_Valid_p1_code zq4q zq4r (ref38_Valid_p1_G p1)) (hp2 : PieceOk Tryz.prog 155 0 ref38_Valid_p2_code zq4v zq4w (ref38_Valid_p2_G p2)) (hp3 : PieceOk Tryz.prog 155 0 ref38_Valid_p3_code zq50 zq51 (ref38_Valid_p3_G p3)) (hp4 : PieceOk Tryz.prog 155 0 ref38_Valid_p4_code zq55 zq56 (ref38_Valid_p4_G p4)) : SpecOk Tryz.prog 62 (zq4m (zq5j p1 p2 p3 p4)) :=
  spec_exec (X := (ref38_Valid_X c_ref25_In)) (Λ := pick1 [(58, pieceCut zq4q zq4r (ref38_Valid_p1_G p1)), (122, pieceCut zq4v zq4w (ref38_Valid_p2_G p2)), (250, pieceCut zq50 zq51 (ref38_Valid_p3_G p3)), (506, pieceCut zq55 zq56 (ref38_Valid_p4_G p4))]) (rs := [.tmp 2]) (c := bodyOf Tryz.f62) mixed tab_ok hΓ Tryz.func62 (by kernel_rfl) (by kernel_rfl) (by kernel_rfl) (by kernel_rfl) (CutsOk_cons (q := 58) (c' := ref38_Valid_p1_code) (by kernel_rfl) rfl hp1 (CutsOk_cons (q := 122) (c' := ref38_Valid_p2_code) (by kernel_rfl) rfl hp2 (CutsOk_cons (q := 250) (c' := ref38_Valid_p3_code) (by kernel_rfl) rfl hp3 (CutsOk_cons (q := 506) (c' := ref38_Valid_p4_code) (by kernel_rfl) rfl hp4 CutsOk_nil)))) (fun x k r h => Eq.trans (b := (zq4m (zq5j p1 p2 p3 p4)).run x k) (by kernel_rfl) h)
end
theorem zq5lΓ : ΓOk Tryz.prog (pick1 [(31, .spec (zq1h zq1l))]) := (ΓOk_cons zq1m ΓOk_nil)
def zq5m (m : Nat) : zq4p := zq58 zq1l m
theorem zq5n {β : Type} (i : Nat) (k1 k2 i_ r_ r_2 r_3 r_4) : (zq5m (i + 1) k1 k2 i_ r_ r_2 r_3 r_4 : Option β) = zq57 zq1l (zq5m i k1 k2) k1 k2 i_ r_ r_2 r_3 r_4 := rfl
def zq5o : zq4p := zq5m fuel
theorem zq5p : PieceOk Tryz.prog 155 0 ref38_Valid_p1_code zq4q zq4r (ref38_Valid_p1_G zq5o) := zq59 zq1l zq5lΓ fuel
def zq5q (m : Nat) : zq4u := zq5b zq1l m
theorem zq5r {β : Type} (i : Nat) (k1 k2 i_ r_ r_2 r_3 r_4) : (zq5q (i + 1) k1 k2 i_ r_ r_2 r_3 r_4 : Option β) = zq5a zq1l (zq5q i k1 k2) k1 k2 i_ r_ r_2 r_3 r_4 := rfl
def zq5s : zq4u := zq5q fuel
theorem zq5t : PieceOk Tryz.prog 155 0 ref38_Valid_p2_code zq4v zq4w (ref38_Valid_p2_G zq5s) := zq5c zq1l zq5lΓ fuel
def zq5u (m : Nat) : zq4z := zq5e zq1l m
theorem zq5v {β : Type} (i : Nat) (k1 k2 i_ r_ r_2 r_3 r_4) : (zq5u (i + 1) k1 k2 i_ r_ r_2 r_3 r_4 : Option β) = zq5d zq1l (zq5u i k1 k2) k1 k2 i_ r_ r_2 r_3 r_4 := rfl
def zq5w : zq4z := zq5u fuel
theorem zq5x : PieceOk Tryz.prog 155 0 ref38_Valid_p3_code zq50 zq51 (ref38_Valid_p3_G zq5w) := zq5f zq1l zq5lΓ fuel
def zq5y (m : Nat) : zq54 := zq5h zq1l m
theorem zq5z {β : Type} (i : Nat) (k1 k2 i_ r_ r_2 r_3 r_4) : (zq5y (i + 1) k1 k2 i_ r_ r_2 r_3 r_4 : Option β) = zq5g zq1l (zq5y i k1 k2) k1 k2 i_ r_ r_2 r_3 r_4 := rfl
def zq60 : zq54 := zq5y fuel
theorem zq61 : PieceOk Tryz.prog 155 0 ref38_Valid_p4_code zq55 zq56 (ref38_Valid_p4_G zq60) := zq5i zq1l zq5lΓ fuel
def zq62 : zq4l := zq5j zq5o zq5s zq5w zq60
theorem zq63 : SpecOk Tryz.prog 62 (zq4m zq62) := zq5k zq1l zq5lΓ zq5o zq5s zq5w zq60 zq5p zq5t zq5x zq61

/-- pagewatch/pagewatchref38.Elapsed -/
abbrev zq64 := {β : Type} → Int → Int → (Int → Int → Option β) → Option β
def zq65 (c : zq64) : Spec :=
  ⟨[(false, [.data (.int .i64)]), (false, [.data (.int .i64)])], [], [(false, [.data (.int .i64)]), (false, [.data (.int .i64)])], [], fun x k => c x.1.1.1 x.1.2.1.1 (fun r0 r1 => k (((r0, ()), (r1, ()), ()), ()))⟩
section
variable (c_ref25_In : zq1g)
@[reducible] def ref38_Elapsed_X : Ctx := ⟨look tab, pick1 [(31, .spec (zq1h c_ref25_In))], false, false, false, false⟩
def zq66 {β : Type} (drift : Int) (d : Int) (k : (Int → Int → Option β)) : Option β :=
  c_ref25_In drift (0 : Int) (500000 : Int) (fun (rIn : Bool) =>
  cond (!rIn)
  (k (0 : Int) (0 : Int))
  (c_ref25_In d (0 : Int) (8589934592 : Int) (fun (rIn2 : Bool) =>
  cond (!rIn2)
  (k (0 : Int) (0 : Int))
  (cond (!decide ((IntKind.i64.wrap ((1000000 : Int) + drift)) = 0))
  (cond (!decide ((IntKind.i64.wrap ((1000000 : Int) - drift)) = 0))
  (let low : Int := (IntKind.i64.wrap (Int.tdiv (IntKind.i64.wrap (d * (1000000 : Int))) (IntKind.i64.wrap ((1000000 : Int) + drift))));
  let high : Int := (IntKind.i64.wrap (Int.tdiv (IntKind.i64.wrap ((IntKind.i64.wrap ((IntKind.i64.wrap ((IntKind.i64.wrap (d * (1000000 : Int))) + (1000000 : Int))) - drift)) - (1 : Int))) (IntKind.i64.wrap ((1000000 : Int) - drift))));
  k low high)
  none)
  none))))
theorem zq67 (hΓ : ΓOk Tryz.prog (ref38_Elapsed_X c_ref25_In).Γ) : SpecOk Tryz.prog 64 (zq65 (zq66 c_ref25_In)) :=
  spec_exec (X := (ref38_Elapsed_X c_ref25_In)) (Λ := pick1 []) (rs := [.tmp 4, .tmp 5]) (c := bodyOf Tryz.f64) mixed tab_ok hΓ Tryz.func64 (by kernel_rfl) (by kernel_rfl) (by kernel_rfl) (by kernel_rfl) CutsOk_nil (fun x k r h => Eq.trans (b := (zq65 (zq66 c_ref25_In)).run x k) (by kernel_rfl) h)
end
theorem zq68Γ : ΓOk Tryz.prog (pick1 [(31, .spec (zq1h zq1l))]) := (ΓOk_cons zq1m ΓOk_nil)
def zq69 : zq64 := zq66 zq1l
theorem zq6a : SpecOk Tryz.prog 64 (zq65 zq69) := zq67 zq1l zq68Γ

/-- pagewatch/pagewatchref39.Valid -/
abbrev zq6b := {β : Type} → Int → (List (Int × (Int × Int))) → (Bool → Option β) → Option β
def zq6c (c : zq6b) : Spec :=
  ⟨[(false, [.data (.int .i64)]), (false, [.data (.slice (.prod (.int .i64) (.prod (.int .i64) (.int .i64))))])], [], [(false, [.data .bool])], [], fun x k => c x.1.1.1 x.1.2.1.1 (fun r0 => k (((r0, ()), ()), ()))⟩
noncomputable def ref39_Valid_p1_code : Code := codeAt 58 (bodyOf Tryz.f65)
abbrev zq6d (β : Type) := Bool → Option β
abbrev zq6e (β : Type) := Unit → Option β
abbrev zq6f := {β : Type} → zq6d β → zq6e β → Int → (List (Int × (Int × Int))) → Int → Option β
def zq6g : View := ⟨0, [0, 1, 5], [(false, [.data (.int .i64)]), (false, [.data (.slice (.prod (.int .i64) (.prod (.int .i64) (.int .i64))))]), (false, [.data (.int .i64)])], []⟩
def zq6h : List (AExit × View) := [(.ret, ⟨0, [4], [(false, [.data .bool])], []⟩), (.exit 0, ⟨0, [], [], []⟩)]
@[reducible] def ref39_Valid_p1_G (p : zq6f) {β : Type} (d : zq6g.den) (ks : Outs.K β zq6h) : Option β :=
  p (fun a0 => ks.1 (((a0, ()), ()), ())) (fun _ => ks.2.1 ((), ())) d.1.1.1 d.1.2.1.1 d.1.2.2.1.1
section
variable (c_ref25_In : zq1g)
@[reducible] def ref39_Valid_X : Ctx := ⟨look tab, pick1 [(31, .spec (zq1h c_ref25_In))], false, false, false, false⟩
def zq6i {β : Type} (rec : Int → (List (Int × (Int × Int))) → Int → Option β) (k1 : zq6d β) (k2 : zq6e β) (n : Int) (l : List (Int × (Int × Int))) (i_ : Int) : Option β :=
  cond (decide (i_ < (List.length l : Int)))
  (cond (decide (0 ≤ i_) && decide (i_ < (List.length l : Int)))
  (let e : (Int × (Int × Int)) := List.getD l (Int.toNat i_) ((0 : Int), ((0 : Int), (0 : Int)));
  c_ref25_In e.1 (0 : Int) (IntKind.i64.wrap (n - (1 : Int))) (fun (rIn : Bool) =>
  cond (!rIn)
  (k1 false)
  (cond (decide (0 ≤ i_) && decide (i_ < (List.length l : Int)))
  (let e2 : (Int × (Int × Int)) := List.getD l (Int.toNat i_) ((0 : Int), ((0 : Int), (0 : Int)));
  c_ref25_In e2.2.1 (0 : Int) (IntKind.i64.wrap (n - (1 : Int))) (fun (rIn2 : Bool) =>
  cond (!rIn2)
  (k1 false)
  (cond (decide (0 ≤ i_) && decide (i_ < (List.length l : Int)))
  (let e3 : (Int × (Int × Int)) := List.getD l (Int.toNat i_) ((0 : Int), ((0 : Int), (0 : Int)));
  c_ref25_In e3.2.2 (-17179869184 : Int) (17179869184 : Int) (fun (rIn3 : Bool) =>
  cond (!rIn3)
  (k1 false)
  (let i_2 : Int := (IntKind.i64.wrap (i_ + (1 : Int)));
  rec n l i_2)))
  none)))
  none)))
  none)
  (k2 ())
def zq6j {β : Type} : Nat → zq6d β → zq6e β → Int → (List (Int × (Int × Int))) → Int → Option β
  | 0 => fun _ _ _ _ _ => none
  | i + 1 => fun k1 k2 n l i_ => zq6i c_ref25_In (zq6j i k1 k2) k1 k2 n l i_
theorem zq6k (hΓ : ΓOk Tryz.prog (ref39_Valid_X c_ref25_In).Γ) (i : Nat) : PieceOk Tryz.prog 49 0 ref39_Valid_p1_code zq6g zq6h (ref39_Valid_p1_G (zq6j c_ref25_In i)) := by
  rw [show ref39_Valid_p1_code = .loop (loopBody ref39_Valid_p1_code) by kernel_rfl]
  exact piece_loop (X := (ref39_Valid_X c_ref25_In)) (p := 1) (Λ := pick1 []) (G := fun i => @fun β d ks => ref39_Valid_p1_G (zq6j c_ref25_In i) d ks) mixed tab_ok hΓ rfl (by kernel_rfl) CutsOk_nil (fun _ _ => rfl) (fun i => @fun β d ks r h => Eq.trans (b := ref39_Valid_p1_G (zq6j c_ref25_In (i + 1)) d ks) (by kernel_rfl) h) i
def zq6l (p1 : zq6f) {β : Type} (n : Int) (l : List (Int × (Int × Int))) (k : (Bool → Option β)) : Option β :=
  c_ref25_In n (1 : Int) (41 : Int) (fun (rIn : Bool) =>
  cond (!rIn)
  (k false)
  (cond (decide ((4000 : Int) < (List.length l : Int)))
  (k false)
  (p1 (fun (t4 : Bool) =>
  k t4) (fun (_ : Unit) =>
  k true) n l (0 : Int))))
theorem zq6m (hΓ : ΓOk Tryz.prog (ref39_Valid_X c_ref25_In).Γ) (p1 : zq6f) (hp1 : PieceOk Tryz.prog 49 0 ref39_Valid_p1_code zq6g zq6h (ref39_Valid_p1_G p1)) : SpecOk Tryz.prog 65 (zq6c (zq6l c_ref25_In p1)) :=
  spec_exec (X := (ref39_Valid_X c_ref25_In)) (Λ := pick1 [(58, pieceCut zq6g zq6h (ref39_Valid_p1_G p1))]) (rs := [.tmp 4]) (c := bodyOf Tryz.f65) mixed tab_ok hΓ Tryz.func65 (by kernel_rfl) (by kernel_rfl) (by kernel_rfl) (by kernel_rfl) (CutsOk_cons (q := 58) (c' := ref39_Valid_p1_code) (by kernel_rfl) rfl hp1 CutsOk_nil) (fun x k r h => Eq.trans (b := (zq6c (zq6l c_ref25_In p1)).run x k) (by kernel_rfl) h)
end
theorem zq6nΓ : ΓOk Tryz.prog (pick1 [(31, .spec (zq1h zq1l))]) := (ΓOk_cons zq1m ΓOk_nil)
def zq6o (m : Nat) : zq6f := zq6j zq1l m
theorem zq6p {β : Type} (i : Nat) (k1 k2 n l i_) : (zq6o (i + 1) k1 k2 n l i_ : Option β) = zq6i zq1l (zq6o i k1 k2) k1 k2 n l i_ := rfl
def zq6q : zq6f := zq6o fuel
theorem zq6r : PieceOk Tryz.prog 49 0 ref39_Valid_p1_code zq6g zq6h (ref39_Valid_p1_G zq6q) := zq6k zq1l zq6nΓ fuel
def zq6s : zq6b := zq6l zq1l zq6q
theorem zq6t : SpecOk Tryz.prog 65 (zq6c zq6s) := zq6m zq1l zq6nΓ zq6q zq6r

/-- (pagewatch/order.matrix).when -/
abbrev zq6u := {β : Type} → (List (List Int)) → Int → ((Int × Int) → Option β) → Option β
def zq6v (c : zq6u) : Spec :=
  ⟨[(false, [.data (.slice (.slice (.int .i64)))]), (false, [.data (.int .i64)])], [], [(true, [.data (.prod (.int .i64) (.int .i64))])], [], fun x k => c x.1.1.1 x.1.2.1.1 (fun r0 => k (((r0, ()), ()), ()))⟩
section
@[reducible] def order_matrix_when_X : Ctx := ⟨look tab, pick1 [], false, false, false, false⟩
def zq6w {β : Type} (m : List (List Int)) (i_ : Int) (k : ((Int × Int) → Option β)) : Option β :=
  cond (decide (0 ≤ (IntKind.i64.wrap (i_ + (1 : Int)))) && decide ((IntKind.i64.wrap (i_ + (1 : Int))) < (List.length m : Int)))
  (let e : List Int := List.getD m (Int.toNat (IntKind.i64.wrap (i_ + (1 : Int)))) ([] : List Int);
  cond (decide (0 ≤ (0 : Int)) && decide ((0 : Int) < (List.length e : Int)))
  (let e2 : Int := List.getD e (Int.toNat (0 : Int)) (0 : Int);
  cond (decide (0 ≤ (0 : Int)) && decide ((0 : Int) < (List.length m : Int)))
  (let e3 : List Int := List.getD m (Int.toNat (0 : Int)) ([] : List Int);
  cond (decide (0 ≤ (IntKind.i64.wrap (i_ + (1 : Int)))) && decide ((IntKind.i64.wrap (i_ + (1 : Int))) < (List.length e3 : Int)))
  (let e4 : Int := List.getD e3 (Int.toNat (IntKind.i64.wrap (i_ + (1 : Int)))) (0 : Int);
  k ((IntKind.i64.wrap (0 - e2)), e4))
  none)
  none)
  none)
  none
theorem zq6x (hΓ : ΓOk Tryz.prog order_matrix_when_X.Γ) : SpecOk Tryz.prog 70 (zq6v (zq6w)) :=
  spec_exec (X := order_matrix_when_X) (Λ := pick1 []) (rs := [.cell 4 40]) (c := bodyOf Tryz.f70) mixed tab_ok hΓ Tryz.func70 (by kernel_rfl) (by kernel_rfl) (by kernel_rfl) (by kernel_rfl) CutsOk_nil (fun x k r h => Eq.trans (b := (zq6v (zq6w)).run x k) (by kernel_rfl) h)
end
theorem zq6yΓ : ΓOk Tryz.prog (pick1 []) := ΓOk_nil
def zq6z : zq6u := zq6w
theorem zq70 : SpecOk Tryz.prog 70 (zq6v zq6z) := zq6x zq6yΓ

/-- (pagewatch/order.matrix).open -/
abbrev zq71 := {β : Type} → (List (List Int)) → Int → Int → (Bool → Option β) → Option β
def zq72 (c : zq71) : Spec :=
  ⟨[(false, [.data (.slice (.slice (.int .i64)))]), (false, [.data (.int .i64)]), (false, [.data (.int .i64)])], [], [(false, [.data .bool])], [], fun x k => c x.1.1.1 x.1.2.1.1 x.1.2.2.1.1 (fun r0 => k (((r0, ()), ()), ()))⟩
section
variable (c_order_matrix_before : zq32)
@[reducible] def order_matrix_open_X : Ctx := ⟨look tab, pick1 [(45, .spec (zq33 c_order_matrix_before))], false, false, false, false⟩
def zq73 {β : Type} (m : List (List Int)) (a : Int) (b : Int) (k : (Bool → Option β)) : Option β :=
  c_order_matrix_before m a b (fun (rbefore : Bool) =>
  cond (!rbefore)
  (c_order_matrix_before m b a (fun (rbefore2 : Bool) =>
  k (!rbefore2)))
  (k false))
theorem zq74 (hΓ : ΓOk Tryz.prog (order_matrix_open_X c_order_matrix_before).Γ) : SpecOk Tryz.prog 71 (zq72 (zq73 c_order_matrix_before)) :=
  spec_exec (X := (order_matrix_open_X c_order_matrix_before)) (Λ := pick1 []) (rs := [.tmp 6]) (c := bodyOf Tryz.f71) mixed tab_ok hΓ Tryz.func71 (by kernel_rfl) (by kernel_rfl) (by kernel_rfl) (by kernel_rfl) CutsOk_nil (fun x k r h => Eq.trans (b := (zq72 (zq73 c_order_matrix_before)).run x k) (by kernel_rfl) h)
end
theorem zq75Γ : ΓOk Tryz.prog (pick1 [(45, .spec (zq33 zq37))]) := (ΓOk_cons zq38 ΓOk_nil)
def zq76 : zq71 := zq73 zq37
theorem zq77 : SpecOk Tryz.prog 71 (zq72 zq76) := zq74 zq37 zq75Γ

/-- slices.Index[[]int,int] -/
abbrev zq78 := {β : Type} → (List Int) → Int → (Int → Option β) → Option β
def zq79 (c : zq78) : Spec :=
  ⟨[(false, [.data (.slice (.int .i64))]), (false, [.data (.int .i64)])], [], [(false, [.data (.int .i64)])], [], fun x k => c x.1.1.1 x.1.2.1.1 (fun r0 => k (((r0, ()), ()), ()))⟩
noncomputable def slices_Index_int_int_p1_code : Code := codeAt 26 (bodyOf Tryz.f74)
abbrev zq7a (β : Type) := Int → Option β
abbrev zq7b (β : Type) := Unit → Option β
abbrev zq7c := {β : Type} → zq7a β → zq7b β → (List Int) → Int → Int → Int → Option β
def zq7d : View := ⟨0, [0, 1, 7, 8], [(false, [.data (.slice (.int .i64))]), (false, [.data (.int .i64)]), (false, [.data (.int .i64)]), (false, [.data (.int .i64)])], []⟩
def zq7e : List (AExit × View) := [(.ret, ⟨0, [4], [(false, [.data (.int .i64)])], []⟩), (.exit 0, ⟨0, [], [], []⟩)]
@[reducible] def slices_Index_int_int_p1_G (p : zq7c) {β : Type} (d : zq7d.den) (ks : Outs.K β zq7e) : Option β :=
  p (fun a0 => ks.1 (((a0, ()), ()), ())) (fun _ => ks.2.1 ((), ())) d.1.1.1 d.1.2.1.1 d.1.2.2.1.1 d.1.2.2.2.1.1
section
@[reducible] def slices_Index_int_int_X : Ctx := ⟨look tab, pick1 [], false, false, false, false⟩
def zq7f {β : Type} (rec : (List Int) → Int → Int → Int → Option β) (k1 : zq7a β) (k2 : zq7b β) (s : List Int) (v : Int) (t7 : Int) (t8 : Int) : Option β :=
  cond (decide (t8 < t7))
  (cond (decide (0 ≤ t8) && decide (t8 < (List.length s : Int)))
  (let e : Int := List.getD s (Int.toNat t8) (0 : Int);
  cond (decide (v = e))
  (k1 t8)
  (rec s v t7 (IntKind.i64.wrap (t8 + (1 : Int)))))
  none)
  (k2 ())
def zq7g {β : Type} : Nat → zq7a β → zq7b β → (List Int) → Int → Int → Int → Option β
  | 0 => fun _ _ _ _ _ _ => none
  | i + 1 => fun k1 k2 s v t7 t8 => zq7f (zq7g i k1 k2) k1 k2 s v t7 t8
theorem zq7h (hΓ : ΓOk Tryz.prog slices_Index_int_int_X.Γ) (i : Nat) : PieceOk Tryz.prog 19 0 slices_Index_int_int_p1_code zq7d zq7e (slices_Index_int_int_p1_G (zq7g i)) := by
  rw [show slices_Index_int_int_p1_code = .loop (loopBody slices_Index_int_int_p1_code) by kernel_rfl]
  exact piece_loop (X := slices_Index_int_int_X) (p := 1) (Λ := pick1 []) (G := fun i => @fun β d ks => slices_Index_int_int_p1_G (zq7g i) d ks) mixed tab_ok hΓ rfl (by kernel_rfl) CutsOk_nil (fun _ _ => rfl) (fun i => @fun β d ks r h => Eq.trans (b := slices_Index_int_int_p1_G (zq7g (i + 1)) d ks) (by kernel_rfl) h) i
def zq7i (p1 : zq7c) {β : Type} (s : List Int) (v : Int) (k : (Int → Option β)) : Option β :=
  p1 (fun (t4 : Int) =>
  k t4) (fun (_ : Unit) =>
  k (-1 : Int)) s v (List.length s : Int) (0 : Int)
theorem zq7j (hΓ : ΓOk Tryz.prog slices_Index_int_int_X.Γ) (p1 : zq7c) (hp1 : PieceOk Tryz.prog 19 0 slices_Index_int_int_p1_code zq7d zq7e (slices_Index_int_int_p1_G p1)) : SpecOk Tryz.prog 74 (zq79 (zq7i p1)) :=
  spec_exec (X := slices_Index_int_int_X) (Λ := pick1 [(26, pieceCut zq7d zq7e (slices_Index_int_int_p1_G p1))]) (rs := [.tmp 4]) (c := bodyOf Tryz.f74) mixed tab_ok hΓ Tryz.func74 (by kernel_rfl) (by kernel_rfl) (by kernel_rfl) (by kernel_rfl) (CutsOk_cons (q := 26) (c' := slices_Index_int_int_p1_code) (by kernel_rfl) rfl hp1 CutsOk_nil) (fun x k r h => Eq.trans (b := (zq79 (zq7i p1)).run x k) (by kernel_rfl) h)
end
theorem zq7kΓ : ΓOk Tryz.prog (pick1 []) := ΓOk_nil
def zq7l (m : Nat) : zq7c := zq7g m
theorem zq7m {β : Type} (i : Nat) (k1 k2 s v t7 t8) : (zq7l (i + 1) k1 k2 s v t7 t8 : Option β) = zq7f (zq7l i k1 k2) k1 k2 s v t7 t8 := rfl
def zq7n : zq7c := zq7l fuel
theorem zq7o : PieceOk Tryz.prog 19 0 slices_Index_int_int_p1_code zq7d zq7e (slices_Index_int_int_p1_G zq7n) := zq7h zq7kΓ fuel
def zq7p : zq78 := zq7i zq7n
theorem zq7q : SpecOk Tryz.prog 74 (zq79 zq7p) := zq7j zq7kΓ zq7n zq7o

/-- pagewatch/pagewatchref38.Meet -/
abbrev zq7r := {β : Type} → (Int × Int) → (Int × Int) → ((Int × Int) → Option β) → Option β
def zq7s (c : zq7r) : Spec :=
  ⟨[(true, [.data (.prod (.int .i64) (.int .i64))]), (true, [.data (.prod (.int .i64) (.int .i64))])], [], [(true, [.data (.prod (.int .i64) (.int .i64))])], [], fun x k => c x.1.1.1 x.1.2.1.1 (fun r0 => k (((r0, ()), ()), ()))⟩
section
@[reducible] def ref38_Meet_X : Ctx := ⟨look tab, pick1 [], false, false, false, false⟩
def zq7t {β : Type} (a : (Int × Int)) (b : (Int × Int)) (k : ((Int × Int) → Option β)) : Option β :=
  k ((if b.1 > a.1 then b.1 else a.1), (if b.2 < a.2 then b.2 else a.2))
theorem zq7u (hΓ : ΓOk Tryz.prog ref38_Meet_X.Γ) : SpecOk Tryz.prog 76 (zq7s (zq7t)) :=
  spec_exec (X := ref38_Meet_X) (Λ := pick1 []) (rs := [.cell 4 40]) (c := bodyOf Tryz.f76) mixed tab_ok hΓ Tryz.func76 (by kernel_rfl) (by kernel_rfl) (by kernel_rfl) (by kernel_rfl) CutsOk_nil (fun x k r h => Eq.trans (b := (zq7s (zq7t)).run x k) (by kernel_rfl) h)
end
theorem zq7vΓ : ΓOk Tryz.prog (pick1 []) := ΓOk_nil
def zq7w : zq7r := zq7t
theorem zq7x : SpecOk Tryz.prog 76 (zq7s zq7w) := zq7u zq7vΓ

/-- pagewatch/pagewatchref38.From -/
abbrev zq7y := {β : Type} → (List UInt8 × Int) → (Int × (Int × (Int × Int))) → Int → ((Int × Int) → Option β) → Option β
def zq7z (c : zq7y) : Spec :=
  ⟨[(true, [.data (.prod .str (.int .i64))]), (true, [.data (.prod (.int .i64) (.prod (.int .i64) (.prod (.int .i64) (.int .i64))))]), (false, [.data (.int .i64)])], [], [(true, [.data (.prod (.int .i64) (.int .i64))])], [], fun x k => c x.1.1.1 x.1.2.1.1 x.1.2.2.1.1 (fun r0 => k (((r0, ()), ()), ()))⟩
section
variable (c_ref25_In : zq1g) (c_ref38_Elapsed : zq64)
@[reducible] def ref38_From_X : Ctx := ⟨look tab, pick1 [(31, .spec (zq1h c_ref25_In)), (64, .spec (zq65 c_ref38_Elapsed))], false, false, false, false⟩
def zq80 {β : Type} (h : (List UInt8 × Int)) (s : (Int × (Int × (Int × Int)))) (clock : Int) (k : ((Int × Int) → Option β)) : Option β :=
  c_ref25_In h.2 (0 : Int) (500000 : Int) (fun (rIn : Bool) =>
  cond (!rIn)
  (k ((-1099511627776 : Int), (1099511627776 : Int)))
  (c_ref25_In s.2.1 (0 : Int) (8589934592 : Int) (fun (rIn2 : Bool) =>
  cond (!rIn2)
  (k ((-1099511627776 : Int), (1099511627776 : Int)))
  (c_ref25_In s.2.2.1 (0 : Int) s.2.2.2 (fun (rIn3 : Bool) =>
  cond (!rIn3)
  (k ((-1099511627776 : Int), (1099511627776 : Int)))
  (cond (decide ((8589934592 : Int) < s.2.2.2))
  (k ((-1099511627776 : Int), (1099511627776 : Int)))
  (c_ref25_In clock (0 : Int) (8589934592 : Int) (fun (rIn4 : Bool) =>
  cond (!rIn4)
  (k ((-1099511627776 : Int), (1099511627776 : Int)))
  (cond (decide (s.2.1 ≤ clock))
  (c_ref38_Elapsed h.2 (IntKind.i64.wrap (clock - s.2.1)) (fun (rElapsed : Int) (rElapsed2 : Int) =>
  k ((IntKind.i64.wrap (s.2.2.1 + rElapsed)), (IntKind.i64.wrap (s.2.2.2 + rElapsed2)))))
  (c_ref38_Elapsed h.2 (IntKind.i64.wrap (s.2.1 - clock)) (fun (rElapsed : Int) (rElapsed2 : Int) =>
  k ((IntKind.i64.wrap (s.2.2.1 - rElapsed2)), (IntKind.i64.wrap (s.2.2.2 - rElapsed))))))))))))))
theorem zq81 (hΓ : ΓOk Tryz.prog (ref38_From_X c_ref25_In c_ref38_Elapsed).Γ) : SpecOk Tryz.prog 77 (zq7z (zq80 c_ref25_In c_ref38_Elapsed)) :=
  spec_exec (X := (ref38_From_X c_ref25_In c_ref38_Elapsed)) (Λ := pick1 []) (rs := [.cell 6 40]) (c := bodyOf Tryz.f77) mixed tab_ok hΓ Tryz.func77 (by kernel_rfl) (by kernel_rfl) (by kernel_rfl) (by kernel_rfl) CutsOk_nil (fun x k r h => Eq.trans (b := (zq7z (zq80 c_ref25_In c_ref38_Elapsed)).run x k) (by kernel_rfl) h)
end
theorem zq82Γ : ΓOk Tryz.prog (pick1 [(31, .spec (zq1h zq1l)), (64, .spec (zq65 zq69))]) := (ΓOk_cons zq1m (ΓOk_cons zq6a ΓOk_nil))
def zq83 : zq7y := zq80 zq1l zq69
theorem zq84 : SpecOk Tryz.prog 77 (zq7z zq83) := zq81 zq1l zq69 zq82Γ

/-- pagewatch/pagewatchref38.Empty -/
abbrev zq85 := {β : Type} → (Int × Int) → (Bool → Option β) → Option β
def zq86 (c : zq85) : Spec :=
  ⟨[(true, [.data (.prod (.int .i64) (.int .i64))])], [], [(false, [.data .bool])], [], fun x k => c x.1.1.1 (fun r0 => k (((r0, ()), ()), ()))⟩
section
@[reducible] def ref38_Empty_X : Ctx := ⟨look tab, pick1 [], false, false, false, false⟩
def zq87 {β : Type} (a : (Int × Int)) (k : (Bool → Option β)) : Option β :=
  k (decide (a.2 < a.1))
theorem zq88 (hΓ : ΓOk Tryz.prog ref38_Empty_X.Γ) : SpecOk Tryz.prog 78 (zq86 (zq87)) :=
  spec_exec (X := ref38_Empty_X) (Λ := pick1 []) (rs := [.tmp 2]) (c := bodyOf Tryz.f78) mixed tab_ok hΓ Tryz.func78 (by kernel_rfl) (by kernel_rfl) (by kernel_rfl) (by kernel_rfl) CutsOk_nil (fun x k r h => Eq.trans (b := (zq86 (zq87)).run x k) (by kernel_rfl) h)
end
theorem zq89Γ : ΓOk Tryz.prog (pick1 []) := ΓOk_nil
def zq8a : zq85 := zq87
theorem zq8b : SpecOk Tryz.prog 78 (zq86 zq8a) := zq88 zq89Γ

/-- pagewatch/constraint.direct -/
abbrev zq8c := {β : Type} → Int → (List (Int × (Int × Int))) → ((List (List Int)) → Option β) → Option β
def zq8d (c : zq8c) : Spec :=
  ⟨[(false, [.data (.int .i64)]), (false, [.data (.slice (.prod (.int .i64) (.prod (.int .i64) (.int .i64))))])], [], [(false, [.math 0])], [.mat 22 3 (.int .i64)], fun x k => c x.1.1.1 x.1.2.1.1 (fun r0 => k (((), ()), (r0, ())))⟩
noncomputable def constraint_direct_p2_code : Code := codeAt 58 (bodyOf Tryz.f84)
noncomputable def constraint_direct_p3_code : Code := codeAt 122 (bodyOf Tryz.f84)
noncomputable def constraint_direct_p1_code : Code := codeAt 462 (loopBody constraint_direct_p2_code)
abbrev zq8e (β : Type) := Int → (List (Int × (Int × Int))) → Int → Int → (List (List Int)) → Option β
abbrev zq8f := {β : Type} → zq8e β → Int → (List (Int × (Int × Int))) → Int → Int → Int → Int → Int → (List (List Int)) → Option β
def zq8g : View := ⟨0, [0, 1, 5, 6, 13, 14, 26, 27], [(false, [.data (.int .i64)]), (false, [.data (.slice (.prod (.int .i64) (.prod (.int .i64) (.int .i64))))]), (false, [.math 0]), (false, [.data (.int .i64)]), (false, [.data (.int .i64)]), (false, [.data (.int .i64)]), (false, [.data (.int .i64)]), (false, [.data (.int .i64)])], [.mat 22 3 (.int .i64)]⟩
def zq8h : List (AExit × View) := [(.exit 2, ⟨0, [0, 1, 5, 13, 14], [(false, [.data (.int .i64)]), (false, [.data (.slice (.prod (.int .i64) (.prod (.int .i64) (.int .i64))))]), (false, [.math 0]), (false, [.data (.int .i64)]), (false, [.data (.int .i64)])], [.mat 22 3 (.int .i64)]⟩)]
@[reducible] def constraint_direct_p1_G (p : zq8f) {β : Type} (d : zq8g.den) (ks : Outs.K β zq8h) : Option β :=
  p (fun a0 a1 a2 a3 a4 => ks.1 (((a0, ()), (a1, ()), (), (a2, ()), (a3, ()), ()), (a4, ()))) d.1.1.1 d.1.2.1.1 d.1.2.2.2.1.1 d.1.2.2.2.2.1.1 d.1.2.2.2.2.2.1.1 d.1.2.2.2.2.2.2.1.1 d.1.2.2.2.2.2.2.2.1.1 d.2.1
abbrev zq8i (β : Type) := (List (Int × (Int × Int))) → (List (List Int)) → Option β
abbrev zq8j := {β : Type} → zq8i β → Int → (List (Int × (Int × Int))) → Int → Int → (List (List Int)) → Option β
def zq8k : View := ⟨0, [0, 1, 5, 13, 14], [(false, [.data (.int .i64)]), (false, [.data (.slice (.prod (.int .i64) (.prod (.int .i64) (.int .i64))))]), (false, [.math 0]), (false, [.data (.int .i64)]), (false, [.data (.int .i64)])], [.mat 22 3 (.int .i64)]⟩
def zq8l : List (AExit × View) := [(.exit 0, ⟨0, [1, 5], [(false, [.data (.slice (.prod (.int .i64) (.prod (.int .i64) (.int .i64))))]), (false, [.math 0])], [.mat 22 3 (.int .i64)]⟩)]
@[reducible] def constraint_direct_p2_G (p : zq8j) {β : Type} (d : zq8k.den) (ks : Outs.K β zq8l) : Option β :=
  p (fun a0 a1 => ks.1 (((a0, ()), (), ()), (a1, ()))) d.1.1.1 d.1.2.1.1 d.1.2.2.2.1.1 d.1.2.2.2.2.1.1 d.2.1
abbrev zq8m (β : Type) := (List (List Int)) → Option β
abbrev zq8n := {β : Type} → zq8m β → (List (Int × (Int × Int))) → Int → Int → (List (List Int)) → Option β
def zq8o : View := ⟨0, [5, 38, 39, 40], [(false, [.math 0]), (false, [.data (.slice (.prod (.int .i64) (.prod (.int .i64) (.int .i64))))]), (false, [.data (.int .i64)]), (false, [.data (.int .i64)])], [.mat 22 3 (.int .i64)]⟩
def zq8p : List (AExit × View) := [(.exit 4, ⟨0, [5], [(false, [.math 0])], [.mat 22 3 (.int .i64)]⟩)]
@[reducible] def constraint_direct_p3_G (p : zq8n) {β : Type} (d : zq8o.den) (ks : Outs.K β zq8p) : Option β :=
  p (fun a0 => ks.1 (((), ()), (a0, ()))) d.1.2.1.1 d.1.2.2.1.1 d.1.2.2.2.1.1 d.2.1
section
@[reducible] def constraint_direct_X : Ctx := ⟨look tab, pick1 [], true, false, false, false⟩
def zq8q {β : Type} (rec : Int → (List (Int × (Int × Int))) → Int → Int → Int → Int → Int → (List (List Int)) → Option β) (k1 : zq8e β) (n : Int) (l : List (Int × (Int × Int))) (i_ : Int) (t13 : Int) (t14 : Int) (t26 : Int) (t27 : Int) (out : List (List Int)) : Option β :=
  cond (decide (t27 < t26))
  (cond (decide (0 ≤ i_) && decide (i_ < (List.length out : Int)))
  (cond (decide (0 ≤ t27) && decide (t27 < (List.length (List.getD out (Int.toNat i_) []) : Int)))
  (let m_ : List (List Int) := (List.set out (Int.toNat i_) (List.set (List.getD out (Int.toNat i_) []) (Int.toNat t27) (1099511627776 : Int)));
  rec n l i_ t13 t14 t26 (IntKind.i64.wrap (t27 + (1 : Int))) m_)
  none)
  none)
  (k1 n l t13 t14 out)
def zq8r {β : Type} : Nat → zq8e β → Int → (List (Int × (Int × Int))) → Int → Int → Int → Int → Int → (List (List Int)) → Option β
  | 0 => fun _ _ _ _ _ _ _ _ _ => none
  | i + 1 => fun k1 n l i_ t13 t14 t26 t27 out => zq8q (zq8r i k1) k1 n l i_ t13 t14 t26 t27 out
theorem zq8s (hΓ : ΓOk Tryz.prog constraint_direct_X.Γ) (i : Nat) : PieceOk Tryz.prog 66 0 constraint_direct_p1_code zq8g zq8h (constraint_direct_p1_G (zq8r i)) := by
  rw [show constraint_direct_p1_code = .loop (loopBody constraint_direct_p1_code) by kernel_rfl]
  exact piece_loop (X := constraint_direct_X) (p := 1) (Λ := pick1 []) (G := fun i => @fun β d ks => constraint_direct_p1_G (zq8r i) d ks) mixed tab_ok hΓ rfl (by kernel_rfl) CutsOk_nil (fun _ _ => rfl) (fun i => @fun β d ks r h => Eq.trans (b := constraint_direct_p1_G (zq8r (i + 1)) d ks) (by kernel_rfl) h) i
def zq8t (p1 : zq8f) {β : Type} (rec : Int → (List (Int × (Int × Int))) → Int → Int → (List (List Int)) → Option β) (k1 : zq8i β) (n : Int) (l : List (Int × (Int × Int))) (t13 : Int) (t14 : Int) (out : List (List Int)) : Option β :=
  cond (decide (t14 < t13))
  (cond (decide (0 ≤ n) && (decide (n = n) && (decide (Int.toNat n * 8 ≤ roomMax) && decide (n ≤ 9223372036854775807))))
  (let l2 : List Int := (List.replicate (Int.toNat n) (0 : Int));
  cond (decide (0 ≤ t14) && decide (t14 < (List.length out : Int)))
  (let m_ : List (List Int) := (List.set out (Int.toNat t14) l2);
  cond (decide (0 ≤ t14) && decide (t14 < (List.length m_ : Int)))
  (p1 (fun (n2 : Int) (l3 : List (Int × (Int × Int))) (t132 : Int) (t142 : Int) (out2 : List (List Int)) =>
  rec n2 l3 t132 (IntKind.i64.wrap (t142 + (1 : Int))) out2) n l t14 t13 t14 (List.length (List.getD m_ (Int.toNat t14) []) : Int) (0 : Int) m_)
  none)
  none)
  none)
  (k1 l out)
def zq8u (p1 : zq8f) {β : Type} : Nat → zq8i β → Int → (List (Int × (Int × Int))) → Int → Int → (List (List Int)) → Option β
  | 0 => fun _ _ _ _ _ _ => none
  | i + 1 => fun k1 n l t13 t14 out => zq8t p1 (zq8u p1 i k1) k1 n l t13 t14 out
theorem zq8v (hΓ : ΓOk Tryz.prog constraint_direct_X.Γ) (p1 : zq8f) (hp1 : PieceOk Tryz.prog 66 0 constraint_direct_p1_code zq8g zq8h (constraint_direct_p1_G p1)) (i : Nat) : PieceOk Tryz.prog 66 0 constraint_direct_p2_code zq8k zq8l (constraint_direct_p2_G (zq8u p1 i)) := by
  rw [show constraint_direct_p2_code = .loop (loopBody constraint_direct_p2_code) by kernel_rfl]
  exact piece_loop (X := constraint_direct_X) (p := 1) (Λ := pick1 [(462, pieceCut zq8g zq8h (constraint_direct_p1_G p1))]) (G := fun i => @fun β d ks => constraint_direct_p2_G (zq8u p1 i) d ks) mixed tab_ok hΓ rfl (by kernel_rfl) (CutsOk_cons (q := 462) (c' := constraint_direct_p1_code) (by kernel_rfl) rfl hp1 CutsOk_nil) (fun _ _ => rfl) (fun i => @fun β d ks r h => Eq.trans (b := constraint_direct_p2_G (zq8u p1 (i + 1)) d ks) (by kernel_rfl) h) i
def zq8w {β : Type} (rec : (List (Int × (Int × Int))) → Int → Int → (List (List Int)) → Option β) (k1 : zq8m β) (t38 : List (Int × (Int × Int))) (t39 : Int) (t40 : Int) (out : List (List Int)) : Option β :=
  cond (decide (t40 < t39))
  (cond (decide (0 ≤ t40) && decide (t40 < (List.length t38 : Int)))
  (let e : (Int × (Int × Int)) := List.getD t38 (Int.toNat t40) ((0 : Int), ((0 : Int), (0 : Int)));
  cond (decide (0 ≤ e.1) && decide (e.1 < (List.length out : Int)))
  (cond (decide (0 ≤ e.1) && decide (e.1 < (List.length out : Int)))
  (cond (decide (0 ≤ e.2.1) && decide (e.2.1 < (List.length (List.getD out (Int.toNat e.1) []) : Int)))
  (cond (decide (0 ≤ e.2.1) && decide (e.2.1 < (List.length (List.getD out (Int.toNat e.1) []) : Int)))
  (let m_ : List (List Int) := (List.set out (Int.toNat e.1) (List.set (List.getD out (Int.toNat e.1) []) (Int.toNat e.2.1) (if e.2.2 < (List.getD (List.getD out (Int.toNat e.1) []) (Int.toNat e.2.1) (0 : Int)) then e.2.2 else (List.getD (List.getD out (Int.toNat e.1) []) (Int.toNat e.2.1) (0 : Int)))));
  rec t38 t39 (IntKind.i64.wrap (t40 + (1 : Int))) m_)
  none)
  none)
  none)
  none)
  none)
  (k1 out)
def zq8x {β : Type} : Nat → zq8m β → (List (Int × (Int × Int))) → Int → Int → (List (List Int)) → Option β
  | 0 => fun _ _ _ _ _ => none
  | i + 1 => fun k1 t38 t39 t40 out => zq8w (zq8x i k1) k1 t38 t39 t40 out
theorem zq8y (hΓ : ΓOk Tryz.prog constraint_direct_X.Γ) (i : Nat) : PieceOk Tryz.prog 66 0 constraint_direct_p3_code zq8o zq8p (constraint_direct_p3_G (zq8x i)) := by
  rw [show constraint_direct_p3_code = .loop (loopBody constraint_direct_p3_code) by kernel_rfl]
  exact piece_loop (X := constraint_direct_X) (p := 1) (Λ := pick1 []) (G := fun i => @fun β d ks => constraint_direct_p3_G (zq8x i) d ks) mixed tab_ok hΓ rfl (by kernel_rfl) CutsOk_nil (fun _ _ => rfl) (fun i => @fun β d ks r h => Eq.trans (b := constraint_direct_p3_G (zq8x (i + 1)) d ks) (by kernel_rfl) h) i
def zq8z (p2 : zq8j) (p3 : zq8n) {β : Type} (n : Int) (l : List (Int × (Int × Int))) (k : ((List (List Int)) → Option β)) : Option β :=
  cond (decide (0 ≤ n) && (decide (n = n) && (decide (Int.toNat n * 24 ≤ roomMax) && decide (n ≤ 9223372036854775807))))
  (let m_ : List (List Int) := (List.replicate (Int.toNat n) ([] : List Int));
  p2 (fun (l2 : List (Int × (Int × Int))) (out : List (List Int)) =>
  p3 (fun (out2 : List (List Int)) =>
  k out2) l2 (List.length l2 : Int) (0 : Int) out) n l (List.length m_ : Int) (0 : Int) m_)
  none
theorem zq90 (hΓ : ΓOk Tryz.prog constraint_direct_X.Γ) (p2 : zq8j) (p3 : zq8n) (hp2 : PieceOk Tryz.prog 66 0 constraint_direct_p2_code zq8k zq8l (constraint_direct_p2_G p2)) (hp3 : PieceOk Tryz.prog 66 0 constraint_direct_p3_code zq8o zq8p (constraint_direct_p3_G p3)) : SpecOk Tryz.prog 84 (zq8d (zq8z p2 p3)) :=
  spec_exec (X := constraint_direct_X) (Λ := pick1 [(58, pieceCut zq8k zq8l (constraint_direct_p2_G p2)), (122, pieceCut zq8o zq8p (constraint_direct_p3_G p3))]) (rs := [.tmp 4]) (c := bodyOf Tryz.f84) mixed tab_ok hΓ Tryz.func84 (by kernel_rfl) (by kernel_rfl) (by kernel_rfl) (by kernel_rfl) (CutsOk_cons (q := 58) (c' := constraint_direct_p2_code) (by kernel_rfl) rfl hp2 (CutsOk_cons (q := 122) (c' := constraint_direct_p3_code) (by kernel_rfl) rfl hp3 CutsOk_nil)) (fun x k r h => Eq.trans (b := (zq8d (zq8z p2 p3)).run x k) (by kernel_rfl) h)
end
theorem zq91Γ : ΓOk Tryz.prog (pick1 []) := ΓOk_nil
def zq92 (m : Nat) : zq8f := zq8r m
theorem zq93 {β : Type} (i : Nat) (k1 n l i_ t13 t14 t26 t27 out) : (zq92 (i + 1) k1 n l i_ t13 t14 t26 t27 out : Option β) = zq8q (zq92 i k1) k1 n l i_ t13 t14 t26 t27 out := rfl
def zq94 : zq8f := zq92 fuel
theorem zq95 : PieceOk Tryz.prog 66 0 constraint_direct_p1_code zq8g zq8h (constraint_direct_p1_G zq94) := zq8s zq91Γ fuel
def zq96 (m : Nat) : zq8j := zq8u zq94 m
theorem zq97 {β : Type} (i : Nat) (k1 n l t13 t14 out) : (zq96 (i + 1) k1 n l t13 t14 out : Option β) = zq8t zq94 (zq96 i k1) k1 n l t13 t14 out := rfl
def zq98 : zq8j := zq96 fuel
theorem zq99 : PieceOk Tryz.prog 66 0 constraint_direct_p2_code zq8k zq8l (constraint_direct_p2_G zq98) := zq8v zq91Γ zq94 zq95 fuel
def zq9a (m : Nat) : zq8n := zq8x m
theorem zq9b {β : Type} (i : Nat) (k1 t38 t39 t40 out) : (zq9a (i + 1) k1 t38 t39 t40 out : Option β) = zq8w (zq9a i k1) k1 t38 t39 t40 out := rfl
def zq9c : zq8n := zq9a fuel
theorem zq9d : PieceOk Tryz.prog 66 0 constraint_direct_p3_code zq8o zq8p (constraint_direct_p3_G zq9c) := zq8y zq91Γ fuel
def zq9e : zq8c := zq8z zq98 zq9c
theorem zq9f : SpecOk Tryz.prog 84 (zq8d zq9e) := zq90 zq91Γ zq98 zq9c zq99 zq9d

/-- pagewatch/clock.Meet -/
abbrev zq9g := {β : Type} → (Int × Int) → (Int × Int) → ((Int × Int) → Option β) → Option β
def zq9h (c : zq9g) : Spec :=
  ⟨[(true, [.data (.prod (.int .i64) (.int .i64))]), (true, [.data (.prod (.int .i64) (.int .i64))])], [], [(true, [.data (.prod (.int .i64) (.int .i64))])], [], fun x k => c x.1.1.1 x.1.2.1.1 (fun r0 => k (((r0, ()), ()), ()))⟩
section
@[reducible] def clock_Meet_X : Ctx := ⟨look tab, pick1 [], false, false, false, false⟩
def zq9i {β : Type} (a : (Int × Int)) (b : (Int × Int)) (k : ((Int × Int) → Option β)) : Option β :=
  k ((if b.1 > a.1 then b.1 else a.1), (if b.2 < a.2 then b.2 else a.2))
theorem zq9j (hΓ : ΓOk Tryz.prog clock_Meet_X.Γ) : SpecOk Tryz.prog 100 (zq9h (zq9i)) :=
  spec_exec (X := clock_Meet_X) (Λ := pick1 []) (rs := [.cell 4 40]) (c := bodyOf Tryz.f100) mixed tab_ok hΓ Tryz.func100 (by kernel_rfl) (by kernel_rfl) (by kernel_rfl) (by kernel_rfl) CutsOk_nil (fun x k r h => Eq.trans (b := (zq9h (zq9i)).run x k) (by kernel_rfl) h)
end
theorem zq9kΓ : ΓOk Tryz.prog (pick1 []) := ΓOk_nil
def zq9l : zq9g := zq9i
theorem zq9m : SpecOk Tryz.prog 100 (zq9h zq9l) := zq9j zq9kΓ

/-- pagewatch/clock.Empty -/
abbrev zq9n := {β : Type} → (Int × Int) → (Bool → Option β) → Option β
def zq9o (c : zq9n) : Spec :=
  ⟨[(true, [.data (.prod (.int .i64) (.int .i64))])], [], [(false, [.data .bool])], [], fun x k => c x.1.1.1 (fun r0 => k (((r0, ()), ()), ()))⟩
section
@[reducible] def clock_Empty_X : Ctx := ⟨look tab, pick1 [], false, false, false, false⟩
def zq9p {β : Type} (a : (Int × Int)) (k : (Bool → Option β)) : Option β :=
  k (decide (a.2 < a.1))
theorem zq9q (hΓ : ΓOk Tryz.prog clock_Empty_X.Γ) : SpecOk Tryz.prog 102 (zq9o (zq9p)) :=
  spec_exec (X := clock_Empty_X) (Λ := pick1 []) (rs := [.tmp 2]) (c := bodyOf Tryz.f102) mixed tab_ok hΓ Tryz.func102 (by kernel_rfl) (by kernel_rfl) (by kernel_rfl) (by kernel_rfl) CutsOk_nil (fun x k r h => Eq.trans (b := (zq9o (zq9p)).run x k) (by kernel_rfl) h)
end
theorem zq9rΓ : ΓOk Tryz.prog (pick1 []) := ΓOk_nil
def zq9s : zq9n := zq9p
theorem zq9t : SpecOk Tryz.prog 102 (zq9o zq9s) := zq9q zq9rΓ

/-- pagewatch/constraint.in -/
abbrev zq9u := {β : Type} → Int → Int → Int → (Bool → Option β) → Option β
def zq9v (c : zq9u) : Spec :=
  ⟨[(false, [.data (.int .i64)]), (false, [.data (.int .i64)]), (false, [.data (.int .i64)])], [], [(false, [.data .bool])], [], fun x k => c x.1.1.1 x.1.2.1.1 x.1.2.2.1.1 (fun r0 => k (((r0, ()), ()), ()))⟩
section
@[reducible] def constraint_in_X : Ctx := ⟨look tab, pick1 [], false, false, false, false⟩
def zq9w {β : Type} (n : Int) (low : Int) (high : Int) (k : (Bool → Option β)) : Option β :=
  cond (decide (low ≤ n))
  (k (decide (n ≤ high)))
  (k false)
theorem zq9x (hΓ : ΓOk Tryz.prog constraint_in_X.Γ) : SpecOk Tryz.prog 104 (zq9v (zq9w)) :=
  spec_exec (X := constraint_in_X) (Λ := pick1 []) (rs := [.tmp 6]) (c := bodyOf Tryz.f104) mixed tab_ok hΓ Tryz.func104 (by kernel_rfl) (by kernel_rfl) (by kernel_rfl) (by kernel_rfl) CutsOk_nil (fun x k r h => Eq.trans (b := (zq9v (zq9w)).run x k) (by kernel_rfl) h)
end
theorem zq9yΓ : ΓOk Tryz.prog (pick1 []) := ΓOk_nil
def zq9z : zq9u := zq9w
theorem zqa0 : SpecOk Tryz.prog 104 (zq9v zq9z) := zq9x zq9yΓ

/-- pagewatch/constraint.Valid$1 -/
abbrev zqa1 := {β : Type} → (Int × (Int × Int)) → Int → (Bool → Int → Option β) → Option β
def zqa2 (c : zqa1) : Spec :=
  ⟨[(true, [.data (.prod (.int .i64) (.prod (.int .i64) (.int .i64)))]), (false, [.ptr 0 0])], [.cells 3 [.data (.int .i64)]], [(false, [.data .bool])], [.cells 3 [.data (.int .i64)]], fun x k => c x.1.1.1 x.2.1.1 (fun r0 r1 => k (((r0, ()), ()), ((r1, ()), ())))⟩
section
variable (c_constraint_in : zq9u)
@[reducible] def constraint_Valid_f1_X : Ctx := ⟨look tab, pick1 [(104, .spec (zq9v c_constraint_in))], false, false, false, false⟩
def zqa3 {β : Type} (d : (Int × (Int × Int))) (t1 : Int) (k : (Bool → Int → Option β)) : Option β :=
  c_constraint_in d.1 (0 : Int) (IntKind.i64.wrap (t1 - (1 : Int))) (fun (rin : Bool) =>
  cond (!rin)
  (k true t1)
  (c_constraint_in d.2.1 (0 : Int) (IntKind.i64.wrap (t1 - (1 : Int))) (fun (rin2 : Bool) =>
  cond (!rin2)
  (k true t1)
  (c_constraint_in d.2.2 (-17179869184 : Int) (17179869184 : Int) (fun (rin3 : Bool) =>
  k (!rin3) t1)))))
theorem zqa4 (hΓ : ΓOk Tryz.prog (constraint_Valid_f1_X c_constraint_in).Γ) : SpecOk Tryz.prog 106 (zqa2 (zqa3 c_constraint_in)) :=
  spec_exec (X := (constraint_Valid_f1_X c_constraint_in)) (Λ := pick1 []) (rs := [.tmp 3]) (c := bodyOf Tryz.f106) mixed tab_ok hΓ Tryz.func106 (by kernel_rfl) (by kernel_rfl) (by kernel_rfl) (by kernel_rfl) CutsOk_nil (fun x k r h => Eq.trans (b := (zqa2 (zqa3 c_constraint_in)).run x k) (by kernel_rfl) h)
end
theorem zqa5Γ : ΓOk Tryz.prog (pick1 [(104, .spec (zq9v zq9z))]) := (ΓOk_cons zqa0 ΓOk_nil)
def zqa6 : zqa1 := zqa3 zq9z
theorem zqa7 : SpecOk Tryz.prog 106 (zqa2 zqa6) := zqa4 zq9z zqa5Γ

/-- pagewatch/clock.Elapsed$1 -/
abbrev zqa8 := {β : Type} → Int → Int → (Int → Option β) → Option β
def zqa9 (c : zqa8) : Spec :=
  ⟨[(false, [.data (.int .i64)]), (false, [.data (.int .i64)])], [], [(false, [.data (.int .i64)])], [], fun x k => c x.1.1.1 x.1.2.1.1 (fun r0 => k (((r0, ()), ()), ()))⟩
section
@[reducible] def clock_Elapsed_f1_X : Ctx := ⟨look tab, pick1 [], false, false, false, false⟩
def zqaa {β : Type} (a : Int) (b : Int) (k : (Int → Option β)) : Option β :=
  cond (!decide (b = 0))
  (let t : Int := (IntKind.i64.wrap (Int.tdiv (IntKind.i64.wrap ((IntKind.i64.wrap (a + b)) - (1 : Int))) b));
  k t)
  none
theorem zqab (hΓ : ΓOk Tryz.prog clock_Elapsed_f1_X.Γ) : SpecOk Tryz.prog 117 (zqa9 (zqaa)) :=
  spec_exec (X := clock_Elapsed_f1_X) (Λ := pick1 []) (rs := [.tmp 4]) (c := bodyOf Tryz.f117) mixed tab_ok hΓ Tryz.func117 (by kernel_rfl) (by kernel_rfl) (by kernel_rfl) (by kernel_rfl) CutsOk_nil (fun x k r h => Eq.trans (b := (zqa9 (zqaa)).run x k) (by kernel_rfl) h)
end
theorem zqacΓ : ΓOk Tryz.prog (pick1 []) := ΓOk_nil
def zqad : zqa8 := zqaa
theorem zqae : SpecOk Tryz.prog 117 (zqa9 zqad) := zqab zqacΓ

/-- (*pagewatch/pagewatchmade.Dice).Record -/
abbrev zqaf := {β : Type} → Int → (List Int × Int) → (zq2 → (List Int × Int) → (List Int) → Option β) → Option β
def zqag (c : zqaf) : Spec :=
  ⟨[(false, [.ptr 0 0]), (false, [.data (.int .i64)])], [.cells 68 [.data (.prod (.slice (.int .i64)) (.int .i64))]], [(true, [.data zq3]), (false, [.rowh 1])], [.cells 68 [.data (.prod (.slice (.int .i64)) (.int .i64))], .row 3 (.int .i64)], fun x k => c x.1.2.1.1 x.2.1.1 (fun r0 r1 r2 => k (((r0, ()), (), ()), ((r1, ()), r2, ())))⟩
noncomputable def made_Dice_Record_p1_code : Code := codeAt 122 (bodyOf Tryz.f9)
noncomputable def made_Dice_Record_p2_code : Code := codeAt 250 (bodyOf Tryz.f9)
noncomputable def made_Dice_Record_p3_code : Code := codeAt 1018 (bodyOf Tryz.f9)
noncomputable def made_Dice_Record_p5_code : Code := codeAt 2042 (bodyOf Tryz.f9)
noncomputable def made_Dice_Record_p4_code : Code := codeAt 51 (loopBody made_Dice_Record_p5_code)
abbrev zqah (β : Type) := Int → (List Int) → Int → (List Int) → (List (List UInt8 × Int)) → (List (Int × (Int × (Int × Int)))) → (List zq0) → (List (Int × (Int × Int))) → (List (List UInt8 × Int)) → (List (Int × (Int × (Int × Int)))) → (List zq0) → (List (Int × (Int × Int))) → Option β
abbrev zqai := {β : Type} → zqah β → Int → Int → (List Int) → Int → (List Int) → (List (List UInt8 × Int)) → (List (Int × (Int × (Int × Int)))) → (List zq0) → (List (Int × (Int × Int))) → (List (List UInt8 × Int)) → (List (Int × (Int × (Int × Int)))) → (List zq0) → (List (Int × (Int × Int))) → Option β
def zqaj : View := ⟨1, [0, 1, 4, 6, 7, 8], [(false, [.ptr 0 0]), (false, [.data (.int .i64)]), (false, [.ptr 1 0]), (false, [.ptr 2 0]), (false, [.rowh 3]), (false, [.data (.int .i64)])], [.cells 68 [.data (.slice (.int .i64)), .data (.int .i64)], .cells 32 [.rowh 4, .rowh 5, .rowh 6, .rowh 7], .cells 32 [.rowh 8, .rowh 9, .rowh 10, .rowh 11], .row 3 (.int .i64), .row 62 (.prod .str (.int .i64)), .row 64 (.prod (.int .i64) (.prod (.int .i64) (.prod (.int .i64) (.int .i64)))), .row 60 zq1, .row 73 (.prod (.int .i64) (.prod (.int .i64) (.int .i64))), .row 62 (.prod .str (.int .i64)), .row 64 (.prod (.int .i64) (.prod (.int .i64) (.prod (.int .i64) (.int .i64)))), .row 60 zq1, .row 73 (.prod (.int .i64) (.prod (.int .i64) (.int .i64)))]⟩
def zqak : List (AExit × View) := [(.exit 0, ⟨1, [0, 1, 4, 6, 7], [(false, [.ptr 0 0]), (false, [.data (.int .i64)]), (false, [.ptr 1 0]), (false, [.ptr 2 0]), (false, [.rowh 3])], [.cells 68 [.data (.slice (.int .i64)), .data (.int .i64)], .cells 32 [.rowh 4, .rowh 5, .rowh 6, .rowh 7], .cells 32 [.rowh 8, .rowh 9, .rowh 10, .rowh 11], .row 3 (.int .i64), .row 62 (.prod .str (.int .i64)), .row 64 (.prod (.int .i64) (.prod (.int .i64) (.prod (.int .i64) (.int .i64)))), .row 60 zq1, .row 73 (.prod (.int .i64) (.prod (.int .i64) (.int .i64))), .row 62 (.prod .str (.int .i64)), .row 64 (.prod (.int .i64) (.prod (.int .i64) (.prod (.int .i64) (.int .i64)))), .row 60 zq1, .row 73 (.prod (.int .i64) (.prod (.int .i64) (.int .i64)))]⟩)]
@[reducible] def made_Dice_Record_p1_G (p : zqai) {β : Type} (d : zqaj.den) (ks : Outs.K β zqak) : Option β :=
  p (fun a0 a1 a2 a3 a4 a5 a6 a7 a8 a9 a10 a11 => ks.1 (((), (a0, ()), (), (), (), ()), ((a1, a2, ()), (), (), a3, a4, a5, a6, a7, a8, a9, a10, a11, ()))) d.1.2.1.1 d.1.2.2.2.2.2.1.1 d.2.1.1 d.2.1.2.1 d.2.2.2.2.1 d.2.2.2.2.2.1 d.2.2.2.2.2.2.1 d.2.2.2.2.2.2.2.1 d.2.2.2.2.2.2.2.2.1 d.2.2.2.2.2.2.2.2.2.1 d.2.2.2.2.2.2.2.2.2.2.1 d.2.2.2.2.2.2.2.2.2.2.2.1 d.2.2.2.2.2.2.2.2.2.2.2.2.1
abbrev zqal (β : Type) := Int → (List Int) → Int → (List Int) → (List (List UInt8 × Int)) → (List (Int × (Int × (Int × Int)))) → (List zq0) → (List (Int × (Int × Int))) → (List (List UInt8 × Int)) → (List (Int × (Int × (Int × Int)))) → (List zq0) → (List (Int × (Int × Int))) → Option β
abbrev zqam := {β : Type} → zqal β → Int → Int → (List Int) → Int → (List Int) → (List (List UInt8 × Int)) → (List (Int × (Int × (Int × Int)))) → (List zq0) → (List (Int × (Int × Int))) → (List (List UInt8 × Int)) → (List (Int × (Int × (Int × Int)))) → (List zq0) → (List (Int × (Int × Int))) → Option β
def zqan : View := ⟨1, [0, 1, 4, 6, 7, 9], [(false, [.ptr 0 0]), (false, [.data (.int .i64)]), (false, [.ptr 1 0]), (false, [.ptr 2 0]), (false, [.rowh 3]), (false, [.data (.int .i64)])], [.cells 68 [.data (.slice (.int .i64)), .data (.int .i64)], .cells 32 [.rowh 4, .rowh 5, .rowh 6, .rowh 7], .cells 32 [.rowh 8, .rowh 9, .rowh 10, .rowh 11], .row 3 (.int .i64), .row 62 (.prod .str (.int .i64)), .row 64 (.prod (.int .i64) (.prod (.int .i64) (.prod (.int .i64) (.int .i64)))), .row 60 zq1, .row 73 (.prod (.int .i64) (.prod (.int .i64) (.int .i64))), .row 62 (.prod .str (.int .i64)), .row 64 (.prod (.int .i64) (.prod (.int .i64) (.prod (.int .i64) (.int .i64)))), .row 60 zq1, .row 73 (.prod (.int .i64) (.prod (.int .i64) (.int .i64)))]⟩
def zqao : List (AExit × View) := [(.exit 2, ⟨1, [0, 1, 4, 6, 7], [(false, [.ptr 0 0]), (false, [.data (.int .i64)]), (false, [.ptr 1 0]), (false, [.ptr 2 0]), (false, [.rowh 3])], [.cells 68 [.data (.slice (.int .i64)), .data (.int .i64)], .cells 32 [.rowh 4, .rowh 5, .rowh 6, .rowh 7], .cells 32 [.rowh 8, .rowh 9, .rowh 10, .rowh 11], .row 3 (.int .i64), .row 62 (.prod .str (.int .i64)), .row 64 (.prod (.int .i64) (.prod (.int .i64) (.prod (.int .i64) (.int .i64)))), .row 60 zq1, .row 73 (.prod (.int .i64) (.prod (.int .i64) (.int .i64))), .row 62 (.prod .str (.int .i64)), .row 64 (.prod (.int .i64) (.prod (.int .i64) (.prod (.int .i64) (.int .i64)))), .row 60 zq1, .row 73 (.prod (.int .i64) (.prod (.int .i64) (.int .i64)))]⟩)]
@[reducible] def made_Dice_Record_p2_G (p : zqam) {β : Type} (d : zqan.den) (ks : Outs.K β zqao) : Option β :=
  p (fun a0 a1 a2 a3 a4 a5 a6 a7 a8 a9 a10 a11 => ks.1 (((), (a0, ()), (), (), (), ()), ((a1, a2, ()), (), (), a3, a4, a5, a6, a7, a8, a9, a10, a11, ()))) d.1.2.1.1 d.1.2.2.2.2.2.1.1 d.2.1.1 d.2.1.2.1 d.2.2.2.2.1 d.2.2.2.2.2.1 d.2.2.2.2.2.2.1 d.2.2.2.2.2.2.2.1 d.2.2.2.2.2.2.2.2.1 d.2.2.2.2.2.2.2.2.2.1 d.2.2.2.2.2.2.2.2.2.2.1 d.2.2.2.2.2.2.2.2.2.2.2.1 d.2.2.2.2.2.2.2.2.2.2.2.2.1
abbrev zqap (β : Type) := (List Int) → Int → (List Int) → (List (List UInt8 × Int)) → (List (Int × (Int × (Int × Int)))) → (List zq0) → (List (Int × (Int × Int))) → (List (List UInt8 × Int)) → (List (Int × (Int × (Int × Int)))) → (List zq0) → (List (Int × (Int × Int))) → Option β
abbrev zqaq := {β : Type} → zqap β → Int → (List Int) → Int → (List Int) → (List Int) → (List (List UInt8 × Int)) → (List (Int × (Int × (Int × Int)))) → (List zq0) → (List (Int × (Int × Int))) → (List (List UInt8 × Int)) → (List (Int × (Int × (Int × Int)))) → (List zq0) → (List (Int × (Int × Int))) → Option β
def zqar : View := ⟨1, [0, 4, 6, 7, 12, 13], [(false, [.ptr 0 0]), (false, [.ptr 1 0]), (false, [.ptr 2 0]), (false, [.rowh 3]), (false, [.rowh 4]), (false, [.data (.int .i64)])], [.cells 68 [.data (.slice (.int .i64)), .data (.int .i64)], .cells 32 [.rowh 5, .rowh 6, .rowh 7, .rowh 8], .cells 32 [.rowh 9, .rowh 10, .rowh 11, .rowh 12], .row 3 (.int .i64), .row 3 (.int .i64), .row 62 (.prod .str (.int .i64)), .row 64 (.prod (.int .i64) (.prod (.int .i64) (.prod (.int .i64) (.int .i64)))), .row 60 zq1, .row 73 (.prod (.int .i64) (.prod (.int .i64) (.int .i64))), .row 62 (.prod .str (.int .i64)), .row 64 (.prod (.int .i64) (.prod (.int .i64) (.prod (.int .i64) (.int .i64)))), .row 60 zq1, .row 73 (.prod (.int .i64) (.prod (.int .i64) (.int .i64)))]⟩
def zqas : List (AExit × View) := [(.exit 4, ⟨1, [0, 4, 6, 12], [(false, [.ptr 0 0]), (false, [.ptr 1 0]), (false, [.ptr 2 0]), (false, [.rowh 3])], [.cells 68 [.data (.slice (.int .i64)), .data (.int .i64)], .cells 32 [.rowh 4, .rowh 5, .rowh 6, .rowh 7], .cells 32 [.rowh 8, .rowh 9, .rowh 10, .rowh 11], .row 3 (.int .i64), .row 62 (.prod .str (.int .i64)), .row 64 (.prod (.int .i64) (.prod (.int .i64) (.prod (.int .i64) (.int .i64)))), .row 60 zq1, .row 73 (.prod (.int .i64) (.prod (.int .i64) (.int .i64))), .row 62 (.prod .str (.int .i64)), .row 64 (.prod (.int .i64) (.prod (.int .i64) (.prod (.int .i64) (.int .i64)))), .row 60 zq1, .row 73 (.prod (.int .i64) (.prod (.int .i64) (.int .i64)))]⟩)]
@[reducible] def made_Dice_Record_p3_G (p : zqaq) {β : Type} (d : zqar.den) (ks : Outs.K β zqas) : Option β :=
  p (fun a0 a1 a2 a3 a4 a5 a6 a7 a8 a9 a10 => ks.1 (((), (), (), (), ()), ((a0, a1, ()), (), (), a2, a3, a4, a5, a6, a7, a8, a9, a10, ()))) d.1.2.2.2.2.2.1.1 d.2.1.1 d.2.1.2.1 d.2.2.2.2.1 d.2.2.2.2.2.1 d.2.2.2.2.2.2.1 d.2.2.2.2.2.2.2.1 d.2.2.2.2.2.2.2.2.1 d.2.2.2.2.2.2.2.2.2.1 d.2.2.2.2.2.2.2.2.2.2.1 d.2.2.2.2.2.2.2.2.2.2.2.1 d.2.2.2.2.2.2.2.2.2.2.2.2.1 d.2.2.2.2.2.2.2.2.2.2.2.2.2.1
abbrev zqat (β : Type) := Int → (List Int) → Int → (List Int) → (List (List UInt8 × Int)) → (List (Int × (Int × (Int × Int)))) → (List zq0) → (List (Int × (Int × Int))) → (List (List UInt8 × Int)) → (List (Int × (Int × (Int × Int)))) → (List zq0) → (List (Int × (Int × Int))) → Option β
abbrev zqau := {β : Type} → zqat β → Int → Int → Int → Bool → (List Int) → Int → (List Int) → (List (List UInt8 × Int)) → (List (Int × (Int × (Int × Int)))) → (List zq0) → (List (Int × (Int × Int))) → (List (List UInt8 × Int)) → (List (Int × (Int × (Int × Int)))) → (List zq0) → (List (Int × (Int × Int))) → Option β
def zqav : View := ⟨1, [0, 4, 6, 12, 16, 17, 18, 154], [(false, [.ptr 0 0]), (false, [.ptr 1 0]), (false, [.ptr 2 0]), (false, [.rowh 3]), (false, [.data (.int .i64)]), (false, [.data (.int .i64)]), (false, [.data (.int .i64)]), (false, [.data .bool])], [.cells 68 [.data (.slice (.int .i64)), .data (.int .i64)], .cells 32 [.rowh 4, .rowh 5, .rowh 6, .rowh 7], .cells 32 [.rowh 8, .rowh 9, .rowh 10, .rowh 11], .row 3 (.int .i64), .row 62 (.prod .str (.int .i64)), .row 64 (.prod (.int .i64) (.prod (.int .i64) (.prod (.int .i64) (.int .i64)))), .row 60 zq1, .row 73 (.prod (.int .i64) (.prod (.int .i64) (.int .i64))), .row 62 (.prod .str (.int .i64)), .row 64 (.prod (.int .i64) (.prod (.int .i64) (.prod (.int .i64) (.int .i64)))), .row 60 zq1, .row 73 (.prod (.int .i64) (.prod (.int .i64) (.int .i64)))]⟩
def zqaw : List (AExit × View) := [(.normal, ⟨1, [0, 4, 6, 12, 16], [(false, [.ptr 0 0]), (false, [.ptr 1 0]), (false, [.ptr 2 0]), (false, [.rowh 3]), (false, [.data (.int .i64)])], [.cells 68 [.data (.slice (.int .i64)), .data (.int .i64)], .cells 32 [.rowh 4, .rowh 5, .rowh 6, .rowh 7], .cells 32 [.rowh 8, .rowh 9, .rowh 10, .rowh 11], .row 3 (.int .i64), .row 62 (.prod .str (.int .i64)), .row 64 (.prod (.int .i64) (.prod (.int .i64) (.prod (.int .i64) (.int .i64)))), .row 60 zq1, .row 73 (.prod (.int .i64) (.prod (.int .i64) (.int .i64))), .row 62 (.prod .str (.int .i64)), .row 64 (.prod (.int .i64) (.prod (.int .i64) (.prod (.int .i64) (.int .i64)))), .row 60 zq1, .row 73 (.prod (.int .i64) (.prod (.int .i64) (.int .i64)))]⟩)]
@[reducible] def made_Dice_Record_p4_G (p : zqau) {β : Type} (d : zqav.den) (ks : Outs.K β zqaw) : Option β :=
  p (fun a0 a1 a2 a3 a4 a5 a6 a7 a8 a9 a10 a11 => ks.1 (((), (), (), (), (a0, ()), ()), ((a1, a2, ()), (), (), a3, a4, a5, a6, a7, a8, a9, a10, a11, ()))) d.1.2.2.2.2.1.1 d.1.2.2.2.2.2.1.1 d.1.2.2.2.2.2.2.1.1 d.1.2.2.2.2.2.2.2.1.1 d.2.1.1 d.2.1.2.1 d.2.2.2.2.1 d.2.2.2.2.2.1 d.2.2.2.2.2.2.1 d.2.2.2.2.2.2.2.1 d.2.2.2.2.2.2.2.2.1 d.2.2.2.2.2.2.2.2.2.1 d.2.2.2.2.2.2.2.2.2.2.1 d.2.2.2.2.2.2.2.2.2.2.2.1 d.2.2.2.2.2.2.2.2.2.2.2.2.1
abbrev zqax (β : Type) := (List Int) → Int → (List Int) → (List (List UInt8 × Int)) → (List (Int × (Int × (Int × Int)))) → (List zq0) → (List (Int × (Int × Int))) → (List (List UInt8 × Int)) → (List (Int × (Int × (Int × Int)))) → (List zq0) → (List (Int × (Int × Int))) → Option β
abbrev zqay := {β : Type} → zqax β → Int → (List Int) → Int → (List Int) → (List (List UInt8 × Int)) → (List (Int × (Int × (Int × Int)))) → (List zq0) → (List (Int × (Int × Int))) → (List (List UInt8 × Int)) → (List (Int × (Int × (Int × Int)))) → (List zq0) → (List (Int × (Int × Int))) → Option β
def zqaz : View := ⟨1, [0, 4, 6, 12, 16], [(false, [.ptr 0 0]), (false, [.ptr 1 0]), (false, [.ptr 2 0]), (false, [.rowh 3]), (false, [.data (.int .i64)])], [.cells 68 [.data (.slice (.int .i64)), .data (.int .i64)], .cells 32 [.rowh 4, .rowh 5, .rowh 6, .rowh 7], .cells 32 [.rowh 8, .rowh 9, .rowh 10, .rowh 11], .row 3 (.int .i64), .row 62 (.prod .str (.int .i64)), .row 64 (.prod (.int .i64) (.prod (.int .i64) (.prod (.int .i64) (.int .i64)))), .row 60 zq1, .row 73 (.prod (.int .i64) (.prod (.int .i64) (.int .i64))), .row 62 (.prod .str (.int .i64)), .row 64 (.prod (.int .i64) (.prod (.int .i64) (.prod (.int .i64) (.int .i64)))), .row 60 zq1, .row 73 (.prod (.int .i64) (.prod (.int .i64) (.int .i64)))]⟩
def zqb0 : List (AExit × View) := [(.exit 6, ⟨1, [4, 6, 12], [(false, [.ptr 1 0]), (false, [.ptr 2 0]), (false, [.rowh 3])], [.cells 68 [.data (.slice (.int .i64)), .data (.int .i64)], .cells 32 [.rowh 4, .rowh 5, .rowh 6, .rowh 7], .cells 32 [.rowh 8, .rowh 9, .rowh 10, .rowh 11], .row 3 (.int .i64), .row 62 (.prod .str (.int .i64)), .row 64 (.prod (.int .i64) (.prod (.int .i64) (.prod (.int .i64) (.int .i64)))), .row 60 zq1, .row 73 (.prod (.int .i64) (.prod (.int .i64) (.int .i64))), .row 62 (.prod .str (.int .i64)), .row 64 (.prod (.int .i64) (.prod (.int .i64) (.prod (.int .i64) (.int .i64)))), .row 60 zq1, .row 73 (.prod (.int .i64) (.prod (.int .i64) (.int .i64)))]⟩)]
@[reducible] def made_Dice_Record_p5_G (p : zqay) {β : Type} (d : zqaz.den) (ks : Outs.K β zqb0) : Option β :=
  p (fun a0 a1 a2 a3 a4 a5 a6 a7 a8 a9 a10 => ks.1 (((), (), (), ()), ((a0, a1, ()), (), (), a2, a3, a4, a5, a6, a7, a8, a9, a10, ()))) d.1.2.2.2.2.1.1 d.2.1.1 d.2.1.2.1 d.2.2.2.2.1 d.2.2.2.2.2.1 d.2.2.2.2.2.2.1 d.2.2.2.2.2.2.2.1 d.2.2.2.2.2.2.2.2.1 d.2.2.2.2.2.2.2.2.2.1 d.2.2.2.2.2.2.2.2.2.2.1 d.2.2.2.2.2.2.2.2.2.2.2.1 d.2.2.2.2.2.2.2.2.2.2.2.2.1
section
variable (c_made_Dice_Next : zqj) (c_made_Dice_One : zqq)
@[reducible] def made_Dice_Record_X : Ctx := ⟨look tab, pick1 [(22, .spec (zqk c_made_Dice_Next)), (23, .spec (zqr c_made_Dice_One))], false, false, false, false⟩
def zqb1 {β : Type} (rec : Int → Int → (List Int) → Int → (List Int) → (List (List UInt8 × Int)) → (List (Int × (Int × (Int × Int)))) → (List zq0) → (List (Int × (Int × Int))) → (List (List UInt8 × Int)) → (List (Int × (Int × (Int × Int)))) → (List zq0) → (List (Int × (Int × Int))) → Option β) (k1 : zqah β) (n : Int) (i_ : Int) (d : List Int) (d2 : Int) (ahead : List Int) (b4_ : List (List UInt8 × Int)) (b5_ : List (Int × (Int × (Int × Int)))) (b6_ : List zq0) (b7_ : List (Int × (Int × Int))) (b8_ : List (List UInt8 × Int)) (b9_ : List (Int × (Int × (Int × Int)))) (b10_ : List zq0) (b11_ : List (Int × (Int × Int))) : Option β :=
  cond (decide ((0 : Int) < i_))
  (let l : List (List UInt8) := ([([100, 98] : List UInt8), ([119, 101, 98] : List UInt8), ([108, 98] : List UInt8)] : List (List UInt8));
  cond (decide (0 ≤ (List.length b8_ : Int)) && decide ((List.length b8_ : Int) < (List.length l : Int)))
  (let l2 : List Int := ([(0 : Int), (0 : Int), (100 : Int), (50000 : Int), (500000 : Int)] : List Int);
  c_made_Dice_One l2 (d, d2) (fun (rOne : Int) (mrOne : (List Int × Int)) =>
  let l3 : List (List UInt8 × Int) := ([((List.getD l (Int.toNat (List.length b8_ : Int)) ([] : List UInt8)), rOne)] : List (List UInt8 × Int));
  cond (decide ((List.length b8_ + List.length l3) * 24 ≤ roomMax))
  (let l4 : List (List UInt8 × Int) := (b8_ ++ l3);
  let l5 : List Int := ([(0 : Int), (7 : Int), (100 : Int)] : List Int);
  c_made_Dice_One l5 mrOne (fun (rOne2 : Int) (mrOne2 : (List Int × Int)) =>
  let l6 : List Int := ([rOne2] : List Int);
  cond (decide ((List.length ahead + List.length l6) * 8 ≤ roomMax))
  (let l7 : List Int := (ahead ++ l6);
  let i_2 : Int := (IntKind.i64.wrap (i_ - (1 : Int)));
  rec n i_2 mrOne2.1 mrOne2.2 l7 b4_ b5_ b6_ b7_ l4 b9_ b10_ b11_)
  none))
  none))
  none)
  (k1 n d d2 ahead b4_ b5_ b6_ b7_ b8_ b9_ b10_ b11_)
def zqb2 {β : Type} : Nat → zqah β → Int → Int → (List Int) → Int → (List Int) → (List (List UInt8 × Int)) → (List (Int × (Int × (Int × Int)))) → (List zq0) → (List (Int × (Int × Int))) → (List (List UInt8 × Int)) → (List (Int × (Int × (Int × Int)))) → (List zq0) → (List (Int × (Int × Int))) → Option β
  | 0 => fun _ _ _ _ _ _ _ _ _ _ _ _ _ _ => none
  | i + 1 => fun k1 n i_ d d2 ahead b4_ b5_ b6_ b7_ b8_ b9_ b10_ b11_ => zqb1 c_made_Dice_One (zqb2 i k1) k1 n i_ d d2 ahead b4_ b5_ b6_ b7_ b8_ b9_ b10_ b11_
theorem zqb3 (hΓ : ΓOk Tryz.prog (made_Dice_Record_X c_made_Dice_Next c_made_Dice_One).Γ) (i : Nat) : PieceOk Tryz.prog 177 1 made_Dice_Record_p1_code zqaj zqak (made_Dice_Record_p1_G (zqb2 c_made_Dice_One i)) := by
  rw [show made_Dice_Record_p1_code = .loop (loopBody made_Dice_Record_p1_code) by kernel_rfl]
  exact piece_loop (X := (made_Dice_Record_X c_made_Dice_Next c_made_Dice_One)) (p := 1) (Λ := pick1 []) (G := fun i => @fun β d ks => made_Dice_Record_p1_G (zqb2 c_made_Dice_One i) d ks) mixed tab_ok hΓ rfl (by kernel_rfl) CutsOk_nil (fun _ _ => rfl) (fun i => @fun β d ks r h => Eq.trans (b := made_Dice_Record_p1_G (zqb2 c_made_Dice_One (i + 1)) d ks) (by kernel_rfl) h) i
def zqb4 {β : Type} (rec : Int → Int → (List Int) → Int → (List Int) → (List (List UInt8 × Int)) → (List (Int × (Int × (Int × Int)))) → (List zq0) → (List (Int × (Int × Int))) → (List (List UInt8 × Int)) → (List (Int × (Int × (Int × Int)))) → (List zq0) → (List (Int × (Int × Int))) → Option β) (k1 : zqal β) (n : Int) (i_ : Int) (d : List Int) (d2 : Int) (ahead : List Int) (b4_ : List (List UInt8 × Int)) (b5_ : List (Int × (Int × (Int × Int)))) (b6_ : List zq0) (b7_ : List (Int × (Int × Int))) (b8_ : List (List UInt8 × Int)) (b9_ : List (Int × (Int × (Int × Int)))) (b10_ : List zq0) (b11_ : List (Int × (Int × Int))) : Option β :=
  cond (decide ((0 : Int) < i_))
  (c_made_Dice_Next (List.length b8_ : Int) (d, d2) (fun (rNext : Int) (mrNext : (List Int × Int)) =>
  c_made_Dice_Next (400 : Int) mrNext (fun (rNext2 : Int) (mrNext2 : (List Int × Int)) =>
  let t : Int := (IntKind.i64.wrap ((864000 : Int) + rNext2));
  cond (decide (0 ≤ rNext) && decide (rNext < (List.length ahead : Int)))
  (let l : List Int := ([(0 : Int), (3 : Int), (20 : Int)] : List Int);
  c_made_Dice_One l mrNext2 (fun (rOne : Int) (mrOne : (List Int × Int)) =>
  let l2 : List Int := ([(0 : Int), (2 : Int), (15 : Int)] : List Int);
  c_made_Dice_One l2 mrOne (fun (rOne2 : Int) (mrOne2 : (List Int × Int)) =>
  let l3 : List (Int × (Int × (Int × Int))) := ([(rNext, ((IntKind.i64.wrap (t + (List.getD ahead (Int.toNat rNext) (0 : Int)))), ((IntKind.i64.wrap (t - rOne)), (IntKind.i64.wrap (t + rOne2)))))] : List (Int × (Int × (Int × Int))));
  cond (decide ((List.length b9_ + List.length l3) * 32 ≤ roomMax))
  (let l4 : List (Int × (Int × (Int × Int))) := (b9_ ++ l3);
  let i_2 : Int := (IntKind.i64.wrap (i_ - (1 : Int)));
  rec n i_2 mrOne2.1 mrOne2.2 ahead b4_ b5_ b6_ b7_ b8_ l4 b10_ b11_)
  none)))
  none)))
  (k1 n d d2 ahead b4_ b5_ b6_ b7_ b8_ b9_ b10_ b11_)
def zqb5 {β : Type} : Nat → zqal β → Int → Int → (List Int) → Int → (List Int) → (List (List UInt8 × Int)) → (List (Int × (Int × (Int × Int)))) → (List zq0) → (List (Int × (Int × Int))) → (List (List UInt8 × Int)) → (List (Int × (Int × (Int × Int)))) → (List zq0) → (List (Int × (Int × Int))) → Option β
  | 0 => fun _ _ _ _ _ _ _ _ _ _ _ _ _ _ => none
  | i + 1 => fun k1 n i_ d d2 ahead b4_ b5_ b6_ b7_ b8_ b9_ b10_ b11_ => zqb4 c_made_Dice_Next c_made_Dice_One (zqb5 i k1) k1 n i_ d d2 ahead b4_ b5_ b6_ b7_ b8_ b9_ b10_ b11_
theorem zqb6 (hΓ : ΓOk Tryz.prog (made_Dice_Record_X c_made_Dice_Next c_made_Dice_One).Γ) (i : Nat) : PieceOk Tryz.prog 177 1 made_Dice_Record_p2_code zqan zqao (made_Dice_Record_p2_G (zqb5 c_made_Dice_Next c_made_Dice_One i)) := by
  rw [show made_Dice_Record_p2_code = .loop (loopBody made_Dice_Record_p2_code) by kernel_rfl]
  exact piece_loop (X := (made_Dice_Record_X c_made_Dice_Next c_made_Dice_One)) (p := 1) (Λ := pick1 []) (G := fun i => @fun β d ks => made_Dice_Record_p2_G (zqb5 c_made_Dice_Next c_made_Dice_One i) d ks) mixed tab_ok hΓ rfl (by kernel_rfl) CutsOk_nil (fun _ _ => rfl) (fun i => @fun β d ks r h => Eq.trans (b := made_Dice_Record_p2_G (zqb5 c_made_Dice_Next c_made_Dice_One (i + 1)) d ks) (by kernel_rfl) h) i
def zqb7 {β : Type} (rec : Int → (List Int) → Int → (List Int) → (List Int) → (List (List UInt8 × Int)) → (List (Int × (Int × (Int × Int)))) → (List zq0) → (List (Int × (Int × Int))) → (List (List UInt8 × Int)) → (List (Int × (Int × (Int × Int)))) → (List zq0) → (List (Int × (Int × Int))) → Option β) (k1 : zqap β) (i_ : Int) (d : List Int) (d2 : Int) (ahead : List Int) (times : List Int) (b5_ : List (List UInt8 × Int)) (b6_ : List (Int × (Int × (Int × Int)))) (b7_ : List zq0) (b8_ : List (Int × (Int × Int))) (b9_ : List (List UInt8 × Int)) (b10_ : List (Int × (Int × (Int × Int)))) (b11_ : List zq0) (b12_ : List (Int × (Int × Int))) : Option β :=
  cond (decide ((0 : Int) < i_))
  (c_made_Dice_Next (List.length b9_ : Int) (d, d2) (fun (rNext : Int) (mrNext : (List Int × Int)) =>
  c_made_Dice_Next (300 : Int) mrNext (fun (rNext2 : Int) (mrNext2 : (List Int × Int)) =>
  let t : Int := (IntKind.i64.wrap ((864000 : Int) + rNext2));
  cond (decide (0 ≤ rNext) && decide (rNext < (List.length ahead : Int)))
  (let l : List (List UInt8) := ([([117, 112] : List UInt8), ([100, 111, 119, 110] : List UInt8), ([115, 108, 111, 119] : List UInt8)] : List (List UInt8));
  c_made_Dice_Next (3 : Int) mrNext2 (fun (rNext3 : Int) (mrNext3 : (List Int × Int)) =>
  cond (decide (0 ≤ rNext3) && decide (rNext3 < (List.length l : Int)))
  (let l2 : List zq0 := ([(rNext, ((IntKind.i64.wrap (t + (List.getD ahead (Int.toNat rNext) (0 : Int)))), (List.getD l (Int.toNat rNext3) ([] : List UInt8))))] : List zq0);
  cond (decide ((List.length b11_ + List.length l2) * 32 ≤ roomMax))
  (let l3 : List zq0 := (b11_ ++ l2);
  let l4 : List Int := ([t] : List Int);
  cond (decide ((List.length times + List.length l4) * 8 ≤ roomMax))
  (let l5 : List Int := (times ++ l4);
  let i_2 : Int := (IntKind.i64.wrap (i_ - (1 : Int)));
  rec i_2 mrNext3.1 mrNext3.2 ahead l5 b5_ b6_ b7_ b8_ b9_ b10_ l3 b12_)
  none)
  none)
  none))
  none)))
  (k1 d d2 times b5_ b6_ b7_ b8_ b9_ b10_ b11_ b12_)
def zqb8 {β : Type} : Nat → zqap β → Int → (List Int) → Int → (List Int) → (List Int) → (List (List UInt8 × Int)) → (List (Int × (Int × (Int × Int)))) → (List zq0) → (List (Int × (Int × Int))) → (List (List UInt8 × Int)) → (List (Int × (Int × (Int × Int)))) → (List zq0) → (List (Int × (Int × Int))) → Option β
  | 0 => fun _ _ _ _ _ _ _ _ _ _ _ _ _ _ => none
  | i + 1 => fun k1 i_ d d2 ahead times b5_ b6_ b7_ b8_ b9_ b10_ b11_ b12_ => zqb7 c_made_Dice_Next (zqb8 i k1) k1 i_ d d2 ahead times b5_ b6_ b7_ b8_ b9_ b10_ b11_ b12_
theorem zqb9 (hΓ : ΓOk Tryz.prog (made_Dice_Record_X c_made_Dice_Next c_made_Dice_One).Γ) (i : Nat) : PieceOk Tryz.prog 177 1 made_Dice_Record_p3_code zqar zqas (made_Dice_Record_p3_G (zqb8 c_made_Dice_Next i)) := by
  rw [show made_Dice_Record_p3_code = .loop (loopBody made_Dice_Record_p3_code) by kernel_rfl]
  exact piece_loop (X := (made_Dice_Record_X c_made_Dice_Next c_made_Dice_One)) (p := 1) (Λ := pick1 []) (G := fun i => @fun β d ks => made_Dice_Record_p3_G (zqb8 c_made_Dice_Next i) d ks) mixed tab_ok hΓ rfl (by kernel_rfl) CutsOk_nil (fun _ _ => rfl) (fun i => @fun β d ks r h => Eq.trans (b := made_Dice_Record_p3_G (zqb8 c_made_Dice_Next (i + 1)) d ks) (by kernel_rfl) h) i
def zqba {β : Type} (k1 : zqat β) (i_ : Int) (a : Int) (b : Int) (t154 : Bool) (d : List Int) (d2 : Int) (times : List Int) (b4_ : List (List UInt8 × Int)) (b5_ : List (Int × (Int × (Int × Int)))) (b6_ : List zq0) (b7_ : List (Int × (Int × Int))) (b8_ : List (List UInt8 × Int)) (b9_ : List (Int × (Int × (Int × Int)))) (b10_ : List zq0) (b11_ : List (Int × (Int × Int))) : Option β :=
  cond t154
  (cond (decide (0 ≤ b) && decide (b < (List.length times : Int)))
  (cond (decide (0 ≤ a) && decide (a < (List.length times : Int)))
  (c_made_Dice_Next (IntKind.i64.wrap ((IntKind.i64.wrap ((List.getD times (Int.toNat b) (0 : Int)) - (List.getD times (Int.toNat a) (0 : Int)))) + (1 : Int))) (d, d2) (fun (rNext : Int) (mrNext : (List Int × Int)) =>
  let l : List (Int × (Int × Int)) := ([(a, (b, rNext))] : List (Int × (Int × Int)));
  cond (decide ((List.length b11_ + List.length l) * 24 ≤ roomMax))
  (let l2 : List (Int × (Int × Int)) := (b11_ ++ l);
  k1 i_ mrNext.1 mrNext.2 times b4_ b5_ b6_ b7_ b8_ b9_ b10_ l2)
  none))
  none)
  none)
  (k1 i_ d d2 times b4_ b5_ b6_ b7_ b8_ b9_ b10_ b11_)
def zqbb {β : Type} (k1 : zqat β) (i_ : Int) (a : Int) (b : Int) (t154 : Bool) (d : List Int) (d2 : Int) (times : List Int) (b4_ : List (List UInt8 × Int)) (b5_ : List (Int × (Int × (Int × Int)))) (b6_ : List zq0) (b7_ : List (Int × (Int × Int))) (b8_ : List (List UInt8 × Int)) (b9_ : List (Int × (Int × (Int × Int)))) (b10_ : List zq0) (b11_ : List (Int × (Int × Int))) : Option β := zqba c_made_Dice_Next k1 i_ a b t154 d d2 times b4_ b5_ b6_ b7_ b8_ b9_ b10_ b11_
theorem zqbc (hΓ : ΓOk Tryz.prog (made_Dice_Record_X c_made_Dice_Next c_made_Dice_One).Γ) : PieceOk Tryz.prog 177 1 made_Dice_Record_p4_code zqav zqaw (made_Dice_Record_p4_G (zqbb c_made_Dice_Next)) :=
  piece_exec (X := (made_Dice_Record_X c_made_Dice_Next c_made_Dice_One)) (p := 51) (Λ := pick1 []) mixed tab_ok hΓ (by kernel_rfl) CutsOk_nil (fun d ks r h => Eq.trans (b := made_Dice_Record_p4_G (zqbb c_made_Dice_Next) d ks) (by kernel_rfl) h)
def zqbd (p4 : zqau) {β : Type} (rec : Int → (List Int) → Int → (List Int) → (List (List UInt8 × Int)) → (List (Int × (Int × (Int × Int)))) → (List zq0) → (List (Int × (Int × Int))) → (List (List UInt8 × Int)) → (List (Int × (Int × (Int × Int)))) → (List zq0) → (List (Int × (Int × Int))) → Option β) (k1 : zqax β) (i_ : Int) (d : List Int) (d2 : Int) (times : List Int) (b4_ : List (List UInt8 × Int)) (b5_ : List (Int × (Int × (Int × Int)))) (b6_ : List zq0) (b7_ : List (Int × (Int × Int))) (b8_ : List (List UInt8 × Int)) (b9_ : List (Int × (Int × (Int × Int)))) (b10_ : List zq0) (b11_ : List (Int × (Int × Int))) : Option β :=
  cond (decide ((0 : Int) < i_))
  (cond (decide ((1 : Int) < (List.length times : Int)))
  (c_made_Dice_Next (List.length times : Int) (d, d2) (fun (rNext : Int) (mrNext : (List Int × Int)) =>
  c_made_Dice_Next (List.length times : Int) mrNext (fun (rNext2 : Int) (mrNext2 : (List Int × Int)) =>
  cond (!decide (rNext = rNext2))
  (cond (decide (0 ≤ rNext) && decide (rNext < (List.length times : Int)))
  (cond (decide (0 ≤ rNext2) && decide (rNext2 < (List.length times : Int)))
  (p4 (fun (i_2 : Int) (d3 : List Int) (d4 : Int) (times2 : List Int) (b4_2 : List (List UInt8 × Int)) (b5_2 : List (Int × (Int × (Int × Int)))) (b6_2 : List zq0) (b7_2 : List (Int × (Int × Int))) (b8_2 : List (List UInt8 × Int)) (b9_2 : List (Int × (Int × (Int × Int)))) (b10_2 : List zq0) (b11_2 : List (Int × (Int × Int))) =>
  let i_3 : Int := (IntKind.i64.wrap (i_2 - (1 : Int)));
  rec i_3 d3 d4 times2 b4_2 b5_2 b6_2 b7_2 b8_2 b9_2 b10_2 b11_2) i_ rNext rNext2 (decide ((List.getD times (Int.toNat rNext) (0 : Int)) ≤ (List.getD times (Int.toNat rNext2) (0 : Int)))) mrNext2.1 mrNext2.2 times b4_ b5_ b6_ b7_ b8_ b9_ b10_ b11_)
  none)
  none)
  (p4 (fun (i_2 : Int) (d3 : List Int) (d4 : Int) (times2 : List Int) (b4_2 : List (List UInt8 × Int)) (b5_2 : List (Int × (Int × (Int × Int)))) (b6_2 : List zq0) (b7_2 : List (Int × (Int × Int))) (b8_2 : List (List UInt8 × Int)) (b9_2 : List (Int × (Int × (Int × Int)))) (b10_2 : List zq0) (b11_2 : List (Int × (Int × Int))) =>
  let i_3 : Int := (IntKind.i64.wrap (i_2 - (1 : Int)));
  rec i_3 d3 d4 times2 b4_2 b5_2 b6_2 b7_2 b8_2 b9_2 b10_2 b11_2) i_ rNext rNext2 false mrNext2.1 mrNext2.2 times b4_ b5_ b6_ b7_ b8_ b9_ b10_ b11_))))
  (k1 d d2 times b4_ b5_ b6_ b7_ b8_ b9_ b10_ b11_))
  (k1 d d2 times b4_ b5_ b6_ b7_ b8_ b9_ b10_ b11_)
def zqbe (p4 : zqau) {β : Type} : Nat → zqax β → Int → (List Int) → Int → (List Int) → (List (List UInt8 × Int)) → (List (Int × (Int × (Int × Int)))) → (List zq0) → (List (Int × (Int × Int))) → (List (List UInt8 × Int)) → (List (Int × (Int × (Int × Int)))) → (List zq0) → (List (Int × (Int × Int))) → Option β
  | 0 => fun _ _ _ _ _ _ _ _ _ _ _ _ _ => none
  | i + 1 => fun k1 i_ d d2 times b4_ b5_ b6_ b7_ b8_ b9_ b10_ b11_ => zqbd c_made_Dice_Next p4 (zqbe p4 i k1) k1 i_ d d2 times b4_ b5_ b6_ b7_ b8_ b9_ b10_ b11_
theorem zqbf (hΓ : ΓOk Tryz.prog (made_Dice_Record_X c_made_Dice_Next c_made_Dice_One).Γ) (p4 : zqau) (hp4 : PieceOk Tryz.prog 177 1 made_Dice_Record_p4_code zqav zqaw (made_Dice_Record_p4_G p4)) (i : Nat) : PieceOk Tryz.prog 177 1 made_Dice_Record_p5_code zqaz zqb0 (made_Dice_Record_p5_G (zqbe c_made_Dice_Next p4 i)) := by
  rw [show made_Dice_Record_p5_code = .loop (loopBody made_Dice_Record_p5_code) by kernel_rfl]
  exact piece_loop (X := (made_Dice_Record_X c_made_Dice_Next c_made_Dice_One)) (p := 1) (Λ := pick1 [(51, pieceCut zqav zqaw (made_Dice_Record_p4_G p4))]) (G := fun i => @fun β d ks => made_Dice_Record_p5_G (zqbe c_made_Dice_Next p4 i) d ks) mixed tab_ok hΓ rfl (by kernel_rfl) (CutsOk_cons (q := 51) (c' := made_Dice_Record_p4_code) (by kernel_rfl) rfl hp4 CutsOk_nil) (fun _ _ => rfl) (fun i => @fun β d ks r h => Eq.trans (b := made_Dice_Record_p5_G (zqbe c_made_Dice_Next p4 (i + 1)) d ks) (by kernel_rfl) h) i
def zqbg (p1 : zqai) (p2 : zqam) (p3 : zqaq) (p5 : zqay) {β : Type} (n : Int) (d : (List Int × Int)) (k : (zq2 → (List Int × Int) → (List Int) → Option β)) : Option β :=
  c_made_Dice_Next (3 : Int) d (fun (rNext : Int) (mrNext : (List Int × Int)) =>
  let i_ : Int := (IntKind.i64.wrap ((1 : Int) + rNext));
  p1 (fun (n2 : Int) (d2 : List Int) (d3 : Int) (ahead : List Int) (b4_ : List (List UInt8 × Int)) (b5_ : List (Int × (Int × (Int × Int)))) (b6_ : List zq0) (b7_ : List (Int × (Int × Int))) (b8_ : List (List UInt8 × Int)) (b9_ : List (Int × (Int × (Int × Int)))) (b10_ : List zq0) (b11_ : List (Int × (Int × Int))) =>
  c_made_Dice_Next (5 : Int) (d2, d3) (fun (rNext2 : Int) (mrNext2 : (List Int × Int)) =>
  p2 (fun (n3 : Int) (d4 : List Int) (d5 : Int) (ahead2 : List Int) (b4_2 : List (List UInt8 × Int)) (b5_2 : List (Int × (Int × (Int × Int)))) (b6_2 : List zq0) (b7_2 : List (Int × (Int × Int))) (b8_2 : List (List UInt8 × Int)) (b9_2 : List (Int × (Int × (Int × Int)))) (b10_2 : List zq0) (b11_2 : List (Int × (Int × Int))) =>
  c_made_Dice_Next (IntKind.i64.wrap (n3 + (1 : Int))) (d4, d5) (fun (rNext3 : Int) (mrNext3 : (List Int × Int)) =>
  p3 (fun (d6 : List Int) (d7 : Int) (times : List Int) (b4_3 : List (List UInt8 × Int)) (b5_3 : List (Int × (Int × (Int × Int)))) (b6_3 : List zq0) (b7_3 : List (Int × (Int × Int))) (b8_3 : List (List UInt8 × Int)) (b9_3 : List (Int × (Int × (Int × Int)))) (b10_3 : List zq0) (b11_3 : List (Int × (Int × Int))) =>
  c_made_Dice_Next (4 : Int) (d6, d7) (fun (rNext4 : Int) (mrNext4 : (List Int × Int)) =>
  p5 (fun (b0_ : List Int) (b0_2 : Int) (times2 : List Int) (b4_4 : List (List UInt8 × Int)) (b5_4 : List (Int × (Int × (Int × Int)))) (b6_4 : List zq0) (b7_4 : List (Int × (Int × Int))) (b8_4 : List (List UInt8 × Int)) (b9_4 : List (Int × (Int × (Int × Int)))) (b10_4 : List zq0) (b11_4 : List (Int × (Int × Int))) =>
  k (b8_4, (b9_4, (b10_4, b11_4))) (b0_, b0_2) times2) rNext4 mrNext4.1 mrNext4.2 times b4_3 b5_3 b6_3 b7_3 b8_3 b9_3 b10_3 b11_3)) rNext3 mrNext3.1 mrNext3.2 ahead2 ([] : List Int) b4_2 b5_2 b6_2 b7_2 b8_2 b9_2 b10_2 b11_2)) n2 rNext2 mrNext2.1 mrNext2.2 ahead b4_ b5_ b6_ b7_ b8_ b9_ b10_ b11_)) n i_ mrNext.1 mrNext.2 ([] : List Int) ([] : List (List UInt8 × Int)) ([] : List (Int × (Int × (Int × Int)))) ([] : List zq0) ([] : List (Int × (Int × Int))) ([] : List (List UInt8 × Int)) ([] : List (Int × (Int × (Int × Int)))) ([] : List zq0) ([] : List (Int × (Int × Int))))
theorem zqbh (hΓ : ΓOk Tryz.prog (made_Dice_Record_X c_made_Dice_Next c_made_Dice_One).Γ) (p1 : zqai) (p2 : zqam) (p3 : zqaq) (p5 : zqay) (hp1 : PieceOk Tryz.prog 177 1 made_Dice_Record_p1_code zqaj zqak (made_Dice_Record_p1_G p1)) (hp2 : PieceOk Tryz.prog 177 1 made_Dice_Record_p2_code zqan zqao (made_Dice_Record_p2_G p2)) (hp3 : PieceOk Tryz.prog 177 1 made_Dice_Record_p3_code zqar zqas (made_Dice_Record_p3_G p3)) (hp5 : PieceOk Tryz.prog 177 1 made_Dice_Record_p5_code zqaz zqb0 (made_Dice_Record_p5_G p5)) : SpecOk Tryz.prog 9 (zqag (zqbg c_made_Dice_Next p1 p2 p3 p5)) :=
  spec_exec (X := (made_Dice_Record_X c_made_Dice_Next c_made_Dice_One)) (Λ := pick1 [(122, pieceCut zqaj zqak (made_Dice_Record_p1_G p1)), (250, pieceCut zqan zqao (made_Dice_Record_p2_G p2)), (1018, pieceCut zqar zqas (made_Dice_Record_p3_G p3)), (2042, pieceCut zqaz zqb0 (made_Dice_Record_p5_G p5))]) (rs := [.cell 4 32, .tmp 5]) (c := bodyOf Tryz.f9) mixed tab_ok hΓ Tryz.func9 (by kernel_rfl) (by kernel_rfl) (by kernel_rfl) (by kernel_rfl) (CutsOk_cons (q := 122) (c' := made_Dice_Record_p1_code) (by kernel_rfl) rfl hp1 (CutsOk_cons (q := 250) (c' := made_Dice_Record_p2_code) (by kernel_rfl) rfl hp2 (CutsOk_cons (q := 1018) (c' := made_Dice_Record_p3_code) (by kernel_rfl) rfl hp3 (CutsOk_cons (q := 2042) (c' := made_Dice_Record_p5_code) (by kernel_rfl) rfl hp5 CutsOk_nil)))) (fun x k r h => Eq.trans (b := (zqag (zqbg c_made_Dice_Next p1 p2 p3 p5)).run x k) (by kernel_rfl) h)
end
theorem zqbiΓ : ΓOk Tryz.prog (pick1 [(22, .spec (zqk zqo)), (23, .spec (zqr zqv))]) := (ΓOk_cons zqp (ΓOk_cons zqw ΓOk_nil))
def zqbj (m : Nat) : zqai := zqb2 zqv m
theorem zqbk {β : Type} (i : Nat) (k1 n i_ d d2 ahead b4_ b5_ b6_ b7_ b8_ b9_ b10_ b11_) : (zqbj (i + 1) k1 n i_ d d2 ahead b4_ b5_ b6_ b7_ b8_ b9_ b10_ b11_ : Option β) = zqb1 zqv (zqbj i k1) k1 n i_ d d2 ahead b4_ b5_ b6_ b7_ b8_ b9_ b10_ b11_ := rfl
def zqbl : zqai := zqbj fuel
theorem zqbm : PieceOk Tryz.prog 177 1 made_Dice_Record_p1_code zqaj zqak (made_Dice_Record_p1_G zqbl) := zqb3 zqo zqv zqbiΓ fuel
def zqbn (m : Nat) : zqam := zqb5 zqo zqv m
theorem zqbo {β : Type} (i : Nat) (k1 n i_ d d2 ahead b4_ b5_ b6_ b7_ b8_ b9_ b10_ b11_) : (zqbn (i + 1) k1 n i_ d d2 ahead b4_ b5_ b6_ b7_ b8_ b9_ b10_ b11_ : Option β) = zqb4 zqo zqv (zqbn i k1) k1 n i_ d d2 ahead b4_ b5_ b6_ b7_ b8_ b9_ b10_ b11_ := rfl
def zqbp : zqam := zqbn fuel
theorem zqbq : PieceOk Tryz.prog 177 1 made_Dice_Record_p2_code zqan zqao (made_Dice_Record_p2_G zqbp) := zqb6 zqo zqv zqbiΓ fuel
def zqbr (m : Nat) : zqaq := zqb8 zqo m
theorem zqbs {β : Type} (i : Nat) (k1 i_ d d2 ahead times b5_ b6_ b7_ b8_ b9_ b10_ b11_ b12_) : (zqbr (i + 1) k1 i_ d d2 ahead times b5_ b6_ b7_ b8_ b9_ b10_ b11_ b12_ : Option β) = zqb7 zqo (zqbr i k1) k1 i_ d d2 ahead times b5_ b6_ b7_ b8_ b9_ b10_ b11_ b12_ := rfl
def zqbt : zqaq := zqbr fuel
theorem zqbu : PieceOk Tryz.prog 177 1 made_Dice_Record_p3_code zqar zqas (made_Dice_Record_p3_G zqbt) := zqb9 zqo zqv zqbiΓ fuel
def zqbv : zqau := zqbb zqo
theorem zqbw : PieceOk Tryz.prog 177 1 made_Dice_Record_p4_code zqav zqaw (made_Dice_Record_p4_G zqbv) := zqbc zqo zqv zqbiΓ
def zqbx (m : Nat) : zqay := zqbe zqo zqbv m
theorem zqby {β : Type} (i : Nat) (k1 i_ d d2 times b4_ b5_ b6_ b7_ b8_ b9_ b10_ b11_) : (zqbx (i + 1) k1 i_ d d2 times b4_ b5_ b6_ b7_ b8_ b9_ b10_ b11_ : Option β) = zqbd zqo zqbv (zqbx i k1) k1 i_ d d2 times b4_ b5_ b6_ b7_ b8_ b9_ b10_ b11_ := rfl
def zqbz : zqay := zqbx fuel
theorem zqc0 : PieceOk Tryz.prog 177 1 made_Dice_Record_p5_code zqaz zqb0 (made_Dice_Record_p5_G zqbz) := zqbf zqo zqv zqbiΓ zqbv zqbw fuel
def zqc1 : zqaf := zqbg zqo zqbl zqbp zqbt zqbz
theorem zqc2 : SpecOk Tryz.prog 9 (zqag zqc1) := zqbh zqo zqv zqbiΓ zqbl zqbp zqbt zqbz zqbm zqbq zqbu zqc0

/-- pagewatch/timeline.Check$1 -/
abbrev zqc3 := {β : Type} → api_Row → api_Row → (Bool → Option β) → Option β
def zqc4 (c : zqc3) : Spec :=
  ⟨[(true, [.data zq4]), (true, [.data zq4])], [], [(false, [.data .bool])], [], fun x k => c x.1.1.1 x.1.2.1.1 (fun r0 => k (((r0, ()), ()), ()))⟩
section
variable (c_slices_Equal_int_int : zqx)
@[reducible] def timeline_Check_f1_X : Ctx := ⟨look tab, pick1 [(29, .spec (zqy c_slices_Equal_int_int))], false, false, false, false⟩
def zqc5 {β : Type} (a : api_Row) (b : api_Row) (k : (Bool → Option β)) : Option β :=
  cond (decide (a.1 = b.1))
  (cond (decide (a.2.1.1 = b.2.1.1) && (decide (a.2.1.2 = b.2.1.2) && true))
  (c_slices_Equal_int_int a.2.2 b.2.2 (fun (rEqualintint : Bool) =>
  k rEqualintint))
  (k false))
  (k false)
theorem zqc6 (hΓ : ΓOk Tryz.prog (timeline_Check_f1_X c_slices_Equal_int_int).Γ) : SpecOk Tryz.prog 28 (zqc4 (zqc5 c_slices_Equal_int_int)) :=
  spec_exec (X := (timeline_Check_f1_X c_slices_Equal_int_int)) (Λ := pick1 []) (rs := [.tmp 4]) (c := bodyOf Tryz.f28) mixed tab_ok hΓ Tryz.func28 (by kernel_rfl) (by kernel_rfl) (by kernel_rfl) (by kernel_rfl) CutsOk_nil (fun x k r h => Eq.trans (b := (zqc4 (zqc5 c_slices_Equal_int_int)).run x k) (by kernel_rfl) h)
end
theorem zqc7Γ : ΓOk Tryz.prog (pick1 [(29, .spec (zqy zq1e))]) := (ΓOk_cons zq1f ΓOk_nil)
def zqc8 : zqc3 := zqc5 zq1e
theorem zqc9 : SpecOk Tryz.prog 28 (zqc4 zqc8) := zqc6 zq1e zqc7Γ

/-- pagewatch/timeline.copied -/
abbrev zqca := {β : Type} → zq2 → ((List (List UInt8 × Int)) → (List (Int × (Int × (Int × Int)))) → (List zq0) → (List (Int × (Int × Int))) → Option β) → Option β
def zqcb (c : zqca) : Spec :=
  ⟨[(true, [.data zq3])], [], [(true, [.rowh 0, .rowh 1, .rowh 2, .rowh 3])], [.row 62 (.prod .str (.int .i64)), .row 64 (.prod (.int .i64) (.prod (.int .i64) (.prod (.int .i64) (.int .i64)))), .row 60 zq1, .row 73 (.prod (.int .i64) (.prod (.int .i64) (.int .i64)))], fun x k => c x.1.1.1 (fun r0 r1 r2 r3 => k (((), ()), (r0, r1, r2, r3, ())))⟩
section
variable (c_slices_Clone_api_Event_api_Event : zq4d) (c_slices_Clone_api_Host_api_Host : zq45) (c_slices_Clone_api_Link_api_Link : zq4h) (c_slices_Clone_api_Sync_api_Sync : zq49)
@[reducible] def timeline_copied_X : Ctx := ⟨look tab, pick1 [(60, .spec (zq4e c_slices_Clone_api_Event_api_Event)), (58, .spec (zq46 c_slices_Clone_api_Host_api_Host)), (61, .spec (zq4i c_slices_Clone_api_Link_api_Link)), (59, .spec (zq4a c_slices_Clone_api_Sync_api_Sync))], false, false, false, false⟩
def zqcc {β : Type} (r_ : zq2) (k : ((List (List UInt8 × Int)) → (List (Int × (Int × (Int × Int)))) → (List zq0) → (List (Int × (Int × Int))) → Option β)) : Option β :=
  c_slices_Clone_api_Host_api_Host r_.1 (fun (lrHost : List (List UInt8 × Int)) =>
  c_slices_Clone_api_Sync_api_Sync r_.2.1 (fun (lrSync : List (Int × (Int × (Int × Int)))) =>
  c_slices_Clone_api_Event_api_Event r_.2.2.1 (fun (lrEvent : List zq0) =>
  c_slices_Clone_api_Link_api_Link r_.2.2.2 (fun (lrLink : List (Int × (Int × Int))) =>
  k lrHost lrSync lrEvent lrLink))))
theorem zqcd (hΓ : ΓOk Tryz.prog (timeline_copied_X c_slices_Clone_api_Event_api_Event c_slices_Clone_api_Host_api_Host c_slices_Clone_api_Link_api_Link c_slices_Clone_api_Sync_api_Sync).Γ) : SpecOk Tryz.prog 34 (zqcb (zqcc c_slices_Clone_api_Event_api_Event c_slices_Clone_api_Host_api_Host c_slices_Clone_api_Link_api_Link c_slices_Clone_api_Sync_api_Sync)) :=
  spec_exec (X := (timeline_copied_X c_slices_Clone_api_Event_api_Event c_slices_Clone_api_Host_api_Host c_slices_Clone_api_Link_api_Link c_slices_Clone_api_Sync_api_Sync)) (Λ := pick1 []) (rs := [.cell 2 32]) (c := bodyOf Tryz.f34) mixed tab_ok hΓ Tryz.func34 (by kernel_rfl) (by kernel_rfl) (by kernel_rfl) (by kernel_rfl) CutsOk_nil (fun x k r h => Eq.trans (b := (zqcb (zqcc c_slices_Clone_api_Event_api_Event c_slices_Clone_api_Host_api_Host c_slices_Clone_api_Link_api_Link c_slices_Clone_api_Sync_api_Sync)).run x k) (by kernel_rfl) h)
end
theorem zqceΓ : ΓOk Tryz.prog (pick1 [(60, .spec (zq4e zq4f)), (58, .spec (zq46 zq47)), (61, .spec (zq4i zq4j)), (59, .spec (zq4a zq4b))]) := (ΓOk_cons zq4g (ΓOk_cons zq48 (ΓOk_cons zq4k (ΓOk_cons zq4c ΓOk_nil))))
def zqcf : zqca := zqcc zq4f zq47 zq4j zq4b
theorem zqcg : SpecOk Tryz.prog 34 (zqcb zqcf) := zqcd zq4f zq47 zq4j zq4b zqceΓ

/-- (pagewatch/order.matrix).earlier -/
abbrev zqch := {β : Type} → (List (List Int)) → Int → Int → (Bool → Option β) → Option β
def zqci (c : zqch) : Spec :=
  ⟨[(false, [.data (.slice (.slice (.int .i64)))]), (false, [.data (.int .i64)]), (false, [.data (.int .i64)])], [], [(false, [.data .bool])], [], fun x k => c x.1.1.1 x.1.2.1.1 x.1.2.2.1.1 (fun r0 => k (((r0, ()), ()), ()))⟩
section
variable (c_order_matrix_when : zq6u)
@[reducible] def order_matrix_earlier_X : Ctx := ⟨look tab, pick1 [(70, .spec (zq6v c_order_matrix_when))], false, false, false, false⟩
def zqcj {β : Type} (m : List (List Int)) (a : Int) (b : Int) (k : (Bool → Option β)) : Option β :=
  c_order_matrix_when m a (fun (rwhen : (Int × Int)) =>
  c_order_matrix_when m b (fun (rwhen2 : (Int × Int)) =>
  cond (decide (rwhen.1 < rwhen2.1))
  (k true)
  (cond (decide (rwhen.1 = rwhen2.1))
  (let t : Bool := (decide (rwhen.2 < rwhen2.2));
  k t)
  (k false))))
theorem zqck (hΓ : ΓOk Tryz.prog (order_matrix_earlier_X c_order_matrix_when).Γ) : SpecOk Tryz.prog 46 (zqci (zqcj c_order_matrix_when)) :=
  spec_exec (X := (order_matrix_earlier_X c_order_matrix_when)) (Λ := pick1 []) (rs := [.tmp 6]) (c := bodyOf Tryz.f46) mixed tab_ok hΓ Tryz.func46 (by kernel_rfl) (by kernel_rfl) (by kernel_rfl) (by kernel_rfl) CutsOk_nil (fun x k r h => Eq.trans (b := (zqci (zqcj c_order_matrix_when)).run x k) (by kernel_rfl) h)
end
theorem zqclΓ : ΓOk Tryz.prog (pick1 [(70, .spec (zq6v zq6z))]) := (ΓOk_cons zq70 ΓOk_nil)
def zqcm : zqch := zqcj zq6z
theorem zqcn : SpecOk Tryz.prog 46 (zqci zqcm) := zqck zq6z zqclΓ

/-- slices.Contains[[]int,int] -/
abbrev zqco := {β : Type} → (List Int) → Int → (Bool → Option β) → Option β
def zqcp (c : zqco) : Spec :=
  ⟨[(false, [.data (.slice (.int .i64))]), (false, [.data (.int .i64)])], [], [(false, [.data .bool])], [], fun x k => c x.1.1.1 x.1.2.1.1 (fun r0 => k (((r0, ()), ()), ()))⟩
section
variable (c_slices_Index_int_int : zq78)
@[reducible] def slices_Contains_int_int_X : Ctx := ⟨look tab, pick1 [(74, .spec (zq79 c_slices_Index_int_int))], false, false, false, false⟩
def zqcq {β : Type} (s : List Int) (v : Int) (k : (Bool → Option β)) : Option β :=
  c_slices_Index_int_int s v (fun (rIndexintint : Int) =>
  let t : Bool := (decide ((0 : Int) ≤ rIndexintint));
  k t)
theorem zqcr (hΓ : ΓOk Tryz.prog (slices_Contains_int_int_X c_slices_Index_int_int).Γ) : SpecOk Tryz.prog 51 (zqcp (zqcq c_slices_Index_int_int)) :=
  spec_exec (X := (slices_Contains_int_int_X c_slices_Index_int_int)) (Λ := pick1 []) (rs := [.tmp 4]) (c := bodyOf Tryz.f51) mixed tab_ok hΓ Tryz.func51 (by kernel_rfl) (by kernel_rfl) (by kernel_rfl) (by kernel_rfl) CutsOk_nil (fun x k r h => Eq.trans (b := (zqcp (zqcq c_slices_Index_int_int)).run x k) (by kernel_rfl) h)
end
theorem zqcsΓ : ΓOk Tryz.prog (pick1 [(74, .spec (zq79 zq7p))]) := (ΓOk_cons zq7q ΓOk_nil)
def zqct : zqco := zqcq zq7p
theorem zqcu : SpecOk Tryz.prog 51 (zqcp zqct) := zqcr zq7p zqcsΓ

/-- pagewatch/pagewatchref39.Close -/
abbrev zqcv := {β : Type} → Int → (List (Int × (Int × Int))) → ((List (List Int)) → Bool → Option β) → Option β
def zqcw (c : zqcv) : Spec :=
  ⟨[(false, [.data (.int .i64)]), (false, [.data (.slice (.prod (.int .i64) (.prod (.int .i64) (.int .i64))))])], [], [(false, [.data (.slice (.slice (.int .i64)))]), (false, [.data .bool])], [], fun x k => c x.1.1.1 x.1.2.1.1 (fun r0 r1 => k (((r0, ()), (r1, ()), ()), ()))⟩
noncomputable def ref39_Close_p2_code : Code := codeAt 122 (bodyOf Tryz.f54)
noncomputable def ref39_Close_p3_code : Code := codeAt 250 (bodyOf Tryz.f54)
noncomputable def ref39_Close_p8_code : Code := codeAt 506 (bodyOf Tryz.f54)
noncomputable def ref39_Close_p1_code : Code := codeAt 202 (loopBody ref39_Close_p2_code)
noncomputable def ref39_Close_p6_code : Code := codeAt 98 (loopBody ref39_Close_p8_code)
noncomputable def ref39_Close_p7_code : Code := codeAt 102 (loopBody ref39_Close_p8_code)
noncomputable def ref39_Close_p5_code : Code := codeAt 50 (loopBody ref39_Close_p6_code)
noncomputable def ref39_Close_p4_code : Code := codeAt 25 (loopBody ref39_Close_p5_code)
abbrev zqcx (β : Type) := Int → (List (Int × (Int × Int))) → Int → (List (List Int)) → (List Int) → Option β
abbrev zqcy := {β : Type} → zqcx β → Int → (List (Int × (Int × Int))) → Int → Int → (List (List Int)) → (List Int) → Option β
def zqcz : View := ⟨0, [0, 1, 6, 7, 8, 9], [(false, [.data (.int .i64)]), (false, [.data (.slice (.prod (.int .i64) (.prod (.int .i64) (.int .i64))))]), (false, [.math 0]), (false, [.data (.int .i64)]), (false, [.rowh 1]), (false, [.data (.int .i64)])], [.mat 22 3 (.int .i64), .row 3 (.int .i64)]⟩
def zqd0 : List (AExit × View) := [(.exit 2, ⟨0, [0, 1, 6, 7, 8], [(false, [.data (.int .i64)]), (false, [.data (.slice (.prod (.int .i64) (.prod (.int .i64) (.int .i64))))]), (false, [.math 0]), (false, [.data (.int .i64)]), (false, [.rowh 1])], [.mat 22 3 (.int .i64), .row 3 (.int .i64)]⟩)]
@[reducible] def ref39_Close_p1_G (p : zqcy) {β : Type} (d : zqcz.den) (ks : Outs.K β zqd0) : Option β :=
  p (fun a0 a1 a2 a3 a4 => ks.1 (((a0, ()), (a1, ()), (), (a2, ()), (), ()), (a3, a4, ()))) d.1.1.1 d.1.2.1.1 d.1.2.2.2.1.1 d.1.2.2.2.2.2.1.1 d.2.1 d.2.2.1
abbrev zqd1 (β : Type) := Int → (List (Int × (Int × Int))) → (List (List Int)) → Option β
abbrev zqd2 := {β : Type} → zqd1 β → Int → (List (Int × (Int × Int))) → Int → (List (List Int)) → Option β
def zqd3 : View := ⟨0, [0, 1, 6, 7], [(false, [.data (.int .i64)]), (false, [.data (.slice (.prod (.int .i64) (.prod (.int .i64) (.int .i64))))]), (false, [.math 0]), (false, [.data (.int .i64)])], [.mat 22 3 (.int .i64)]⟩
def zqd4 : List (AExit × View) := [(.exit 0, ⟨0, [0, 1, 6], [(false, [.data (.int .i64)]), (false, [.data (.slice (.prod (.int .i64) (.prod (.int .i64) (.int .i64))))]), (false, [.math 0])], [.mat 22 3 (.int .i64)]⟩)]
@[reducible] def ref39_Close_p2_G (p : zqd2) {β : Type} (d : zqd3.den) (ks : Outs.K β zqd4) : Option β :=
  p (fun a0 a1 a2 => ks.1 (((a0, ()), (a1, ()), (), ()), (a2, ()))) d.1.1.1 d.1.2.1.1 d.1.2.2.2.1.1 d.2.1
abbrev zqd5 (β : Type) := Bool → (List (List Int)) → Option β
abbrev zqd6 (β : Type) := Int → (List (List Int)) → Option β
abbrev zqd7 := {β : Type} → zqd5 β → zqd6 β → Int → (List (Int × (Int × Int))) → Int → (List (List Int)) → Option β
def zqd8 : View := ⟨0, [0, 1, 6, 10], [(false, [.data (.int .i64)]), (false, [.data (.slice (.prod (.int .i64) (.prod (.int .i64) (.int .i64))))]), (false, [.math 0]), (false, [.data (.int .i64)])], [.mat 22 3 (.int .i64)]⟩
def zqd9 : List (AExit × View) := [(.ret, ⟨0, [4, 5], [(false, [.math 0]), (false, [.data .bool])], [.mat 22 3 (.int .i64)]⟩), (.exit 4, ⟨0, [0, 6], [(false, [.data (.int .i64)]), (false, [.math 0])], [.mat 22 3 (.int .i64)]⟩)]
@[reducible] def ref39_Close_p3_G (p : zqd7) {β : Type} (d : zqd8.den) (ks : Outs.K β zqd9) : Option β :=
  p (fun a0 a1 => ks.1 (((), (a0, ()), ()), (a1, ()))) (fun a0 a1 => ks.2.1 (((a0, ()), (), ()), (a1, ()))) d.1.1.1 d.1.2.1.1 d.1.2.2.2.1.1 d.2.1
abbrev zqda (β : Type) := Int → Int → Int → Int → (List (List Int)) → Option β
abbrev zqdb := {β : Type} → zqda β → Int → Int → Int → Int → Bool → (List (List Int)) → Option β
def zqdc : View := ⟨0, [0, 6, 11, 12, 13, 131], [(false, [.data (.int .i64)]), (false, [.math 0]), (false, [.data (.int .i64)]), (false, [.data (.int .i64)]), (false, [.data (.int .i64)]), (false, [.data .bool])], [.mat 22 3 (.int .i64)]⟩
def zqdd : List (AExit × View) := [(.normal, ⟨0, [0, 6, 11, 12, 13], [(false, [.data (.int .i64)]), (false, [.math 0]), (false, [.data (.int .i64)]), (false, [.data (.int .i64)]), (false, [.data (.int .i64)])], [.mat 22 3 (.int .i64)]⟩)]
@[reducible] def ref39_Close_p4_G (p : zqdb) {β : Type} (d : zqdc.den) (ks : Outs.K β zqdd) : Option β :=
  p (fun a0 a1 a2 a3 a4 => ks.1 (((a0, ()), (), (a1, ()), (a2, ()), (a3, ()), ()), (a4, ()))) d.1.1.1 d.1.2.2.1.1 d.1.2.2.2.1.1 d.1.2.2.2.2.1.1 d.1.2.2.2.2.2.1.1 d.2.1
abbrev zqde (β : Type) := Int → Int → Int → (List (List Int)) → Option β
abbrev zqdf := {β : Type} → zqde β → Int → Int → Int → Int → (List (List Int)) → Option β
def zqdg : View := ⟨0, [0, 6, 11, 12, 13], [(false, [.data (.int .i64)]), (false, [.math 0]), (false, [.data (.int .i64)]), (false, [.data (.int .i64)]), (false, [.data (.int .i64)])], [.mat 22 3 (.int .i64)]⟩
def zqdh : List (AExit × View) := [(.exit 10, ⟨0, [0, 6, 11, 12], [(false, [.data (.int .i64)]), (false, [.math 0]), (false, [.data (.int .i64)]), (false, [.data (.int .i64)])], [.mat 22 3 (.int .i64)]⟩)]
@[reducible] def ref39_Close_p5_G (p : zqdf) {β : Type} (d : zqdg.den) (ks : Outs.K β zqdh) : Option β :=
  p (fun a0 a1 a2 a3 => ks.1 (((a0, ()), (), (a1, ()), (a2, ()), ()), (a3, ()))) d.1.1.1 d.1.2.2.1.1 d.1.2.2.2.1.1 d.1.2.2.2.2.1.1 d.2.1
abbrev zqdi (β : Type) := Int → Int → (List (List Int)) → Option β
abbrev zqdj := {β : Type} → zqdi β → Int → Int → Int → (List (List Int)) → Option β
def zqdk : View := ⟨0, [0, 6, 11, 12], [(false, [.data (.int .i64)]), (false, [.math 0]), (false, [.data (.int .i64)]), (false, [.data (.int .i64)])], [.mat 22 3 (.int .i64)]⟩
def zqdl : List (AExit × View) := [(.exit 8, ⟨0, [0, 6, 11], [(false, [.data (.int .i64)]), (false, [.math 0]), (false, [.data (.int .i64)])], [.mat 22 3 (.int .i64)]⟩)]
@[reducible] def ref39_Close_p6_G (p : zqdj) {β : Type} (d : zqdk.den) (ks : Outs.K β zqdl) : Option β :=
  p (fun a0 a1 a2 => ks.1 (((a0, ()), (), (a1, ()), ()), (a2, ()))) d.1.1.1 d.1.2.2.1.1 d.1.2.2.2.1.1 d.2.1
abbrev zqdm (β : Type) := Bool → (List (List Int)) → Option β
abbrev zqdn (β : Type) := Int → Int → (List (List Int)) → Option β
abbrev zqdo := {β : Type} → zqdm β → zqdn β → Int → Int → Int → (List (List Int)) → Option β
def zqdp : View := ⟨0, [0, 6, 11, 14], [(false, [.data (.int .i64)]), (false, [.math 0]), (false, [.data (.int .i64)]), (false, [.data (.int .i64)])], [.mat 22 3 (.int .i64)]⟩
def zqdq : List (AExit × View) := [(.ret, ⟨0, [4, 5], [(false, [.math 0]), (false, [.data .bool])], [.mat 22 3 (.int .i64)]⟩), (.exit 12, ⟨0, [0, 6, 11], [(false, [.data (.int .i64)]), (false, [.math 0]), (false, [.data (.int .i64)])], [.mat 22 3 (.int .i64)]⟩)]
@[reducible] def ref39_Close_p7_G (p : zqdo) {β : Type} (d : zqdp.den) (ks : Outs.K β zqdq) : Option β :=
  p (fun a0 a1 => ks.1 (((), (a0, ()), ()), (a1, ()))) (fun a0 a1 a2 => ks.2.1 (((a0, ()), (), (a1, ()), ()), (a2, ()))) d.1.1.1 d.1.2.2.1.1 d.1.2.2.2.1.1 d.2.1
abbrev zqdr (β : Type) := Bool → (List (List Int)) → Option β
abbrev zqds (β : Type) := (List (List Int)) → Option β
abbrev zqdt := {β : Type} → zqdr β → zqds β → Int → Int → (List (List Int)) → Option β
def zqdu : View := ⟨0, [0, 6, 11], [(false, [.data (.int .i64)]), (false, [.math 0]), (false, [.data (.int .i64)])], [.mat 22 3 (.int .i64)]⟩
def zqdv : List (AExit × View) := [(.ret, ⟨0, [4, 5], [(false, [.math 0]), (false, [.data .bool])], [.mat 22 3 (.int .i64)]⟩), (.exit 6, ⟨0, [6], [(false, [.math 0])], [.mat 22 3 (.int .i64)]⟩)]
@[reducible] def ref39_Close_p8_G (p : zqdt) {β : Type} (d : zqdu.den) (ks : Outs.K β zqdv) : Option β :=
  p (fun a0 a1 => ks.1 (((), (a0, ()), ()), (a1, ()))) (fun a0 => ks.2.1 (((), ()), (a0, ()))) d.1.1.1 d.1.2.2.1.1 d.2.1
section
variable (c_ref39_Valid : zq6b)
@[reducible] def ref39_Close_X : Ctx := ⟨look tab, pick1 [(65, .spec (zq6c c_ref39_Valid))], true, false, false, false⟩
def zqdw {β : Type} (rec : Int → (List (Int × (Int × Int))) → Int → Int → (List (List Int)) → (List Int) → Option β) (k1 : zqcx β) (n : Int) (l : List (Int × (Int × Int))) (i_ : Int) (j : Int) (d : List (List Int)) (row : List Int) : Option β :=
  cond (decide (j < n))
  (let l2 : List Int := ([(1099511627776 : Int)] : List Int);
  cond (decide ((List.length row + List.length l2) * 8 ≤ roomMax))
  (let l3 : List Int := (row ++ l2);
  let j2 : Int := (IntKind.i64.wrap (j + (1 : Int)));
  rec n l i_ j2 d l3)
  none)
  (k1 n l i_ d row)
def zqdx {β : Type} : Nat → zqcx β → Int → (List (Int × (Int × Int))) → Int → Int → (List (List Int)) → (List Int) → Option β
  | 0 => fun _ _ _ _ _ _ _ => none
  | i + 1 => fun k1 n l i_ j d row => zqdw (zqdx i k1) k1 n l i_ j d row
theorem zqdy (hΓ : ΓOk Tryz.prog (ref39_Close_X c_ref39_Valid).Γ) (i : Nat) : PieceOk Tryz.prog 175 0 ref39_Close_p1_code zqcz zqd0 (ref39_Close_p1_G (zqdx i)) := by
  rw [show ref39_Close_p1_code = .loop (loopBody ref39_Close_p1_code) by kernel_rfl]
  exact piece_loop (X := (ref39_Close_X c_ref39_Valid)) (p := 1) (Λ := pick1 []) (G := fun i => @fun β d ks => ref39_Close_p1_G (zqdx i) d ks) mixed tab_ok hΓ rfl (by kernel_rfl) CutsOk_nil (fun _ _ => rfl) (fun i => @fun β d ks r h => Eq.trans (b := ref39_Close_p1_G (zqdx (i + 1)) d ks) (by kernel_rfl) h) i
def zqdz (p1 : zqcy) {β : Type} (rec : Int → (List (Int × (Int × Int))) → Int → (List (List Int)) → Option β) (k1 : zqd1 β) (n : Int) (l : List (Int × (Int × Int))) (i_ : Int) (d : List (List Int)) : Option β :=
  cond (decide (i_ < n))
  (p1 (fun (n2 : Int) (l2 : List (Int × (Int × Int))) (i_2 : Int) (d2 : List (List Int)) (row : List Int) =>
  cond (decide (0 ≤ i_2) && decide (i_2 < (List.length row : Int)))
  (let l3 : List Int := (List.set row (Int.toNat i_2) (0 : Int));
  let m_ : List (List Int) := ([l3] : List (List Int));
  cond (decide ((List.length d2 + List.length m_) * 24 ≤ roomMax))
  (let m_2 : List (List Int) := (d2 ++ m_);
  let i_3 : Int := (IntKind.i64.wrap (i_2 + (1 : Int)));
  rec n2 l2 i_3 m_2)
  none)
  none) n l i_ (0 : Int) d ([] : List Int))
  (k1 n l d)
def zqe0 (p1 : zqcy) {β : Type} : Nat → zqd1 β → Int → (List (Int × (Int × Int))) → Int → (List (List Int)) → Option β
  | 0 => fun _ _ _ _ _ => none
  | i + 1 => fun k1 n l i_ d => zqdz p1 (zqe0 p1 i k1) k1 n l i_ d
theorem zqe1 (hΓ : ΓOk Tryz.prog (ref39_Close_X c_ref39_Valid).Γ) (p1 : zqcy) (hp1 : PieceOk Tryz.prog 175 0 ref39_Close_p1_code zqcz zqd0 (ref39_Close_p1_G p1)) (i : Nat) : PieceOk Tryz.prog 175 0 ref39_Close_p2_code zqd3 zqd4 (ref39_Close_p2_G (zqe0 p1 i)) := by
  rw [show ref39_Close_p2_code = .loop (loopBody ref39_Close_p2_code) by kernel_rfl]
  exact piece_loop (X := (ref39_Close_X c_ref39_Valid)) (p := 1) (Λ := pick1 [(202, pieceCut zqcz zqd0 (ref39_Close_p1_G p1))]) (G := fun i => @fun β d ks => ref39_Close_p2_G (zqe0 p1 i) d ks) mixed tab_ok hΓ rfl (by kernel_rfl) (CutsOk_cons (q := 202) (c' := ref39_Close_p1_code) (by kernel_rfl) rfl hp1 CutsOk_nil) (fun _ _ => rfl) (fun i => @fun β d ks r h => Eq.trans (b := ref39_Close_p2_G (zqe0 p1 (i + 1)) d ks) (by kernel_rfl) h) i
def zqe2 {β : Type} (rec : Int → (List (Int × (Int × Int))) → Int → (List (List Int)) → Option β) (k1 : zqd5 β) (k2 : zqd6 β) (n : Int) (l : List (Int × (Int × Int))) (i_ : Int) (d : List (List Int)) : Option β :=
  cond (decide (i_ < (List.length l : Int)))
  (cond (decide (0 ≤ i_) && decide (i_ < (List.length l : Int)))
  (let e : (Int × (Int × Int)) := List.getD l (Int.toNat i_) ((0 : Int), ((0 : Int), (0 : Int)));
  cond (decide (0 ≤ e.1) && decide (e.1 < (List.length d : Int)))
  (cond (decide (0 ≤ i_) && decide (i_ < (List.length l : Int)))
  (let e2 : (Int × (Int × Int)) := List.getD l (Int.toNat i_) ((0 : Int), ((0 : Int), (0 : Int)));
  cond (decide (0 ≤ i_) && decide (i_ < (List.length l : Int)))
  (let e3 : (Int × (Int × Int)) := List.getD l (Int.toNat i_) ((0 : Int), ((0 : Int), (0 : Int)));
  cond (decide (0 ≤ e3.1) && decide (e3.1 < (List.length d : Int)))
  (cond (decide (0 ≤ i_) && decide (i_ < (List.length l : Int)))
  (let e4 : (Int × (Int × Int)) := List.getD l (Int.toNat i_) ((0 : Int), ((0 : Int), (0 : Int)));
  cond (decide (0 ≤ e4.2.1) && decide (e4.2.1 < (List.length (List.getD d (Int.toNat e3.1) []) : Int)))
  (cond (decide (0 ≤ i_) && decide (i_ < (List.length l : Int)))
  (let e5 : (Int × (Int × Int)) := List.getD l (Int.toNat i_) ((0 : Int), ((0 : Int), (0 : Int)));
  cond (decide (0 ≤ e2.2.1) && decide (e2.2.1 < (List.length (List.getD d (Int.toNat e.1) []) : Int)))
  (let m_ : List (List Int) := (List.set d (Int.toNat e.1) (List.set (List.getD d (Int.toNat e.1) []) (Int.toNat e2.2.1) (if e5.2.2 < (List.getD (List.getD d (Int.toNat e3.1) []) (Int.toNat e4.2.1) (0 : Int)) then e5.2.2 else (List.getD (List.getD d (Int.toNat e3.1) []) (Int.toNat e4.2.1) (0 : Int)))));
  cond (decide (0 ≤ i_) && decide (i_ < (List.length l : Int)))
  (let e6 : (Int × (Int × Int)) := List.getD l (Int.toNat i_) ((0 : Int), ((0 : Int), (0 : Int)));
  cond (decide (0 ≤ i_) && decide (i_ < (List.length l : Int)))
  (let e7 : (Int × (Int × Int)) := List.getD l (Int.toNat i_) ((0 : Int), ((0 : Int), (0 : Int)));
  cond (decide (e6.1 = e7.2.1))
  (cond (decide (0 ≤ i_) && decide (i_ < (List.length l : Int)))
  (let e8 : (Int × (Int × Int)) := List.getD l (Int.toNat i_) ((0 : Int), ((0 : Int), (0 : Int)));
  cond (decide (e8.2.2 < (0 : Int)))
  (k1 false ([] : List (List Int)))
  (let i_2 : Int := (IntKind.i64.wrap (i_ + (1 : Int)));
  rec n l i_2 m_))
  none)
  (let i_2 : Int := (IntKind.i64.wrap (i_ + (1 : Int)));
  rec n l i_2 m_))
  none)
  none)
  none)
  none)
  none)
  none)
  none)
  none)
  none)
  none)
  none)
  (k2 n d)
def zqe3 {β : Type} : Nat → zqd5 β → zqd6 β → Int → (List (Int × (Int × Int))) → Int → (List (List Int)) → Option β
  | 0 => fun _ _ _ _ _ _ => none
  | i + 1 => fun k1 k2 n l i_ d => zqe2 (zqe3 i k1 k2) k1 k2 n l i_ d
theorem zqe4 (hΓ : ΓOk Tryz.prog (ref39_Close_X c_ref39_Valid).Γ) (i : Nat) : PieceOk Tryz.prog 175 0 ref39_Close_p3_code zqd8 zqd9 (ref39_Close_p3_G (zqe3 i)) := by
  rw [show ref39_Close_p3_code = .loop (loopBody ref39_Close_p3_code) by kernel_rfl]
  exact piece_loop (X := (ref39_Close_X c_ref39_Valid)) (p := 1) (Λ := pick1 []) (G := fun i => @fun β d ks => ref39_Close_p3_G (zqe3 i) d ks) mixed tab_ok hΓ rfl (by kernel_rfl) CutsOk_nil (fun _ _ => rfl) (fun i => @fun β d ks r h => Eq.trans (b := ref39_Close_p3_G (zqe3 (i + 1)) d ks) (by kernel_rfl) h) i
def zqe5 {β : Type} (k1 : zqda β) (n : Int) (k_ : Int) (i_ : Int) (j : Int) (t131 : Bool) (d : List (List Int)) : Option β :=
  cond t131
  (cond (decide (0 ≤ i_) && decide (i_ < (List.length d : Int)))
  (cond (decide (0 ≤ i_) && decide (i_ < (List.length d : Int)))
  (cond (decide (0 ≤ j) && decide (j < (List.length (List.getD d (Int.toNat i_) []) : Int)))
  (cond (decide (0 ≤ i_) && decide (i_ < (List.length d : Int)))
  (cond (decide (0 ≤ k_) && decide (k_ < (List.length (List.getD d (Int.toNat i_) []) : Int)))
  (cond (decide (0 ≤ k_) && decide (k_ < (List.length d : Int)))
  (cond (decide (0 ≤ j) && decide (j < (List.length (List.getD d (Int.toNat k_) []) : Int)))
  (cond (decide (0 ≤ j) && decide (j < (List.length (List.getD d (Int.toNat i_) []) : Int)))
  (let m_ : List (List Int) := (List.set d (Int.toNat i_) (List.set (List.getD d (Int.toNat i_) []) (Int.toNat j) (if (IntKind.i64.wrap ((List.getD (List.getD d (Int.toNat i_) []) (Int.toNat k_) (0 : Int)) + (List.getD (List.getD d (Int.toNat k_) []) (Int.toNat j) (0 : Int)))) < (List.getD (List.getD d (Int.toNat i_) []) (Int.toNat j) (0 : Int)) then (IntKind.i64.wrap ((List.getD (List.getD d (Int.toNat i_) []) (Int.toNat k_) (0 : Int)) + (List.getD (List.getD d (Int.toNat k_) []) (Int.toNat j) (0 : Int)))) else (List.getD (List.getD d (Int.toNat i_) []) (Int.toNat j) (0 : Int)))));
  k1 n k_ i_ j m_)
  none)
  none)
  none)
  none)
  none)
  none)
  none)
  none)
  (k1 n k_ i_ j d)
def zqe6 {β : Type} (k1 : zqda β) (n : Int) (k_ : Int) (i_ : Int) (j : Int) (t131 : Bool) (d : List (List Int)) : Option β := zqe5 k1 n k_ i_ j t131 d
theorem zqe7 (hΓ : ΓOk Tryz.prog (ref39_Close_X c_ref39_Valid).Γ) : PieceOk Tryz.prog 175 0 ref39_Close_p4_code zqdc zqdd (ref39_Close_p4_G (zqe6)) :=
  piece_exec (X := (ref39_Close_X c_ref39_Valid)) (p := 25) (Λ := pick1 []) mixed tab_ok hΓ (by kernel_rfl) CutsOk_nil (fun d ks r h => Eq.trans (b := ref39_Close_p4_G (zqe6) d ks) (by kernel_rfl) h)
def zqe8 (p4 : zqdb) {β : Type} (rec : Int → Int → Int → Int → (List (List Int)) → Option β) (k1 : zqde β) (n : Int) (k_ : Int) (i_ : Int) (j : Int) (d : List (List Int)) : Option β :=
  cond (decide (j < n))
  (cond (decide (0 ≤ i_) && decide (i_ < (List.length d : Int)))
  (cond (decide (0 ≤ k_) && decide (k_ < (List.length (List.getD d (Int.toNat i_) []) : Int)))
  (cond (decide ((List.getD (List.getD d (Int.toNat i_) []) (Int.toNat k_) (0 : Int)) < (1099511627776 : Int)))
  (cond (decide (0 ≤ k_) && decide (k_ < (List.length d : Int)))
  (cond (decide (0 ≤ j) && decide (j < (List.length (List.getD d (Int.toNat k_) []) : Int)))
  (p4 (fun (n2 : Int) (k_2 : Int) (i_2 : Int) (j2 : Int) (d2 : List (List Int)) =>
  let j3 : Int := (IntKind.i64.wrap (j2 + (1 : Int)));
  rec n2 k_2 i_2 j3 d2) n k_ i_ j (decide ((List.getD (List.getD d (Int.toNat k_) []) (Int.toNat j) (0 : Int)) < (1099511627776 : Int))) d)
  none)
  none)
  (p4 (fun (n2 : Int) (k_2 : Int) (i_2 : Int) (j2 : Int) (d2 : List (List Int)) =>
  let j3 : Int := (IntKind.i64.wrap (j2 + (1 : Int)));
  rec n2 k_2 i_2 j3 d2) n k_ i_ j false d))
  none)
  none)
  (k1 n k_ i_ d)
def zqe9 (p4 : zqdb) {β : Type} : Nat → zqde β → Int → Int → Int → Int → (List (List Int)) → Option β
  | 0 => fun _ _ _ _ _ _ => none
  | i + 1 => fun k1 n k_ i_ j d => zqe8 p4 (zqe9 p4 i k1) k1 n k_ i_ j d
theorem zqea (hΓ : ΓOk Tryz.prog (ref39_Close_X c_ref39_Valid).Γ) (p4 : zqdb) (hp4 : PieceOk Tryz.prog 175 0 ref39_Close_p4_code zqdc zqdd (ref39_Close_p4_G p4)) (i : Nat) : PieceOk Tryz.prog 175 0 ref39_Close_p5_code zqdg zqdh (ref39_Close_p5_G (zqe9 p4 i)) := by
  rw [show ref39_Close_p5_code = .loop (loopBody ref39_Close_p5_code) by kernel_rfl]
  exact piece_loop (X := (ref39_Close_X c_ref39_Valid)) (p := 1) (Λ := pick1 [(25, pieceCut zqdc zqdd (ref39_Close_p4_G p4))]) (G := fun i => @fun β d ks => ref39_Close_p5_G (zqe9 p4 i) d ks) mixed tab_ok hΓ rfl (by kernel_rfl) (CutsOk_cons (q := 25) (c' := ref39_Close_p4_code) (by kernel_rfl) rfl hp4 CutsOk_nil) (fun _ _ => rfl) (fun i => @fun β d ks r h => Eq.trans (b := ref39_Close_p5_G (zqe9 p4 (i + 1)) d ks) (by kernel_rfl) h) i
def zqeb (p5 : zqdf) {β : Type} (rec : Int → Int → Int → (List (List Int)) → Option β) (k1 : zqdi β) (n : Int) (k_ : Int) (i_ : Int) (d : List (List Int)) : Option β :=
  cond (decide (i_ < n))
  (p5 (fun (n2 : Int) (k_2 : Int) (i_2 : Int) (d2 : List (List Int)) =>
  let i_3 : Int := (IntKind.i64.wrap (i_2 + (1 : Int)));
  rec n2 k_2 i_3 d2) n k_ i_ (0 : Int) d)
  (k1 n k_ d)
def zqec (p5 : zqdf) {β : Type} : Nat → zqdi β → Int → Int → Int → (List (List Int)) → Option β
  | 0 => fun _ _ _ _ _ => none
  | i + 1 => fun k1 n k_ i_ d => zqeb p5 (zqec p5 i k1) k1 n k_ i_ d
theorem zqed (hΓ : ΓOk Tryz.prog (ref39_Close_X c_ref39_Valid).Γ) (p5 : zqdf) (hp5 : PieceOk Tryz.prog 175 0 ref39_Close_p5_code zqdg zqdh (ref39_Close_p5_G p5)) (i : Nat) : PieceOk Tryz.prog 175 0 ref39_Close_p6_code zqdk zqdl (ref39_Close_p6_G (zqec p5 i)) := by
  rw [show ref39_Close_p6_code = .loop (loopBody ref39_Close_p6_code) by kernel_rfl]
  exact piece_loop (X := (ref39_Close_X c_ref39_Valid)) (p := 1) (Λ := pick1 [(50, pieceCut zqdg zqdh (ref39_Close_p5_G p5))]) (G := fun i => @fun β d ks => ref39_Close_p6_G (zqec p5 i) d ks) mixed tab_ok hΓ rfl (by kernel_rfl) (CutsOk_cons (q := 50) (c' := ref39_Close_p5_code) (by kernel_rfl) rfl hp5 CutsOk_nil) (fun _ _ => rfl) (fun i => @fun β d ks r h => Eq.trans (b := ref39_Close_p6_G (zqec p5 (i + 1)) d ks) (by kernel_rfl) h) i
def zqee {β : Type} (rec : Int → Int → Int → (List (List Int)) → Option β) (k1 : zqdm β) (k2 : zqdn β) (n : Int) (k_ : Int) (i_ : Int) (d : List (List Int)) : Option β :=
  cond (decide (i_ < n))
  (cond (decide (0 ≤ i_) && decide (i_ < (List.length d : Int)))
  (cond (decide (0 ≤ i_) && decide (i_ < (List.length (List.getD d (Int.toNat i_) []) : Int)))
  (cond (decide ((List.getD (List.getD d (Int.toNat i_) []) (Int.toNat i_) (0 : Int)) < (0 : Int)))
  (k1 false ([] : List (List Int)))
  (let i_2 : Int := (IntKind.i64.wrap (i_ + (1 : Int)));
  rec n k_ i_2 d))
  none)
  none)
  (k2 n k_ d)
def zqef {β : Type} : Nat → zqdm β → zqdn β → Int → Int → Int → (List (List Int)) → Option β
  | 0 => fun _ _ _ _ _ _ => none
  | i + 1 => fun k1 k2 n k_ i_ d => zqee (zqef i k1 k2) k1 k2 n k_ i_ d
theorem zqeg (hΓ : ΓOk Tryz.prog (ref39_Close_X c_ref39_Valid).Γ) (i : Nat) : PieceOk Tryz.prog 175 0 ref39_Close_p7_code zqdp zqdq (ref39_Close_p7_G (zqef i)) := by
  rw [show ref39_Close_p7_code = .loop (loopBody ref39_Close_p7_code) by kernel_rfl]
  exact piece_loop (X := (ref39_Close_X c_ref39_Valid)) (p := 1) (Λ := pick1 []) (G := fun i => @fun β d ks => ref39_Close_p7_G (zqef i) d ks) mixed tab_ok hΓ rfl (by kernel_rfl) CutsOk_nil (fun _ _ => rfl) (fun i => @fun β d ks r h => Eq.trans (b := ref39_Close_p7_G (zqef (i + 1)) d ks) (by kernel_rfl) h) i
def zqeh (p6 : zqdj) (p7 : zqdo) {β : Type} (rec : Int → Int → (List (List Int)) → Option β) (k1 : zqdr β) (k2 : zqds β) (n : Int) (k_ : Int) (d : List (List Int)) : Option β :=
  cond (decide (k_ < n))
  (p6 (fun (n2 : Int) (k_2 : Int) (d2 : List (List Int)) =>
  p7 (fun (t5 : Bool) (t4 : List (List Int)) =>
  k1 t5 t4) (fun (n3 : Int) (k_3 : Int) (d3 : List (List Int)) =>
  let k_4 : Int := (IntKind.i64.wrap (k_3 + (1 : Int)));
  rec n3 k_4 d3) n2 k_2 (0 : Int) d2) n k_ (0 : Int) d)
  (k2 d)
def zqei (p6 : zqdj) (p7 : zqdo) {β : Type} : Nat → zqdr β → zqds β → Int → Int → (List (List Int)) → Option β
  | 0 => fun _ _ _ _ _ => none
  | i + 1 => fun k1 k2 n k_ d => zqeh p6 p7 (zqei p6 p7 i k1 k2) k1 k2 n k_ d
theorem zqej (hΓ : ΓOk Tryz.prog (ref39_Close_X c_ref39_Valid).Γ) (p6 : zqdj) (p7 : zqdo) (hp6 : PieceOk Tryz.prog 175 0 ref39_Close_p6_code zqdk zqdl (ref39_Close_p6_G p6)) (hp7 : PieceOk Tryz.prog 175 0 ref39_Close_p7_code zqdp zqdq (ref39_Close_p7_G p7)) (i : Nat) : PieceOk Tryz.prog 175 0 ref39_Close_p8_code zqdu zqdv (ref39_Close_p8_G (zqei p6 p7 i)) := by
  rw [show ref39_Close_p8_code = .loop (loopBody ref39_Close_p8_code) by kernel_rfl]
  exact piece_loop (X := (ref39_Close_X c_ref39_Valid)) (p := 1) (Λ := pick1 [(98, pieceCut zqdk zqdl (ref39_Close_p6_G p6)), (102, pieceCut zqdp zqdq (ref39_Close_p7_G p7))]) (G := fun i => @fun β d ks => ref39_Close_p8_G (zqei p6 p7 i) d ks) mixed tab_ok hΓ rfl (by kernel_rfl) (CutsOk_cons (q := 98) (c' := ref39_Close_p6_code) (by kernel_rfl) rfl hp6 (CutsOk_cons (q := 102) (c' := ref39_Close_p7_code) (by kernel_rfl) rfl hp7 CutsOk_nil)) (fun _ _ => rfl) (fun i => @fun β d ks r h => Eq.trans (b := ref39_Close_p8_G (zqei p6 p7 (i + 1)) d ks) (by kernel_rfl) h) i
def zqek (p2 : zqd2) (p3 : zqd7) (p8 : zqdt) {β : Type} (n : Int) (l : List (Int × (Int × Int))) (k : ((List (List Int)) → Bool → Option β)) : Option β :=
  c_ref39_Valid n l (fun (rValid : Bool) =>
  cond (!rValid)
  (k ([] : List (List Int)) false)
  (p2 (fun (n2 : Int) (l2 : List (Int × (Int × Int))) (d : List (List Int)) =>
  p3 (fun (t5 : Bool) (t4 : List (List Int)) =>
  k t4 t5) (fun (n3 : Int) (d2 : List (List Int)) =>
  p8 (fun (t5 : Bool) (t4 : List (List Int)) =>
  k t4 t5) (fun (d3 : List (List Int)) =>
  k d3 true) n3 (0 : Int) d2) n2 l2 (0 : Int) d) n l (0 : Int) ([] : List (List Int))))
theorem zqel (hΓ : ΓOk Tryz.prog (ref39_Close_X c_ref39_Valid).Γ) (p2 : zqd2) (p3 : zqd7) (p8 : zqdt) (hp2 : PieceOk Tryz.prog 175 0 ref39_Close_p2_code zqd3 zqd4 (ref39_Close_p2_G p2)) (hp3 : PieceOk Tryz.prog 175 0 ref39_Close_p3_code zqd8 zqd9 (ref39_Close_p3_G p3)) (hp8 : PieceOk Tryz.prog 175 0 ref39_Close_p8_code zqdu zqdv (ref39_Close_p8_G p8)) : SpecOk Tryz.prog 54 (zqcw (zqek c_ref39_Valid p2 p3 p8)) :=
  spec_exec (X := (ref39_Close_X c_ref39_Valid)) (Λ := pick1 [(122, pieceCut zqd3 zqd4 (ref39_Close_p2_G p2)), (250, pieceCut zqd8 zqd9 (ref39_Close_p3_G p3)), (506, pieceCut zqdu zqdv (ref39_Close_p8_G p8))]) (rs := [.tmp 4, .tmp 5]) (c := bodyOf Tryz.f54) mixed tab_ok hΓ Tryz.func54 (by kernel_rfl) (by kernel_rfl) (by kernel_rfl) (by kernel_rfl) (CutsOk_cons (q := 122) (c' := ref39_Close_p2_code) (by kernel_rfl) rfl hp2 (CutsOk_cons (q := 250) (c' := ref39_Close_p3_code) (by kernel_rfl) rfl hp3 (CutsOk_cons (q := 506) (c' := ref39_Close_p8_code) (by kernel_rfl) rfl hp8 CutsOk_nil))) (fun x k r h => Eq.trans (b := (zqcw (zqek c_ref39_Valid p2 p3 p8)).run x k) (by kernel_rfl) h)
end
theorem zqemΓ : ΓOk Tryz.prog (pick1 [(65, .spec (zq6c zq6s))]) := (ΓOk_cons zq6t ΓOk_nil)
def zqen (m : Nat) : zqcy := zqdx m
theorem zqeo {β : Type} (i : Nat) (k1 n l i_ j d row) : (zqen (i + 1) k1 n l i_ j d row : Option β) = zqdw (zqen i k1) k1 n l i_ j d row := rfl
def zqep : zqcy := zqen fuel
theorem zqeq : PieceOk Tryz.prog 175 0 ref39_Close_p1_code zqcz zqd0 (ref39_Close_p1_G zqep) := zqdy zq6s zqemΓ fuel
def zqer (m : Nat) : zqd2 := zqe0 zqep m
theorem zqes {β : Type} (i : Nat) (k1 n l i_ d) : (zqer (i + 1) k1 n l i_ d : Option β) = zqdz zqep (zqer i k1) k1 n l i_ d := rfl
def zqet : zqd2 := zqer fuel
theorem zqeu : PieceOk Tryz.prog 175 0 ref39_Close_p2_code zqd3 zqd4 (ref39_Close_p2_G zqet) := zqe1 zq6s zqemΓ zqep zqeq fuel
def zqev (m : Nat) : zqd7 := zqe3 m
theorem zqew {β : Type} (i : Nat) (k1 k2 n l i_ d) : (zqev (i + 1) k1 k2 n l i_ d : Option β) = zqe2 (zqev i k1 k2) k1 k2 n l i_ d := rfl
def zqex : zqd7 := zqev fuel
theorem zqey : PieceOk Tryz.prog 175 0 ref39_Close_p3_code zqd8 zqd9 (ref39_Close_p3_G zqex) := zqe4 zq6s zqemΓ fuel
def zqez : zqdb := zqe6
theorem zqf0 : PieceOk Tryz.prog 175 0 ref39_Close_p4_code zqdc zqdd (ref39_Close_p4_G zqez) := zqe7 zq6s zqemΓ
def zqf1 (m : Nat) : zqdf := zqe9 zqez m
theorem zqf2 {β : Type} (i : Nat) (k1 n k_ i_ j d) : (zqf1 (i + 1) k1 n k_ i_ j d : Option β) = zqe8 zqez (zqf1 i k1) k1 n k_ i_ j d := rfl
def zqf3 : zqdf := zqf1 fuel
theorem zqf4 : PieceOk Tryz.prog 175 0 ref39_Close_p5_code zqdg zqdh (ref39_Close_p5_G zqf3) := zqea zq6s zqemΓ zqez zqf0 fuel
def zqf5 (m : Nat) : zqdj := zqec zqf3 m
theorem zqf6 {β : Type} (i : Nat) (k1 n k_ i_ d) : (zqf5 (i + 1) k1 n k_ i_ d : Option β) = zqeb zqf3 (zqf5 i k1) k1 n k_ i_ d := rfl
def zqf7 : zqdj := zqf5 fuel
theorem zqf8 : PieceOk Tryz.prog 175 0 ref39_Close_p6_code zqdk zqdl (ref39_Close_p6_G zqf7) := zqed zq6s zqemΓ zqf3 zqf4 fuel
def zqf9 (m : Nat) : zqdo := zqef m
theorem zqfa {β : Type} (i : Nat) (k1 k2 n k_ i_ d) : (zqf9 (i + 1) k1 k2 n k_ i_ d : Option β) = zqee (zqf9 i k1 k2) k1 k2 n k_ i_ d := rfl
def zqfb : zqdo := zqf9 fuel
theorem zqfc : PieceOk Tryz.prog 175 0 ref39_Close_p7_code zqdp zqdq (ref39_Close_p7_G zqfb) := zqeg zq6s zqemΓ fuel
def zqfd (m : Nat) : zqdt := zqei zqf7 zqfb m
theorem zqfe {β : Type} (i : Nat) (k1 k2 n k_ d) : (zqfd (i + 1) k1 k2 n k_ d : Option β) = zqeh zqf7 zqfb (zqfd i k1 k2) k1 k2 n k_ d := rfl
def zqff : zqdt := zqfd fuel
theorem zqfg : PieceOk Tryz.prog 175 0 ref39_Close_p8_code zqdu zqdv (ref39_Close_p8_G zqff) := zqej zq6s zqemΓ zqf7 zqfb zqf8 zqfc fuel
def zqfh : zqcv := zqek zq6s zqet zqex zqff
theorem zqfi : SpecOk Tryz.prog 54 (zqcw zqfh) := zqel zq6s zqemΓ zqet zqex zqff zqeu zqey zqfg

/-- pagewatch/clock.compared -/
abbrev zqfj := {β : Type} → (Int × (Int × (Int × Int))) → (Bool → Option β) → Option β
def zqfk (c : zqfj) : Spec :=
  ⟨[(true, [.data (.prod (.int .i64) (.prod (.int .i64) (.prod (.int .i64) (.int .i64))))])], [], [(false, [.data .bool])], [], fun x k => c x.1.1.1 (fun r0 => k (((r0, ()), ()), ()))⟩
section
variable (c_clock_instant : zq3y)
@[reducible] def clock_compared_X : Ctx := ⟨look tab, pick1 [(57, .spec (zq3z c_clock_instant))], false, false, false, false⟩
def zqfl {β : Type} (s : (Int × (Int × (Int × Int)))) (k : (Bool → Option β)) : Option β :=
  c_clock_instant s.2.1 (fun (rinstant : Bool) =>
  cond rinstant
  (c_clock_instant s.2.2.1 (fun (rinstant2 : Bool) =>
  cond rinstant2
  (c_clock_instant s.2.2.2 (fun (rinstant3 : Bool) =>
  cond rinstant3
  (let t : Bool := (decide (s.2.2.1 ≤ s.2.2.2));
  k t)
  (k false)))
  (k false)))
  (k false))
theorem zqfm (hΓ : ΓOk Tryz.prog (clock_compared_X c_clock_instant).Γ) : SpecOk Tryz.prog 56 (zqfk (zqfl c_clock_instant)) :=
  spec_exec (X := (clock_compared_X c_clock_instant)) (Λ := pick1 []) (rs := [.tmp 2]) (c := bodyOf Tryz.f56) mixed tab_ok hΓ Tryz.func56 (by kernel_rfl) (by kernel_rfl) (by kernel_rfl) (by kernel_rfl) CutsOk_nil (fun x k r h => Eq.trans (b := (zqfk (zqfl c_clock_instant)).run x k) (by kernel_rfl) h)
end
theorem zqfnΓ : ΓOk Tryz.prog (pick1 [(57, .spec (zq3z zq43))]) := (ΓOk_cons zq44 ΓOk_nil)
def zqfo : zqfj := zqfl zq43
theorem zqfp : SpecOk Tryz.prog 56 (zqfk zqfo) := zqfm zq43 zqfnΓ

/-- pagewatch/pagewatchref38.When -/
abbrev zqfq := {β : Type} → zq2 → Int → Int → ((Int × Int) → Bool → Option β) → Option β
def zqfr (c : zqfq) : Spec :=
  ⟨[(true, [.data zq3]), (false, [.data (.int .i64)]), (false, [.data (.int .i64)])], [], [(true, [.data (.prod (.int .i64) (.int .i64))]), (false, [.data .bool])], [], fun x k => c x.1.1.1 x.1.2.1.1 x.1.2.2.1.1 (fun r0 r1 => k (((r0, ()), (r1, ()), ()), ()))⟩
noncomputable def ref38_When_p1_code : Code := codeAt 122 (bodyOf Tryz.f63)
abbrev zqfs (β : Type) := Int → Int → Int → Int → Option β
abbrev zqft := {β : Type} → zqfs β → Int → Int → Int → (List (List UInt8 × Int)) → (List (Int × (Int × (Int × Int)))) → (List zq0) → (List (Int × (Int × Int))) → Int → Int → Int → Int → Option β
def zqfu : View := ⟨0, [1, 2, 3, 6, 8, 9], [(false, [.data (.int .i64)]), (false, [.data (.int .i64)]), (false, [.ptr 0 0]), (false, [.ptr 1 0]), (false, [.ptr 2 0]), (false, [.data (.int .i64)])], [.cells 32 [.data (.slice (.prod .str (.int .i64))), .data (.slice (.prod (.int .i64) (.prod (.int .i64) (.prod (.int .i64) (.int .i64))))), .data (.slice zq1), .data (.slice (.prod (.int .i64) (.prod (.int .i64) (.int .i64))))], .cells 40 [.data (.int .i64), .data (.int .i64)], .cells 40 [.data (.int .i64), .data (.int .i64)]]⟩
def zqfv : List (AExit × View) := [(.exit 0, ⟨0, [6, 8], [(false, [.ptr 0 0]), (false, [.ptr 1 0])], [.cells 40 [.data (.int .i64), .data (.int .i64)], .cells 40 [.data (.int .i64), .data (.int .i64)]]⟩)]
@[reducible] def ref38_When_p1_G (p : zqft) {β : Type} (d : zqfu.den) (ks : Outs.K β zqfv) : Option β :=
  p (fun a0 a1 a2 a3 => ks.1 (((), (), ()), ((a0, a1, ()), (a2, a3, ()), ()))) d.1.1.1 d.1.2.1.1 d.1.2.2.2.2.2.1.1 d.2.1.1 d.2.1.2.1 d.2.1.2.2.1 d.2.1.2.2.2.1 d.2.2.1.1 d.2.2.1.2.1 d.2.2.2.1.1 d.2.2.2.1.2.1
section
variable (c_ref25_In : zq1g) (c_ref38_Empty : zq85) (c_ref38_From : zq7y) (c_ref38_Meet : zq7r) (c_ref38_Valid : zq4l)
@[reducible] def ref38_When_X : Ctx := ⟨look tab, pick1 [(31, .spec (zq1h c_ref25_In)), (78, .spec (zq86 c_ref38_Empty)), (77, .spec (zq7z c_ref38_From)), (76, .spec (zq7s c_ref38_Meet)), (62, .spec (zq4m c_ref38_Valid))], false, false, false, false⟩
def zqfw {β : Type} (rec : Int → Int → Int → (List (List UInt8 × Int)) → (List (Int × (Int × (Int × Int)))) → (List zq0) → (List (Int × (Int × Int))) → Int → Int → Int → Int → Option β) (k1 : zqfs β) (host : Int) (clock : Int) (i_ : Int) (r_ : List (List UInt8 × Int)) (r_2 : List (Int × (Int × (Int × Int)))) (r_3 : List zq0) (r_4 : List (Int × (Int × Int))) (t6 : Int) (t62 : Int) (out : Int) (out2 : Int) : Option β :=
  cond (decide (i_ < (List.length r_2 : Int)))
  (cond (decide (0 ≤ i_) && decide (i_ < (List.length r_2 : Int)))
  (let e : (Int × (Int × (Int × Int))) := List.getD r_2 (Int.toNat i_) ((0 : Int), ((0 : Int), ((0 : Int), (0 : Int))));
  cond (decide (e.1 = host))
  (cond (decide (0 ≤ host) && decide (host < (List.length r_ : Int)))
  (let e2 : (List UInt8 × Int) := List.getD r_ (Int.toNat host) (([] : List UInt8), (0 : Int));
  cond (decide (0 ≤ i_) && decide (i_ < (List.length r_2 : Int)))
  (let e3 : (Int × (Int × (Int × Int))) := List.getD r_2 (Int.toNat i_) ((0 : Int), ((0 : Int), ((0 : Int), (0 : Int))));
  c_ref38_From e2 e3 clock (fun (rFrom : (Int × Int)) =>
  c_ref38_Meet (out, out2) rFrom (fun (rMeet : (Int × Int)) =>
  let i_2 : Int := (IntKind.i64.wrap (i_ + (1 : Int)));
  rec host clock i_2 r_ r_2 r_3 r_4 t6 t62 rMeet.1 rMeet.2)))
  none)
  none)
  (let i_2 : Int := (IntKind.i64.wrap (i_ + (1 : Int)));
  rec host clock i_2 r_ r_2 r_3 r_4 t6 t62 out out2))
  none)
  (k1 t6 t62 out out2)
def zqfx {β : Type} : Nat → zqfs β → Int → Int → Int → (List (List UInt8 × Int)) → (List (Int × (Int × (Int × Int)))) → (List zq0) → (List (Int × (Int × Int))) → Int → Int → Int → Int → Option β
  | 0 => fun _ _ _ _ _ _ _ _ _ _ _ _ => none
  | i + 1 => fun k1 host clock i_ r_ r_2 r_3 r_4 t6 t62 out out2 => zqfw c_ref38_From c_ref38_Meet (zqfx i k1) k1 host clock i_ r_ r_2 r_3 r_4 t6 t62 out out2
theorem zqfy (hΓ : ΓOk Tryz.prog (ref38_When_X c_ref25_In c_ref38_Empty c_ref38_From c_ref38_Meet c_ref38_Valid).Γ) (i : Nat) : PieceOk Tryz.prog 62 0 ref38_When_p1_code zqfu zqfv (ref38_When_p1_G (zqfx c_ref38_From c_ref38_Meet i)) := by
  rw [show ref38_When_p1_code = .loop (loopBody ref38_When_p1_code) by kernel_rfl]
  exact piece_loop (X := (ref38_When_X c_ref25_In c_ref38_Empty c_ref38_From c_ref38_Meet c_ref38_Valid)) (p := 1) (Λ := pick1 []) (G := fun i => @fun β d ks => ref38_When_p1_G (zqfx c_ref38_From c_ref38_Meet i) d ks) mixed tab_ok hΓ rfl (by kernel_rfl) CutsOk_nil (fun _ _ => rfl) (fun i => @fun β d ks r h => Eq.trans (b := ref38_When_p1_G (zqfx c_ref38_From c_ref38_Meet (i + 1)) d ks) (by kernel_rfl) h) i
def zqfz (p1 : zqft) {β : Type} (r_ : zq2) (host : Int) (clock : Int) (k : ((Int × Int) → Bool → Option β)) : Option β :=
  c_ref38_Valid r_ (fun (rValid : Bool) =>
  cond (!rValid)
  (k ((0 : Int), (0 : Int)) false)
  (c_ref25_In host (0 : Int) (IntKind.i64.wrap ((List.length r_.1 : Int) - (1 : Int))) (fun (rIn : Bool) =>
  cond (!rIn)
  (k ((0 : Int), (0 : Int)) false)
  (c_ref25_In clock (0 : Int) (8589934592 : Int) (fun (rIn2 : Bool) =>
  cond (!rIn2)
  (k ((0 : Int), (0 : Int)) false)
  (p1 (fun (t6 : Int) (t62 : Int) (out : Int) (out2 : Int) =>
  c_ref38_Empty (out, out2) (fun (rEmpty : Bool) =>
  k (out, out2) (!rEmpty))) host clock (0 : Int) r_.1 r_.2.1 r_.2.2.1 r_.2.2.2 (0 : Int) (0 : Int) (0 : Int) (8589934592 : Int)))))))
theorem zqg0 (hΓ : ΓOk Tryz.prog (ref38_When_X c_ref25_In c_ref38_Empty c_ref38_From c_ref38_Meet c_ref38_Valid).Γ) (p1 : zqft) (hp1 : PieceOk Tryz.prog 62 0 ref38_When_p1_code zqfu zqfv (ref38_When_p1_G p1)) : SpecOk Tryz.prog 63 (zqfr (zqfz c_ref25_In c_ref38_Empty c_ref38_Valid p1)) :=
  spec_exec (X := (ref38_When_X c_ref25_In c_ref38_Empty c_ref38_From c_ref38_Meet c_ref38_Valid)) (Λ := pick1 [(122, pieceCut zqfu zqfv (ref38_When_p1_G p1))]) (rs := [.cell 6 40, .tmp 7]) (c := bodyOf Tryz.f63) mixed tab_ok hΓ Tryz.func63 (by kernel_rfl) (by kernel_rfl) (by kernel_rfl) (by kernel_rfl) (CutsOk_cons (q := 122) (c' := ref38_When_p1_code) (by kernel_rfl) rfl hp1 CutsOk_nil) (fun x k r h => Eq.trans (b := (zqfr (zqfz c_ref25_In c_ref38_Empty c_ref38_Valid p1)).run x k) (by kernel_rfl) h)
end
theorem zqg1Γ : ΓOk Tryz.prog (pick1 [(31, .spec (zq1h zq1l)), (78, .spec (zq86 zq8a)), (77, .spec (zq7z zq83)), (76, .spec (zq7s zq7w)), (62, .spec (zq4m zq62))]) := (ΓOk_cons zq1m (ΓOk_cons zq8b (ΓOk_cons zq84 (ΓOk_cons zq7x (ΓOk_cons zq63 ΓOk_nil)))))
def zqg2 (m : Nat) : zqft := zqfx zq83 zq7w m
theorem zqg3 {β : Type} (i : Nat) (k1 host clock i_ r_ r_2 r_3 r_4 t6 t62 out out2) : (zqg2 (i + 1) k1 host clock i_ r_ r_2 r_3 r_4 t6 t62 out out2 : Option β) = zqfw zq83 zq7w (zqg2 i k1) k1 host clock i_ r_ r_2 r_3 r_4 t6 t62 out out2 := rfl
def zqg4 : zqft := zqg2 fuel
theorem zqg5 : PieceOk Tryz.prog 62 0 ref38_When_p1_code zqfu zqfv (ref38_When_p1_G zqg4) := zqfy zq1l zq8a zq83 zq7w zq62 zqg1Γ fuel
def zqg6 : zqfq := zqfz zq1l zq8a zq62 zqg4
theorem zqg7 : SpecOk Tryz.prog 63 (zqfr zqg6) := zqg0 zq1l zq8a zq83 zq7w zq62 zqg1Γ zqg4 zqg5

/-- pagewatch/clock.Elapsed -/
abbrev zqg8 := {β : Type} → Int → Int → (Int → Int → Option β) → Option β
def zqg9 (c : zqg8) : Spec :=
  ⟨[(false, [.data (.int .i64)]), (false, [.data (.int .i64)])], [], [(false, [.data (.int .i64)]), (false, [.data (.int .i64)])], [], fun x k => c x.1.1.1 x.1.2.1.1 (fun r0 r1 => k (((r0, ()), (r1, ()), ()), ()))⟩
section
variable (c_clock_Elapsed_f1 : zqa8) (c_clock_in : zq3r) (c_clock_instant : zq3y)
@[reducible] def clock_Elapsed_X : Ctx := ⟨look tab, pick1 [(117, .spec (zqa9 c_clock_Elapsed_f1)), (55, .spec (zq3s c_clock_in)), (57, .spec (zq3z c_clock_instant))], false, false, false, false⟩
def zqga {β : Type} (drift : Int) (d : Int) (k : (Int → Int → Option β)) : Option β :=
  c_clock_in drift (0 : Int) (500000 : Int) (fun (rin : Bool) =>
  cond (!rin)
  (k (0 : Int) (0 : Int))
  (c_clock_instant d (fun (rinstant : Bool) =>
  cond (!rinstant)
  (k (0 : Int) (0 : Int))
  (cond (!decide ((IntKind.i64.wrap ((1000000 : Int) + drift)) = 0))
  (c_clock_Elapsed_f1 (IntKind.i64.wrap (d * (1000000 : Int))) (IntKind.i64.wrap ((1000000 : Int) - drift)) (fun (rElapsed1 : Int) =>
  let low : Int := (IntKind.i64.wrap (Int.tdiv (IntKind.i64.wrap (d * (1000000 : Int))) (IntKind.i64.wrap ((1000000 : Int) + drift))));
  k low rElapsed1))
  none))))
theorem zqgb (hΓ : ΓOk Tryz.prog (clock_Elapsed_X c_clock_Elapsed_f1 c_clock_in c_clock_instant).Γ) : SpecOk Tryz.prog 103 (zqg9 (zqga c_clock_Elapsed_f1 c_clock_in c_clock_instant)) :=
  spec_exec (X := (clock_Elapsed_X c_clock_Elapsed_f1 c_clock_in c_clock_instant)) (Λ := pick1 []) (rs := [.tmp 4, .tmp 5]) (c := bodyOf Tryz.f103) mixed tab_ok hΓ Tryz.func103 (by kernel_rfl) (by kernel_rfl) (by kernel_rfl) (by kernel_rfl) CutsOk_nil (fun x k r h => Eq.trans (b := (zqg9 (zqga c_clock_Elapsed_f1 c_clock_in c_clock_instant)).run x k) (by kernel_rfl) h)
end
theorem zqgcΓ : ΓOk Tryz.prog (pick1 [(117, .spec (zqa9 zqad)), (55, .spec (zq3s zq3w)), (57, .spec (zq3z zq43))]) := (ΓOk_cons zqae (ΓOk_cons zq3x (ΓOk_cons zq44 ΓOk_nil)))
def zqgd : zqg8 := zqga zqad zq3w zq43
theorem zqge : SpecOk Tryz.prog 103 (zqg9 zqgd) := zqgb zqad zq3w zq43 zqgcΓ

/-- pagewatch/clock.Valid -/
abbrev zqgf := {β : Type} → zq2 → (Bool → Option β) → Option β
def zqgg (c : zqgf) : Spec :=
  ⟨[(true, [.data zq3])], [], [(false, [.data .bool])], [], fun x k => c x.1.1.1 (fun r0 => k (((r0, ()), ()), ()))⟩
noncomputable def clock_Valid_p1_code : Code := codeAt 58 (bodyOf Tryz.f33)
noncomputable def clock_Valid_p2_code : Code := codeAt 122 (bodyOf Tryz.f33)
noncomputable def clock_Valid_p3_code : Code := codeAt 250 (bodyOf Tryz.f33)
noncomputable def clock_Valid_p4_code : Code := codeAt 506 (bodyOf Tryz.f33)
abbrev zqgh (β : Type) := Bool → Option β
abbrev zqgi (β : Type) := (List (List UInt8 × Int)) → (List (Int × (Int × (Int × Int)))) → (List zq0) → (List (Int × (Int × Int))) → Option β
abbrev zqgj := {β : Type} → zqgh β → zqgi β → (List (List UInt8 × Int)) → Int → Int → (List (List UInt8 × Int)) → (List (Int × (Int × (Int × Int)))) → (List zq0) → (List (Int × (Int × Int))) → Option β
def zqgk : View := ⟨0, [1, 34, 35, 36], [(false, [.ptr 0 0]), (false, [.data (.slice (.prod .str (.int .i64)))]), (false, [.data (.int .i64)]), (false, [.data (.int .i64)])], [.cells 32 [.data (.slice (.prod .str (.int .i64))), .data (.slice (.prod (.int .i64) (.prod (.int .i64) (.prod (.int .i64) (.int .i64))))), .data (.slice zq1), .data (.slice (.prod (.int .i64) (.prod (.int .i64) (.int .i64))))]]⟩
def zqgl : List (AExit × View) := [(.ret, ⟨0, [2], [(false, [.data .bool])], []⟩), (.exit 0, ⟨0, [1], [(false, [.ptr 0 0])], [.cells 32 [.data (.slice (.prod .str (.int .i64))), .data (.slice (.prod (.int .i64) (.prod (.int .i64) (.prod (.int .i64) (.int .i64))))), .data (.slice zq1), .data (.slice (.prod (.int .i64) (.prod (.int .i64) (.int .i64))))]]⟩)]
@[reducible] def clock_Valid_p1_G (p : zqgj) {β : Type} (d : zqgk.den) (ks : Outs.K β zqgl) : Option β :=
  p (fun a0 => ks.1 (((a0, ()), ()), ())) (fun a0 a1 a2 a3 => ks.2.1 (((), ()), ((a0, a1, a2, a3, ()), ()))) d.1.2.1.1 d.1.2.2.1.1 d.1.2.2.2.1.1 d.2.1.1 d.2.1.2.1 d.2.1.2.2.1 d.2.1.2.2.2.1
abbrev zqgm (β : Type) := Bool → Option β
abbrev zqgn (β : Type) := (List (List UInt8 × Int)) → (List (Int × (Int × (Int × Int)))) → (List zq0) → (List (Int × (Int × Int))) → Option β
abbrev zqgo := {β : Type} → zqgm β → zqgn β → (List (Int × (Int × (Int × Int)))) → Int → Int → (List (List UInt8 × Int)) → (List (Int × (Int × (Int × Int)))) → (List zq0) → (List (Int × (Int × Int))) → Option β
def zqgp : View := ⟨0, [1, 46, 47, 48], [(false, [.ptr 0 0]), (false, [.data (.slice (.prod (.int .i64) (.prod (.int .i64) (.prod (.int .i64) (.int .i64)))))]), (false, [.data (.int .i64)]), (false, [.data (.int .i64)])], [.cells 32 [.data (.slice (.prod .str (.int .i64))), .data (.slice (.prod (.int .i64) (.prod (.int .i64) (.prod (.int .i64) (.int .i64))))), .data (.slice zq1), .data (.slice (.prod (.int .i64) (.prod (.int .i64) (.int .i64))))]]⟩
def zqgq : List (AExit × View) := [(.ret, ⟨0, [2], [(false, [.data .bool])], []⟩), (.exit 2, ⟨0, [1], [(false, [.ptr 0 0])], [.cells 32 [.data (.slice (.prod .str (.int .i64))), .data (.slice (.prod (.int .i64) (.prod (.int .i64) (.prod (.int .i64) (.int .i64))))), .data (.slice zq1), .data (.slice (.prod (.int .i64) (.prod (.int .i64) (.int .i64))))]]⟩)]
@[reducible] def clock_Valid_p2_G (p : zqgo) {β : Type} (d : zqgp.den) (ks : Outs.K β zqgq) : Option β :=
  p (fun a0 => ks.1 (((a0, ()), ()), ())) (fun a0 a1 a2 a3 => ks.2.1 (((), ()), ((a0, a1, a2, a3, ()), ()))) d.1.2.1.1 d.1.2.2.1.1 d.1.2.2.2.1.1 d.2.1.1 d.2.1.2.1 d.2.1.2.2.1 d.2.1.2.2.2.1
abbrev zqgr (β : Type) := Bool → Option β
abbrev zqgs (β : Type) := (List (List UInt8 × Int)) → (List (Int × (Int × (Int × Int)))) → (List zq0) → (List (Int × (Int × Int))) → Option β
abbrev zqgt := {β : Type} → zqgr β → zqgs β → (List zq0) → Int → Int → (List (List UInt8 × Int)) → (List (Int × (Int × (Int × Int)))) → (List zq0) → (List (Int × (Int × Int))) → Option β
def zqgu : View := ⟨0, [1, 67, 68, 69], [(false, [.ptr 0 0]), (false, [.data (.slice zq1)]), (false, [.data (.int .i64)]), (false, [.data (.int .i64)])], [.cells 32 [.data (.slice (.prod .str (.int .i64))), .data (.slice (.prod (.int .i64) (.prod (.int .i64) (.prod (.int .i64) (.int .i64))))), .data (.slice zq1), .data (.slice (.prod (.int .i64) (.prod (.int .i64) (.int .i64))))]]⟩
def zqgv : List (AExit × View) := [(.ret, ⟨0, [2], [(false, [.data .bool])], []⟩), (.exit 4, ⟨0, [1], [(false, [.ptr 0 0])], [.cells 32 [.data (.slice (.prod .str (.int .i64))), .data (.slice (.prod (.int .i64) (.prod (.int .i64) (.prod (.int .i64) (.int .i64))))), .data (.slice zq1), .data (.slice (.prod (.int .i64) (.prod (.int .i64) (.int .i64))))]]⟩)]
@[reducible] def clock_Valid_p3_G (p : zqgt) {β : Type} (d : zqgu.den) (ks : Outs.K β zqgv) : Option β :=
  p (fun a0 => ks.1 (((a0, ()), ()), ())) (fun a0 a1 a2 a3 => ks.2.1 (((), ()), ((a0, a1, a2, a3, ()), ()))) d.1.2.1.1 d.1.2.2.1.1 d.1.2.2.2.1.1 d.2.1.1 d.2.1.2.1 d.2.1.2.2.1 d.2.1.2.2.2.1
abbrev zqgw (β : Type) := Bool → Option β
abbrev zqgx (β : Type) := Unit → Option β
abbrev zqgy := {β : Type} → zqgw β → zqgx β → (List (Int × (Int × Int))) → Int → Int → (List (List UInt8 × Int)) → (List (Int × (Int × (Int × Int)))) → (List zq0) → (List (Int × (Int × Int))) → Option β
def zqgz : View := ⟨0, [1, 89, 90, 91], [(false, [.ptr 0 0]), (false, [.data (.slice (.prod (.int .i64) (.prod (.int .i64) (.int .i64))))]), (false, [.data (.int .i64)]), (false, [.data (.int .i64)])], [.cells 32 [.data (.slice (.prod .str (.int .i64))), .data (.slice (.prod (.int .i64) (.prod (.int .i64) (.prod (.int .i64) (.int .i64))))), .data (.slice zq1), .data (.slice (.prod (.int .i64) (.prod (.int .i64) (.int .i64))))]]⟩
def zqh0 : List (AExit × View) := [(.ret, ⟨0, [2], [(false, [.data .bool])], []⟩), (.exit 6, ⟨0, [], [], []⟩)]
@[reducible] def clock_Valid_p4_G (p : zqgy) {β : Type} (d : zqgz.den) (ks : Outs.K β zqh0) : Option β :=
  p (fun a0 => ks.1 (((a0, ()), ()), ())) (fun _ => ks.2.1 ((), ())) d.1.2.1.1 d.1.2.2.1.1 d.1.2.2.2.1.1 d.2.1.1 d.2.1.2.1 d.2.1.2.2.1 d.2.1.2.2.2.1
section
variable (c_clock_compared : zqfj) (c_clock_in : zq3r) (c_clock_instant : zq3y)
@[reducible] def clock_Valid_X : Ctx := ⟨look tab, pick1 [(56, .spec (zqfk c_clock_compared)), (55, .spec (zq3s c_clock_in)), (57, .spec (zq3z c_clock_instant))], false, false, false, false⟩
def zqh1 {β : Type} (rec : (List (List UInt8 × Int)) → Int → Int → (List (List UInt8 × Int)) → (List (Int × (Int × (Int × Int)))) → (List zq0) → (List (Int × (Int × Int))) → Option β) (k1 : zqgh β) (k2 : zqgi β) (t34 : List (List UInt8 × Int)) (t35 : Int) (t36 : Int) (r_ : List (List UInt8 × Int)) (r_2 : List (Int × (Int × (Int × Int)))) (r_3 : List zq0) (r_4 : List (Int × (Int × Int))) : Option β :=
  cond (decide (t36 < t35))
  (cond (decide (0 ≤ t36) && decide (t36 < (List.length t34 : Int)))
  (let e : (List UInt8 × Int) := List.getD t34 (Int.toNat t36) (([] : List UInt8), (0 : Int));
  c_clock_in e.2 (0 : Int) (500000 : Int) (fun (rin : Bool) =>
  cond (!rin)
  (k1 false)
  (rec t34 t35 (IntKind.i64.wrap (t36 + (1 : Int))) r_ r_2 r_3 r_4)))
  none)
  (k2 r_ r_2 r_3 r_4)
def zqh2 {β : Type} : Nat → zqgh β → zqgi β → (List (List UInt8 × Int)) → Int → Int → (List (List UInt8 × Int)) → (List (Int × (Int × (Int × Int)))) → (List zq0) → (List (Int × (Int × Int))) → Option β
  | 0 => fun _ _ _ _ _ _ _ _ _ => none
  | i + 1 => fun k1 k2 t34 t35 t36 r_ r_2 r_3 r_4 => zqh1 c_clock_in (zqh2 i k1 k2) k1 k2 t34 t35 t36 r_ r_2 r_3 r_4
theorem zqh3 (hΓ : ΓOk Tryz.prog (clock_Valid_X c_clock_compared c_clock_in c_clock_instant).Γ) (i : Nat) : PieceOk Tryz.prog 127 0 clock_Valid_p1_code zqgk zqgl (clock_Valid_p1_G (zqh2 c_clock_in i)) := by
  rw [show clock_Valid_p1_code = .loop (loopBody clock_Valid_p1_code) by kernel_rfl]
  exact piece_loop (X := (clock_Valid_X c_clock_compared c_clock_in c_clock_instant)) (p := 1) (Λ := pick1 []) (G := fun i => @fun β d ks => clock_Valid_p1_G (zqh2 c_clock_in i) d ks) mixed tab_ok hΓ rfl (by kernel_rfl) CutsOk_nil (fun _ _ => rfl) (fun i => @fun β d ks r h => Eq.trans (b := clock_Valid_p1_G (zqh2 c_clock_in (i + 1)) d ks) (by kernel_rfl) h) i
def zqh4 {β : Type} (rec : (List (Int × (Int × (Int × Int)))) → Int → Int → (List (List UInt8 × Int)) → (List (Int × (Int × (Int × Int)))) → (List zq0) → (List (Int × (Int × Int))) → Option β) (k1 : zqgm β) (k2 : zqgn β) (t46 : List (Int × (Int × (Int × Int)))) (t47 : Int) (t48 : Int) (r_ : List (List UInt8 × Int)) (r_2 : List (Int × (Int × (Int × Int)))) (r_3 : List zq0) (r_4 : List (Int × (Int × Int))) : Option β :=
  cond (decide (t48 < t47))
  (cond (decide (0 ≤ t48) && decide (t48 < (List.length t46 : Int)))
  (let e : (Int × (Int × (Int × Int))) := List.getD t46 (Int.toNat t48) ((0 : Int), ((0 : Int), ((0 : Int), (0 : Int))));
  c_clock_in e.1 (0 : Int) (IntKind.i64.wrap ((List.length r_ : Int) - (1 : Int))) (fun (rin : Bool) =>
  cond (!rin)
  (k1 false)
  (c_clock_compared e (fun (rcompared : Bool) =>
  cond (!rcompared)
  (k1 false)
  (rec t46 t47 (IntKind.i64.wrap (t48 + (1 : Int))) r_ r_2 r_3 r_4)))))
  none)
  (k2 r_ r_2 r_3 r_4)
def zqh5 {β : Type} : Nat → zqgm β → zqgn β → (List (Int × (Int × (Int × Int)))) → Int → Int → (List (List UInt8 × Int)) → (List (Int × (Int × (Int × Int)))) → (List zq0) → (List (Int × (Int × Int))) → Option β
  | 0 => fun _ _ _ _ _ _ _ _ _ => none
  | i + 1 => fun k1 k2 t46 t47 t48 r_ r_2 r_3 r_4 => zqh4 c_clock_compared c_clock_in (zqh5 i k1 k2) k1 k2 t46 t47 t48 r_ r_2 r_3 r_4
theorem zqh6 (hΓ : ΓOk Tryz.prog (clock_Valid_X c_clock_compared c_clock_in c_clock_instant).Γ) (i : Nat) : PieceOk Tryz.prog 127 0 clock_Valid_p2_code zqgp zqgq (clock_Valid_p2_G (zqh5 c_clock_compared c_clock_in i)) := by
  rw [show clock_Valid_p2_code = .loop (loopBody clock_Valid_p2_code) by kernel_rfl]
  exact piece_loop (X := (clock_Valid_X c_clock_compared c_clock_in c_clock_instant)) (p := 1) (Λ := pick1 []) (G := fun i => @fun β d ks => clock_Valid_p2_G (zqh5 c_clock_compared c_clock_in i) d ks) mixed tab_ok hΓ rfl (by kernel_rfl) CutsOk_nil (fun _ _ => rfl) (fun i => @fun β d ks r h => Eq.trans (b := clock_Valid_p2_G (zqh5 c_clock_compared c_clock_in (i + 1)) d ks) (by kernel_rfl) h) i
def zqh7 {β : Type} (rec : (List zq0) → Int → Int → (List (List UInt8 × Int)) → (List (Int × (Int × (Int × Int)))) → (List zq0) → (List (Int × (Int × Int))) → Option β) (k1 : zqgr β) (k2 : zqgs β) (t67 : List zq0) (t68 : Int) (t69 : Int) (r_ : List (List UInt8 × Int)) (r_2 : List (Int × (Int × (Int × Int)))) (r_3 : List zq0) (r_4 : List (Int × (Int × Int))) : Option β :=
  cond (decide (t69 < t68))
  (cond (decide (0 ≤ t69) && decide (t69 < (List.length t67 : Int)))
  (let e : zq0 := List.getD t67 (Int.toNat t69) ((0 : Int), ((0 : Int), ([] : List UInt8)));
  c_clock_in e.1 (0 : Int) (IntKind.i64.wrap ((List.length r_ : Int) - (1 : Int))) (fun (rin : Bool) =>
  cond (!rin)
  (k1 false)
  (c_clock_instant e.2.1 (fun (rinstant : Bool) =>
  cond (!rinstant)
  (k1 false)
  (rec t67 t68 (IntKind.i64.wrap (t69 + (1 : Int))) r_ r_2 r_3 r_4)))))
  none)
  (k2 r_ r_2 r_3 r_4)
def zqh8 {β : Type} : Nat → zqgr β → zqgs β → (List zq0) → Int → Int → (List (List UInt8 × Int)) → (List (Int × (Int × (Int × Int)))) → (List zq0) → (List (Int × (Int × Int))) → Option β
  | 0 => fun _ _ _ _ _ _ _ _ _ => none
  | i + 1 => fun k1 k2 t67 t68 t69 r_ r_2 r_3 r_4 => zqh7 c_clock_in c_clock_instant (zqh8 i k1 k2) k1 k2 t67 t68 t69 r_ r_2 r_3 r_4
theorem zqh9 (hΓ : ΓOk Tryz.prog (clock_Valid_X c_clock_compared c_clock_in c_clock_instant).Γ) (i : Nat) : PieceOk Tryz.prog 127 0 clock_Valid_p3_code zqgu zqgv (clock_Valid_p3_G (zqh8 c_clock_in c_clock_instant i)) := by
  rw [show clock_Valid_p3_code = .loop (loopBody clock_Valid_p3_code) by kernel_rfl]
  exact piece_loop (X := (clock_Valid_X c_clock_compared c_clock_in c_clock_instant)) (p := 1) (Λ := pick1 []) (G := fun i => @fun β d ks => clock_Valid_p3_G (zqh8 c_clock_in c_clock_instant i) d ks) mixed tab_ok hΓ rfl (by kernel_rfl) CutsOk_nil (fun _ _ => rfl) (fun i => @fun β d ks r h => Eq.trans (b := clock_Valid_p3_G (zqh8 c_clock_in c_clock_instant (i + 1)) d ks) (by kernel_rfl) h) i
def zqha {β : Type} (rec : (List (Int × (Int × Int))) → Int → Int → (List (List UInt8 × Int)) → (List (Int × (Int × (Int × Int)))) → (List zq0) → (List (Int × (Int × Int))) → Option β) (k1 : zqgw β) (k2 : zqgx β) (t89 : List (Int × (Int × Int))) (t90 : Int) (t91 : Int) (r_ : List (List UInt8 × Int)) (r_2 : List (Int × (Int × (Int × Int)))) (r_3 : List zq0) (r_4 : List (Int × (Int × Int))) : Option β :=
  cond (decide (t91 < t90))
  (cond (decide (0 ≤ t91) && decide (t91 < (List.length t89 : Int)))
  (let e : (Int × (Int × Int)) := List.getD t89 (Int.toNat t91) ((0 : Int), ((0 : Int), (0 : Int)));
  c_clock_in e.1 (0 : Int) (IntKind.i64.wrap ((List.length r_3 : Int) - (1 : Int))) (fun (rin : Bool) =>
  cond (!rin)
  (k1 false)
  (c_clock_in e.2.1 (0 : Int) (IntKind.i64.wrap ((List.length r_3 : Int) - (1 : Int))) (fun (rin2 : Bool) =>
  cond (!rin2)
  (k1 false)
  (cond (decide (e.1 = e.2.1))
  (k1 false)
  (c_clock_instant e.2.2 (fun (rinstant : Bool) =>
  cond (!rinstant)
  (k1 false)
  (rec t89 t90 (IntKind.i64.wrap (t91 + (1 : Int))) r_ r_2 r_3 r_4))))))))
  none)
  (k2 ())
def zqhb {β : Type} : Nat → zqgw β → zqgx β → (List (Int × (Int × Int))) → Int → Int → (List (List UInt8 × Int)) → (List (Int × (Int × (Int × Int)))) → (List zq0) → (List (Int × (Int × Int))) → Option β
  | 0 => fun _ _ _ _ _ _ _ _ _ => none
  | i + 1 => fun k1 k2 t89 t90 t91 r_ r_2 r_3 r_4 => zqha c_clock_in c_clock_instant (zqhb i k1 k2) k1 k2 t89 t90 t91 r_ r_2 r_3 r_4
theorem zqhc (hΓ : ΓOk Tryz.prog (clock_Valid_X c_clock_compared c_clock_in c_clock_instant).Γ) (i : Nat) : PieceOk Tryz.prog 127 0 clock_Valid_p4_code zqgz zqh0 (clock_Valid_p4_G (zqhb c_clock_in c_clock_instant i)) := by
  rw [show clock_Valid_p4_code = .loop (loopBody clock_Valid_p4_code) by kernel_rfl]
  exact piece_loop (X := (clock_Valid_X c_clock_compared c_clock_in c_clock_instant)) (p := 1) (Λ := pick1 []) (G := fun i => @fun β d ks => clock_Valid_p4_G (zqhb c_clock_in c_clock_instant i) d ks) mixed tab_ok hΓ rfl (by kernel_rfl) CutsOk_nil (fun _ _ => rfl) (fun i => @fun β d ks r h => Eq.trans (b := clock_Valid_p4_G (zqhb c_clock_in c_clock_instant (i + 1)) d ks) (by kernel_rfl) h) i
def zqhd (p1 : zqgj) (p2 : zqgo) (p3 : zqgt) (p4 : zqgy) {β : Type} (r_ : zq2) (k : (Bool → Option β)) : Option β :=
  cond (decide ((8 : Int) < (List.length r_.1 : Int)))
  (k false)
  (cond (decide ((64 : Int) < (List.length r_.2.1 : Int)))
  (k false)
  (cond (decide ((40 : Int) < (List.length r_.2.2.1 : Int)))
  (k false)
  (cond (decide ((64 : Int) < (List.length r_.2.2.2 : Int)))
  (k false)
  (p1 (fun (t2 : Bool) =>
  k t2) (fun (r_2 : List (List UInt8 × Int)) (r_3 : List (Int × (Int × (Int × Int)))) (r_4 : List zq0) (r_5 : List (Int × (Int × Int))) =>
  p2 (fun (t2 : Bool) =>
  k t2) (fun (r_6 : List (List UInt8 × Int)) (r_7 : List (Int × (Int × (Int × Int)))) (r_8 : List zq0) (r_9 : List (Int × (Int × Int))) =>
  p3 (fun (t2 : Bool) =>
  k t2) (fun (r_10 : List (List UInt8 × Int)) (r_11 : List (Int × (Int × (Int × Int)))) (r_12 : List zq0) (r_13 : List (Int × (Int × Int))) =>
  p4 (fun (t2 : Bool) =>
  k t2) (fun (_ : Unit) =>
  k true) r_13 (List.length r_13 : Int) (0 : Int) r_10 r_11 r_12 r_13) r_8 (List.length r_8 : Int) (0 : Int) r_6 r_7 r_8 r_9) r_3 (List.length r_3 : Int) (0 : Int) r_2 r_3 r_4 r_5) r_.1 (List.length r_.1 : Int) (0 : Int) r_.1 r_.2.1 r_.2.2.1 r_.2.2.2))))
theorem zqhe (hΓ : ΓOk Tryz.prog (clock_Valid_X c_clock_compared c_clock_in c_clock_instant).Γ) (p1 : zqgj) (p2 : zqgo) (p3 : zqgt) (p4 : zqgy) (hp1 : PieceOk Tryz.prog 127 0 clock_Valid_p1_code zqgk zqgl (clock_Valid_p1_G p1)) (hp2 : PieceOk Tryz.prog 127 0 clock_Valid_p2_code zqgp zqgq (clock_Valid_p2_G p2)) (hp3 : PieceOk Tryz.prog 127 0 clock_Valid_p3_code zqgu zqgv (clock_Valid_p3_G p3)) (hp4 : PieceOk Tryz.prog 127 0 clock_Valid_p4_code zqgz zqh0 (clock_Valid_p4_G p4)) : SpecOk Tryz.prog 33 (zqgg (zqhd p1 p2 p3 p4)) :=
  spec_exec (X := (clock_Valid_X c_clock_compared c_clock_in c_clock_instant)) (Λ := pick1 [(58, pieceCut zqgk zqgl (clock_Valid_p1_G p1)), (122, pieceCut zqgp zqgq (clock_Valid_p2_G p2)), (250, pieceCut zqgu zqgv (clock_Valid_p3_G p3)), (506, pieceCut zqgz zqh0 (clock_Valid_p4_G p4))]) (rs := [.tmp 2]) (c := bodyOf Tryz.f33) mixed tab_ok hΓ Tryz.func33 (by kernel_rfl) (by kernel_rfl) (by kernel_rfl) (by kernel_rfl) (CutsOk_cons (q := 58) (c' := clock_Valid_p1_code) (by kernel_rfl) rfl hp1 (CutsOk_cons (q := 122) (c' := clock_Valid_p2_code) (by kernel_rfl) rfl hp2 (CutsOk_cons (q := 250) (c' := clock_Valid_p3_code) (by kernel_rfl) rfl hp3 (CutsOk_cons (q := 506) (c' := clock_Valid_p4_code) (by kernel_rfl) rfl hp4 CutsOk_nil)))) (fun x k r h => Eq.trans (b := (zqgg (zqhd p1 p2 p3 p4)).run x k) (by kernel_rfl) h)
end
theorem zqhfΓ : ΓOk Tryz.prog (pick1 [(56, .spec (zqfk zqfo)), (55, .spec (zq3s zq3w)), (57, .spec (zq3z zq43))]) := (ΓOk_cons zqfp (ΓOk_cons zq3x (ΓOk_cons zq44 ΓOk_nil)))
def zqhg (m : Nat) : zqgj := zqh2 zq3w m
theorem zqhh {β : Type} (i : Nat) (k1 k2 t34 t35 t36 r_ r_2 r_3 r_4) : (zqhg (i + 1) k1 k2 t34 t35 t36 r_ r_2 r_3 r_4 : Option β) = zqh1 zq3w (zqhg i k1 k2) k1 k2 t34 t35 t36 r_ r_2 r_3 r_4 := rfl
def zqhi : zqgj := zqhg fuel
theorem zqhj : PieceOk Tryz.prog 127 0 clock_Valid_p1_code zqgk zqgl (clock_Valid_p1_G zqhi) := zqh3 zqfo zq3w zq43 zqhfΓ fuel
def zqhk (m : Nat) : zqgo := zqh5 zqfo zq3w m
theorem zqhl {β : Type} (i : Nat) (k1 k2 t46 t47 t48 r_ r_2 r_3 r_4) : (zqhk (i + 1) k1 k2 t46 t47 t48 r_ r_2 r_3 r_4 : Option β) = zqh4 zqfo zq3w (zqhk i k1 k2) k1 k2 t46 t47 t48 r_ r_2 r_3 r_4 := rfl
def zqhm : zqgo := zqhk fuel
theorem zqhn : PieceOk Tryz.prog 127 0 clock_Valid_p2_code zqgp zqgq (clock_Valid_p2_G zqhm) := zqh6 zqfo zq3w zq43 zqhfΓ fuel
def zqho (m : Nat) : zqgt := zqh8 zq3w zq43 m
theorem zqhp {β : Type} (i : Nat) (k1 k2 t67 t68 t69 r_ r_2 r_3 r_4) : (zqho (i + 1) k1 k2 t67 t68 t69 r_ r_2 r_3 r_4 : Option β) = zqh7 zq3w zq43 (zqho i k1 k2) k1 k2 t67 t68 t69 r_ r_2 r_3 r_4 := rfl
def zqhq : zqgt := zqho fuel
theorem zqhr : PieceOk Tryz.prog 127 0 clock_Valid_p3_code zqgu zqgv (clock_Valid_p3_G zqhq) := zqh9 zqfo zq3w zq43 zqhfΓ fuel
def zqhs (m : Nat) : zqgy := zqhb zq3w zq43 m
theorem zqht {β : Type} (i : Nat) (k1 k2 t89 t90 t91 r_ r_2 r_3 r_4) : (zqhs (i + 1) k1 k2 t89 t90 t91 r_ r_2 r_3 r_4 : Option β) = zqha zq3w zq43 (zqhs i k1 k2) k1 k2 t89 t90 t91 r_ r_2 r_3 r_4 := rfl
def zqhu : zqgy := zqhs fuel
theorem zqhv : PieceOk Tryz.prog 127 0 clock_Valid_p4_code zqgz zqh0 (clock_Valid_p4_G zqhu) := zqhc zqfo zq3w zq43 zqhfΓ fuel
def zqhw : zqgf := zqhd zqhi zqhm zqhq zqhu
theorem zqhx : SpecOk Tryz.prog 33 (zqgg zqhw) := zqhe zqfo zq3w zq43 zqhfΓ zqhi zqhm zqhq zqhu zqhj zqhn zqhr zqhv

/-- pagewatch/pagewatchref40.Constraints -/
abbrev zqhy := {β : Type} → zq2 → (Bool → (List (Int × (Int × Int))) → Option β) → Option β
def zqhz (c : zqhy) : Spec :=
  ⟨[(true, [.data zq3])], [], [(false, [.rowh 0]), (false, [.data .bool])], [.row 122 (.prod (.int .i64) (.prod (.int .i64) (.int .i64)))], fun x k => c x.1.1.1 (fun r0 r1 => k (((), (r0, ()), ()), (r1, ())))⟩
noncomputable def ref40_Constraints_p1_code : Code := codeAt 122 (bodyOf Tryz.f36)
noncomputable def ref40_Constraints_p4_code : Code := codeAt 250 (bodyOf Tryz.f36)
noncomputable def ref40_Constraints_p5_code : Code := codeAt 506 (bodyOf Tryz.f36)
noncomputable def ref40_Constraints_p3_code : Code := codeAt 50 (loopBody ref40_Constraints_p4_code)
noncomputable def ref40_Constraints_p2_code : Code := codeAt 207 (loopBody ref40_Constraints_p3_code)
abbrev zqi0 (β : Type) := Bool → (List (Int × (Int × Int))) → Option β
abbrev zqi1 (β : Type) := (List (List UInt8 × Int)) → (List (Int × (Int × (Int × Int)))) → (List zq0) → (List (Int × (Int × Int))) → (List (Int × (Int × Int))) → Option β
abbrev zqi2 := {β : Type} → zqi0 β → zqi1 β → Int → (List (List UInt8 × Int)) → (List (Int × (Int × (Int × Int)))) → (List zq0) → (List (Int × (Int × Int))) → (List (Int × (Int × Int))) → Option β
def zqi3 : View := ⟨0, [1, 4, 5], [(false, [.ptr 0 0]), (false, [.rowh 1]), (false, [.data (.int .i64)])], [.cells 32 [.data (.slice (.prod .str (.int .i64))), .data (.slice (.prod (.int .i64) (.prod (.int .i64) (.prod (.int .i64) (.int .i64))))), .data (.slice zq1), .data (.slice (.prod (.int .i64) (.prod (.int .i64) (.int .i64))))], .row 122 (.prod (.int .i64) (.prod (.int .i64) (.int .i64)))]⟩
def zqi4 : List (AExit × View) := [(.ret, ⟨0, [2, 3], [(false, [.rowh 0]), (false, [.data .bool])], [.row 122 (.prod (.int .i64) (.prod (.int .i64) (.int .i64)))]⟩), (.exit 0, ⟨0, [1, 4], [(false, [.ptr 0 0]), (false, [.rowh 1])], [.cells 32 [.data (.slice (.prod .str (.int .i64))), .data (.slice (.prod (.int .i64) (.prod (.int .i64) (.prod (.int .i64) (.int .i64))))), .data (.slice zq1), .data (.slice (.prod (.int .i64) (.prod (.int .i64) (.int .i64))))], .row 122 (.prod (.int .i64) (.prod (.int .i64) (.int .i64)))]⟩)]
@[reducible] def ref40_Constraints_p1_G (p : zqi2) {β : Type} (d : zqi3.den) (ks : Outs.K β zqi4) : Option β :=
  p (fun a0 a1 => ks.1 (((), (a0, ()), ()), (a1, ()))) (fun a0 a1 a2 a3 a4 => ks.2.1 (((), (), ()), ((a0, a1, a2, a3, ()), a4, ()))) d.1.2.2.1.1 d.2.1.1 d.2.1.2.1 d.2.1.2.2.1 d.2.1.2.2.2.1 d.2.2.1
abbrev zqi5 (β : Type) := Int → Int → (List (List UInt8 × Int)) → (List (Int × (Int × (Int × Int)))) → (List zq0) → (List (Int × (Int × Int))) → (List (Int × (Int × Int))) → Option β
abbrev zqi6 := {β : Type} → zqi5 β → Int → Int → Int → Int → Int → (List (List UInt8 × Int)) → (List (Int × (Int × (Int × Int)))) → (List zq0) → (List (Int × (Int × Int))) → (List (Int × (Int × Int))) → Int → Int → (List UInt8) → Option β
def zqi7 : View := ⟨0, [1, 4, 8, 9, 10, 12, 13, 14], [(false, [.ptr 0 0]), (false, [.rowh 1]), (false, [.data (.int .i64)]), (false, [.data (.int .i64)]), (false, [.ptr 2 0]), (false, [.data (.int .i64)]), (false, [.data (.int .i64)]), (false, [.data (.int .i64)])], [.cells 32 [.data (.slice (.prod .str (.int .i64))), .data (.slice (.prod (.int .i64) (.prod (.int .i64) (.prod (.int .i64) (.int .i64))))), .data (.slice zq1), .data (.slice (.prod (.int .i64) (.prod (.int .i64) (.int .i64))))], .row 122 (.prod (.int .i64) (.prod (.int .i64) (.int .i64))), .cells 60 [.data (.int .i64), .data (.int .i64), .data .str]]⟩
def zqi8 : List (AExit × View) := [(.normal, ⟨0, [1, 4, 8, 9], [(false, [.ptr 0 0]), (false, [.rowh 1]), (false, [.data (.int .i64)]), (false, [.data (.int .i64)])], [.cells 32 [.data (.slice (.prod .str (.int .i64))), .data (.slice (.prod (.int .i64) (.prod (.int .i64) (.prod (.int .i64) (.int .i64))))), .data (.slice zq1), .data (.slice (.prod (.int .i64) (.prod (.int .i64) (.int .i64))))], .row 122 (.prod (.int .i64) (.prod (.int .i64) (.int .i64)))]⟩)]
@[reducible] def ref40_Constraints_p2_G (p : zqi6) {β : Type} (d : zqi7.den) (ks : Outs.K β zqi8) : Option β :=
  p (fun a0 a1 a2 a3 a4 a5 a6 => ks.1 (((), (), (a0, ()), (a1, ()), ()), ((a2, a3, a4, a5, ()), a6, ()))) d.1.2.2.1.1 d.1.2.2.2.1.1 d.1.2.2.2.2.2.1.1 d.1.2.2.2.2.2.2.1.1 d.1.2.2.2.2.2.2.2.1.1 d.2.1.1 d.2.1.2.1 d.2.1.2.2.1 d.2.1.2.2.2.1 d.2.2.1 d.2.2.2.1.1 d.2.2.2.1.2.1 d.2.2.2.1.2.2.1
abbrev zqi9 (β : Type) := Int → (List (List UInt8 × Int)) → (List (Int × (Int × (Int × Int)))) → (List zq0) → (List (Int × (Int × Int))) → (List (Int × (Int × Int))) → Option β
abbrev zqia := {β : Type} → zqi9 β → Int → Int → (List (List UInt8 × Int)) → (List (Int × (Int × (Int × Int)))) → (List zq0) → (List (Int × (Int × Int))) → (List (Int × (Int × Int))) → Option β
def zqib : View := ⟨0, [1, 4, 8, 9], [(false, [.ptr 0 0]), (false, [.rowh 1]), (false, [.data (.int .i64)]), (false, [.data (.int .i64)])], [.cells 32 [.data (.slice (.prod .str (.int .i64))), .data (.slice (.prod (.int .i64) (.prod (.int .i64) (.prod (.int .i64) (.int .i64))))), .data (.slice zq1), .data (.slice (.prod (.int .i64) (.prod (.int .i64) (.int .i64))))], .row 122 (.prod (.int .i64) (.prod (.int .i64) (.int .i64)))]⟩
def zqic : List (AExit × View) := [(.exit 4, ⟨0, [1, 4, 8], [(false, [.ptr 0 0]), (false, [.rowh 1]), (false, [.data (.int .i64)])], [.cells 32 [.data (.slice (.prod .str (.int .i64))), .data (.slice (.prod (.int .i64) (.prod (.int .i64) (.prod (.int .i64) (.int .i64))))), .data (.slice zq1), .data (.slice (.prod (.int .i64) (.prod (.int .i64) (.int .i64))))], .row 122 (.prod (.int .i64) (.prod (.int .i64) (.int .i64)))]⟩)]
@[reducible] def ref40_Constraints_p3_G (p : zqia) {β : Type} (d : zqib.den) (ks : Outs.K β zqic) : Option β :=
  p (fun a0 a1 a2 a3 a4 a5 => ks.1 (((), (), (a0, ()), ()), ((a1, a2, a3, a4, ()), a5, ()))) d.1.2.2.1.1 d.1.2.2.2.1.1 d.2.1.1 d.2.1.2.1 d.2.1.2.2.1 d.2.1.2.2.2.1 d.2.2.1
abbrev zqid (β : Type) := (List (List UInt8 × Int)) → (List (Int × (Int × (Int × Int)))) → (List zq0) → (List (Int × (Int × Int))) → (List (Int × (Int × Int))) → Option β
abbrev zqie := {β : Type} → zqid β → Int → (List (List UInt8 × Int)) → (List (Int × (Int × (Int × Int)))) → (List zq0) → (List (Int × (Int × Int))) → (List (Int × (Int × Int))) → Option β
def zqif : View := ⟨0, [1, 4, 8], [(false, [.ptr 0 0]), (false, [.rowh 1]), (false, [.data (.int .i64)])], [.cells 32 [.data (.slice (.prod .str (.int .i64))), .data (.slice (.prod (.int .i64) (.prod (.int .i64) (.prod (.int .i64) (.int .i64))))), .data (.slice zq1), .data (.slice (.prod (.int .i64) (.prod (.int .i64) (.int .i64))))], .row 122 (.prod (.int .i64) (.prod (.int .i64) (.int .i64)))]⟩
def zqig : List (AExit × View) := [(.exit 2, ⟨0, [1, 4], [(false, [.ptr 0 0]), (false, [.rowh 1])], [.cells 32 [.data (.slice (.prod .str (.int .i64))), .data (.slice (.prod (.int .i64) (.prod (.int .i64) (.prod (.int .i64) (.int .i64))))), .data (.slice zq1), .data (.slice (.prod (.int .i64) (.prod (.int .i64) (.int .i64))))], .row 122 (.prod (.int .i64) (.prod (.int .i64) (.int .i64)))]⟩)]
@[reducible] def ref40_Constraints_p4_G (p : zqie) {β : Type} (d : zqif.den) (ks : Outs.K β zqig) : Option β :=
  p (fun a0 a1 a2 a3 a4 => ks.1 (((), (), ()), ((a0, a1, a2, a3, ()), a4, ()))) d.1.2.2.1.1 d.2.1.1 d.2.1.2.1 d.2.1.2.2.1 d.2.1.2.2.2.1 d.2.2.1
abbrev zqih (β : Type) := (List (Int × (Int × Int))) → Option β
abbrev zqii := {β : Type} → zqih β → Int → (List (List UInt8 × Int)) → (List (Int × (Int × (Int × Int)))) → (List zq0) → (List (Int × (Int × Int))) → (List (Int × (Int × Int))) → Option β
def zqij : View := ⟨0, [1, 4, 17], [(false, [.ptr 0 0]), (false, [.rowh 1]), (false, [.data (.int .i64)])], [.cells 32 [.data (.slice (.prod .str (.int .i64))), .data (.slice (.prod (.int .i64) (.prod (.int .i64) (.prod (.int .i64) (.int .i64))))), .data (.slice zq1), .data (.slice (.prod (.int .i64) (.prod (.int .i64) (.int .i64))))], .row 122 (.prod (.int .i64) (.prod (.int .i64) (.int .i64)))]⟩
def zqik : List (AExit × View) := [(.exit 6, ⟨0, [4], [(false, [.rowh 0])], [.row 122 (.prod (.int .i64) (.prod (.int .i64) (.int .i64)))]⟩)]
@[reducible] def ref40_Constraints_p5_G (p : zqii) {β : Type} (d : zqij.den) (ks : Outs.K β zqik) : Option β :=
  p (fun a0 => ks.1 (((), ()), (a0, ()))) d.1.2.2.1.1 d.2.1.1 d.2.1.2.1 d.2.1.2.2.1 d.2.1.2.2.2.1 d.2.2.1
section
variable (c_ref38_Elapsed : zq64) (c_ref38_Valid : zq4l) (c_ref38_When : zqfq)
@[reducible] def ref40_Constraints_X : Ctx := ⟨look tab, pick1 [(64, .spec (zq65 c_ref38_Elapsed)), (62, .spec (zq4m c_ref38_Valid)), (63, .spec (zqfr c_ref38_When))], false, false, false, false⟩
def zqil {β : Type} (rec : Int → (List (List UInt8 × Int)) → (List (Int × (Int × (Int × Int)))) → (List zq0) → (List (Int × (Int × Int))) → (List (Int × (Int × Int))) → Option β) (k1 : zqi0 β) (k2 : zqi1 β) (i_ : Int) (r_ : List (List UInt8 × Int)) (r_2 : List (Int × (Int × (Int × Int)))) (r_3 : List zq0) (r_4 : List (Int × (Int × Int))) (out : List (Int × (Int × Int))) : Option β :=
  cond (decide (i_ < (List.length r_3 : Int)))
  (cond (decide (0 ≤ i_) && decide (i_ < (List.length r_3 : Int)))
  (let e : zq0 := List.getD r_3 (Int.toNat i_) ((0 : Int), ((0 : Int), ([] : List UInt8)));
  cond (decide (0 ≤ i_) && decide (i_ < (List.length r_3 : Int)))
  (let e2 : zq0 := List.getD r_3 (Int.toNat i_) ((0 : Int), ((0 : Int), ([] : List UInt8)));
  c_ref38_When (r_, (r_2, (r_3, r_4))) e.1 e2.2.1 (fun (rWhen : (Int × Int)) (rWhen2 : Bool) =>
  cond (!rWhen2)
  (k1 false ([] : List (Int × (Int × Int))))
  (let l : List (Int × (Int × Int)) := ([((0 : Int), ((IntKind.i64.wrap (i_ + (1 : Int))), rWhen.2)), ((IntKind.i64.wrap (i_ + (1 : Int))), ((0 : Int), (IntKind.i64.wrap (0 - rWhen.1))))] : List (Int × (Int × Int)));
  cond (decide ((List.length out + List.length l) * 24 ≤ roomMax))
  (let l2 : List (Int × (Int × Int)) := (out ++ l);
  let i_2 : Int := (IntKind.i64.wrap (i_ + (1 : Int)));
  rec i_2 r_ r_2 r_3 r_4 l2)
  none)))
  none)
  none)
  (k2 r_ r_2 r_3 r_4 out)
def zqim {β : Type} : Nat → zqi0 β → zqi1 β → Int → (List (List UInt8 × Int)) → (List (Int × (Int × (Int × Int)))) → (List zq0) → (List (Int × (Int × Int))) → (List (Int × (Int × Int))) → Option β
  | 0 => fun _ _ _ _ _ _ _ _ => none
  | i + 1 => fun k1 k2 i_ r_ r_2 r_3 r_4 out => zqil c_ref38_When (zqim i k1 k2) k1 k2 i_ r_ r_2 r_3 r_4 out
theorem zqin (hΓ : ΓOk Tryz.prog (ref40_Constraints_X c_ref38_Elapsed c_ref38_Valid c_ref38_When).Γ) (i : Nat) : PieceOk Tryz.prog 164 0 ref40_Constraints_p1_code zqi3 zqi4 (ref40_Constraints_p1_G (zqim c_ref38_When i)) := by
  rw [show ref40_Constraints_p1_code = .loop (loopBody ref40_Constraints_p1_code) by kernel_rfl]
  exact piece_loop (X := (ref40_Constraints_X c_ref38_Elapsed c_ref38_Valid c_ref38_When)) (p := 1) (Λ := pick1 []) (G := fun i => @fun β d ks => ref40_Constraints_p1_G (zqim c_ref38_When i) d ks) mixed tab_ok hΓ rfl (by kernel_rfl) CutsOk_nil (fun _ _ => rfl) (fun i => @fun β d ks r h => Eq.trans (b := ref40_Constraints_p1_G (zqim c_ref38_When (i + 1)) d ks) (by kernel_rfl) h) i
def zqio {β : Type} (k1 : zqi5 β) (i_ : Int) (j : Int) (a : Int) (b : Int) (d : Int) (r_ : List (List UInt8 × Int)) (r_2 : List (Int × (Int × (Int × Int)))) (r_3 : List zq0) (r_4 : List (Int × (Int × Int))) (out : List (Int × (Int × Int))) (x : Int) (x2 : Int) (x3 : List UInt8) : Option β :=
  cond (decide (0 ≤ x) && decide (x < (List.length r_ : Int)))
  (let e : (List UInt8 × Int) := List.getD r_ (Int.toNat x) (([] : List UInt8), (0 : Int));
  c_ref38_Elapsed e.2 d (fun (rElapsed : Int) (rElapsed2 : Int) =>
  let l : List (Int × (Int × Int)) := ([(a, (b, rElapsed2)), (b, (a, (IntKind.i64.wrap (0 - rElapsed))))] : List (Int × (Int × Int)));
  cond (decide ((List.length out + List.length l) * 24 ≤ roomMax))
  (let l2 : List (Int × (Int × Int)) := (out ++ l);
  k1 i_ j r_ r_2 r_3 r_4 l2)
  none))
  none
def zqip {β : Type} (k1 : zqi5 β) (i_ : Int) (j : Int) (a : Int) (b : Int) (d : Int) (r_ : List (List UInt8 × Int)) (r_2 : List (Int × (Int × (Int × Int)))) (r_3 : List zq0) (r_4 : List (Int × (Int × Int))) (out : List (Int × (Int × Int))) (x : Int) (x2 : Int) (x3 : List UInt8) : Option β := zqio c_ref38_Elapsed k1 i_ j a b d r_ r_2 r_3 r_4 out x x2 x3
theorem zqiq (hΓ : ΓOk Tryz.prog (ref40_Constraints_X c_ref38_Elapsed c_ref38_Valid c_ref38_When).Γ) : PieceOk Tryz.prog 164 0 ref40_Constraints_p2_code zqi7 zqi8 (ref40_Constraints_p2_G (zqip c_ref38_Elapsed)) :=
  piece_exec (X := (ref40_Constraints_X c_ref38_Elapsed c_ref38_Valid c_ref38_When)) (p := 207) (Λ := pick1 []) mixed tab_ok hΓ (by kernel_rfl) CutsOk_nil (fun d ks r h => Eq.trans (b := ref40_Constraints_p2_G (zqip c_ref38_Elapsed) d ks) (by kernel_rfl) h)
def zqir (p2 : zqi6) {β : Type} (rec : Int → Int → (List (List UInt8 × Int)) → (List (Int × (Int × (Int × Int)))) → (List zq0) → (List (Int × (Int × Int))) → (List (Int × (Int × Int))) → Option β) (k1 : zqi9 β) (i_ : Int) (j : Int) (r_ : List (List UInt8 × Int)) (r_2 : List (Int × (Int × (Int × Int)))) (r_3 : List zq0) (r_4 : List (Int × (Int × Int))) (out : List (Int × (Int × Int))) : Option β :=
  cond (decide (j < (List.length r_3 : Int)))
  (cond (decide (0 ≤ i_) && decide (i_ < (List.length r_3 : Int)))
  (let e : zq0 := List.getD r_3 (Int.toNat i_) ((0 : Int), ((0 : Int), ([] : List UInt8)));
  cond (decide (0 ≤ j) && decide (j < (List.length r_3 : Int)))
  (let e2 : zq0 := List.getD r_3 (Int.toNat j) ((0 : Int), ((0 : Int), ([] : List UInt8)));
  cond (!decide (e.1 = e2.1))
  (let j2 : Int := (IntKind.i64.wrap (j + (1 : Int)));
  rec i_ j2 r_ r_2 r_3 r_4 out)
  (let a : Int := (IntKind.i64.wrap (i_ + (1 : Int)));
  let b : Int := (IntKind.i64.wrap (j + (1 : Int)));
  let d : Int := (IntKind.i64.wrap (e2.2.1 - e.2.1));
  cond (decide (d < (0 : Int)))
  (let d2 : Int := (IntKind.i64.wrap (0 - d));
  p2 (fun (i_2 : Int) (j2 : Int) (r_5 : List (List UInt8 × Int)) (r_6 : List (Int × (Int × (Int × Int)))) (r_7 : List zq0) (r_8 : List (Int × (Int × Int))) (out2 : List (Int × (Int × Int))) =>
  let j3 : Int := (IntKind.i64.wrap (j2 + (1 : Int)));
  rec i_2 j3 r_5 r_6 r_7 r_8 out2) i_ j b a d2 r_ r_2 r_3 r_4 out e.1 e.2.1 e.2.2)
  (p2 (fun (i_2 : Int) (j2 : Int) (r_5 : List (List UInt8 × Int)) (r_6 : List (Int × (Int × (Int × Int)))) (r_7 : List zq0) (r_8 : List (Int × (Int × Int))) (out2 : List (Int × (Int × Int))) =>
  let j3 : Int := (IntKind.i64.wrap (j2 + (1 : Int)));
  rec i_2 j3 r_5 r_6 r_7 r_8 out2) i_ j a b d r_ r_2 r_3 r_4 out e.1 e.2.1 e.2.2)))
  none)
  none)
  (k1 i_ r_ r_2 r_3 r_4 out)
def zqis (p2 : zqi6) {β : Type} : Nat → zqi9 β → Int → Int → (List (List UInt8 × Int)) → (List (Int × (Int × (Int × Int)))) → (List zq0) → (List (Int × (Int × Int))) → (List (Int × (Int × Int))) → Option β
  | 0 => fun _ _ _ _ _ _ _ _ => none
  | i + 1 => fun k1 i_ j r_ r_2 r_3 r_4 out => zqir p2 (zqis p2 i k1) k1 i_ j r_ r_2 r_3 r_4 out
theorem zqit (hΓ : ΓOk Tryz.prog (ref40_Constraints_X c_ref38_Elapsed c_ref38_Valid c_ref38_When).Γ) (p2 : zqi6) (hp2 : PieceOk Tryz.prog 164 0 ref40_Constraints_p2_code zqi7 zqi8 (ref40_Constraints_p2_G p2)) (i : Nat) : PieceOk Tryz.prog 164 0 ref40_Constraints_p3_code zqib zqic (ref40_Constraints_p3_G (zqis p2 i)) := by
  rw [show ref40_Constraints_p3_code = .loop (loopBody ref40_Constraints_p3_code) by kernel_rfl]
  exact piece_loop (X := (ref40_Constraints_X c_ref38_Elapsed c_ref38_Valid c_ref38_When)) (p := 1) (Λ := pick1 [(207, pieceCut zqi7 zqi8 (ref40_Constraints_p2_G p2))]) (G := fun i => @fun β d ks => ref40_Constraints_p3_G (zqis p2 i) d ks) mixed tab_ok hΓ rfl (by kernel_rfl) (CutsOk_cons (q := 207) (c' := ref40_Constraints_p2_code) (by kernel_rfl) rfl hp2 CutsOk_nil) (fun _ _ => rfl) (fun i => @fun β d ks r h => Eq.trans (b := ref40_Constraints_p3_G (zqis p2 (i + 1)) d ks) (by kernel_rfl) h) i
def zqiu (p3 : zqia) {β : Type} (rec : Int → (List (List UInt8 × Int)) → (List (Int × (Int × (Int × Int)))) → (List zq0) → (List (Int × (Int × Int))) → (List (Int × (Int × Int))) → Option β) (k1 : zqid β) (i_ : Int) (r_ : List (List UInt8 × Int)) (r_2 : List (Int × (Int × (Int × Int)))) (r_3 : List zq0) (r_4 : List (Int × (Int × Int))) (out : List (Int × (Int × Int))) : Option β :=
  cond (decide (i_ < (List.length r_3 : Int)))
  (let j : Int := (IntKind.i64.wrap (i_ + (1 : Int)));
  p3 (fun (i_2 : Int) (r_5 : List (List UInt8 × Int)) (r_6 : List (Int × (Int × (Int × Int)))) (r_7 : List zq0) (r_8 : List (Int × (Int × Int))) (out2 : List (Int × (Int × Int))) =>
  let i_3 : Int := (IntKind.i64.wrap (i_2 + (1 : Int)));
  rec i_3 r_5 r_6 r_7 r_8 out2) i_ j r_ r_2 r_3 r_4 out)
  (k1 r_ r_2 r_3 r_4 out)
def zqiv (p3 : zqia) {β : Type} : Nat → zqid β → Int → (List (List UInt8 × Int)) → (List (Int × (Int × (Int × Int)))) → (List zq0) → (List (Int × (Int × Int))) → (List (Int × (Int × Int))) → Option β
  | 0 => fun _ _ _ _ _ _ _ => none
  | i + 1 => fun k1 i_ r_ r_2 r_3 r_4 out => zqiu p3 (zqiv p3 i k1) k1 i_ r_ r_2 r_3 r_4 out
theorem zqiw (hΓ : ΓOk Tryz.prog (ref40_Constraints_X c_ref38_Elapsed c_ref38_Valid c_ref38_When).Γ) (p3 : zqia) (hp3 : PieceOk Tryz.prog 164 0 ref40_Constraints_p3_code zqib zqic (ref40_Constraints_p3_G p3)) (i : Nat) : PieceOk Tryz.prog 164 0 ref40_Constraints_p4_code zqif zqig (ref40_Constraints_p4_G (zqiv p3 i)) := by
  rw [show ref40_Constraints_p4_code = .loop (loopBody ref40_Constraints_p4_code) by kernel_rfl]
  exact piece_loop (X := (ref40_Constraints_X c_ref38_Elapsed c_ref38_Valid c_ref38_When)) (p := 1) (Λ := pick1 [(50, pieceCut zqib zqic (ref40_Constraints_p3_G p3))]) (G := fun i => @fun β d ks => ref40_Constraints_p4_G (zqiv p3 i) d ks) mixed tab_ok hΓ rfl (by kernel_rfl) (CutsOk_cons (q := 50) (c' := ref40_Constraints_p3_code) (by kernel_rfl) rfl hp3 CutsOk_nil) (fun _ _ => rfl) (fun i => @fun β d ks r h => Eq.trans (b := ref40_Constraints_p4_G (zqiv p3 (i + 1)) d ks) (by kernel_rfl) h) i
def zqix {β : Type} (rec : Int → (List (List UInt8 × Int)) → (List (Int × (Int × (Int × Int)))) → (List zq0) → (List (Int × (Int × Int))) → (List (Int × (Int × Int))) → Option β) (k1 : zqih β) (i_ : Int) (r_ : List (List UInt8 × Int)) (r_2 : List (Int × (Int × (Int × Int)))) (r_3 : List zq0) (r_4 : List (Int × (Int × Int))) (out : List (Int × (Int × Int))) : Option β :=
  cond (decide (i_ < (List.length r_4 : Int)))
  (cond (decide (0 ≤ i_) && decide (i_ < (List.length r_4 : Int)))
  (let e : (Int × (Int × Int)) := List.getD r_4 (Int.toNat i_) ((0 : Int), ((0 : Int), (0 : Int)));
  cond (decide (0 ≤ i_) && decide (i_ < (List.length r_4 : Int)))
  (let e2 : (Int × (Int × Int)) := List.getD r_4 (Int.toNat i_) ((0 : Int), ((0 : Int), (0 : Int)));
  cond (decide (0 ≤ i_) && decide (i_ < (List.length r_4 : Int)))
  (let e3 : (Int × (Int × Int)) := List.getD r_4 (Int.toNat i_) ((0 : Int), ((0 : Int), (0 : Int)));
  let l : List (Int × (Int × Int)) := ([((IntKind.i64.wrap (e.2.1 + (1 : Int))), ((IntKind.i64.wrap (e2.1 + (1 : Int))), (IntKind.i64.wrap (0 - e3.2.2))))] : List (Int × (Int × Int)));
  cond (decide ((List.length out + List.length l) * 24 ≤ roomMax))
  (let l2 : List (Int × (Int × Int)) := (out ++ l);
  let i_2 : Int := (IntKind.i64.wrap (i_ + (1 : Int)));
  rec i_2 r_ r_2 r_3 r_4 l2)
  none)
  none)
  none)
  none)
  (k1 out)
def zqiy {β : Type} : Nat → zqih β → Int → (List (List UInt8 × Int)) → (List (Int × (Int × (Int × Int)))) → (List zq0) → (List (Int × (Int × Int))) → (List (Int × (Int × Int))) → Option β
  | 0 => fun _ _ _ _ _ _ _ => none
  | i + 1 => fun k1 i_ r_ r_2 r_3 r_4 out => zqix (zqiy i k1) k1 i_ r_ r_2 r_3 r_4 out
theorem zqiz (hΓ : ΓOk Tryz.prog (ref40_Constraints_X c_ref38_Elapsed c_ref38_Valid c_ref38_When).Γ) (i : Nat) : PieceOk Tryz.prog 164 0 ref40_Constraints_p5_code zqij zqik (ref40_Constraints_p5_G (zqiy i)) := by
  rw [show ref40_Constraints_p5_code = .loop (loopBody ref40_Constraints_p5_code) by kernel_rfl]
  exact piece_loop (X := (ref40_Constraints_X c_ref38_Elapsed c_ref38_Valid c_ref38_When)) (p := 1) (Λ := pick1 []) (G := fun i => @fun β d ks => ref40_Constraints_p5_G (zqiy i) d ks) mixed tab_ok hΓ rfl (by kernel_rfl) CutsOk_nil (fun _ _ => rfl) (fun i => @fun β d ks r h => Eq.trans (b := ref40_Constraints_p5_G (zqiy (i + 1)) d ks) (by kernel_rfl) h) i
def zqj0 (p1 : zqi2) (p4 : zqie) (p5 : zqii) {β : Type} (r_ : zq2) (k : (Bool → (List (Int × (Int × Int))) → Option β)) : Option β :=
  c_ref38_Valid r_ (fun (rValid : Bool) =>
  cond (!rValid)
  (k false ([] : List (Int × (Int × Int))))
  (p1 (fun (t3 : Bool) (t2 : List (Int × (Int × Int))) =>
  k t3 t2) (fun (r_2 : List (List UInt8 × Int)) (r_3 : List (Int × (Int × (Int × Int)))) (r_4 : List zq0) (r_5 : List (Int × (Int × Int))) (out : List (Int × (Int × Int))) =>
  p4 (fun (r_6 : List (List UInt8 × Int)) (r_7 : List (Int × (Int × (Int × Int)))) (r_8 : List zq0) (r_9 : List (Int × (Int × Int))) (out2 : List (Int × (Int × Int))) =>
  p5 (fun (out3 : List (Int × (Int × Int))) =>
  k true out3) (0 : Int) r_6 r_7 r_8 r_9 out2) (0 : Int) r_2 r_3 r_4 r_5 out) (0 : Int) r_.1 r_.2.1 r_.2.2.1 r_.2.2.2 ([] : List (Int × (Int × Int)))))
theorem zqj1 (hΓ : ΓOk Tryz.prog (ref40_Constraints_X c_ref38_Elapsed c_ref38_Valid c_ref38_When).Γ) (p1 : zqi2) (p4 : zqie) (p5 : zqii) (hp1 : PieceOk Tryz.prog 164 0 ref40_Constraints_p1_code zqi3 zqi4 (ref40_Constraints_p1_G p1)) (hp4 : PieceOk Tryz.prog 164 0 ref40_Constraints_p4_code zqif zqig (ref40_Constraints_p4_G p4)) (hp5 : PieceOk Tryz.prog 164 0 ref40_Constraints_p5_code zqij zqik (ref40_Constraints_p5_G p5)) : SpecOk Tryz.prog 36 (zqhz (zqj0 c_ref38_Valid p1 p4 p5)) :=
  spec_exec (X := (ref40_Constraints_X c_ref38_Elapsed c_ref38_Valid c_ref38_When)) (Λ := pick1 [(122, pieceCut zqi3 zqi4 (ref40_Constraints_p1_G p1)), (250, pieceCut zqif zqig (ref40_Constraints_p4_G p4)), (506, pieceCut zqij zqik (ref40_Constraints_p5_G p5))]) (rs := [.tmp 2, .tmp 3]) (c := bodyOf Tryz.f36) mixed tab_ok hΓ Tryz.func36 (by kernel_rfl) (by kernel_rfl) (by kernel_rfl) (by kernel_rfl) (CutsOk_cons (q := 122) (c' := ref40_Constraints_p1_code) (by kernel_rfl) rfl hp1 (CutsOk_cons (q := 250) (c' := ref40_Constraints_p4_code) (by kernel_rfl) rfl hp4 (CutsOk_cons (q := 506) (c' := ref40_Constraints_p5_code) (by kernel_rfl) rfl hp5 CutsOk_nil))) (fun x k r h => Eq.trans (b := (zqhz (zqj0 c_ref38_Valid p1 p4 p5)).run x k) (by kernel_rfl) h)
end
theorem zqj2Γ : ΓOk Tryz.prog (pick1 [(64, .spec (zq65 zq69)), (62, .spec (zq4m zq62)), (63, .spec (zqfr zqg6))]) := (ΓOk_cons zq6a (ΓOk_cons zq63 (ΓOk_cons zqg7 ΓOk_nil)))
def zqj3 (m : Nat) : zqi2 := zqim zqg6 m
theorem zqj4 {β : Type} (i : Nat) (k1 k2 i_ r_ r_2 r_3 r_4 out) : (zqj3 (i + 1) k1 k2 i_ r_ r_2 r_3 r_4 out : Option β) = zqil zqg6 (zqj3 i k1 k2) k1 k2 i_ r_ r_2 r_3 r_4 out := rfl
def zqj5 : zqi2 := zqj3 fuel
theorem zqj6 : PieceOk Tryz.prog 164 0 ref40_Constraints_p1_code zqi3 zqi4 (ref40_Constraints_p1_G zqj5) := zqin zq69 zq62 zqg6 zqj2Γ fuel
def zqj7 : zqi6 := zqip zq69
theorem zqj8 : PieceOk Tryz.prog 164 0 ref40_Constraints_p2_code zqi7 zqi8 (ref40_Constraints_p2_G zqj7) := zqiq zq69 zq62 zqg6 zqj2Γ
def zqj9 (m : Nat) : zqia := zqis zqj7 m
theorem zqja {β : Type} (i : Nat) (k1 i_ j r_ r_2 r_3 r_4 out) : (zqj9 (i + 1) k1 i_ j r_ r_2 r_3 r_4 out : Option β) = zqir zqj7 (zqj9 i k1) k1 i_ j r_ r_2 r_3 r_4 out := rfl
def zqjb : zqia := zqj9 fuel
theorem zqjc : PieceOk Tryz.prog 164 0 ref40_Constraints_p3_code zqib zqic (ref40_Constraints_p3_G zqjb) := zqit zq69 zq62 zqg6 zqj2Γ zqj7 zqj8 fuel
def zqjd (m : Nat) : zqie := zqiv zqjb m
theorem zqje {β : Type} (i : Nat) (k1 i_ r_ r_2 r_3 r_4 out) : (zqjd (i + 1) k1 i_ r_ r_2 r_3 r_4 out : Option β) = zqiu zqjb (zqjd i k1) k1 i_ r_ r_2 r_3 r_4 out := rfl
def zqjf : zqie := zqjd fuel
theorem zqjg : PieceOk Tryz.prog 164 0 ref40_Constraints_p4_code zqif zqig (ref40_Constraints_p4_G zqjf) := zqiw zq69 zq62 zqg6 zqj2Γ zqjb zqjc fuel
def zqjh (m : Nat) : zqii := zqiy m
theorem zqji {β : Type} (i : Nat) (k1 i_ r_ r_2 r_3 r_4 out) : (zqjh (i + 1) k1 i_ r_ r_2 r_3 r_4 out : Option β) = zqix (zqjh i k1) k1 i_ r_ r_2 r_3 r_4 out := rfl
def zqjj : zqii := zqjh fuel
theorem zqjk : PieceOk Tryz.prog 164 0 ref40_Constraints_p5_code zqij zqik (ref40_Constraints_p5_G zqjj) := zqiz zq69 zq62 zqg6 zqj2Γ fuel
def zqjl : zqhy := zqj0 zq62 zqj5 zqjf zqjj
theorem zqjm : SpecOk Tryz.prog 36 (zqhz zqjl) := zqj1 zq69 zq62 zqg6 zqj2Γ zqj5 zqjf zqjj zqj6 zqjg zqjk
end
end Go.Lift
