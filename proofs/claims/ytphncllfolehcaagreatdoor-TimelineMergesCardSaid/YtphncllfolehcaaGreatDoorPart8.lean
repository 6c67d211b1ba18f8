/- Part8: Fn0. -/
import Derived.Test.YtphncllfolehcaaGreatDoorProg
import Derived.Test.YtphncllfolehcaaGreatDoorPart7
namespace Go.Lift
open Go.Proofs
noncomputable section
set_option maxRecDepth 100000
set_option linter.unusedVariables false

abbrev zq0 := (Int × (Int × List UInt8))
abbrev zq1 : Ty := (.prod (.int .i64) (.prod (.int .i64) .str))
abbrev zq2 := (List (List UInt8 × Int) × (List (Int × (Int × (Int × Int))) × (List zq0 × List (Int × (Int × Int)))))
abbrev zq3 : Ty := (.prod (.slice (.prod .str (.int .i64))) (.prod (.slice (.prod (.int .i64) (.prod (.int .i64) (.prod (.int .i64) (.int .i64))))) (.prod (.slice zq1) (.slice (.prod (.int .i64) (.prod (.int .i64) (.int .i64)))))))
abbrev api_Row := (Int × ((Int × Int) × List Int))
abbrev zq4 : Ty := (.prod (.int .i64) (.prod (.prod (.int .i64) (.int .i64)) (.slice (.int .i64))))

def tab : List (Nat × TI) := [
  (3, ⟨false, 1, 8, [.int .i64 (0 : Int)], [], none, none, (some (.int .i64)), (some .i64), false, false, none, none⟩),
  (4, ⟨false, 1, 1, [.bool false], [], none, none, (some .bool), none, true, false, none, none⟩),
  (5, ⟨false, 1, 1, [.int .u8 (0 : Int)], [], none, none, (some (.int .u8)), (some .u8), false, false, none, none⟩),
  (9, ⟨false, 1, 16, [.str ([] : List UInt8)], [], none, none, (some .str), none, false, true, none, none⟩),
  (22, ⟨false, 1, 24, [.nils], [], (some 3), none, (some (.slice (.int .i64))), none, false, false, none, none⟩),
  (27, ⟨false, 1, 24, [.nils], [], (some 62), none, (some (.slice (.prod .str (.int .i64)))), none, false, false, none, none⟩),
  (28, ⟨false, 1, 24, [.nils], [], (some 64), none, (some (.slice (.prod (.int .i64) (.prod (.int .i64) (.prod (.int .i64) (.int .i64)))))), none, false, false, none, none⟩),
  (29, ⟨false, 1, 24, [.nils], [], (some 60), none, (some (.slice zq1)), none, false, false, none, none⟩),
  (30, ⟨false, 1, 24, [.nils], [], (some 73), none, (some (.slice (.prod (.int .i64) (.prod (.int .i64) (.int .i64))))), none, false, false, none, none⟩),
  (32, ⟨true, 4, 96, [.nils, .nils, .nils, .nils], [(0, 1, false), (1, 1, false), (2, 1, false), (3, 1, false)], none, none, (some zq3), none, false, false, none, none⟩),
  (35, ⟨false, 1, 24, [.nils], [], (some 42), none, (some (.slice zq4)), none, false, false, none, none⟩),
  (40, ⟨true, 2, 16, [.int .i64 (0 : Int), .int .i64 (0 : Int)], [(0, 1, false), (1, 1, false)], none, none, (some (.prod (.int .i64) (.int .i64))), none, false, false, (some [.i, .i]), none⟩),
  (42, ⟨true, 4, 48, [.int .i64 (0 : Int), .int .i64 (0 : Int), .int .i64 (0 : Int), .nils], [(0, 1, false), (1, 2, true), (3, 1, false)], none, none, (some zq4), none, false, false, none, none⟩),
  (50, ⟨false, 1, 24, [.nils], [], (some 40), none, (some (.slice (.prod (.int .i64) (.int .i64)))), none, false, false, none, none⟩),
  (56, ⟨false, 1, 24, [.nils], [], (some 58), none, (some (.slice (.prod (.int .i64) (.int .i64)))), none, false, false, none, none⟩),
  (58, ⟨true, 2, 16, [.int .i64 (0 : Int), .int .i64 (0 : Int)], [], (some 3), (some 2), (some (.prod (.int .i64) (.int .i64))), none, false, false, (some [.i, .i]), none⟩),
  (60, ⟨true, 3, 32, [.int .i64 (0 : Int), .int .i64 (0 : Int), .str ([] : List UInt8)], [(0, 1, false), (1, 1, false), (2, 1, false)], none, none, (some zq1), none, false, false, (some [.i, .i, .s]), none⟩),
  (62, ⟨true, 2, 24, [.str ([] : List UInt8), .int .i64 (0 : Int)], [(0, 1, false), (1, 1, false)], none, none, (some (.prod .str (.int .i64))), none, false, false, (some [.s, .i]), none⟩),
  (64, ⟨true, 4, 32, [.int .i64 (0 : Int), .int .i64 (0 : Int), .int .i64 (0 : Int), .int .i64 (0 : Int)], [(0, 1, false), (1, 1, false), (2, 1, false), (3, 1, false)], none, none, (some (.prod (.int .i64) (.prod (.int .i64) (.prod (.int .i64) (.int .i64))))), none, false, false, (some [.i, .i, .i, .i]), none⟩),
  (68, ⟨true, 2, 32, [.nils, .int .i64 (0 : Int)], [(0, 1, false), (1, 1, false)], none, none, (some (.prod (.slice (.int .i64)) (.int .i64))), none, false, false, none, none⟩),
  (70, ⟨false, 1, 24, [.nils], [], (some 9), none, (some (.slice .str)), none, false, false, none, none⟩),
  (73, ⟨true, 3, 24, [.int .i64 (0 : Int), .int .i64 (0 : Int), .int .i64 (0 : Int)], [(0, 1, false), (1, 1, false), (2, 1, false)], none, none, (some (.prod (.int .i64) (.prod (.int .i64) (.int .i64)))), none, false, false, (some [.i, .i, .i]), none⟩),
  (80, ⟨false, 1, 24, [.nils], [], (some 22), none, (some (.slice (.slice (.int .i64)))), none, false, false, none, none⟩),
  (87, ⟨false, 1, 24, [.nils], [], (some 122), none, (some (.slice (.prod (.int .i64) (.prod (.int .i64) (.int .i64))))), none, false, false, none, none⟩),
  (95, ⟨true, 2, 32, [.nilp, .nils], [(0, 1, false), (1, 1, false)], none, none, none, none, false, false, none, none⟩),
  (104, ⟨false, 1, 24, [.nils], [], (some 22), none, (some (.slice (.slice (.int .i64)))), none, false, false, none, none⟩),
  (107, ⟨false, 1, 8, [.junk], [], none, none, none, none, false, false, none, (some (3, 4))⟩),
  (109, ⟨false, 1, 8, [.junk], [], none, none, none, none, false, false, none, (some (58, 4))⟩),
  (122, ⟨true, 3, 24, [.int .i64 (0 : Int), .int .i64 (0 : Int), .int .i64 (0 : Int)], [(0, 1, false), (1, 1, false), (2, 1, false)], none, none, (some (.prod (.int .i64) (.prod (.int .i64) (.int .i64)))), none, false, false, (some [.i, .i, .i]), none⟩)]

theorem tab_ok : TOk Tryz.prog (look tab) := TOk_of (by kernel_rfl)
theorem mixed : Tryz.prog.follows .mixedOrders = true := by kernel_rfl

/-- pagewatch/pagewatchmade.Light -/
abbrev zq5 := {β : Type} → (List Int) → (Bool → Option β) → Option β
def zq6 (c : zq5) : Spec :=
  ⟨[(false, [.data (.slice (.int .i64))])], [], [(false, [.data .bool])], [], fun x k => c x.1.1.1 (fun r0 => k (((r0, ()), ()), ()))⟩
section
@[reducible] def made_Light_X : Ctx := ⟨look tab, pick1 [], false, false, false, false⟩
def zq7 {β : Type} (l : List Int) (k : (Bool → Option β)) : Option β :=
  let t : Bool := (decide ((List.length l : Int) ≤ (500 : Int)));
  k t
theorem zq8 (hΓ : ΓOk Tryz.prog made_Light_X.Γ) : SpecOk Tryz.prog 6 (zq6 (zq7)) :=
  spec_exec (X := made_Light_X) (Λ := pick1 []) (rs := [.tmp 2]) (c := bodyOf Tryz.f6) mixed tab_ok hΓ Tryz.func6 (by kernel_rfl) (by kernel_rfl) (by kernel_rfl) (by kernel_rfl) CutsOk_nil (fun x k r h => Eq.trans (b := (zq6 (zq7)).run x k) (by kernel_rfl) h)
end
theorem zq9Γ : ΓOk Tryz.prog (pick1 []) := ΓOk_nil
def zqa : zq5 := zq7
theorem zqb : SpecOk Tryz.prog 6 (zq6 zqa) := zq8 zq9Γ

/-- pagewatch/pagewatchmade.Roll -/
abbrev zqc := {β : Type} → (List Int) → ((List Int × Int) → Option β) → Option β
def zqd (c : zqc) : Spec :=
  ⟨[(false, [.data (.slice (.int .i64))])], [], [(false, [.ptr 0 0])], [.cells 68 [.data (.prod (.slice (.int .i64)) (.int .i64))]], fun x k => c x.1.1.1 (fun r0 => k (((), ()), ((r0, ()), ())))⟩
section
@[reducible] def made_Roll_X : Ctx := ⟨look tab, pick1 [], false, false, false, false⟩
def zqe {β : Type} (l : List Int) (k : ((List Int × Int) → Option β)) : Option β :=
  k (l, (0 : Int))
theorem zqf (hΓ : ΓOk Tryz.prog made_Roll_X.Γ) : SpecOk Tryz.prog 8 (zqd (zqe)) :=
  spec_exec (X := made_Roll_X) (Λ := pick1 []) (rs := [.tmp 2]) (c := bodyOf Tryz.f8) mixed tab_ok hΓ Tryz.func8 (by kernel_rfl) (by kernel_rfl) (by kernel_rfl) (by kernel_rfl) CutsOk_nil (fun x k r h => Eq.trans (b := (zqd (zqe)).run x k) (by kernel_rfl) h)
end
theorem zqgΓ : ΓOk Tryz.prog (pick1 []) := ΓOk_nil
def zqh : zqc := zqe
theorem zqi : SpecOk Tryz.prog 8 (zqd zqh) := zqf zqgΓ

/-- pagewatch/pagewatchref40.SameRanges -/
abbrev zqj := {β : Type} → (List (Int × Int)) → (List (Int × Int)) → (Bool → Option β) → Option β
def zqk (c : zqj) : Spec :=
  ⟨[(false, [.data (.slice (.prod (.int .i64) (.int .i64)))]), (false, [.data (.slice (.prod (.int .i64) (.int .i64)))])], [], [(false, [.data .bool])], [], fun x k => c x.1.1.1 x.1.2.1.1 (fun r0 => k (((r0, ()), ()), ()))⟩
noncomputable def ref40_SameRanges_p1_code : Code := codeAt 58 (bodyOf Tryz.f17)
abbrev zql (β : Type) := Bool → Option β
abbrev zqm (β : Type) := Unit → Option β
abbrev zqn := {β : Type} → zql β → zqm β → (List (Int × Int)) → (List (Int × Int)) → Int → Option β
def zqo : View := ⟨0, [0, 1, 5], [(false, [.data (.slice (.prod (.int .i64) (.int .i64)))]), (false, [.data (.slice (.prod (.int .i64) (.int .i64)))]), (false, [.data (.int .i64)])], []⟩
def zqp : List (AExit × View) := [(.ret, ⟨0, [4], [(false, [.data .bool])], []⟩), (.exit 0, ⟨0, [], [], []⟩)]
@[reducible] def ref40_SameRanges_p1_G (p : zqn) {β : Type} (d : zqo.den) (ks : Outs.K β zqp) : Option β :=
  p (fun a0 => ks.1 (((a0, ()), ()), ())) (fun _ => ks.2.1 ((), ())) d.1.1.1 d.1.2.1.1 d.1.2.2.1.1
section
@[reducible] def ref40_SameRanges_X : Ctx := ⟨look tab, pick1 [], false, false, false, false⟩
def zqq {β : Type} (rec : (List (Int × Int)) → (List (Int × Int)) → Int → Option β) (k1 : zql β) (k2 : zqm β) (a : List (Int × Int)) (b : List (Int × Int)) (i_ : Int) : Option β :=
  cond (decide (i_ < (List.length a : Int)))
  (cond (decide (0 ≤ i_) && decide (i_ < (List.length a : Int)))
  (let e : (Int × Int) := List.getD a (Int.toNat i_) ((0 : Int), (0 : Int));
  cond (decide (0 ≤ i_) && decide (i_ < (List.length b : Int)))
  (let e2 : (Int × Int) := List.getD b (Int.toNat i_) ((0 : Int), (0 : Int));
  cond (!(decide (e.1 = e2.1) && (decide (e.2 = e2.2) && true)))
  (k1 false)
  (let i_2 : Int := (IntKind.i64.wrap (i_ + (1 : Int)));
  rec a b i_2))
  none)
  none)
  (k2 ())
def zqr {β : Type} : Nat → zql β → zqm β → (List (Int × Int)) → (List (Int × Int)) → Int → Option β
  | 0 => fun _ _ _ _ _ => none
  | i + 1 => fun k1 k2 a b i_ => zqq (zqr i k1 k2) k1 k2 a b i_
theorem zqs (hΓ : ΓOk Tryz.prog ref40_SameRanges_X.Γ) (i : Nat) : PieceOk Tryz.prog 26 0 ref40_SameRanges_p1_code zqo zqp (ref40_SameRanges_p1_G (zqr i)) := by
  rw [show ref40_SameRanges_p1_code = .loop (loopBody ref40_SameRanges_p1_code) by kernel_rfl]
  exact piece_loop (X := ref40_SameRanges_X) (p := 1) (Λ := pick1 []) (G := fun i => @fun β d ks => ref40_SameRanges_p1_G (zqr i) d ks) mixed tab_ok hΓ rfl (by kernel_rfl) CutsOk_nil (fun _ _ => rfl) (fun i => @fun β d ks r h => Eq.trans (b := ref40_SameRanges_p1_G (zqr (i + 1)) d ks) (by kernel_rfl) h) i
def zqt (p1 : zqn) {β : Type} (a : List (Int × Int)) (b : List (Int × Int)) (k : (Bool → Option β)) : Option β :=
  cond (!decide ((List.length a : Int) = (List.length b : Int)))
  (k false)
  (p1 (fun (t4 : Bool) =>
  k t4) (fun (_ : Unit) =>
  k true) a b (0 : Int))
theorem zqu (hΓ : ΓOk Tryz.prog ref40_SameRanges_X.Γ) (p1 : zqn) (hp1 : PieceOk Tryz.prog 26 0 ref40_SameRanges_p1_code zqo zqp (ref40_SameRanges_p1_G p1)) : SpecOk Tryz.prog 17 (zqk (zqt p1)) :=
  spec_exec (X := ref40_SameRanges_X) (Λ := pick1 [(58, pieceCut zqo zqp (ref40_SameRanges_p1_G p1))]) (rs := [.tmp 4]) (c := bodyOf Tryz.f17) mixed tab_ok hΓ Tryz.func17 (by kernel_rfl) (by kernel_rfl) (by kernel_rfl) (by kernel_rfl) (CutsOk_cons (q := 58) (c' := ref40_SameRanges_p1_code) (by kernel_rfl) rfl hp1 CutsOk_nil) (fun x k r h => Eq.trans (b := (zqk (zqt p1)).run x k) (by kernel_rfl) h)
end
theorem zqvΓ : ΓOk Tryz.prog (pick1 []) := ΓOk_nil
def zqw (m : Nat) : zqn := zqr m
theorem zqx {β : Type} (i : Nat) (k1 k2 a b i_) : (zqw (i + 1) k1 k2 a b i_ : Option β) = zqq (zqw i k1 k2) k1 k2 a b i_ := rfl
def zqy : zqn := zqw fuel
theorem zqz : PieceOk Tryz.prog 26 0 ref40_SameRanges_p1_code zqo zqp (ref40_SameRanges_p1_G zqy) := zqs zqvΓ fuel
def zq10 : zqj := zqt zqy
theorem zq11 : SpecOk Tryz.prog 17 (zqk zq10) := zqu zqvΓ zqy zqz

/-- (*pagewatch/pagewatchmade.Dice).Next -/
abbrev zq12 := {β : Type} → Int → (List Int × Int) → (Int → (List Int × Int) → Option β) → Option β
def zq13 (c : zq12) : Spec :=
  ⟨[(false, [.ptr 0 0]), (false, [.data (.int .i64)])], [.cells 68 [.data (.prod (.slice (.int .i64)) (.int .i64))]], [(false, [.data (.int .i64)])], [.cells 68 [.data (.prod (.slice (.int .i64)) (.int .i64))]], fun x k => c x.1.2.1.1 x.2.1.1 (fun r0 r1 => k (((r0, ()), ()), ((r1, ()), ())))⟩
section
@[reducible] def made_Dice_Next_X : Ctx := ⟨look tab, pick1 [], false, false, false, false⟩
def zq14 {β : Type} (n : Int) (d : (List Int × Int)) (k : (Int → (List Int × Int) → Option β)) : Option β :=
  cond (decide ((List.length d.1 : Int) ≤ d.2))
  (k (0 : Int) d)
  (cond (decide (n < (1 : Int)))
  (k (0 : Int) d)
  (cond (decide (0 ≤ d.2) && decide (d.2 < (List.length d.1 : Int)))
  (let e : Int := List.getD d.1 (Int.toNat d.2) (0 : Int);
  cond (!decide (n = 0))
  (cond (decide ((Int.tmod e n) < (0 : Int)))
  (let x : Int := (IntKind.i64.wrap ((Int.tmod e n) + n));
  k x (d.1, (IntKind.i64.wrap (d.2 + (1 : Int)))))
  (k (Int.tmod e n) (d.1, (IntKind.i64.wrap (d.2 + (1 : Int))))))
  none)
  none))
theorem zq15 (hΓ : ΓOk Tryz.prog made_Dice_Next_X.Γ) : SpecOk Tryz.prog 22 (zq13 (zq14)) :=
  spec_exec (X := made_Dice_Next_X) (Λ := pick1 []) (rs := [.tmp 4]) (c := bodyOf Tryz.f22) mixed tab_ok hΓ Tryz.func22 (by kernel_rfl) (by kernel_rfl) (by kernel_rfl) (by kernel_rfl) CutsOk_nil (fun x k r h => Eq.trans (b := (zq13 (zq14)).run x k) (by kernel_rfl) h)
end
theorem zq16Γ : ΓOk Tryz.prog (pick1 []) := ΓOk_nil
def zq17 : zq12 := zq14
theorem zq18 : SpecOk Tryz.prog 22 (zq13 zq17) := zq15 zq16Γ

/-- (*pagewatch/pagewatchmade.Dice).One -/
abbrev zq19 := {β : Type} → (List Int) → (List Int × Int) → (Int → (List Int × Int) → Option β) → Option β
def zq1a (c : zq19) : Spec :=
  ⟨[(false, [.ptr 0 0]), (false, [.data (.slice (.int .i64))])], [.cells 68 [.data (.prod (.slice (.int .i64)) (.int .i64))]], [(false, [.data (.int .i64)])], [.cells 68 [.data (.prod (.slice (.int .i64)) (.int .i64))]], fun x k => c x.1.2.1.1 x.2.1.1 (fun r0 r1 => k (((r0, ()), ()), ((r1, ()), ())))⟩
section
variable (c_made_Dice_Next : zq12)
@[reducible] def made_Dice_One_X : Ctx := ⟨look tab, pick1 [(22, .spec (zq13 c_made_Dice_Next))], false, false, false, false⟩
def zq1b {β : Type} (l : List Int) (d : (List Int × Int)) (k : (Int → (List Int × Int) → Option β)) : Option β :=
  c_made_Dice_Next (List.length l : Int) d (fun (rNext : Int) (mrNext : (List Int × Int)) =>
  cond (decide (0 ≤ rNext) && decide (rNext < (List.length l : Int)))
  (let e : Int := List.getD l (Int.toNat rNext) (0 : Int);
  k e mrNext)
  none)
theorem zq1c (hΓ : ΓOk Tryz.prog (made_Dice_One_X c_made_Dice_Next).Γ) : SpecOk Tryz.prog 23 (zq1a (zq1b c_made_Dice_Next)) :=
  spec_exec (X := (made_Dice_One_X c_made_Dice_Next)) (Λ := pick1 []) (rs := [.tmp 4]) (c := bodyOf Tryz.f23) mixed tab_ok hΓ Tryz.func23 (by kernel_rfl) (by kernel_rfl) (by kernel_rfl) (by kernel_rfl) CutsOk_nil (fun x k r h => Eq.trans (b := (zq1a (zq1b c_made_Dice_Next)).run x k) (by kernel_rfl) h)
end
theorem zq1dΓ : ΓOk Tryz.prog (pick1 [(22, .spec (zq13 zq17))]) := (ΓOk_cons zq18 ΓOk_nil)
def zq1e : zq19 := zq1b zq17
theorem zq1f : SpecOk Tryz.prog 23 (zq1a zq1e) := zq1c zq17 zq1dΓ

/-- slices.Equal[[]int,int] -/
abbrev zq1g := {β : Type} → (List Int) → (List Int) → (Bool → Option β) → Option β
def zq1h (c : zq1g) : Spec :=
  ⟨[(false, [.data (.slice (.int .i64))]), (false, [.data (.slice (.int .i64))])], [], [(false, [.data .bool])], [], fun x k => c x.1.1.1 x.1.2.1.1 (fun r0 => k (((r0, ()), ()), ()))⟩
noncomputable def slices_Equal_int_int_p1_code : Code := codeAt 58 (bodyOf Tryz.f29)
abbrev zq1i (β : Type) := Bool → Option β
abbrev zq1j (β : Type) := Unit → Option β
abbrev zq1k := {β : Type} → zq1i β → zq1j β → (List Int) → (List Int) → Int → Int → Option β
def zq1l : View := ⟨0, [0, 1, 12, 13], [(false, [.data (.slice (.int .i64))]), (false, [.data (.slice (.int .i64))]), (false, [.data (.int .i64)]), (false, [.data (.int .i64)])], []⟩
def zq1m : List (AExit × View) := [(.ret, ⟨0, [4], [(false, [.data .bool])], []⟩), (.exit 0, ⟨0, [], [], []⟩)]
@[reducible] def slices_Equal_int_int_p1_G (p : zq1k) {β : Type} (d : zq1l.den) (ks : Outs.K β zq1m) : Option β :=
  p (fun a0 => ks.1 (((a0, ()), ()), ())) (fun _ => ks.2.1 ((), ())) d.1.1.1 d.1.2.1.1 d.1.2.2.1.1 d.1.2.2.2.1.1
section
@[reducible] def slices_Equal_int_int_X : Ctx := ⟨look tab, pick1 [], false, false, false, false⟩
def zq1n {β : Type} (rec : (List Int) → (List Int) → Int → Int → Option β) (k1 : zq1i β) (k2 : zq1j β) (s1 : List Int) (s2 : List Int) (t12 : Int) (t13 : Int) : Option β :=
  cond (decide (t13 < t12))
  (cond (decide (0 ≤ t13) && decide (t13 < (List.length s1 : Int)))
  (let e : Int := List.getD s1 (Int.toNat t13) (0 : Int);
  cond (decide (0 ≤ t13) && decide (t13 < (List.length s2 : Int)))
  (let e2 : Int := List.getD s2 (Int.toNat t13) (0 : Int);
  cond (!decide (e = e2))
  (k1 false)
  (rec s1 s2 t12 (IntKind.i64.wrap (t13 + (1 : Int)))))
  none)
  none)
  (k2 ())
def zq1o {β : Type} : Nat → zq1i β → zq1j β → (List Int) → (List Int) → Int → Int → Option β
  | 0 => fun _ _ _ _ _ _ => none
  | i + 1 => fun k1 k2 s1 s2 t12 t13 => zq1n (zq1o i k1 k2) k1 k2 s1 s2 t12 t13
theorem zq1p (hΓ : ΓOk Tryz.prog slices_Equal_int_int_X.Γ) (i : Nat) : PieceOk Tryz.prog 26 0 slices_Equal_int_int_p1_code zq1l zq1m (slices_Equal_int_int_p1_G (zq1o i)) := by
  rw [show slices_Equal_int_int_p1_code = .loop (loopBody slices_Equal_int_int_p1_code) by kernel_rfl]
  exact piece_loop (X := slices_Equal_int_int_X) (p := 1) (Λ := pick1 []) (G := fun i => @fun β d ks => slices_Equal_int_int_p1_G (zq1o i) d ks) mixed tab_ok hΓ rfl (by kernel_rfl) CutsOk_nil (fun _ _ => rfl) (fun i => @fun β d ks r h => Eq.trans (b := slices_Equal_int_int_p1_G (zq1o (i + 1)) d ks) (by kernel_rfl) h) i
def zq1q (p1 : zq1k) {β : Type} (s1 : List Int) (s2 : List Int) (k : (Bool → Option β)) : Option β :=
  cond (!decide ((List.length s1 : Int) = (List.length s2 : Int)))
  (k false)
  (p1 (fun (t4 : Bool) =>
  k t4) (fun (_ : Unit) =>
  k true) s1 s2 (List.length s1 : Int) (0 : Int))
theorem zq1r (hΓ : ΓOk Tryz.prog slices_Equal_int_int_X.Γ) (p1 : zq1k) (hp1 : PieceOk Tryz.prog 26 0 slices_Equal_int_int_p1_code zq1l zq1m (slices_Equal_int_int_p1_G p1)) : SpecOk Tryz.prog 29 (zq1h (zq1q p1)) :=
  spec_exec (X := slices_Equal_int_int_X) (Λ := pick1 [(58, pieceCut zq1l zq1m (slices_Equal_int_int_p1_G p1))]) (rs := [.tmp 4]) (c := bodyOf Tryz.f29) mixed tab_ok hΓ Tryz.func29 (by kernel_rfl) (by kernel_rfl) (by kernel_rfl) (by kernel_rfl) (CutsOk_cons (q := 58) (c' := slices_Equal_int_int_p1_code) (by kernel_rfl) rfl hp1 CutsOk_nil) (fun x k r h => Eq.trans (b := (zq1h (zq1q p1)).run x k) (by kernel_rfl) h)
end
theorem zq1sΓ : ΓOk Tryz.prog (pick1 []) := ΓOk_nil
def zq1t (m : Nat) : zq1k := zq1o m
theorem zq1u {β : Type} (i : Nat) (k1 k2 s1 s2 t12 t13) : (zq1t (i + 1) k1 k2 s1 s2 t12 t13 : Option β) = zq1n (zq1t i k1 k2) k1 k2 s1 s2 t12 t13 := rfl
def zq1v : zq1k := zq1t fuel
theorem zq1w : PieceOk Tryz.prog 26 0 slices_Equal_int_int_p1_code zq1l zq1m (slices_Equal_int_int_p1_G zq1v) := zq1p zq1sΓ fuel
def zq1x : zq1g := zq1q zq1v
theorem zq1y : SpecOk Tryz.prog 29 (zq1h zq1x) := zq1r zq1sΓ zq1v zq1w

/-- pagewatch/pagewatchref25.In -/
abbrev zq1z := {β : Type} → Int → Int → Int → (Bool → Option β) → Option β
def zq20 (c : zq1z) : Spec :=
  ⟨[(false, [.data (.int .i64)]), (false, [.data (.int .i64)]), (false, [.data (.int .i64)])], [], [(false, [.data .bool])], [], fun x k => c x.1.1.1 x.1.2.1.1 x.1.2.2.1.1 (fun r0 => k (((r0, ()), ()), ()))⟩
section
@[reducible] def ref25_In_X : Ctx := ⟨look tab, pick1 [], false, false, false, false⟩
def zq21 {β : Type} (n : Int) (lo : Int) (hi : Int) (k : (Bool → Option β)) : Option β :=
  cond (decide (lo ≤ n))
  (k (decide (n ≤ hi)))
  (k false)
theorem zq22 (hΓ : ΓOk Tryz.prog ref25_In_X.Γ) : SpecOk Tryz.prog 31 (zq20 (zq21)) :=
  spec_exec (X := ref25_In_X) (Λ := pick1 []) (rs := [.tmp 6]) (c := bodyOf Tryz.f31) mixed tab_ok hΓ Tryz.func31 (by kernel_rfl) (by kernel_rfl) (by kernel_rfl) (by kernel_rfl) CutsOk_nil (fun x k r h => Eq.trans (b := (zq20 (zq21)).run x k) (by kernel_rfl) h)
end
theorem zq23Γ : ΓOk Tryz.prog (pick1 []) := ΓOk_nil
def zq24 : zq1z := zq21
theorem zq25 : SpecOk Tryz.prog 31 (zq20 zq24) := zq22 zq23Γ

/-- pagewatch/pagewatchref40.compare -/
abbrev zq26 := {β : Type} → (List (List Int)) → Int → Int → (Int → Option β) → Option β
def zq27 (c : zq26) : Spec :=
  ⟨[(false, [.data (.slice (.slice (.int .i64)))]), (false, [.data (.int .i64)]), (false, [.data (.int .i64)])], [], [(false, [.data (.int .i64)])], [], fun x k => c x.1.1.1 x.1.2.1.1 x.1.2.2.1.1 (fun r0 => k (((r0, ()), ()), ()))⟩
section
@[reducible] def ref40_compare_X : Ctx := ⟨look tab, pick1 [], false, false, false, false⟩
def zq28 {β : Type} (d : List (List Int)) (a : Int) (b : Int) (k : (Int → Option β)) : Option β :=
  cond (decide (0 ≤ (IntKind.i64.wrap (b + (1 : Int)))) && decide ((IntKind.i64.wrap (b + (1 : Int))) < (List.length d : Int)))
  (let e : List Int := List.getD d (Int.toNat (IntKind.i64.wrap (b + (1 : Int)))) ([] : List Int);
  cond (decide (0 ≤ (IntKind.i64.wrap (a + (1 : Int)))) && decide ((IntKind.i64.wrap (a + (1 : Int))) < (List.length e : Int)))
  (let e2 : Int := List.getD e (Int.toNat (IntKind.i64.wrap (a + (1 : Int)))) (0 : Int);
  let t : Bool := (decide (e2 ≤ (-1 : Int)));
  cond t
  (k (-1 : Int))
  (cond (decide (0 ≤ (IntKind.i64.wrap (a + (1 : Int)))) && decide ((IntKind.i64.wrap (a + (1 : Int))) < (List.length d : Int)))
  (let e3 : List Int := List.getD d (Int.toNat (IntKind.i64.wrap (a + (1 : Int)))) ([] : List Int);
  cond (decide (0 ≤ (IntKind.i64.wrap (b + (1 : Int)))) && decide ((IntKind.i64.wrap (b + (1 : Int))) < (List.length e3 : Int)))
  (let e4 : Int := List.getD e3 (Int.toNat (IntKind.i64.wrap (b + (1 : Int)))) (0 : Int);
  let t2 : Bool := (decide (e4 ≤ (-1 : Int)));
  cond t2
  (k (1 : Int))
  (k (0 : Int)))
  none)
  none))
  none)
  none
theorem zq29 (hΓ : ΓOk Tryz.prog ref40_compare_X.Γ) : SpecOk Tryz.prog 32 (zq27 (zq28)) :=
  spec_exec (X := ref40_compare_X) (Λ := pick1 []) (rs := [.tmp 6]) (c := bodyOf Tryz.f32) mixed tab_ok hΓ Tryz.func32 (by kernel_rfl) (by kernel_rfl) (by kernel_rfl) (by kernel_rfl) CutsOk_nil (fun x k r h => Eq.trans (b := (zq27 (zq28)).run x k) (by kernel_rfl) h)
end
theorem zq2aΓ : ΓOk Tryz.prog (pick1 []) := ΓOk_nil
def zq2b : zq26 := zq28
theorem zq2c : SpecOk Tryz.prog 32 (zq27 zq2b) := zq29 zq2aΓ

/-- pagewatch/timeline.sized -/
abbrev zq2d := {β : Type} → zq2 → (zq2 → Int → Option β) → Option β
def zq2e (c : zq2d) : Spec :=
  ⟨[(true, [.data zq3])], [], [(true, [.data zq3]), (false, [.data (.int .i64)])], [], fun x k => c x.1.1.1 (fun r0 r1 => k (((r0, ()), (r1, ()), ()), ()))⟩
section
@[reducible] def timeline_sized_X : Ctx := ⟨look tab, pick1 [], false, false, false, false⟩
def zq2f {β : Type} (r_ : zq2) (k : (zq2 → Int → Option β)) : Option β :=
  cond (decide ((8 : Int) < (List.length r_.1 : Int)))
  (k (([] : List (List UInt8 × Int)), (([] : List (Int × (Int × (Int × Int)))), (([] : List zq0), ([] : List (Int × (Int × Int)))))) (5 : Int))
  (cond (decide ((64 : Int) < (List.length r_.2.1 : Int)))
  (k (([] : List (List UInt8 × Int)), (([] : List (Int × (Int × (Int × Int)))), (([] : List zq0), ([] : List (Int × (Int × Int)))))) (5 : Int))
  (cond (decide ((40 : Int) < (List.length r_.2.2.1 : Int)))
  (k (([] : List (List UInt8 × Int)), (([] : List (Int × (Int × (Int × Int)))), (([] : List zq0), ([] : List (Int × (Int × Int)))))) (5 : Int))
  (cond (decide ((64 : Int) < (List.length r_.2.2.2 : Int)))
  (k (([] : List (List UInt8 × Int)), (([] : List (Int × (Int × (Int × Int)))), (([] : List zq0), ([] : List (Int × (Int × Int)))))) (5 : Int))
  (k r_ (0 : Int)))))
theorem zq2g (hΓ : ΓOk Tryz.prog timeline_sized_X.Γ) : SpecOk Tryz.prog 35 (zq2e (zq2f)) :=
  spec_exec (X := timeline_sized_X) (Λ := pick1 []) (rs := [.cell 2 32, .tmp 3]) (c := bodyOf Tryz.f35) mixed tab_ok hΓ Tryz.func35 (by kernel_rfl) (by kernel_rfl) (by kernel_rfl) (by kernel_rfl) CutsOk_nil (fun x k r h => Eq.trans (b := (zq2e (zq2f)).run x k) (by kernel_rfl) h)
end
theorem zq2hΓ : ΓOk Tryz.prog (pick1 []) := ΓOk_nil
def zq2i : zq2d := zq2f
theorem zq2j : SpecOk Tryz.prog 35 (zq2e zq2i) := zq2g zq2hΓ

/-- pagewatch/timeline.printed -/
abbrev zq2k := {β : Type} → (List UInt8) → Int → (Bool → Option β) → Option β
def zq2l (c : zq2k) : Spec :=
  ⟨[(false, [.data .str]), (false, [.data (.int .u8)])], [], [(false, [.data .bool])], [], fun x k => c x.1.1.1 x.1.2.1.1 (fun r0 => k (((r0, ()), ()), ()))⟩
noncomputable def timeline_printed_p1_code : Code := codeAt 26 (bodyOf Tryz.f39)
abbrev zq2m (β : Type) := Bool → Option β
abbrev zq2n (β : Type) := (List UInt8) → Option β
abbrev zq2o := {β : Type} → zq2m β → zq2n β → (List UInt8) → Int → Int → Int → Option β
def zq2p : View := ⟨0, [0, 1, 7, 8], [(false, [.data .str]), (false, [.data (.int .u8)]), (false, [.data (.int .i64)]), (false, [.data (.int .i64)])], []⟩
def zq2q : List (AExit × View) := [(.ret, ⟨0, [4], [(false, [.data .bool])], []⟩), (.exit 0, ⟨0, [0], [(false, [.data .str])], []⟩)]
@[reducible] def timeline_printed_p1_G (p : zq2o) {β : Type} (d : zq2p.den) (ks : Outs.K β zq2q) : Option β :=
  p (fun a0 => ks.1 (((a0, ()), ()), ())) (fun a0 => ks.2.1 (((a0, ()), ()), ())) d.1.1.1 d.1.2.1.1 d.1.2.2.1.1 d.1.2.2.2.1.1
section
@[reducible] def timeline_printed_X : Ctx := ⟨look tab, pick1 [], false, false, false, false⟩
def zq2r {β : Type} (rec : (List UInt8) → Int → Int → Int → Option β) (k1 : zq2m β) (k2 : zq2n β) (s : List UInt8) (least : Int) (t7 : Int) (t8 : Int) : Option β :=
  cond (decide (t8 < t7))
  (cond (decide (0 ≤ t8) && decide (t8 < (List.length s : Int)))
  (cond (decide (((List.getD s (Int.toNat t8) 0).toNat : Int) < least))
  (k1 false)
  (cond (decide (0 ≤ t8) && decide (t8 < (List.length s : Int)))
  (cond (decide ((126 : Int) < ((List.getD s (Int.toNat t8) 0).toNat : Int)))
  (k1 false)
  (rec s least t7 (IntKind.i64.wrap (t8 + (1 : Int)))))
  none))
  none)
  (k2 s)
def zq2s {β : Type} : Nat → zq2m β → zq2n β → (List UInt8) → Int → Int → Int → Option β
  | 0 => fun _ _ _ _ _ _ => none
  | i + 1 => fun k1 k2 s least t7 t8 => zq2r (zq2s i k1 k2) k1 k2 s least t7 t8
theorem zq2t (hΓ : ΓOk Tryz.prog timeline_printed_X.Γ) (i : Nat) : PieceOk Tryz.prog 25 0 timeline_printed_p1_code zq2p zq2q (timeline_printed_p1_G (zq2s i)) := by
  rw [show timeline_printed_p1_code = .loop (loopBody timeline_printed_p1_code) by kernel_rfl]
  exact piece_loop (X := timeline_printed_X) (p := 1) (Λ := pick1 []) (G := fun i => @fun β d ks => timeline_printed_p1_G (zq2s i) d ks) mixed tab_ok hΓ rfl (by kernel_rfl) CutsOk_nil (fun _ _ => rfl) (fun i => @fun β d ks r h => Eq.trans (b := timeline_printed_p1_G (zq2s (i + 1)) d ks) (by kernel_rfl) h) i
def zq2u (p1 : zq2o) {β : Type} (s : List UInt8) (least : Int) (k : (Bool → Option β)) : Option β :=
  p1 (fun (t4 : Bool) =>
  k t4) (fun (s2 : List UInt8) =>
  let t : Bool := (!decide (s2 = ([] : List UInt8)));
  k t) s least (List.length s : Int) (0 : Int)
theorem zq2v (hΓ : ΓOk Tryz.prog timeline_printed_X.Γ) (p1 : zq2o) (hp1 : PieceOk Tryz.prog 25 0 timeline_printed_p1_code zq2p zq2q (timeline_printed_p1_G p1)) : SpecOk Tryz.prog 39 (zq2l (zq2u p1)) :=
  spec_exec (X := timeline_printed_X) (Λ := pick1 [(26, pieceCut zq2p zq2q (timeline_printed_p1_G p1))]) (rs := [.tmp 4]) (c := bodyOf Tryz.f39) mixed tab_ok hΓ Tryz.func39 (by kernel_rfl) (by kernel_rfl) (by kernel_rfl) (by kernel_rfl) (CutsOk_cons (q := 26) (c' := timeline_printed_p1_code) (by kernel_rfl) rfl hp1 CutsOk_nil) (fun x k r h => Eq.trans (b := (zq2l (zq2u p1)).run x k) (by kernel_rfl) h)
end
theorem zq2wΓ : ΓOk Tryz.prog (pick1 []) := ΓOk_nil
def zq2x (m : Nat) : zq2o := zq2s m
theorem zq2y {β : Type} (i : Nat) (k1 k2 s least t7 t8) : (zq2x (i + 1) k1 k2 s least t7 t8 : Option β) = zq2r (zq2x i k1 k2) k1 k2 s least t7 t8 := rfl
def zq2z : zq2o := zq2x fuel
theorem zq30 : PieceOk Tryz.prog 25 0 timeline_printed_p1_code zq2p zq2q (timeline_printed_p1_G zq2z) := zq2t zq2wΓ fuel
def zq31 : zq2k := zq2u zq2z
theorem zq32 : SpecOk Tryz.prog 39 (zq2l zq31) := zq2v zq2wΓ zq2z zq30

/-- (*strings.Builder).WriteString -/
def zq33 : Shelf.Ren :=
      { 
      f := fun x =>
        match x with
        | 166 => 40
        | 240 => 66
        | 276 => 79
        | n => n,
      t := fun x =>
        match x with
        | 70 => 92
        | 9 => 9
        | 0 => 0
        | 72 => 95
        | 37 => 93
        | 127 => 126
        | 3 => 3
        | 5 => 5
        | 80 => 103
        | 4 => 4
        | 164 => 136
        | 20 => 20
        | 75 => 98
        | n => n,
      g := fun x => x }
theorem zq34 : Go.Proofs.Lays.n166 Tryz.prog zq33 :=
  { mixed := by kernel_rfl,
    f166 := Eq.trans Tryz.func40 (congrArg some (by kernel_rfl)),
    f240 := Eq.trans Tryz.func66 (congrArg some (by kernel_rfl)),
    f276 := Eq.trans Tryz.func79 (congrArg some (by kernel_rfl)),
    t0 := Tryz.underlying0,
    a0 := Tryz.isAgg0,
    z0 := Tryz.sizeOf0,
    v0 := Tryz.zeroValue0,
    t3 := Tryz.underlying3,
    a3 := Tryz.isAgg3,
    z3 := Tryz.sizeOf3,
    v3 := Tryz.zeroValue3,
    t4 := Tryz.underlying4,
    a4 := Tryz.isAgg4,
    z4 := Tryz.sizeOf4,
    v4 := Tryz.zeroValue4,
    t9 := Tryz.underlying9,
    a9 := Tryz.isAgg9,
    z9 := Tryz.sizeOf9,
    v9 := Tryz.zeroValue9,
    t20 := Tryz.underlying20,
    a20 := Tryz.isAgg20,
    z20 := Tryz.sizeOf20,
    v20 := Tryz.zeroValue20,
    t37 := Tryz.underlying93,
    a37 := Tryz.isAgg93,
    z37 := Tryz.sizeOf93,
    v37 := Tryz.zeroValue93,
    t70 := Tryz.underlying92,
    a70 := Tryz.isAgg92,
    z70 := Tryz.sizeOf92,
    v70 := Tryz.zeroValue92,
    t72 := Tryz.underlying95,
    a72 := Tryz.isAgg95,
    z72 := Tryz.sizeOf95,
    v72 := Tryz.zeroValue95,
    t75 := Tryz.underlying98,
    a75 := Tryz.isAgg98,
    z75 := Tryz.sizeOf98,
    v75 := Tryz.zeroValue98,
    t164 := Tryz.underlying136,
    a164 := Tryz.isAgg136,
    z164 := Tryz.sizeOf136,
    v164 := Tryz.zeroValue136 }
def zq35 : BldF := ⟨95, 5, 0⟩
theorem zq36 : BldOk Tryz.prog 40 zq35 :=
  bldWrite_ok zq34 { sizeBuilder := by kernel_rfl, liesBuilder := by kernel_rfl, t5 := Tryz.underlying5, a5 := Tryz.isAgg5, z5 := Tryz.sizeOf5, v5 := Tryz.zeroValue5, infoByte := by kernel_rfl, cellsByte := by kernel_rfl, sizeByte := by kernel_rfl, neB5 := by decide } rfl rfl rfl ⟨_, Tryz.func40, by kernel_rfl, by kernel_rfl⟩

/-- strconv.Itoa -/
def zq37 : Shelf.Ren :=
      { 
      f := fun x =>
        match x with
        | 171 => 41
        | 243 => 67
        | 246 => 80
        | 283 => 96
        | 284 => 97
        | 285 => 98
        | 286 => 99
        | 129 => 95
        | 317 => 113
        | 318 => 114
        | 319 => 115
        | 320 => 116
        | 337 => 120
        | 338 => 121
        | n => n,
      t := fun x =>
        match x with
        | 3 => 3
        | 9 => 9
        | 2 => 2
        | 4 => 4
        | 171 => 152
        | 0 => 0
        | 53 => 151
        | 37 => 93
        | 5 => 5
        | 173 => 154
        | 212 => 165
        | 51 => 149
        | 20 => 20
        | 213 => 166
        | 46 => 130
        | 232 => 171
        | 233 => 172
        | n => n,
      g := fun x =>
        match x with
        | 17 => 0
        | 18 => 1
        | 19 => 2
        | n => n }
theorem zq38 : Go.Proofs.LaysM.n171 Tryz.prog zq37 :=
  { mixed := by kernel_rfl,
    f129 := Eq.trans Tryz.func95 (congrArg some (by kernel_rfl)),
    f171 := Eq.trans Tryz.func41 (congrArg some (by kernel_rfl)),
    f243 := Eq.trans Tryz.func67 (congrArg some (by kernel_rfl)),
    f246 := Eq.trans Tryz.func80 (congrArg some (by kernel_rfl)),
    f283 := Eq.trans Tryz.func96 (congrArg some (by kernel_rfl)),
    f284 := Eq.trans Tryz.func97 (congrArg some (by kernel_rfl)),
    f285 := Eq.trans Tryz.func98 (congrArg some (by kernel_rfl)),
    f286 := Eq.trans Tryz.func99 (congrArg some (by kernel_rfl)),
    f317 := Eq.trans Tryz.func113 (congrArg some (by kernel_rfl)),
    f318 := Eq.trans Tryz.func114 (congrArg some (by kernel_rfl)),
    f319 := Eq.trans Tryz.func115 (congrArg some (by kernel_rfl)),
    f320 := Eq.trans Tryz.func116 (congrArg some (by kernel_rfl)),
    f337 := Eq.trans Tryz.func120 (congrArg some (by kernel_rfl)),
    f338 := Eq.trans Tryz.func121 (congrArg some (by kernel_rfl)),
    t0 := Tryz.underlying0,
    a0 := Tryz.isAgg0,
    z0 := Tryz.sizeOf0,
    v0 := Tryz.zeroValue0,
    t2 := Tryz.underlying2,
    a2 := Tryz.isAgg2,
    z2 := Tryz.sizeOf2,
    v2 := Tryz.zeroValue2,
    t3 := Tryz.underlying3,
    a3 := Tryz.isAgg3,
    z3 := Tryz.sizeOf3,
    v3 := Tryz.zeroValue3,
    t4 := Tryz.underlying4,
    a4 := Tryz.isAgg4,
    z4 := Tryz.sizeOf4,
    v4 := Tryz.zeroValue4,
    t5 := Tryz.underlying5,
    a5 := Tryz.isAgg5,
    z5 := Tryz.sizeOf5,
    v5 := Tryz.zeroValue5,
    t9 := Tryz.underlying9,
    a9 := Tryz.isAgg9,
    z9 := Tryz.sizeOf9,
    v9 := Tryz.zeroValue9,
    t20 := Tryz.underlying20,
    a20 := Tryz.isAgg20,
    z20 := Tryz.sizeOf20,
    v20 := Tryz.zeroValue20,
    t37 := Tryz.underlying93,
    a37 := Tryz.isAgg93,
    z37 := Tryz.sizeOf93,
    v37 := Tryz.zeroValue93,
    t46 := Tryz.underlying130,
    a46 := Tryz.isAgg130,
    z46 := Tryz.sizeOf130,
    v46 := Tryz.zeroValue130,
    t51 := Tryz.underlying149,
    a51 := Tryz.isAgg149,
    z51 := Tryz.sizeOf149,
    v51 := Tryz.zeroValue149,
    t53 := Tryz.underlying151,
    a53 := Tryz.isAgg151,
    z53 := Tryz.sizeOf151,
    v53 := Tryz.zeroValue151,
    t171 := Tryz.underlying152,
    a171 := Tryz.isAgg152,
    z171 := Tryz.sizeOf152,
    v171 := Tryz.zeroValue152,
    t173 := Tryz.underlying154,
    a173 := Tryz.isAgg154,
    z173 := Tryz.sizeOf154,
    v173 := Tryz.zeroValue154,
    t212 := Tryz.underlying165,
    a212 := Tryz.isAgg165,
    z212 := Tryz.sizeOf165,
    v212 := Tryz.zeroValue165,
    t213 := Tryz.underlying166,
    a213 := Tryz.isAgg166,
    z213 := Tryz.sizeOf166,
    t232 := Tryz.underlying171,
    a232 := Tryz.isAgg171,
    z232 := Tryz.sizeOf171,
    v232 := Tryz.zeroValue171,
    t233 := Tryz.underlying172,
    a233 := Tryz.isAgg172,
    z233 := Tryz.sizeOf172,
    v233 := Tryz.zeroValue172,
    g17 := by kernel_rfl,
    g18 := by kernel_rfl,
    g19 := by kernel_rfl,
    i0 := by kernel_rfl,
    i2 := by kernel_rfl,
    i3 := by kernel_rfl,
    i4 := by kernel_rfl,
    i5 := by kernel_rfl,
    i9 := by kernel_rfl,
    i20 := by kernel_rfl,
    i37 := by kernel_rfl,
    i46 := by kernel_rfl,
    i51 := by kernel_rfl,
    i53 := by kernel_rfl,
    i171 := by kernel_rfl,
    i173 := by kernel_rfl,
    i212 := by kernel_rfl,
    i232 := by kernel_rfl,
    i233 := by kernel_rfl,
    m17 := by kernel_rfl,
    m18 := by kernel_rfl,
    m19 := by kernel_rfl }
abbrev zq39 := itoaT
def zq3a (c : zq39) : Spec := itoaS c
def zq3b : zq39 := fun x k => itoaF x k
theorem zq3c : SpecOk Tryz.prog 41 (zq3a zq3b) :=
  itoa_ok zq38 rfl (g := 0) (by kernel_rfl) ⟨_, Tryz.func41, by kernel_rfl, by kernel_rfl⟩

/-- (*strings.Builder).Len -/
def zq3d : Shelf.Ren :=
      { 
      f := fun x =>
        match x with
        | 170 => 42
        | n => n,
      t := fun x =>
        match x with
        | 70 => 92
        | 3 => 3
        | 0 => 0
        | 72 => 95
        | 37 => 93
        | 5 => 5
        | n => n,
      g := fun x => x }
theorem zq3e : Go.Proofs.Lays.n170 Tryz.prog zq3d :=
  { mixed := by kernel_rfl,
    f170 := Eq.trans Tryz.func42 (congrArg some (by kernel_rfl)),
    t0 := Tryz.underlying0,
    a0 := Tryz.isAgg0,
    z0 := Tryz.sizeOf0,
    v0 := Tryz.zeroValue0,
    t3 := Tryz.underlying3,
    a3 := Tryz.isAgg3,
    z3 := Tryz.sizeOf3,
    v3 := Tryz.zeroValue3,
    t37 := Tryz.underlying93,
    a37 := Tryz.isAgg93,
    z37 := Tryz.sizeOf93,
    v37 := Tryz.zeroValue93,
    t70 := Tryz.underlying92,
    a70 := Tryz.isAgg92,
    z70 := Tryz.sizeOf92,
    v70 := Tryz.zeroValue92,
    t72 := Tryz.underlying95,
    a72 := Tryz.isAgg95,
    z72 := Tryz.sizeOf95,
    v72 := Tryz.zeroValue95 }
def zq3f : BldF := ⟨95, 5, 2⟩
theorem zq3g : BldOk Tryz.prog 42 zq3f :=
  bldLen_ok zq3e rfl rfl rfl ⟨_, Tryz.func42, by kernel_rfl, by kernel_rfl⟩

/-- (*strings.Builder).String -/
def zq3h : Shelf.Ren :=
      { 
      f := fun x =>
        match x with
        | 169 => 43
        | n => n,
      t := fun x =>
        match x with
        | 70 => 92
        | 9 => 9
        | 0 => 0
        | 72 => 95
        | 37 => 93
        | 127 => 126
        | 3 => 3
        | 5 => 5
        | n => n,
      g := fun x => x }
theorem zq3i : Go.Proofs.Lays.n169 Tryz.prog zq3h :=
  { mixed := by kernel_rfl,
    f169 := Eq.trans Tryz.func43 (congrArg some (by kernel_rfl)),
    t0 := Tryz.underlying0,
    a0 := Tryz.isAgg0,
    z0 := Tryz.sizeOf0,
    v0 := Tryz.zeroValue0,
    t3 := Tryz.underlying3,
    a3 := Tryz.isAgg3,
    z3 := Tryz.sizeOf3,
    v3 := Tryz.zeroValue3,
    t9 := Tryz.underlying9,
    a9 := Tryz.isAgg9,
    z9 := Tryz.sizeOf9,
    v9 := Tryz.zeroValue9,
    t37 := Tryz.underlying93,
    a37 := Tryz.isAgg93,
    z37 := Tryz.sizeOf93,
    v37 := Tryz.zeroValue93,
    t70 := Tryz.underlying92,
    a70 := Tryz.isAgg92,
    z70 := Tryz.sizeOf92,
    v70 := Tryz.zeroValue92,
    t72 := Tryz.underlying95,
    a72 := Tryz.isAgg95,
    z72 := Tryz.sizeOf95,
    v72 := Tryz.zeroValue95,
    t127 := Tryz.underlying126,
    a127 := Tryz.isAgg126,
    z127 := Tryz.sizeOf126,
    v127 := Tryz.zeroValue126 }
def zq3j : BldF := ⟨95, 5, 1⟩
theorem zq3k : BldOk Tryz.prog 43 zq3j :=
  bldString_ok zq3i { sizeBuilder := by kernel_rfl, liesBuilder := by kernel_rfl, t5 := Tryz.underlying5, a5 := Tryz.isAgg5, z5 := Tryz.sizeOf5, v5 := Tryz.zeroValue5, infoByte := by kernel_rfl, cellsByte := by kernel_rfl, sizeByte := by kernel_rfl, neB5 := by decide } rfl rfl rfl ⟨_, Tryz.func43, by kernel_rfl, by kernel_rfl⟩

/-- (pagewatch/order.matrix).before -/
abbrev zq3l := {β : Type} → (List (List Int)) → Int → Int → (Bool → Option β) → Option β
def zq3m (c : zq3l) : Spec :=
  ⟨[(false, [.data (.slice (.slice (.int .i64)))]), (false, [.data (.int .i64)]), (false, [.data (.int .i64)])], [], [(false, [.data .bool])], [], fun x k => c x.1.1.1 x.1.2.1.1 x.1.2.2.1.1 (fun r0 => k (((r0, ()), ()), ()))⟩
section
@[reducible] def order_matrix_before_X : Ctx := ⟨look tab, pick1 [], false, false, false, false⟩
def zq3n {β : Type} (m : List (List Int)) (a : Int) (b : Int) (k : (Bool → Option β)) : Option β :=
  cond (decide (0 ≤ (IntKind.i64.wrap (b + (1 : Int)))) && decide ((IntKind.i64.wrap (b + (1 : Int))) < (List.length m : Int)))
  (let e : List Int := List.getD m (Int.toNat (IntKind.i64.wrap (b + (1 : Int)))) ([] : List Int);
  cond (decide (0 ≤ (IntKind.i64.wrap (a + (1 : Int)))) && decide ((IntKind.i64.wrap (a + (1 : Int))) < (List.length e : Int)))
  (let e2 : Int := List.getD e (Int.toNat (IntKind.i64.wrap (a + (1 : Int)))) (0 : Int);
  let t : Bool := (decide (e2 ≤ (-1 : Int)));
  k t)
  none)
  none
theorem zq3o (hΓ : ΓOk Tryz.prog order_matrix_before_X.Γ) : SpecOk Tryz.prog 45 (zq3m (zq3n)) :=
  spec_exec (X := order_matrix_before_X) (Λ := pick1 []) (rs := [.tmp 6]) (c := bodyOf Tryz.f45) mixed tab_ok hΓ Tryz.func45 (by kernel_rfl) (by kernel_rfl) (by kernel_rfl) (by kernel_rfl) CutsOk_nil (fun x k r h => Eq.trans (b := (zq3m (zq3n)).run x k) (by kernel_rfl) h)
end
theorem zq3pΓ : ΓOk Tryz.prog (pick1 []) := ΓOk_nil
def zq3q : zq3l := zq3n
theorem zq3r : SpecOk Tryz.prog 45 (zq3m zq3q) := zq3o zq3pΓ

/-- slices.Sort[[]int,int] -/
def zq3s : Shelf.Ren :=
      { 
      f := fun x =>
        match x with
        | 189 => 49
        | 125 => 73
        | 257 => 72
        | 128 => 94
        | 129 => 95
        | 294 => 85
        | 295 => 86
        | 296 => 87
        | 297 => 88
        | 298 => 89
        | 299 => 90
        | 216 => 91
        | 300 => 92
        | 301 => 93
        | 328 => 107
        | 329 => 108
        | 330 => 109
        | 331 => 110
        | 332 => 111
        | 215 => 112
        | 343 => 119
        | n => n,
      t := fun x =>
        match x with
        | 28 => 22
        | 3 => 3
        | 46 => 130
        | 0 => 0
        | 51 => 149
        | 53 => 151
        | 4 => 4
        | 183 => 143
        | 182 => 142
        | 131 => 44
        | 5 => 5
        | 9 => 9
        | 218 => 158
        | 222 => 162
        | 228 => 169
        | 229 => 123
        | n => n,
      g := fun x => x }
theorem zq3t : Go.Proofs.Lays.n189 Tryz.prog zq3s :=
  { mixed := by kernel_rfl,
    f125 := Eq.trans Tryz.func73 (congrArg some (by kernel_rfl)),
    f128 := Eq.trans Tryz.func94 (congrArg some (by kernel_rfl)),
    f129 := Eq.trans Tryz.func95 (congrArg some (by kernel_rfl)),
    f189 := Eq.trans Tryz.func49 (congrArg some (by kernel_rfl)),
    f215 := Eq.trans Tryz.func112 (congrArg some (by kernel_rfl)),
    f216 := Eq.trans Tryz.func91 (congrArg some (by kernel_rfl)),
    f257 := Eq.trans Tryz.func72 (congrArg some (by kernel_rfl)),
    f294 := Eq.trans Tryz.func85 (congrArg some (by kernel_rfl)),
    f295 := Eq.trans Tryz.func86 (congrArg some (by kernel_rfl)),
    f296 := Eq.trans Tryz.func87 (congrArg some (by kernel_rfl)),
    f297 := Eq.trans Tryz.func88 (congrArg some (by kernel_rfl)),
    f298 := Eq.trans Tryz.func89 (congrArg some (by kernel_rfl)),
    f299 := Eq.trans Tryz.func90 (congrArg some (by kernel_rfl)),
    f300 := Eq.trans Tryz.func92 (congrArg some (by kernel_rfl)),
    f301 := Eq.trans Tryz.func93 (congrArg some (by kernel_rfl)),
    f328 := Eq.trans Tryz.func107 (congrArg some (by kernel_rfl)),
    f329 := Eq.trans Tryz.func108 (congrArg some (by kernel_rfl)),
    f330 := Eq.trans Tryz.func109 (congrArg some (by kernel_rfl)),
    f331 := Eq.trans Tryz.func110 (congrArg some (by kernel_rfl)),
    f332 := Eq.trans Tryz.func111 (congrArg some (by kernel_rfl)),
    f343 := Eq.trans Tryz.func119 (congrArg some (by kernel_rfl)),
    t0 := Tryz.underlying0,
    a0 := Tryz.isAgg0,
    z0 := Tryz.sizeOf0,
    v0 := Tryz.zeroValue0,
    t3 := Tryz.underlying3,
    a3 := Tryz.isAgg3,
    z3 := Tryz.sizeOf3,
    v3 := Tryz.zeroValue3,
    t4 := Tryz.underlying4,
    a4 := Tryz.isAgg4,
    z4 := Tryz.sizeOf4,
    v4 := Tryz.zeroValue4,
    t5 := Tryz.underlying5,
    a5 := Tryz.isAgg5,
    z5 := Tryz.sizeOf5,
    v5 := Tryz.zeroValue5,
    t9 := Tryz.underlying9,
    a9 := Tryz.isAgg9,
    z9 := Tryz.sizeOf9,
    v9 := Tryz.zeroValue9,
    t28 := Tryz.underlying22,
    a28 := Tryz.isAgg22,
    z28 := Tryz.sizeOf22,
    v28 := Tryz.zeroValue22,
    t46 := Tryz.underlying130,
    a46 := Tryz.isAgg130,
    z46 := Tryz.sizeOf130,
    v46 := Tryz.zeroValue130,
    t51 := Tryz.underlying149,
    a51 := Tryz.isAgg149,
    z51 := Tryz.sizeOf149,
    v51 := Tryz.zeroValue149,
    t53 := Tryz.underlying151,
    a53 := Tryz.isAgg151,
    z53 := Tryz.sizeOf151,
    v53 := Tryz.zeroValue151,
    t131 := Tryz.underlying44,
    a131 := Tryz.isAgg44,
    z131 := Tryz.sizeOf44,
    v131 := Tryz.zeroValue44,
    t182 := Tryz.underlying142,
    a182 := Tryz.isAgg142,
    z182 := Tryz.sizeOf142,
    v182 := Tryz.zeroValue142,
    t183 := Tryz.underlying143,
    a183 := Tryz.isAgg143,
    z183 := Tryz.sizeOf143,
    v183 := Tryz.zeroValue143,
    t218 := Tryz.underlying158,
    a218 := Tryz.isAgg158,
    z218 := Tryz.sizeOf158,
    v218 := Tryz.zeroValue158,
    t222 := Tryz.underlying162,
    a222 := Tryz.isAgg162,
    z222 := Tryz.sizeOf162,
    v222 := Tryz.zeroValue162,
    t228 := Tryz.underlying169,
    a228 := Tryz.isAgg169,
    z228 := Tryz.sizeOf169,
    v228 := Tryz.zeroValue169,
    t229 := Tryz.underlying123,
    a229 := Tryz.isAgg123,
    z229 := Tryz.sizeOf123,
    v229 := Tryz.zeroValue123 }
def zq3u : RowF := sortF 3
theorem zq3v : RowOk Tryz.prog 49 zq3u :=
  sort_rowok zq3t rfl ⟨_, Tryz.func49, by kernel_rfl, by kernel_rfl⟩

/-- pagewatch/order.in -/
abbrev zq3w := {β : Type} → Int → Int → Int → (Bool → Option β) → Option β
def zq3x (c : zq3w) : Spec :=
  ⟨[(false, [.data (.int .i64)]), (false, [.data (.int .i64)]), (false, [.data (.int .i64)])], [], [(false, [.data .bool])], [], fun x k => c x.1.1.1 x.1.2.1.1 x.1.2.2.1.1 (fun r0 => k (((r0, ()), ()), ()))⟩
section
@[reducible] def order_in_X : Ctx := ⟨look tab, pick1 [], false, false, false, false⟩
def zq3y {β : Type} (n : Int) (low : Int) (high : Int) (k : (Bool → Option β)) : Option β :=
  cond (decide (low ≤ n))
  (k (decide (n ≤ high)))
  (k false)
theorem zq3z (hΓ : ΓOk Tryz.prog order_in_X.Γ) : SpecOk Tryz.prog 50 (zq3x (zq3y)) :=
  spec_exec (X := order_in_X) (Λ := pick1 []) (rs := [.tmp 6]) (c := bodyOf Tryz.f50) mixed tab_ok hΓ Tryz.func50 (by kernel_rfl) (by kernel_rfl) (by kernel_rfl) (by kernel_rfl) CutsOk_nil (fun x k r h => Eq.trans (b := (zq3x (zq3y)).run x k) (by kernel_rfl) h)
end
theorem zq40Γ : ΓOk Tryz.prog (pick1 []) := ΓOk_nil
def zq41 : zq3w := zq3y
theorem zq42 : SpecOk Tryz.prog 50 (zq3x zq41) := zq3z zq40Γ

/-- pagewatch/order.Allows$1 -/
abbrev zq43 := {β : Type} → Int → (List (List Int)) → Int → (Bool → (List (List Int)) → Int → Option β) → Option β
def zq44 (c : zq43) : Spec :=
  ⟨[(false, [.data (.int .i64)]), (false, [.ptr 0 0]), (false, [.ptr 1 0])], [.cells 104 [.data (.slice (.slice (.int .i64)))], .cells 3 [.data (.int .i64)]], [(false, [.data .bool])], [.cells 104 [.data (.slice (.slice (.int .i64)))], .cells 3 [.data (.int .i64)]], fun x k => c x.1.1.1 x.2.1.1 x.2.2.1.1 (fun r0 r1 r2 => k (((r0, ()), ()), ((r1, ()), (r2, ()), ())))⟩
section
variable (c_order_matrix_before : zq3l)
@[reducible] def order_Allows_f1_X : Ctx := ⟨look tab, pick1 [(45, .spec (zq3m c_order_matrix_before))], false, false, false, false⟩
def zq45 {β : Type} (y : Int) (t1 : List (List Int)) (t2 : Int) (k : (Bool → (List (List Int)) → Int → Option β)) : Option β :=
  c_order_matrix_before t1 t2 y (fun (rbefore : Bool) =>
  k rbefore t1 t2)
theorem zq46 (hΓ : ΓOk Tryz.prog (order_Allows_f1_X c_order_matrix_before).Γ) : SpecOk Tryz.prog 53 (zq44 (zq45 c_order_matrix_before)) :=
  spec_exec (X := (order_Allows_f1_X c_order_matrix_before)) (Λ := pick1 []) (rs := [.tmp 4]) (c := bodyOf Tryz.f53) mixed tab_ok hΓ Tryz.func53 (by kernel_rfl) (by kernel_rfl) (by kernel_rfl) (by kernel_rfl) CutsOk_nil (fun x k r h => Eq.trans (b := (zq44 (zq45 c_order_matrix_before)).run x k) (by kernel_rfl) h)
end
theorem zq47Γ : ΓOk Tryz.prog (pick1 [(45, .spec (zq3m zq3q))]) := (ΓOk_cons zq3r ΓOk_nil)
def zq48 : zq43 := zq45 zq3q
theorem zq49 : SpecOk Tryz.prog 53 (zq44 zq48) := zq46 zq3q zq47Γ

/-- pagewatch/clock.in -/
abbrev zq4a := {β : Type} → Int → Int → Int → (Bool → Option β) → Option β
def zq4b (c : zq4a) : Spec :=
  ⟨[(false, [.data (.int .i64)]), (false, [.data (.int .i64)]), (false, [.data (.int .i64)])], [], [(false, [.data .bool])], [], fun x k => c x.1.1.1 x.1.2.1.1 x.1.2.2.1.1 (fun r0 => k (((r0, ()), ()), ()))⟩
section
@[reducible] def clock_in_X : Ctx := ⟨look tab, pick1 [], false, false, false, false⟩
def zq4c {β : Type} (n : Int) (low : Int) (high : Int) (k : (Bool → Option β)) : Option β :=
  cond (decide (low ≤ n))
  (k (decide (n ≤ high)))
  (k false)
theorem zq4d (hΓ : ΓOk Tryz.prog clock_in_X.Γ) : SpecOk Tryz.prog 55 (zq4b (zq4c)) :=
  spec_exec (X := clock_in_X) (Λ := pick1 []) (rs := [.tmp 6]) (c := bodyOf Tryz.f55) mixed tab_ok hΓ Tryz.func55 (by kernel_rfl) (by kernel_rfl) (by kernel_rfl) (by kernel_rfl) CutsOk_nil (fun x k r h => Eq.trans (b := (zq4b (zq4c)).run x k) (by kernel_rfl) h)
end
theorem zq4eΓ : ΓOk Tryz.prog (pick1 []) := ΓOk_nil
def zq4f : zq4a := zq4c
theorem zq4g : SpecOk Tryz.prog 55 (zq4b zq4f) := zq4d zq4eΓ

/-- pagewatch/clock.instant -/
abbrev zq4h := {β : Type} → Int → (Bool → Option β) → Option β
def zq4i (c : zq4h) : Spec :=
  ⟨[(false, [.data (.int .i64)])], [], [(false, [.data .bool])], [], fun x k => c x.1.1.1 (fun r0 => k (((r0, ()), ()), ()))⟩
section
variable (c_clock_in : zq4a)
@[reducible] def clock_instant_X : Ctx := ⟨look tab, pick1 [(55, .spec (zq4b c_clock_in))], false, false, false, false⟩
def zq4j {β : Type} (n : Int) (k : (Bool → Option β)) : Option β :=
  c_clock_in n (0 : Int) (8589934592 : Int) (fun (rin : Bool) =>
  k rin)
theorem zq4k (hΓ : ΓOk Tryz.prog (clock_instant_X c_clock_in).Γ) : SpecOk Tryz.prog 57 (zq4i (zq4j c_clock_in)) :=
  spec_exec (X := (clock_instant_X c_clock_in)) (Λ := pick1 []) (rs := [.tmp 2]) (c := bodyOf Tryz.f57) mixed tab_ok hΓ Tryz.func57 (by kernel_rfl) (by kernel_rfl) (by kernel_rfl) (by kernel_rfl) CutsOk_nil (fun x k r h => Eq.trans (b := (zq4i (zq4j c_clock_in)).run x k) (by kernel_rfl) h)
end
theorem zq4lΓ : ΓOk Tryz.prog (pick1 [(55, .spec (zq4b zq4f))]) := (ΓOk_cons zq4g ΓOk_nil)
def zq4m : zq4h := zq4j zq4f
theorem zq4n : SpecOk Tryz.prog 57 (zq4i zq4m) := zq4k zq4f zq4lΓ

/-- slices.Clone[[]pagewatch/api.Host,pagewatch/api.Host] -/
abbrev zq4o := {β : Type} → (List (List UInt8 × Int)) → ((List (List UInt8 × Int)) → Option β) → Option β
def zq4p (c : zq4o) : Spec :=
  ⟨[(false, [.data (.slice (.prod .str (.int .i64)))])], [], [(false, [.rowh 0])], [.row 62 (.prod .str (.int .i64))], fun x k => c x.1.1.1 (fun r0 => k (((), ()), (r0, ())))⟩
def zq4q : zq4o := fun l k => cloneF (.prod .str (.int .i64)) 24 l k
theorem zq4r : SpecOk Tryz.prog 58 (zq4p zq4q) :=
  clone_ok (et := 62) (e := (.prod .str (.int .i64))) (bytes := 24) (by kernel_rfl)
    (spec_exec (X := ⟨look tab, pick1 [], false, false, false, false⟩) (Λ := pick1 []) (rs := [.tmp 2]) (c := bodyOf Tryz.f58) mixed tab_ok ΓOk_nil Tryz.func58 (by kernel_rfl) (by kernel_rfl) (by kernel_rfl) (by kernel_rfl) CutsOk_nil (fun x k r h => Eq.trans (b := (clone1S 62 (.prod .str (.int .i64)) 24).run x k) (by kernel_rfl) h))
    (spec_exec (X := ⟨look tab, pick1 [], false, false, false, false⟩) (Λ := pick1 []) (rs := [.tmp 2]) (c := bodyOf Tryz.f58) mixed tab_ok ΓOk_nil Tryz.func58 (by kernel_rfl) (by kernel_rfl) (by kernel_rfl) (by kernel_rfl) CutsOk_nil (fun x k r h => Eq.trans (b := (clone2S 62 (.prod .str (.int .i64))).run x k) (by kernel_rfl) h))

/-- slices.Clone[[]pagewatch/api.Sync,pagewatch/api.Sync] -/
abbrev zq4s := {β : Type} → (List (Int × (Int × (Int × Int)))) → ((List (Int × (Int × (Int × Int)))) → Option β) → Option β
def zq4t (c : zq4s) : Spec :=
  ⟨[(false, [.data (.slice (.prod (.int .i64) (.prod (.int .i64) (.prod (.int .i64) (.int .i64)))))])], [], [(false, [.rowh 0])], [.row 64 (.prod (.int .i64) (.prod (.int .i64) (.prod (.int .i64) (.int .i64))))], fun x k => c x.1.1.1 (fun r0 => k (((), ()), (r0, ())))⟩
def zq4u : zq4s := fun l k => cloneF (.prod (.int .i64) (.prod (.int .i64) (.prod (.int .i64) (.int .i64)))) 32 l k
theorem zq4v : SpecOk Tryz.prog 59 (zq4t zq4u) :=
  clone_ok (et := 64) (e := (.prod (.int .i64) (.prod (.int .i64) (.prod (.int .i64) (.int .i64))))) (bytes := 32) (by kernel_rfl)
    (spec_exec (X := ⟨look tab, pick1 [], false, false, false, false⟩) (Λ := pick1 []) (rs := [.tmp 2]) (c := bodyOf Tryz.f59) mixed tab_ok ΓOk_nil Tryz.func59 (by kernel_rfl) (by kernel_rfl) (by kernel_rfl) (by kernel_rfl) CutsOk_nil (fun x k r h => Eq.trans (b := (clone1S 64 (.prod (.int .i64) (.prod (.int .i64) (.prod (.int .i64) (.int .i64)))) 32).run x k) (by kernel_rfl) h))
    (spec_exec (X := ⟨look tab, pick1 [], false, false, false, false⟩) (Λ := pick1 []) (rs := [.tmp 2]) (c := bodyOf Tryz.f59) mixed tab_ok ΓOk_nil Tryz.func59 (by kernel_rfl) (by kernel_rfl) (by kernel_rfl) (by kernel_rfl) CutsOk_nil (fun x k r h => Eq.trans (b := (clone2S 64 (.prod (.int .i64) (.prod (.int .i64) (.prod (.int .i64) (.int .i64))))).run x k) (by kernel_rfl) h))

/-- slices.Clone[[]pagewatch/api.Event,pagewatch/api.Event] -/
abbrev zq4w := {β : Type} → (List zq0) → ((List zq0) → Option β) → Option β
def zq4x (c : zq4w) : Spec :=
  ⟨[(false, [.data (.slice zq1)])], [], [(false, [.rowh 0])], [.row 60 zq1], fun x k => c x.1.1.1 (fun r0 => k (((), ()), (r0, ())))⟩
def zq4y : zq4w := fun l k => cloneF zq1 32 l k
theorem zq4z : SpecOk Tryz.prog 60 (zq4x zq4y) :=
  clone_ok (et := 60) (e := zq1) (bytes := 32) (by kernel_rfl)
    (spec_exec (X := ⟨look tab, pick1 [], false, false, false, false⟩) (Λ := pick1 []) (rs := [.tmp 2]) (c := bodyOf Tryz.f60) mixed tab_ok ΓOk_nil Tryz.func60 (by kernel_rfl) (by kernel_rfl) (by kernel_rfl) (by kernel_rfl) CutsOk_nil (fun x k r h => Eq.trans (b := (clone1S 60 zq1 32).run x k) (by kernel_rfl) h))
    (spec_exec (X := ⟨look tab, pick1 [], false, false, false, false⟩) (Λ := pick1 []) (rs := [.tmp 2]) (c := bodyOf Tryz.f60) mixed tab_ok ΓOk_nil Tryz.func60 (by kernel_rfl) (by kernel_rfl) (by kernel_rfl) (by kernel_rfl) CutsOk_nil (fun x k r h => Eq.trans (b := (clone2S 60 zq1).run x k) (by kernel_rfl) h))

/-- slices.Clone[[]pagewatch/api.Link,pagewatch/api.Link] -/
abbrev zq50 := {β : Type} → (List (Int × (Int × Int))) → ((List (Int × (Int × Int))) → Option β) → Option β
def zq51 (c : zq50) : Spec :=
  ⟨[(false, [.data (.slice (.prod (.int .i64) (.prod (.int .i64) (.int .i64))))])], [], [(false, [.rowh 0])], [.row 73 (.prod (.int .i64) (.prod (.int .i64) (.int .i64)))], fun x k => c x.1.1.1 (fun r0 => k (((), ()), (r0, ())))⟩
def zq52 : zq50 := fun l k => cloneF (.prod (.int .i64) (.prod (.int .i64) (.int .i64))) 24 l k
theorem zq53 : SpecOk Tryz.prog 61 (zq51 zq52) :=
  clone_ok (et := 73) (e := (.prod (.int .i64) (.prod (.int .i64) (.int .i64)))) (bytes := 24) (by kernel_rfl)
    (spec_exec (X := ⟨look tab, pick1 [], false, false, false, false⟩) (Λ := pick1 []) (rs := [.tmp 2]) (c := bodyOf Tryz.f61) mixed tab_ok ΓOk_nil Tryz.func61 (by kernel_rfl) (by kernel_rfl) (by kernel_rfl) (by kernel_rfl) CutsOk_nil (fun x k r h => Eq.trans (b := (clone1S 73 (.prod (.int .i64) (.prod (.int .i64) (.int .i64))) 24).run x k) (by kernel_rfl) h))
    (spec_exec (X := ⟨look tab, pick1 [], false, false, false, false⟩) (Λ := pick1 []) (rs := [.tmp 2]) (c := bodyOf Tryz.f61) mixed tab_ok ΓOk_nil Tryz.func61 (by kernel_rfl) (by kernel_rfl) (by kernel_rfl) (by kernel_rfl) CutsOk_nil (fun x k r h => Eq.trans (b := (clone2S 73 (.prod (.int .i64) (.prod (.int .i64) (.int .i64)))).run x k) (by kernel_rfl) h))

/-- pagewatch/pagewatchref38.Valid -/
abbrev zq54 := {β : Type} → zq2 → (Bool → Option β) → Option β
def zq55 (c : zq54) : Spec :=
  ⟨[(true, [.data zq3])], [], [(false, [.data .bool])], [], fun x k => c x.1.1.1 (fun r0 => k (((r0, ()), ()), ()))⟩
noncomputable def ref38_Valid_p1_code : Code := codeAt 58 (bodyOf Tryz.f62)
noncomputable def ref38_Valid_p2_code : Code := codeAt 122 (bodyOf Tryz.f62)
noncomputable def ref38_Valid_p3_code : Code := codeAt 250 (bodyOf Tryz.f62)
noncomputable def ref38_Valid_p4_code : Code := codeAt 506 (bodyOf Tryz.f62)
abbrev zq56 (β : Type) := Bool → Option β
abbrev zq57 (β : Type) := (List (List UInt8 × Int)) → (List (Int × (Int × (Int × Int)))) → (List zq0) → (List (Int × (Int × Int))) → Option β
abbrev zq58 := {β : Type} → zq56 β → zq57 β → Int → (List (List UInt8 × Int)) → (List (Int × (Int × (Int × Int)))) → (List zq0) → (List (Int × (Int × Int))) → Option β
def zq59 : View := ⟨0, [1, 3], [(false, [.ptr 0 0]), (false, [.data (.int .i64)])], [.cells 32 [.data (.slice (.prod .str (.int .i64))), .data (.slice (.prod (.int .i64) (.prod (.int .i64) (.prod (.int .i64) (.int .i64))))), .data (.slice zq1), .data (.slice (.prod (.int .i64) (.prod (.int .i64) (.int .i64))))]]⟩
def zq5a : List (AExit × View) := [(.ret, ⟨0, [2], [(false, [.data .bool])], []⟩), (.exit 0, ⟨0, [1], [(false, [.ptr 0 0])], [.cells 32 [.data (.slice (.prod .str (.int .i64))), .data (.slice (.prod (.int .i64) (.prod (.int .i64) (.prod (.int .i64) (.int .i64))))), .data (.slice zq1), .data (.slice (.prod (.int .i64) (.prod (.int .i64) (.int .i64))))]]⟩)]
@[reducible] def ref38_Valid_p1_G (p : zq58) {β : Type} (d : zq59.den) (ks : Outs.K β zq5a) : Option β :=
  p (fun a0 => ks.1 (((a0, ()), ()), ())) (fun a0 a1 a2 a3 => ks.2.1 (((), ()), ((a0, a1, a2, a3, ()), ()))) d.1.2.1.1 d.2.1.1 d.2.1.2.1 d.2.1.2.2.1 d.2.1.2.2.2.1
abbrev zq5b (β : Type) := Bool → Option β
abbrev zq5c (β : Type) := (List (List UInt8 × Int)) → (List (Int × (Int × (Int × Int)))) → (List zq0) → (List (Int × (Int × Int))) → Option β
abbrev zq5d := {β : Type} → zq5b β → zq5c β → Int → (List (List UInt8 × Int)) → (List (Int × (Int × (Int × Int)))) → (List zq0) → (List (Int × (Int × Int))) → Option β
def zq5e : View := ⟨0, [1, 4], [(false, [.ptr 0 0]), (false, [.data (.int .i64)])], [.cells 32 [.data (.slice (.prod .str (.int .i64))), .data (.slice (.prod (.int .i64) (.prod (.int .i64) (.prod (.int .i64) (.int .i64))))), .data (.slice zq1), .data (.slice (.prod (.int .i64) (.prod (.int .i64) (.int .i64))))]]⟩
def zq5f : List (AExit × View) := [(.ret, ⟨0, [2], [(false, [.data .bool])], []⟩), (.exit 2, ⟨0, [1], [(false, [.ptr 0 0])], [.cells 32 [.data (.slice (.prod .str (.int .i64))), .data (.slice (.prod (.int .i64) (.prod (.int .i64) (.prod (.int .i64) (.int .i64))))), .data (.slice zq1), .data (.slice (.prod (.int .i64) (.prod (.int .i64) (.int .i64))))]]⟩)]
@[reducible] def ref38_Valid_p2_G (p : zq5d) {β : Type} (d : zq5e.den) (ks : Outs.K β zq5f) : Option β :=
  p (fun a0 => ks.1 (((a0, ()), ()), ())) (fun a0 a1 a2 a3 => ks.2.1 (((), ()), ((a0, a1, a2, a3, ()), ()))) d.1.2.1.1 d.2.1.1 d.2.1.2.1 d.2.1.2.2.1 d.2.1.2.2.2.1
abbrev zq5g (β : Type) := Bool → Option β
abbrev zq5h (β : Type) := (List (List UInt8 × Int)) → (List (Int × (Int × (Int × Int)))) → (List zq0) → (List (Int × (Int × Int))) → Option β
abbrev zq5i := {β : Type} → zq5g β → zq5h β → Int → (List (List UInt8 × Int)) → (List (Int × (Int × (Int × Int)))) → (List zq0) → (List (Int × (Int × Int))) → Option β
def zq5j : View := ⟨0, [1, 6], [(false, [.ptr 0 0]), (false, [.data (.int .i64)])], [.cells 32 [.data (.slice (.prod .str (.int .i64))), .data (.slice (.prod (.int .i64) (.prod (.int .i64) (.prod (.int .i64) (.int .i64))))), .data (.slice zq1), .data (.slice (.prod (.int .i64) (.prod (.int .i64) (.int .i64))))]]⟩
def zq5k : List (AExit × View) := [(.ret, ⟨0, [2], [(false, [.data .bool])], []⟩), (.exit 4, ⟨0, [1], [(false, [.ptr 0 0])], [.cells 32 [.data (.slice (.prod .str (.int .i64))), .data (.slice (.prod (.int .i64) (.prod (.int .i64) (.prod (.int .i64) (.int .i64))))), .data (.slice zq1), .data (.slice (.prod (.int .i64) (.prod (.int .i64) (.int .i64))))]]⟩)]
@[reducible] def ref38_Valid_p3_G (p : zq5i) {β : Type} (d : zq5j.den) (ks : Outs.K β zq5k) : Option β :=
  p (fun a0 => ks.1 (((a0, ()), ()), ())) (fun a0 a1 a2 a3 => ks.2.1 (((), ()), ((a0, a1, a2, a3, ()), ()))) d.1.2.1.1 d.2.1.1 d.2.1.2.1 d.2.1.2.2.1 d.2.1.2.2.2.1
abbrev zq5l (β : Type) := Bool → Option β
abbrev zq5m (β : Type) := Unit → Option β
abbrev zq5n := {β : Type} → zq5l β → zq5m β → Int → (List (List UInt8 × Int)) → (List (Int × (Int × (Int × Int)))) → (List zq0) → (List (Int × (Int × Int))) → Option β
def zq5o : View := ⟨0, [1, 8], [(false, [.ptr 0 0]), (false, [.data (.int .i64)])], [.cells 32 [.data (.slice (.prod .str (.int .i64))), .data (.slice (.prod (.int .i64) (.prod (.int .i64) (.prod (.int .i64) (.int .i64))))), .data (.slice zq1), .data (.slice (.prod (.int .i64) (.prod (.int .i64) (.int .i64))))]]⟩
def zq5p : List (AExit × View) := [(.ret, ⟨0, [2], [(false, [.data .bool])], []⟩), (.exit 6, ⟨0, [], [], []⟩)]
@[reducible] def ref38_Valid_p4_G (p : zq5n) {β : Type} (d : zq5o.den) (ks : Outs.K β zq5p) : Option β :=
  p (fun a0 => ks.1 (((a0, ()), ()), ())) (fun _ => ks.2.1 ((), ())) d.1.2.1.1 d.2.1.1 d.2.1.2.1 d.2.1.2.2.1 d.2.1.2.2.2.1
section
variable (c_ref25_In : zq1z)
@[reducible] def ref38_Valid_X : Ctx := ⟨look tab, pick1 [(31, .spec (zq20 c_ref25_In))], false, false, false, false⟩
def zq5q {β : Type} (rec : Int → (List (List UInt8 × Int)) → (List (Int × (Int × (Int × Int)))) → (List zq0) → (List (Int × (Int × Int))) → Option β) (k1 : zq56 β) (k2 : zq57 β) (i_ : Int) (r_ : List (List UInt8 × Int)) (r_2 : List (Int × (Int × (Int × Int)))) (r_3 : List zq0) (r_4 : List (Int × (Int × Int))) : Option β :=
  cond (decide (i_ < (List.length r_ : Int)))
  (cond (decide (0 ≤ i_) && decide (i_ < (List.length r_ : Int)))
  (let e : (List UInt8 × Int) := List.getD r_ (Int.toNat i_) (([] : List UInt8), (0 : Int));
  c_ref25_In e.2 (0 : Int) (500000 : Int) (fun (rIn : Bool) =>
  cond (!rIn)
  (k1 false)
  (let i_2 : Int := (IntKind.i64.wrap (i_ + (1 : Int)));
  rec i_2 r_ r_2 r_3 r_4)))
  none)
  (k2 r_ r_2 r_3 r_4)
def zq5r {β : Type} : Nat → zq56 β → zq57 β → Int → (List (List UInt8 × Int)) → (List (Int × (Int × (Int × Int)))) → (List zq0) → (List (Int × (Int × Int))) → Option β
  | 0 => fun _ _ _ _ _ _ _ => none
  | i + 1 => fun k1 k2 i_ r_ r_2 r_3 r_4 => zq5q c_ref25_In (zq5r i k1 k2) k1 k2 i_ r_ r_2 r_3 r_4
theorem zq5s (hΓ : ΓOk Tryz.prog (ref38_Valid_X c_ref25_In).Γ) (i : Nat) : PieceOk Tryz.prog 155 0 ref38_Valid_p1_code zq59 zq5a (ref38_Valid_p1_G (zq5r c_ref25_In i)) := by
  rw [show ref38_Valid_p1_code = .loop (loopBody ref38_Valid_p1_code) by kernel_rfl]
  exact piece_loop (X := (ref38_Valid_X c_ref25_In)) (p := 1) (Λ := pick1 []) (G := fun i => @fun β d ks => ref38_Valid_p1_G (zq5r c_ref25_In i) d ks) mixed tab_ok hΓ rfl (by kernel_rfl) CutsOk_nil (fun _ _ => rfl) (fun i => @fun β d ks r h => Eq.trans (b := ref38_Valid_p1_G (zq5r c_ref25_In (i + 1)) d ks) (by kernel_rfl) h) i
def zq5t {β : Type} (rec : Int → (List (List UInt8 × Int)) → (List (Int × (Int × (Int × Int)))) → (List zq0) → (List (Int × (Int × Int))) → Option β) (k1 : zq5b β) (k2 : zq5c β) (i_ : Int) (r_ : List (List UInt8 × Int)) (r_2 : List (Int × (Int × (Int × Int)))) (r_3 : List zq0) (r_4 : List (Int × (Int × Int))) : Option β :=
  cond (decide (i_ < (List.length r_2 : Int)))
  (cond (decide (0 ≤ i_) && decide (i_ < (List.length r_2 : Int)))
  (let e : (Int × (Int × (Int × Int))) := List.getD r_2 (Int.toNat i_) ((0 : Int), ((0 : Int), ((0 : Int), (0 : Int))));
  c_ref25_In e.1 (0 : Int) (IntKind.i64.wrap ((List.length r_ : Int) - (1 : Int))) (fun (rIn : Bool) =>
  cond (!rIn)
  (k1 false)
  (c_ref25_In e.2.1 (0 : Int) (8589934592 : Int) (fun (rIn2 : Bool) =>
  cond (!rIn2)
  (k1 false)
  (c_ref25_In e.2.2.1 (0 : Int) e.2.2.2 (fun (rIn3 : Bool) =>
  cond (!rIn3)
  (k1 false)
  (cond (decide ((8589934592 : Int) < e.2.2.2))
  (k1 false)
  (let i_2 : Int := (IntKind.i64.wrap (i_ + (1 : Int)));
  rec i_2 r_ r_2 r_3 r_4))))))))
  none)
  (k2 r_ r_2 r_3 r_4)
def zq5u {β : Type} : Nat → zq5b β → zq5c β → Int → (List (List UInt8 × Int)) → (List (Int × (Int × (Int × Int)))) → (List zq0) → (List (Int × (Int × Int))) → Option β
  | 0 => fun _ _ _ _ _ _ _ => none
  | i + 1 => fun k1 k2 i_ r_ r_2 r_3 r_4 => zq5t c_ref25_In (zq5u i k1 k2) k1 k2 i_ r_ r_2 r_3 r_4
theorem zq5v (hΓ : ΓOk Tryz.prog (ref38_Valid_X c_ref25_In).Γ) (i : Nat) : PieceOk Tryz.prog 155 0 ref38_Valid_p2_code zq5e zq5f (ref38_Valid_p2_G (zq5u c_ref25_In i)) := by
  rw [show ref38_Valid_p2_code = .loop (loopBody ref38_Valid_p2_code) by kernel_rfl]
  exact piece_loop (X := (ref38_Valid_X c_ref25_In)) (p := 1) (Λ := pick1 []) (G := fun i => @fun β d ks => ref38_Valid_p2_G (zq5u c_ref25_In i) d ks) mixed tab_ok hΓ rfl (by kernel_rfl) CutsOk_nil (fun _ _ => rfl) (fun i => @fun β d ks r h => Eq.trans (b := ref38_Valid_p2_G (zq5u c_ref25_In (i + 1)) d ks) (by kernel_rfl) h) i
def zq5w {β : Type} (rec : Int → (List (List UInt8 × Int)) → (List (Int × (Int × (Int × Int)))) → (List zq0) → (List (Int × (Int × Int))) → Option β) (k1 : zq5g β) (k2 : zq5h β) (i_ : Int) (r_ : List (List UInt8 × Int)) (r_2 : List (Int × (Int × (Int × Int)))) (r_3 : List zq0) (r_4 : List (Int × (Int × Int))) : Option β :=
  cond (decide (i_ < (List.length r_3 : Int)))
  (cond (decide (0 ≤ i_) && decide (i_ < (List.length r_3 : Int)))
  (let e : zq0 := List.getD r_3 (Int.toNat i_) ((0 : Int), ((0 : Int), ([] : List UInt8)));
  c_ref25_In e.1 (0 : Int) (IntKind.i64.wrap ((List.length r_ : Int) - (1 : Int))) (fun (rIn : Bool) =>
  cond (!rIn)
  (k1 false)
  (c_ref25_In e.2.1 (0 : Int) (8589934592 : Int) (fun (rIn2 : Bool) =>
  cond (!rIn2)
  (k1 false)
  (let i_2 : Int := (IntKind.i64.wrap (i_ + (1 : Int)));
  rec i_2 r_ r_2 r_3 r_4)))))
  none)
  (k2 r_ r_2 r_3 r_4)
def zq5x {β : Type} : Nat → zq5g β → zq5h β → Int → (List (List UInt8 × Int)) → (List (Int × (Int × (Int × Int)))) → (List zq0) → (List (Int × (Int × Int))) → Option β
  | 0 => fun _ _ _ _ _ _ _ => none
  | i + 1 => fun k1 k2 i_ r_ r_2 r_3 r_4 => zq5w c_ref25_In (zq5x i k1 k2) k1 k2 i_ r_ r_2 r_3 r_4
theorem zq5y (hΓ : ΓOk Tryz.prog (ref38_Valid_X c_ref25_In).Γ) (i : Nat) : PieceOk Tryz.prog 155 0 ref38_Valid_p3_code zq5j zq5k (ref38_Valid_p3_G (zq5x c_ref25_In i)) := by
  rw [show ref38_Valid_p3_code = .loop (loopBody ref38_Valid_p3_code) by kernel_rfl]
  exact piece_loop (X := (ref38_Valid_X c_ref25_In)) (p := 1) (Λ := pick1 []) (G := fun i => @fun β d ks => ref38_Valid_p3_G (zq5x c_ref25_In i) d ks) mixed tab_ok hΓ rfl (by kernel_rfl) CutsOk_nil (fun _ _ => rfl) (fun i => @fun β d ks r h => Eq.trans (b := ref38_Valid_p3_G (zq5x c_ref25_In (i + 1)) d ks) (by kernel_rfl) h) i
def zq5z {β : Type} (rec : Int → (List (List UInt8 × Int)) → (List (Int × (Int × (Int × Int)))) → (List zq0) → (List (Int × (Int × Int))) → Option β) (k1 : zq5l β) (k2 : zq5m β) (i_ : Int) (r_ : List (List UInt8 × Int)) (r_2 : List (Int × (Int × (Int × Int)))) (r_3 : List zq0) (r_4 : List (Int × (Int × Int))) : Option β :=
  cond (decide (i_ < (List.length r_4 : Int)))
  (cond (decide (0 ≤ i_) && decide (i_ < (List.length r_4 : Int)))
  (let e : (Int × (Int × Int)) := List.getD r_4 (Int.toNat i_) ((0 : Int), ((0 : Int), (0 : Int)));
  c_ref25_In e.1 (0 : Int) (IntKind.i64.wrap ((List.length r_3 : Int) - (1 : Int))) (fun (rIn : Bool) =>
  cond (!rIn)
  (k1 false)
  (c_ref25_In e.2.1 (0 : Int) (IntKind.i64.wrap ((List.length r_3 : Int) - (1 : Int))) (fun (rIn2 : Bool) =>
  cond (!rIn2)
  (k1 false)
  (cond (decide (e.1 = e.2.1))
  (k1 false)
  (c_ref25_In e.2.2 (0 : Int) (8589934592 : Int) (fun (rIn3 : Bool) =>
  cond (!rIn3)
  (k1 false)
  (let i_2 : Int := (IntKind.i64.wrap (i_ + (1 : Int)));
  rec i_2 r_ r_2 r_3 r_4))))))))
  none)
  (k2 ())
def zq60 {β : Type} : Nat → zq5l β → zq5m β → Int → (List (List UInt8 × Int)) → (List (Int × (Int × (Int × Int)))) → (List zq0) → (List (Int × (Int × Int))) → Option β
  | 0 => fun _ _ _ _ _ _ _ => none
  | i + 1 => fun k1 k2 i_ r_ r_2 r_3 r_4 => zq5z c_ref25_In (zq60 i k1 k2) k1 k2 i_ r_ r_2 r_3 r_4
theorem zq61 (hΓ : ΓOk Tryz.prog (ref38_Valid_X c_ref25_In).Γ) (i : Nat) : PieceOk Tryz.prog 155 0 ref38_Valid_p4_code zq5o zq5p (ref38_Valid_p4_G (zq60 c_ref25_In i)) := by
  rw [show ref38_Valid_p4_code = .loop (loopBody ref38_Valid_p4_code) by kernel_rfl]
  exact piece_loop (X := (ref38_Valid_X c_ref25_In)) (p := 1) (Λ := pick1 []) (G := fun i => @fun β d ks => ref38_Valid_p4_G (zq60 c_ref25_In i) d ks) mixed tab_ok hΓ rfl (by kernel_rfl) CutsOk_nil (fun _ _ => rfl) (fun i => @fun β d ks r h => Eq.trans (b := ref38_Valid_p4_G (zq60 c_ref25_In (i + 1)) d ks) (by kernel_rfl) h) i
def zq62 (p1 : zq58) (p2 : zq5d) (p3 : zq5i) (p4 : zq5n) {β : Type} (r_ : zq2) (k : (Bool → Option β)) : Option β :=
  cond (decide ((8 : Int) < (List.length r_.1 : Int)))
  (k false)
  (cond (decide ((64 : Int) < (List.length r_.2.1 : Int)))
  (k false)
  (cond (decide ((40 : Int) < (List.length r_.2.2.1 : Int)))
  (k false)
  (cond (decide ((64 : Int) < (List.length r_.2.2.2 : Int)))
  (k false)
  (p1 (fun (t2 : Bool) =>
  k t2) (fun (r_2 : List (List UInt8 × Int)) (r_3 : List (Int × (Int × (Int × Int)))) (r_4 : List zq0) (r_5 : List (Int × (Int × Int))) =>
  p2 (fun (t2 : Bool) =>
  k t2) (fun (r_6 : List (List UInt8 × Int)) (r_7 : List (Int × (Int × (Int × Int)))) (r_8 : List zq0) (r_9 : List (Int × (Int × Int))) =>
  p3 (fun (t2 : Bool) =>
  k t2) (fun (r_10 : List (List UInt8 × Int)) (r_11 : List (Int × (Int × (Int × Int)))) (r_12 : List zq0) (r_13 : List (Int × (Int × Int))) =>
  p4 (fun (t2 : Bool) =>
  k t2) (fun (_ : Unit) =>
  k true) (0 : Int) r_10 r_11 r_12 r_13) (0 : Int) r_6 r_7 r_8 r_9) (0 : Int) r_2 r_3 r_4 r_5) (0 : Int) r_.1 r_.2.1 r_.2.2.1 r_.2.2.2))))
theorem zq63 (hΓ : ΓOk Tryz.prog (ref38_Valid_X c_ref25_In).Γ) (p1 : zq58) (p2 : zq5d) (p3 : zq5i) (p4 : zq5n) (hp1 : PieceOk Tryz.prog 155 0 ref38_Valid_p1_code zq59 zq5a (ref38_Valid_p1_G p1)) (hp2 : PieceOk Tryz.prog 155 0 ref38_Valid_p2_code zq5e zq5f (ref38_Valid_p2_G p2)) (hp3 : PieceOk Tryz.prog 155 0 ref38_Valid_p3_code zq5j zq5k (ref38_Valid_p3_G p3)) (hp4 : PieceOk Tryz.prog 155 0 ref38_Valid_p4_code zq5o zq5p (ref38_Valid_p4_G p4)) : SpecOk Tryz.prog 62 (zq55 (zq62 p1 p2 p3 p4)) :=
  spec_exec (X := (ref38_Valid_X c_ref25_In)) (Λ := pick1 [(58, pieceCut zq59 zq5a (ref38_Valid_p1_G p1)), (122, pieceCut zq5e zq5f (ref38_Valid_p2_G p2)), (250, pieceCut zq5j zq5k (ref38_Valid_p3_G p3)), (506, pieceCut zq5o zq5p (ref38_Valid_p4_G p4))]) (rs := [.tmp 2]) (c := bodyOf Tryz.f62) mixed tab_ok hΓ Tryz.func62 (by kernel_rfl) (by kernel_rfl) (by kernel_rfl) (by kernel_rfl) (CutsOk_cons (q := 58) (c' := ref38_Valid_p1_code) (by kernel_rfl) rfl hp1 (CutsOk_cons (q := 122) (c' := ref38_Valid_p2_code) (by kernel_rfl) rfl hp2 (CutsOk_cons (q := 250) (c' := ref38_Valid_p3_code) (by kernel_rfl) rfl hp3 (CutsOk_cons (q := 506) (c' := ref38_Valid_p4_code) (by kernel_rfl) rfl hp4 CutsOk_nil)))) (fun x k r h => Eq.trans (b := (zq55 (zq62 p1 p2 p3 p4)).run x k) (by kernel_rfl) h)
end
theorem zq64Γ : ΓOk Tryz.prog (pick1 [(31, .spec (zq20 zq24))]) := (ΓOk_cons zq25 ΓOk_nil)
def zq65 (m : Nat) : zq58 := zq5r zq24 m
theorem zq66 {β : Type} (i : Nat) (k1 k2 i_ r_ r_2 r_3 r_4) : (zq65 (i + 1) k1 k2 i_ r_ r_2 r_3 r_4 : Option β) = zq5q zq24 (zq65 i k1 k2) k1 k2 i_ r_ r_2 r_3 r_4 := rfl
def zq67 : zq58 := zq65 fuel
theorem zq68 : PieceOk Tryz.prog 155 0 ref38_Valid_p1_code zq59 zq5a (ref38_Valid_p1_G zq67) := zq5s zq24 zq64Γ fuel
def zq69 (m : Nat) : zq5d := zq5u zq24 m
theorem zq6a {β : Type} (i : Nat) (k1 k2 i_ r_ r_2 r_3 r_4) : (zq69 (i + 1) k1 k2 i_ r_ r_2 r_3 r_4 : Option β) = zq5t zq24 (zq69 i k1 k2) k1 k2 i_ r_ r_2 r_3 r_4 := rfl
def zq6b : zq5d := zq69 fuel
theorem zq6c : PieceOk Tryz.prog 155 0 ref38_Valid_p2_code zq5e zq5f (ref38_Valid_p2_G zq6b) := zq5v zq24 zq64Γ fuel
def zq6d (m : Nat) : zq5i := zq5x zq24 m
theorem zq6e {β : Type} (i : Nat) (k1 k2 i_ r_ r_2 r_3 r_4) : (zq6d (i + 1) k1 k2 i_ r_ r_2 r_3 r_4 : Option β) = zq5w zq24 (zq6d i k1 k2) k1 k2 i_ r_ r_2 r_3 r_4 := rfl
def zq6f : zq5i := zq6d fuel
theorem zq6g : PieceOk Tryz.prog 155 0 ref38_Valid_p3_code zq5j zq5k (ref38_Valid_p3_G zq6f) := zq5y zq24 zq64Γ fuel
def zq6h (m : Nat) : zq5n := zq60 zq24 m
theorem zq6i {β : Type} (i : Nat) (k1 k2 i_ r_ r_2 r_3 r_4) : (zq6h (i + 1) k1 k2 i_ r_ r_2 r_3 r_4 : Option β) = zq5z zq24 (zq6h i k1 k2) k1 k2 i_ r_ r_2 r_3 r_4 := rfl
def zq6j : zq5n := zq6h fuel
theorem zq6k : PieceOk Tryz.prog 155 0 ref38_Valid_p4_code zq5o zq5p (ref38_Valid_p4_G zq6j) := zq61 zq24 zq64Γ fuel
def zq6l : zq54 := zq62 zq67 zq6b zq6f zq6j
theorem zq6m : SpecOk Tryz.prog 62 (zq55 zq6l) := zq63 zq24 zq64Γ zq67 zq6b zq6f zq6j zq68 zq6c zq6g zq6k

/-- pagewatch/pagewatchref38.Elapsed -/
abbrev zq6n := {β : Type} → Int → Int → (Int → Int → Option β) → Option β
def zq6o (c : zq6n) : Spec :=
  ⟨[(false, [.data (.int .i64)]), (false, [.data (.int .i64)])], [], [(false, [.data (.int .i64)]), (false, [.data (.int .i64)])], [], fun x k => c x.1.1.1 x.1.2.1.1 (fun r0 r1 => k (((r0, ()), (r1, ()), ()), ()))⟩
section
variable (c_ref25_In : zq1z)
@[reducible] def ref38_Elapsed_X : Ctx := ⟨look tab, pick1 [(31, .spec (zq20 c_ref25_In))], false, false, false, false⟩
def zq6p {β : Type} (drift : Int) (d : Int) (k : (Int → Int → Option β)) : Option β :=
  c_ref25_In drift (0 : Int) (500000 : Int) (fun (rIn : Bool) =>
  cond (!rIn)
  (k (0 : Int) (0 : Int))
  (c_ref25_In d (0 : Int) (8589934592 : Int) (fun (rIn2 : Bool) =>
  cond (!rIn2)
  (k (0 : Int) (0 : Int))
  (cond (!decide ((IntKind.i64.wrap ((1000000 : Int) + drift)) = 0))
  (cond (!decide ((IntKind.i64.wrap ((1000000 : Int) - drift)) = 0))
  (let low : Int := (IntKind.i64.wrap (Int.tdiv (IntKind.i64.wrap (d * (1000000 : Int))) (IntKind.i64.wrap ((1000000 : Int) + drift))));
  let high : Int := (IntKind.i64.wrap (Int.tdiv (IntKind.i64.wrap ((IntKind.i64.wrap ((IntKind.i64.wrap ((IntKind.i64.wrap (d * (1000000 : Int))) + (1000000 : Int))) - drift)) - (1 : Int))) (IntKind.i64.wrap ((1000000 : Int) - drift))));
  k low high)
  none)
  none))))
theorem zq6q (hΓ : ΓOk Tryz.prog (ref38_Elapsed_X c_ref25_In).Γ) : SpecOk Tryz.prog 64 (zq6o (zq6p c_ref25_In)) :=
  spec_exec (X := (ref38_Elapsed_X c_ref25_In)) (Λ := pick1 []) (rs := [.tmp 4, .tmp 5]) (c := bodyOf Tryz.f64) mixed tab_ok hΓ Tryz.func64 (by kernel_rfl) (by kernel_rfl) (by kernel_rfl) (by kernel_rfl) CutsOk_nil (fun x k r h => Eq.trans (b := (zq6o (zq6p c_ref25_In)).run x k) (by kernel_rfl) h)
end
theorem zq6rΓ : ΓOk Tryz.prog (pick1 [(31, .spec (zq20 zq24))]) := (ΓOk_cons zq25 ΓOk_nil)
def zq6s : zq6n := zq6p zq24
theorem zq6t : SpecOk Tryz.prog 64 (zq6o zq6s) := zq6q zq24 zq6rΓ

/-- pagewatch/pagewatchref39.Valid -/
abbrev zq6u := {β : Type} → Int → (List (Int × (Int × Int))) → (Bool → Option β) → Option β
def zq6v (c : zq6u) : Spec :=
  ⟨[(false, [.data (.int .i64)]), (false, [.data (.slice (.prod (.int .i64) (.prod (.int .i64) (.int .i64))))])], [], [(false, [.data .bool])], [], fun x k => c x.1.1.1 x.1.2.1.1 (fun r0 => k (((r0, ()), ()), ()))⟩
noncomputable def ref39_Valid_p1_code : Code := codeAt 58 (bodyOf Tryz.f65)
abbrev zq6w (β : Type) := Bool → Option β
abbrev zq6x (β : Type) := Unit → Option β
abbrev zq6y := {β : Type} → zq6w β → zq6x β → Int → (List (Int × (Int × Int))) → Int → Option β
def zq6z : View := ⟨0, [0, 1, 5], [(false, [.data (.int .i64)]), (false, [.data (.slice (.prod (.int .i64) (.prod (.int .i64) (.int .i64))))]), (false, [.data (.int .i64)])], []⟩
def zq70 : List (AExit × View) := [(.ret, ⟨0, [4], [(false, [.data .bool])], []⟩), (.exit 0, ⟨0, [], [], []⟩)]
@[reducible] def ref39_Valid_p1_G (p : zq6y) {β : Type} (d : zq6z.den) (ks : Outs.K β zq70) : Option β :=
  p (fun a0 => ks.1 (((a0, ()), ()), ())) (fun _ => ks.2.1 ((), ())) d.1.1.1 d.1.2.1.1 d.1.2.2.1.1
section
variable (c_ref25_In : zq1z)
@[reducible] def ref39_Valid_X : Ctx := ⟨look tab, pick1 [(31, .spec (zq20 c_ref25_In))], false, false, false, false⟩
def zq71 {β : Type} (rec : Int → (List (Int × (Int × Int))) → Int → Option β) (k1 : zq6w β) (k2 : zq6x β) (n : Int) (l : List (Int × (Int × Int))) (i_ : Int) : Option β :=
  cond (decide (i_ < (List.length l : Int)))
  (cond (decide (0 ≤ i_) && decide (i_ < (List.length l : Int)))
  (let e : (Int × (Int × Int)) := List.getD l (Int.toNat i_) ((0 : Int), ((0 : Int), (0 : Int)));
  c_ref25_In e.1 (0 : Int) (IntKind.i64.wrap (n - (1 : Int))) (fun (rIn : Bool) =>
  cond (!rIn)
  (k1 false)
  (cond (decide (0 ≤ i_) && decide (i_ < (List.length l : Int)))
  (let e2 : (Int × (Int × Int)) := List.getD l (Int.toNat i_) ((0 : Int), ((0 : Int), (0 : Int)));
  c_ref25_In e2.2.1 (0 : Int) (IntKind.i64.wrap (n - (1 : Int))) (fun (rIn2 : Bool) =>
  cond (!rIn2)
  (k1 false)
  (cond (decide (0 ≤ i_) && decide (i_ < (List.length l : Int)))
  (let e3 : (Int × (Int × Int)) := List.getD l (Int.toNat i_) ((0 : Int), ((0 : Int), (0 : Int)));
  c_ref25_In e3.2.2 (-17179869184 : Int) (17179869184 : Int) (fun (rIn3 : Bool) =>
  cond (!rIn3)
  (k1 false)
  (let i_2 : Int := (IntKind.i64.wrap (i_ + (1 : Int)));
  rec n l i_2)))
  none)))
  none)))
  none)
  (k2 ())
def zq72 {β : Type} : Nat → zq6w β → zq6x β → Int → (List (Int × (Int × Int))) → Int → Option β
  | 0 => fun _ _ _ _ _ => none
  | i + 1 => fun k1 k2 n l i_ => zq71 c_ref25_In (zq72 i k1 k2) k1 k2 n l i_
theorem zq73 (hΓ : ΓOk Tryz.prog (ref39_Valid_X c_ref25_In).Γ) (i : Nat) : PieceOk Tryz.prog 49 0 ref39_Valid_p1_code zq6z zq70 (ref39_Valid_p1_G (zq72 c_ref25_In i)) := by
  rw [show ref39_Valid_p1_code = .loop (loopBody ref39_Valid_p1_code) by kernel_rfl]
  exact piece_loop (X := (ref39_Valid_X c_ref25_In)) (p := 1) (Λ := pick1 []) (G := fun i => @fun β d ks => ref39_Valid_p1_G (zq72 c_ref25_In i) d ks) mixed tab_ok hΓ rfl (by kernel_rfl) CutsOk_nil (fun _ _ => rfl) (fun i => @fun β d ks r h => Eq.trans (b := ref39_Valid_p1_G (zq72 c_ref25_In (i + 1)) d ks) (by kernel_rfl) h) i
def zq74 (p1 : zq6y) {β : Type} (n : Int) (l : List (Int × (Int × Int))) (k : (Bool → Option β)) : Option β :=
  c_ref25_In n (1 : Int) (41 : Int) (fun (rIn : Bool) =>
  cond (!rIn)
  (k false)
  (cond (decide ((4000 : Int) < (List.length l : Int)))
  (k false)
  (p1 (fun (t4 : Bool) =>
  k t4) (fun (_ : Unit) =>
  k true) n l (0 : Int))))
theorem zq75 (hΓ : ΓOk Tryz.prog (ref39_Valid_X c_ref25_In).Γ) (p1 : zq6y) (hp1 : PieceOk Tryz.prog 49 0 ref39_Valid_p1_code zq6z zq70 (ref39_Valid_p1_G p1)) : SpecOk Tryz.prog 65 (zq6v (zq74 c_ref25_In p1)) :=
  spec_exec (X := (ref39_Valid_X c_ref25_In)) (Λ := pick1 [(58, pieceCut zq6z zq70 (ref39_Valid_p1_G p1))]) (rs := [.tmp 4]) (c := bodyOf Tryz.f65) mixed tab_ok hΓ Tryz.func65 (by kernel_rfl) (by kernel_rfl) (by kernel_rfl) (by kernel_rfl) (CutsOk_cons (q := 58) (c' := ref39_Valid_p1_code) (by kernel_rfl) rfl hp1 CutsOk_nil) (fun x k r h => Eq.trans (b := (zq6v (zq74 c_ref25_In p1)).run x k) (by kernel_rfl) h)
end
theorem zq76Γ : ΓOk Tryz.prog (pick1 [(31, .spec (zq20 zq24))]) := (ΓOk_cons zq25 ΓOk_nil)
def zq77 (m : Nat) : zq6y := zq72 zq24 m
theorem zq78 {β : Type} (i : Nat) (k1 k2 n l i_) : (zq77 (i + 1) k1 k2 n l i_ : Option β) = zq71 zq24 (zq77 i k1 k2) k1 k2 n l i_ := rfl
def zq79 : zq6y := zq77 fuel
theorem zq7a : PieceOk Tryz.prog 49 0 ref39_Valid_p1_code zq6z zq70 (ref39_Valid_p1_G zq79) := zq73 zq24 zq76Γ fuel
def zq7b : zq6u := zq74 zq24 zq79
theorem zq7c : SpecOk Tryz.prog 65 (zq6v zq7b) := zq75 zq24 zq76Γ zq79 zq7a

/-- (pagewatch/order.matrix).when -/
abbrev zq7d := {β : Type} → (List (List Int)) → Int → ((Int × Int) → Option β) → Option β
def zq7e (c : zq7d) : Spec :=
  ⟨[(false, [.data (.slice (.slice (.int .i64)))]), (false, [.data (.int .i64)])], [], [(true, [.data (.prod (.int .i64) (.int .i64))])], [], fun x k => c x.1.1.1 x.1.2.1.1 (fun r0 => k (((r0, ()), ()), ()))⟩
section
@[reducible] def order_matrix_when_X : Ctx := ⟨look tab, pick1 [], false, false, false, false⟩
def zq7f {β : Type} (m : List (List Int)) (i_ : Int) (k : ((Int × Int) → Option β)) : Option β :=
  cond (decide (0 ≤ (IntKind.i64.wrap (i_ + (1 : Int)))) && decide ((IntKind.i64.wrap (i_ + (1 : Int))) < (List.length m : Int)))
  (let e : List Int := List.getD m (Int.toNat (IntKind.i64.wrap (i_ + (1 : Int)))) ([] : List Int);
  cond (decide (0 ≤ (0 : Int)) && decide ((0 : Int) < (List.length e : Int)))
  (let e2 : Int := List.getD e (Int.toNat (0 : Int)) (0 : Int);
  cond (decide (0 ≤ (0 : Int)) && decide ((0 : Int) < (List.length m : Int)))
  (let e3 : List Int := List.getD m (Int.toNat (0 : Int)) ([] : List Int);
  cond (decide (0 ≤ (IntKind.i64.wrap (i_ + (1 : Int)))) && decide ((IntKind.i64.wrap (i_ + (1 : Int))) < (List.length e3 : Int)))
  (let e4 : Int := List.getD e3 (Int.toNat (IntKind.i64.wrap (i_ + (1 : Int)))) (0 : Int);
  k ((IntKind.i64.wrap (0 - e2)), e4))
  none)
  none)
  none)
  none
theorem zq7g (hΓ : ΓOk Tryz.prog order_matrix_when_X.Γ) : SpecOk Tryz.prog 70 (zq7e (zq7f)) :=
  spec_exec (X := order_matrix_when_X) (Λ := pick1 []) (rs := [.cell 4 40]) (c := bodyOf Tryz.f70) mixed tab_ok hΓ Tryz.func70 (by kernel_rfl) (by kernel_rfl) (by kernel_rfl) (by kernel_rfl) CutsOk_nil (fun x k r h => Eq.trans (b := (zq7e (zq7f)).run x k) (by kernel_rfl) h)
end
theorem zq7hΓ : ΓOk Tryz.prog (pick1 []) := ΓOk_nil
def zq7i : zq7d := zq7f
theorem zq7j : SpecOk Tryz.prog 70 (zq7e zq7i) := zq7g zq7hΓ

/-- (pagewatch/order.matrix).open -/
abbrev zq7k := {β : Type} → (List (List Int)) → Int → Int → (Bool → Option β) → Option β
def zq7l (c : zq7k) : Spec :=
  ⟨[(false, [.data (.slice (.slice (.int .i64)))]), (false, [.data (.int .i64)]), (false, [.data (.int .i64)])], [], [(false, [.data .bool])], [], fun x k => c x.1.1.1 x.1.2.1.1 x.1.2.2.1.1 (fun r0 => k (((r0, ()), ()), ()))⟩
section
variable (c_order_matrix_before : zq3l)
@[reducible] def order_matrix_open_X : Ctx := ⟨look tab, pick1 [(45, .spec (zq3m c_order_matrix_before))], false, false, false, false⟩
def zq7m {β : Type} (m : List (List Int)) (a : Int) (b : Int) (k : (Bool → Option β)) : Option β :=
  c_order_matrix_before m a b (fun (rbefore : Bool) =>
  cond (!rbefore)
  (c_order_matrix_before m b a (fun (rbefore2 : Bool) =>
  k (!rbefore2)))
  (k false))
theorem zq7n (hΓ : ΓOk Tryz.prog (order_matrix_open_X c_order_matrix_before).Γ) : SpecOk Tryz.prog 71 (zq7l (zq7m c_order_matrix_before)) :=
  spec_exec (X := (order_matrix_open_X c_order_matrix_before)) (Λ := pick1 []) (rs := [.tmp 6]) (c := bodyOf Tryz.f71) mixed tab_ok hΓ Tryz.func71 (by kernel_rfl) (by kernel_rfl) (by kernel_rfl) (by kernel_rfl) CutsOk_nil (fun x k r h => Eq.trans (b := (zq7l (zq7m c_order_matrix_before)).run x k) (by kernel_rfl) h)
end
theorem zq7oΓ : ΓOk Tryz.prog (pick1 [(45, .spec (zq3m zq3q))]) := (ΓOk_cons zq3r ΓOk_nil)
def zq7p : zq7k := zq7m zq3q
theorem zq7q : SpecOk Tryz.prog 71 (zq7l zq7p) := zq7n zq3q zq7oΓ

/-- slices.Index[[]int,int] -/
abbrev zq7r := {β : Type} → (List Int) → Int → (Int → Option β) → Option β
def zq7s (c : zq7r) : Spec :=
  ⟨[(false, [.data (.slice (.int .i64))]), (false, [.data (.int .i64)])], [], [(false, [.data (.int .i64)])], [], fun x k => c x.1.1.1 x.1.2.1.1 (fun r0 => k (((r0, ()), ()), ()))⟩
noncomputable def slices_Index_int_int_p1_code : Code := codeAt 26 (bodyOf Tryz.f74)
abbrev zq7t (β : Type) := Int → Option β
abbrev zq7u (β : Type) := Unit → Option β
abbrev zq7v := {β : Type} → zq7t β → zq7u β → (List Int) → Int → Int → Int → Option β
def zq7w : View := ⟨0, [0, 1, 7, 8], [(false, [.data (.slice (.int .i64))]), (false, [.data (.int .i64)]), (false, [.data (.int .i64)]), (false, [.data (.int .i64)])], []⟩
def zq7x : List (AExit × View) := [(.ret, ⟨0, [4], [(false, [.data (.int .i64)])], []⟩), (.exit 0, ⟨0, [], [], []⟩)]
@[reducible] def slices_Index_int_int_p1_G (p : zq7v) {β : Type} (d : zq7w.den) (ks : Outs.K β zq7x) : Option β :=
  p (fun a0 => ks.1 (((a0, ()), ()), ())) (fun _ => ks.2.1 ((), ())) d.1.1.1 d.1.2.1.1 d.1.2.2.1.1 d.1.2.2.2.1.1
section
@[reducible] def slices_Index_int_int_X : Ctx := ⟨look tab, pick1 [], false, false, false, false⟩
def zq7y {β : Type} (rec : (List Int) → Int → Int → Int → Option β) (k1 : zq7t β) (k2 : zq7u β) (s : List Int) (v : Int) (t7 : Int) (t8 : Int) : Option β :=
  cond (decide (t8 < t7))
  (cond (decide (0 ≤ t8) && decide (t8 < (List.length s : Int)))
  (let e : Int := List.getD s (Int.toNat t8) (0 : Int);
  cond (decide (v = e))
  (k1 t8)
  (rec s v t7 (IntKind.i64.wrap (t8 + (1 : Int)))))
  none)
  (k2 ())
def zq7z {β : Type} : Nat → zq7t β → zq7u β → (List Int) → Int → Int → Int → Option β
  | 0 => fun _ _ _ _ _ _ => none
  | i + 1 => fun k1 k2 s v t7 t8 => zq7y (zq7z i k1 k2) k1 k2 s v t7 t8
theorem zq80 (hΓ : ΓOk Tryz.prog slices_Index_int_int_X.Γ) (i : Nat) : PieceOk Tryz.prog 19 0 slices_Index_int_int_p1_code zq7w zq7x (slices_Index_int_int_p1_G (zq7z i)) := by
  rw [show slices_Index_int_int_p1_code = .loop (loopBody slices_Index_int_int_p1_code) by kernel_rfl]
  exact piece_loop (X := slices_Index_int_int_X) (p := 1) (Λ := pick1 []) (G := fun i => @fun β d ks => slices_Index_int_int_p1_G (zq7z i) d ks) mixed tab_ok hΓ rfl (by kernel_rfl) CutsOk_nil (fun _ _ => rfl) (fun i => @fun β d ks r h => Eq.trans (b := slices_Index_int_int_p1_G (zq7z (i + 1)) d ks) (by kernel_rfl) h) i
def zq81 (p1 : zq7v) {β : Type} (s : List Int) (v : Int) (k : (Int → Option β)) : Option β :=
  p1 (fun (t4 : Int) =>
  k t4) (fun (_ : Unit) =>
  k (-1 : Int)) s v (List.length s : Int) (0 : Int)
theorem zq82 (hΓ : ΓOk Tryz.prog slices_Index_int_int_X.Γ) (p1 : zq7v) (hp1 : PieceOk Tryz.prog 19 0 slices_Index_int_int_p1_code zq7w zq7x (slices_Index_int_int_p1_G p1)) : SpecOk Tryz.prog 74 (zq7s (zq81 p1)) :=
  spec_exec (X := slices_Index_int_int_X) (Λ := pick1 [(26, pieceCut zq7w zq7x (slices_Index_int_int_p1_G p1))]) (rs := [.tmp 4]) (c := bodyOf Tryz.f74) mixed tab_ok hΓ Tryz.func74 (by kernel_rfl) (by kernel_rfl) (by kernel_rfl) (by kernel_rfl) (CutsOk_cons (q := 26) (c' := slices_Index_int_int_p1_code) (by kernel_rfl) rfl hp1 CutsOk_nil) (fun x k r h => Eq.trans (b := (zq7s (zq81 p1)).run x k) (by kernel_rfl) h)
end
theorem zq83Γ : ΓOk Tryz.prog (pick1 []) := ΓOk_nil
def zq84 (m : Nat) : zq7v := zq7z m
theorem zq85 {β : Type} (i : Nat) (k1 k2 s v t7 t8) : (zq84 (i + 1) k1 k2 s v t7 t8 : Option β) = zq7y (zq84 i k1 k2) k1 k2 s v t7 t8 := rfl
def zq86 : zq7v := zq84 fuel
theorem zq87 : PieceOk Tryz.prog 19 0 slices_Index_int_int_p1_code zq7w zq7x (slices_Index_int_int_p1_G zq86) := zq80 zq83Γ fuel
def zq88 : zq7r := zq81 zq86
theorem zq89 : SpecOk Tryz.prog 74 (zq7s zq88) := zq82 zq83Γ zq86 zq87

/-- pagewatch/pagewatchref38.Meet -/
abbrev zq8a := {β : Type} → (Int × Int) → (Int × Int) → ((Int × Int) → Option β) → Option β
def zq8b (c : zq8a) : Spec :=
  ⟨[(true, [.data (.prod (.int .i64) (.int .i64))]), (true, [.data (.prod (.int .i64) (.int .i64))])], [], [(true, [.data (.prod (.int .i64) (.int .i64))])], [], fun x k => c x.1.1.1 x.1.2.1.1 (fun r0 => k (((r0, ()), ()), ()))⟩
section
@[reducible] def ref38_Meet_X : Ctx := ⟨look tab, pick1 [], false, false, false, false⟩
def zq8c {β : Type} (a : (Int × Int)) (b : (Int × Int)) (k : ((Int × Int) → Option β)) : Option β :=
  k ((if b.1 > a.1 then b.1 else a.1), (if b.2 < a.2 then b.2 else a.2))
theorem zq8d (hΓ : ΓOk Tryz.prog ref38_Meet_X.Γ) : SpecOk Tryz.prog 76 (zq8b (zq8c)) :=
  spec_exec (X := ref38_Meet_X) (Λ := pick1 []) (rs := [.cell 4 40]) (c := bodyOf Tryz.f76) mixed tab_ok hΓ Tryz.func76 (by kernel_rfl) (by kernel_rfl) (by kernel_rfl) (by kernel_rfl) CutsOk_nil (fun x k r h => Eq.trans (b := (zq8b (zq8c)).run x k) (by kernel_rfl) h)
end
theorem zq8eΓ : ΓOk Tryz.prog (pick1 []) := ΓOk_nil
def zq8f : zq8a := zq8c
theorem zq8g : SpecOk Tryz.prog 76 (zq8b zq8f) := zq8d zq8eΓ

/-- pagewatch/pagewatchref38.From -/
abbrev zq8h := {β : Type} → (List UInt8 × Int) → (Int × (Int × (Int × Int))) → Int → ((Int × Int) → Option β) → Option β
def zq8i (c : zq8h) : Spec :=
  ⟨[(true, [.data (.prod .str (.int .i64))]), (true, [.data (.prod (.int .i64) (.prod (.int .i64) (.prod (.int .i64) (.int .i64))))]), (false, [.data (.int .i64)])], [], [(true, [.data (.prod (.int .i64) (.int .i64))])], [], fun x k => c x.1.1.1 x.1.2.1.1 x.1.2.2.1.1 (fun r0 => k (((r0, ()), ()), ()))⟩
section
variable (c_ref25_In : zq1z) (c_ref38_Elapsed : zq6n)
@[reducible] def ref38_From_X : Ctx := ⟨look tab, pick1 [(31, .spec (zq20 c_ref25_In)), (64, .spec (zq6o c_ref38_Elapsed))], false, false, false, false⟩
def zq8j {β : Type} (h : (List UInt8 × Int)) (s : (Int × (Int × (Int × Int)))) (clock : Int) (k : ((Int × Int) → Option β)) : Option β :=
  c_ref25_In h.2 (0 : Int) (500000 : Int) (fun (rIn : Bool) =>
  cond (!rIn)
  (k ((-1099511627776 : Int), (1099511627776 : Int)))
  (c_ref25_In s.2.1 (0 : Int) (8589934592 : Int) (fun (rIn2 : Bool) =>
  cond (!rIn2)
  (k ((-1099511627776 : Int), (1099511627776 : Int)))
  (c_ref25_In s.2.2.1 (0 : Int) s.2.2.2 (fun (rIn3 : Bool) =>
  cond (!rIn3)
  (k ((-1099511627776 : Int), (1099511627776 : Int)))
  (cond (decide ((8589934592 : Int) < s.2.2.2))
  (k ((-1099511627776 : Int), (1099511627776 : Int)))
  (c_ref25_In clock (0 : Int) (8589934592 : Int) (fun (rIn4 : Bool) =>
  cond (!rIn4)
  (k ((-1099511627776 : Int), (1099511627776 : Int)))
  (cond (decide (s.2.1 ≤ clock))
  (c_ref38_Elapsed h.2 (IntKind.i64.wrap (clock - s.2.1)) (fun (rElapsed : Int) (rElapsed2 : Int) =>
  k ((IntKind.i64.wrap (s.2.2.1 + rElapsed)), (IntKind.i64.wrap (s.2.2.2 + rElapsed2)))))
  (c_ref38_Elapsed h.2 (IntKind.i64.wrap (s.2.1 - clock)) (fun (rElapsed : Int) (rElapsed2 : Int) =>
  k ((IntKind.i64.wrap (s.2.2.1 - rElapsed2)), (IntKind.i64.wrap (s.2.2.2 - rElapsed))))))))))))))
theorem zq8k (hΓ : ΓOk Tryz.prog (ref38_From_X c_ref25_In c_ref38_Elapsed).Γ) : SpecOk Tryz.prog 77 (zq8i (zq8j c_ref25_In c_ref38_Elapsed)) :=
  spec_exec (X := (ref38_From_X c_ref25_In c_ref38_Elapsed)) (Λ := pick1 []) (rs := [.cell 6 40]) (c := bodyOf Tryz.f77) mixed tab_ok hΓ Tryz.func77 (by kernel_rfl) (by kernel_rfl) (by kernel_rfl) (by kernel_rfl) CutsOk_nil (fun x k r h => Eq.trans (b := (zq8i (zq8j c_ref25_In c_ref38_Elapsed)).run x k) (by kernel_rfl) h)
end
theorem zq8lΓ : ΓOk Tryz.prog (pick1 [(31, .spec (zq20 zq24)), (64, .spec (zq6o zq6s))]) := (ΓOk_cons zq25 (ΓOk_cons zq6t ΓOk_nil))
def zq8m : zq8h := zq8j zq24 zq6s
theorem zq8n : SpecOk Tryz.prog 77 (zq8i zq8m) := zq8k zq24 zq6s zq8lΓ

/-- pagewatch/pagewatchref38.Empty -/
abbrev zq8o := {β : Type} → (Int × Int) → (Bool → Option β) → Option β
def zq8p (c : zq8o) : Spec :=
  ⟨[(true, [.data (.prod (.int .i64) (.int .i64))])], [], [(false, [.data .bool])], [], fun x k => c x.1.1.1 (fun r0 => k (((r0, ()), ()), ()))⟩
section
@[reducible] def ref38_Empty_X : Ctx := ⟨look tab, pick1 [], false, false, false, false⟩
def zq8q {β : Type} (a : (Int × Int)) (k : (Bool → Option β)) : Option β :=
  k (decide (a.2 < a.1))
theorem zq8r (hΓ : ΓOk Tryz.prog ref38_Empty_X.Γ) : SpecOk Tryz.prog 78 (zq8p (zq8q)) :=
  spec_exec (X := ref38_Empty_X) (Λ := pick1 []) (rs := [.tmp 2]) (c := bodyOf Tryz.f78) mixed tab_ok hΓ Tryz.func78 (by kernel_rfl) (by kernel_rfl) (by kernel_rfl) (by kernel_rfl) CutsOk_nil (fun x k r h => Eq.trans (b := (zq8p (zq8q)).run x k) (by kernel_rfl) h)
end
theorem zq8sΓ : ΓOk Tryz.prog (pick1 []) := ΓOk_nil
def zq8t : zq8o := zq8q
theorem zq8u : SpecOk Tryz.prog 78 (zq8p zq8t) := zq8r zq8sΓ

/-- pagewatch/constraint.direct -/
abbrev zq8v := {β : Type} → Int → (List (Int × (Int × Int))) → ((List (List Int)) → Option β) → Option β
def zq8w (c : zq8v) : Spec :=
  ⟨[(false, [.data (.int .i64)]), (false, [.data (.slice (.prod (.int .i64) (.prod (.int .i64) (.int .i64))))])], [], [(false, [.math 0])], [.mat 22 3 (.int .i64)], fun x k => c x.1.1.1 x.1.2.1.1 (fun r0 => k (((), ()), (r0, ())))⟩
noncomputable def constraint_direct_p2_code : Code := codeAt 58 (bodyOf Tryz.f84)
noncomputable def constraint_direct_p3_code : Code := codeAt 122 (bodyOf Tryz.f84)
noncomputable def constraint_direct_p1_code : Code := codeAt 462 (loopBody constraint_direct_p2_code)
abbrev zq8x (β : Type) := Int → (List (Int × (Int × Int))) → Int → Int → (List (List Int)) → Option β
abbrev zq8y := {β : Type} → zq8x β → Int → (List (Int × (Int × Int))) → Int → Int → Int → Int → Int → (List (List Int)) → Option β
def zq8z : View := ⟨0, [0, 1, 5, 6, 13, 14, 26, 27], [(false, [.data (.int .i64)]), (false, [.data (.slice (.prod (.int .i64) (.prod (.int .i64) (.int .i64))))]), (false, [.math 0]), (false, [.data (.int .i64)]), (false, [.data (.int .i64)]), (false, [.data (.int .i64)]), (false, [.data (.int .i64)]), (false, [.data (.int .i64)])], [.mat 22 3 (.int .i64)]⟩
def zq90 : List (AExit × View) := [(.exit 2, ⟨0, [0, 1, 5, 13, 14], [(false, [.data (.int .i64)]), (false, [.data (.slice (.prod (.int .i64) (.prod (.int .i64) (.int .i64))))]), (false, [.math 0]), (false, [.data (.int .i64)]), (false, [.data (.int .i64)])], [.mat 22 3 (.int .i64)]⟩)]
@[reducible] def constraint_direct_p1_G (p : zq8y) {β : Type} (d : zq8z.den) (ks : Outs.K β zq90) : Option β :=
  p (fun a0 a1 a2 a3 a4 => ks.1 (((a0, ()), (a1, ()), (), (a2, ()), (a3, ()), ()), (a4, ()))) d.1.1.1 d.1.2.1.1 d.1.2.2.2.1.1 d.1.2.2.2.2.1.1 d.1.2.2.2.2.2.1.1 d.1.2.2.2.2.2.2.1.1 d.1.2.2.2.2.2.2.2.1.1 d.2.1
abbrev zq91 (β : Type) := (List (Int × (Int × Int))) → (List (List Int)) → Option β
abbrev zq92 := {β : Type} → zq91 β → Int → (List (Int × (Int × Int))) → Int → Int → (List (List Int)) → Option β
def zq93 : View := ⟨0, [0, 1, 5, 13, 14], [(false, [.data (.int .i64)]), (false, [.data (.slice (.prod (.int .i64) (.prod (.int .i64) (.int .i64))))]), (false, [.math 0]), (false, [.data (.int .i64)]), (false, [.data (.int .i64)])], [.mat 22 3 (.int .i64)]⟩
def zq94 : List (AExit × View) := [(.exit 0, ⟨0, [1, 5], [(false, [.data (.slice (.prod (.int .i64) (.prod (.int .i64) (.int .i64))))]), (false, [.math 0])], [.mat 22 3 (.int .i64)]⟩)]
@[reducible] def constraint_direct_p2_G (p : zq92) {β : Type} (d : zq93.den) (ks : Outs.K β zq94) : Option β :=
  p (fun a0 a1 => ks.1 (((a0, ()), (), ()), (a1, ()))) d.1.1.1 d.1.2.1.1 d.1.2.2.2.1.1 d.1.2.2.2.2.1.1 d.2.1
abbrev zq95 (β : Type) := (List (List Int)) → Option β
abbrev zq96 := {β : Type} → zq95 β → (List (Int × (Int × Int))) → Int → Int → (List (List Int)) → Option β
def zq97 : View := ⟨0, [5, 38, 39, 40], [(false, [.math 0]), (false, [.data (.slice (.prod (.int .i64) (.prod (.int .i64) (.int .i64))))]), (false, [.data (.int .i64)]), (false, [.data (.int .i64)])], [.mat 22 3 (.int .i64)]⟩
def zq98 : List (AExit × View) := [(.exit 4, ⟨0, [5], [(false, [.math 0])], [.mat 22 3 (.int .i64)]⟩)]
@[reducible] def constraint_direct_p3_G (p : zq96) {β : Type} (d : zq97.den) (ks : Outs.K β zq98) : Option β :=
  p (fun a0 => ks.1 (((), ()), (a0, ()))) d.1.2.1.1 d.1.2.2.1.1 d.1.2.2.2.1.1 d.2.1
section
@[reducible] def constraint_direct_X : Ctx := ⟨look tab, pick1 [], true, false, false, false⟩
def zq99 {β : Type} (rec : Int → (List (Int × (Int × Int))) → Int → Int → Int → Int → Int → (List (List Int)) → Option β) (k1 : zq8x β) (n : Int) (l : List (Int × (Int × Int))) (i_ : Int) (t13 : Int) (t14 : Int) (t26 : Int) (t27 : Int) (out : List (List Int)) : Option β :=
  cond (decide (t27 < t26))
  (cond (decide (0 ≤ i_) && decide (i_ < (List.length out : Int)))
  (cond (decide (0 ≤ t27) && decide (t27 < (List.length (List.getD out (Int.toNat i_) []) : Int)))
  (let m_ : List (List Int) := (List.set out (Int.toNat i_) (List.set (List.getD out (Int.toNat i_) []) (Int.toNat t27) (1099511627776 : Int)));
  rec n l i_ t13 t14 t26 (IntKind.i64.wrap (t27 + (1 : Int))) m_)
  none)
  none)
  (k1 n l t13 t14 out)
def zq9a {β : Type} : Nat → zq8x β → Int → (List (Int × (Int × Int))) → Int → Int → Int → Int → Int → (List (List Int)) → Option β
  | 0 => fun _ _ _ _ _ _ _ _ _ => none
  | i + 1 => fun k1 n l i_ t13 t14 t26 t27 out => zq99 (zq9a i k1) k1 n l i_ t13 t14 t26 t27 out
theorem zq9b (hΓ : ΓOk Tryz.prog constraint_direct_X.Γ) (i : Nat) : PieceOk Tryz.prog 66 0 constraint_direct_p1_code zq8z zq90 (constraint_direct_p1_G (zq9a i)) := by
  rw [show constraint_direct_p1_code = .loop (loopBody constraint_direct_p1_code) by kernel_rfl]
  exact piece_loop (X := constraint_direct_X) (p := 1) (Λ := pick1 []) (G := fun i => @fun β d ks => constraint_direct_p1_G (zq9a i) d ks) mixed tab_ok hΓ rfl (by kernel_rfl) CutsOk_nil (fun _ _ => rfl) (fun i => @fun β d ks r h => Eq.trans (b := constraint_direct_p1_G (zq9a (i + 1)) d ks) (by kernel_rfl) h) i
def zq9c (p1 : zq8y) {β : Type} (rec : Int → (List (Int × (Int × Int))) → Int → Int → (List (List Int)) → Option β) (k1 : zq91 β) (n : Int) (l : List (Int × (Int × Int))) (t13 : Int) (t14 : Int) (out : List (List Int)) : Option β :=
  cond (decide (t14 < t13))
  (cond (decide (0 ≤ n) && (decide (n = n) && (decide (Int.toNat n * 8 ≤ roomMax) && decide (n ≤ 9223372036854775807))))
  (let l2 : List Int := (List.replicate (Int.toNat n) (0 : Int));
  cond (decide (0 ≤ t14) && decide (t14 < (List.length out : Int)))
  (let m_ : List (List Int) := (List.set out (Int.toNat t14) l2);
  cond (decide (0 ≤ t14) && decide (t14 < (List.length m_ : Int)))
  (p1 (fun (n2 : Int) (l3 : List (Int × (Int × Int))) (t132 : Int) (t142 : Int) (out2 : List (List Int)) =>
  rec n2 l3 t132 (IntKind.i64.wrap (t142 + (1 : Int))) out2) n l t14 t13 t14 (List.length (List.getD m_ (Int.toNat t14) []) : Int) (0 : Int) m_)
  none)
  none)
  none)
  (k1 l out)
def zq9d (p1 : zq8y) {β : Type} : Nat → zq91 β → Int → (List (Int × (Int × Int))) → Int → Int → (List (List Int)) → Option β
  | 0 => fun _ _ _ _ _ _ => none
  | i + 1 => fun k1 n l t13 t14 out => zq9c p1 (zq9d p1 i k1) k1 n l t13 t14 out
theorem zq9e (hΓ : ΓOk Tryz.prog constraint_direct_X.Γ) (p1 : zq8y) (hp1 : PieceOk Tryz.prog 66 0 constraint_direct_p1_code zq8z zq90 (constraint_direct_p1_G p1)) (i : Nat) : PieceOk Tryz.prog 66 0 constraint_direct_p2_code zq93 zq94 (constraint_direct_p2_G (zq9d p1 i)) := by
  rw [show constraint_direct_p2_code = .loop (loopBody constraint_direct_p2_code) by kernel_rfl]
  exact piece_loop (X := constraint_direct_X) (p := 1) (Λ := pick1 [(462, pieceCut zq8z zq90 (constraint_direct_p1_G p1))]) (G := fun i => @fun β d ks => constraint_direct_p2_G (zq9d p1 i) d ks) mixed tab_ok hΓ rfl (by kernel_rfl) (CutsOk_cons (q := 462) (c' := constraint_direct_p1_code) (by kernel_rfl) rfl hp1 CutsOk_nil) (fun _ _ => rfl) (fun i => @fun β d ks r h => Eq.trans (b := constraint_direct_p2_G (zq9d p1 (i + 1)) d ks) (by kernel_rfl) h) i
def zq9f {β : Type} (rec : (List (Int × (Int × Int))) → Int → Int → (List (List Int)) → Option β) (k1 : zq95 β) (t38 : List (Int × (Int × Int))) (t39 : Int) (t40 : Int) (out : List (List Int)) : Option β :=
  cond (decide (t40 < t39))
  (cond (decide (0 ≤ t40) && decide (t40 < (List.length t38 : Int)))
  (let e : (Int × (Int × Int)) := List.getD t38 (Int.toNat t40) ((0 : Int), ((0 : Int), (0 : Int)));
  cond (decide (0 ≤ e.1) && decide (e.1 < (List.length out : Int)))
  (cond (decide (0 ≤ e.1) && decide (e.1 < (List.length out : Int)))
  (cond (decide (0 ≤ e.2.1) && decide (e.2.1 < (List.length (List.getD out (Int.toNat e.1) []) : Int)))
  (cond (decide (0 ≤ e.2.1) && decide (e.2.1 < (List.length (List.getD out (Int.toNat e.1) []) : Int)))
  (let m_ : List (List Int) := (List.set out (Int.toNat e.1) (List.set (List.getD out (Int.toNat e.1) []) (Int.toNat e.2.1) (if e.2.2 < (List.getD (List.getD out (Int.toNat e.1) []) (Int.toNat e.2.1) (0 : Int)) then e.2.2 else (List.getD (List.getD out (Int.toNat e.1) []) (Int.toNat e.2.1) (0 : Int)))));
  rec t38 t39 (IntKind.i64.wrap (t40 + (1 : Int))) m_)
  none)
  none)
  none)
  none)
  none)
  (k1 out)
def zq9g {β : Type} : Nat → zq95 β → (List (Int × (Int × Int))) → Int → Int → (List (List Int)) → Option β
  | 0 => fun _ _ _ _ _ => none
  | i + 1 => fun k1 t38 t39 t40 out => zq9f (zq9g i k1) k1 t38 t39 t40 out
theorem zq9h (hΓ : ΓOk Tryz.prog constraint_direct_X.Γ) (i : Nat) : PieceOk Tryz.prog 66 0 constraint_direct_p3_code zq97 zq98 (constraint_direct_p3_G (zq9g i)) := by
  rw [show constraint_direct_p3_code = .loop (loopBody constraint_direct_p3_code) by kernel_rfl]
  exact piece_loop (X := constraint_direct_X) (p := 1) (Λ := pick1 []) (G := fun i => @fun β d ks => constraint_direct_p3_G (zq9g i) d ks) mixed tab_ok hΓ rfl (by kernel_rfl) CutsOk_nil (fun _ _ => rfl) (fun i => @fun β d ks r h => Eq.trans (b := constraint_direct_p3_G (zq9g (i + 1)) d ks) (by kernel_rfl) h) i
def zq9i (p2 : zq92) (p3 : zq96) {β : Type} (n : Int) (l : List (Int × (Int × Int))) (k : ((List (List Int)) → Option β)) : Option β :=
  cond (decide (0 ≤ n) && (decide (n = n) && (decide (Int.toNat n * 24 ≤ roomMax) && decide (n ≤ 9223372036854775807))))
  (let m_ : List (List Int) := (List.replicate (Int.toNat n) ([] : List Int));
  p2 (fun (l2 : List (Int × (Int × Int))) (out : List (List Int)) =>
  p3 (fun (out2 : List (List Int)) =>
  k out2) l2 (List.length l2 : Int) (0 : Int) out) n l (List.length m_ : Int) (0 : Int) m_)
  none
theorem zq9j (hΓ : ΓOk Tryz.prog constraint_direct_X.Γ) (p2 : zq92) (p3 : zq96) (hp2 : PieceOk Tryz.prog 66 0 constraint_direct_p2_code zq93 zq94 (constraint_direct_p2_G p2)) (hp3 : PieceOk Tryz.prog 66 0 constraint_direct_p3_code zq97 zq98 (constraint_direct_p3_G p3)) : SpecOk Tryz.prog 84 (zq8w (zq9i p2 p3)) :=
  spec_exec (X := constraint_direct_X) (Λ := pick1 [(58, pieceCut zq93 zq94 (constraint_direct_p2_G p2)), (122, pieceCut zq97 zq98 (constraint_direct_p3_G p3))]) (rs := [.tmp 4]) (c := bodyOf Tryz.f84) mixed tab_ok hΓ Tryz.func84 (by kernel_rfl) (by kernel_rfl) (by kernel_rfl) (by kernel_rfl) (CutsOk_cons (q := 58) (c' := constraint_direct_p2_code) (by kernel_rfl) rfl hp2 (CutsOk_cons (q := 122) (c' := constraint_direct_p3_code) (by kernel_rfl) rfl hp3 CutsOk_nil)) (fun x k r h => Eq.trans (b := (zq8w (zq9i p2 p3)).run x k) (by kernel_rfl) h)
end
theorem zq9kΓ : ΓOk Tryz.prog (pick1 []) := ΓOk_nil
def zq9l (m : Nat) : zq8y := zq9a m
theorem zq9m {β : Type} (i : Nat) (k1 n l i_ t13 t14 t26 t27 out) : (zq9l (i + 1) k1 n l i_ t13 t14 t26 t27 out : Option β) = zq99 (zq9l i k1) k1 n l i_ t13 t14 t26 t27 out := rfl
def zq9n : zq8y := zq9l fuel
theorem zq9o : PieceOk Tryz.prog 66 0 constraint_direct_p1_code zq8z zq90 (constraint_direct_p1_G zq9n) := zq9b zq9kΓ fuel
def zq9p (m : Nat) : zq92 := zq9d zq9n m
theorem zq9q {β : Type} (i : Nat) (k1 n l t13 t14 out) : (zq9p (i + 1) k1 n l t13 t14 out : Option β) = zq9c zq9n (zq9p i k1) k1 n l t13 t14 out := rfl
def zq9r : zq92 := zq9p fuel
theorem zq9s : PieceOk Tryz.prog 66 0 constraint_direct_p2_code zq93 zq94 (constraint_direct_p2_G zq9r) := zq9e zq9kΓ zq9n zq9o fuel
def zq9t (m : Nat) : zq96 := zq9g m
theorem zq9u {β : Type} (i : Nat) (k1 t38 t39 t40 out) : (zq9t (i + 1) k1 t38 t39 t40 out : Option β) = zq9f (zq9t i k1) k1 t38 t39 t40 out := rfl
def zq9v : zq96 := zq9t fuel
theorem zq9w : PieceOk Tryz.prog 66 0 constraint_direct_p3_code zq97 zq98 (constraint_direct_p3_G zq9v) := zq9h zq9kΓ fuel
def zq9x : zq8v := zq9i zq9r zq9v
theorem zq9y : SpecOk Tryz.prog 84 (zq8w zq9x) := zq9j zq9kΓ zq9r zq9v zq9s zq9w

/-- pagewatch/clock.Meet -/
abbrev zq9z := {β : Type} → (Int × Int) → (Int × Int) → ((Int × Int) → Option β) → Option β
def zqa0 (c : zq9z) : Spec :=
  ⟨[(true, [.data (.prod (.int .i64) (.int .i64))]), (true, [.data (.prod (.int .i64) (.int .i64))])], [], [(true, [.data (.prod (.int .i64) (.int .i64))])], [], fun x k => c x.1.1.1 x.1.2.1.1 (fun r0 => k (((r0, ()), ()), ()))⟩
section
@[reducible] def clock_Meet_X : Ctx := ⟨look tab, pick1 [], false, false, false, false⟩
def zqa1 {β : Type} (a : (Int × Int)) (b : (Int × Int)) (k : ((Int × Int) → Option β)) : Option β :=
  k ((if b.1 > a.1 then b.1 else a.1), (if b.2 < a.2 then b.2 else a.2))
theorem zqa2 (hΓ : ΓOk Tryz.prog clock_Meet_X.Γ) : SpecOk Tryz.prog 100 (zqa0 (zqa1)) :=
  spec_exec (X := clock_Meet_X) (Λ := pick1 []) (rs := [.cell 4 40]) (c := bodyOf Tryz.f100) mixed tab_ok hΓ Tryz.func100 (by kernel_rfl) (by kernel_rfl) (by kernel_rfl) (by kernel_rfl) CutsOk_nil (fun x k r h => Eq.trans (b := (zqa0 (zqa1)).run x k) (by kernel_rfl) h)
end
theorem zqa3Γ : ΓOk Tryz.prog (pick1 []) := ΓOk_nil
def zqa4 : zq9z := zqa1
theorem zqa5 : SpecOk Tryz.prog 100 (zqa0 zqa4) := zqa2 zqa3Γ

/-- pagewatch/clock.Empty -/
abbrev zqa6 := {β : Type} → (Int × Int) → (Bool → Option β) → Option β
def zqa7 (c : zqa6) : Spec :=
  ⟨[(true, [.data (.prod (.int .i64) (.int .i64))])], [], [(false, [.data .bool])], [], fun x k => c x.1.1.1 (fun r0 => k (((r0, ()), ()), ()))⟩
section
@[reducible] def clock_Empty_X : Ctx := ⟨look tab, pick1 [], false, false, false, false⟩
def zqa8 {β : Type} (a : (Int × Int)) (k : (Bool → Option β)) : Option β :=
  k (decide (a.2 < a.1))
theorem zqa9 (hΓ : ΓOk Tryz.prog clock_Empty_X.Γ) : SpecOk Tryz.prog 102 (zqa7 (zqa8)) :=
  spec_exec (X := clock_Empty_X) (Λ := pick1 []) (rs := [.tmp 2]) (c := bodyOf Tryz.f102) mixed tab_ok hΓ Tryz.func102 (by kernel_rfl) (by kernel_rfl) (by kernel_rfl) (by kernel_rfl) CutsOk_nil (fun x k r h => Eq.trans (b := (zqa7 (zqa8)).run x k) (by kernel_rfl) h)
end
theorem zqaaΓ : ΓOk Tryz.prog (pick1 []) := ΓOk_nil
def zqab : zqa6 := zqa8
theorem zqac : SpecOk Tryz.prog 102 (zqa7 zqab) := zqa9 zqaaΓ

/-- pagewatch/constraint.in -/
abbrev zqad := {β : Type} → Int → Int → Int → (Bool → Option β) → Option β
def zqae (c : zqad) : Spec :=
  ⟨[(false, [.data (.int .i64)]), (false, [.data (.int .i64)]), (false, [.data (.int .i64)])], [], [(false, [.data .bool])], [], fun x k => c x.1.1.1 x.1.2.1.1 x.1.2.2.1.1 (fun r0 => k (((r0, ()), ()), ()))⟩
section
@[reducible] def constraint_in_X : Ctx := ⟨look tab, pick1 [], false, false, false, false⟩
def zqaf {β : Type} (n : Int) (low : Int) (high : Int) (k : (Bool → Option β)) : Option β :=
  cond (decide (low ≤ n))
  (k (decide (n ≤ high)))
  (k false)
theorem zqag (hΓ : ΓOk Tryz.prog constraint_in_X.Γ) : SpecOk Tryz.prog 104 (zqae (zqaf)) :=
  spec_exec (X := constraint_in_X) (Λ := pick1 []) (rs := [.tmp 6]) (c := bodyOf Tryz.f104) mixed tab_ok hΓ Tryz.func104 (by kernel_rfl) (by kernel_rfl) (by kernel_rfl) (by kernel_rfl) CutsOk_nil (fun x k r h => Eq.trans (b := (zqae (zqaf)).run x k) (by kernel_rfl) h)
end
theorem zqahΓ : ΓOk Tryz.prog (pick1 []) := ΓOk_nil
def zqai : zqad := zqaf
theorem zqaj : SpecOk Tryz.prog 104 (zqae zqai) := zqag zqahΓ

/-- pagewatch/constraint.Valid$1 -/
abbrev zqak := {β : Type} → (Int × (Int × Int)) → Int → (Bool → Int → Option β) → Option β
def zqal (c : zqak) : Spec :=
  ⟨[(true, [.data (.prod (.int .i64) (.prod (.int .i64) (.int .i64)))]), (false, [.ptr 0 0])], [.cells 3 [.data (.int .i64)]], [(false, [.data .bool])], [.cells 3 [.data (.int .i64)]], fun x k => c x.1.1.1 x.2.1.1 (fun r0 r1 => k (((r0, ()), ()), ((r1, ()), ())))⟩
section
variable (c_constraint_in : zqad)
@[reducible] def constraint_Valid_f1_X : Ctx := ⟨look tab, pick1 [(104, .spec (zqae c_constraint_in))], false, false, false, false⟩
def zqam {β : Type} (d : (Int × (Int × Int))) (t1 : Int) (k : (Bool → Int → Option β)) : Option β :=
  c_constraint_in d.1 (0 : Int) (IntKind.i64.wrap (t1 - (1 : Int))) (fun (rin : Bool) =>
  cond (!rin)
  (k true t1)
  (c_constraint_in d.2.1 (0 : Int) (IntKind.i64.wrap (t1 - (1 : Int))) (fun (rin2 : Bool) =>
  cond (!rin2)
  (k true t1)
  (c_constraint_in d.2.2 (-17179869184 : Int) (17179869184 : Int) (fun (rin3 : Bool) =>
  k (!rin3) t1)))))
theorem zqan (hΓ : ΓOk Tryz.prog (constraint_Valid_f1_X c_constraint_in).Γ) : SpecOk Tryz.prog 106 (zqal (zqam c_constraint_in)) :=
  spec_exec (X := (constraint_Valid_f1_X c_constraint_in)) (Λ := pick1 []) (rs := [.tmp 3]) (c := bodyOf Tryz.f106) mixed tab_ok hΓ Tryz.func106 (by kernel_rfl) (by kernel_rfl) (by kernel_rfl) (by kernel_rfl) CutsOk_nil (fun x k r h => Eq.trans (b := (zqal (zqam c_constraint_in)).run x k) (by kernel_rfl) h)
end
theorem zqaoΓ : ΓOk Tryz.prog (pick1 [(104, .spec (zqae zqai))]) := (ΓOk_cons zqaj ΓOk_nil)
def zqap : zqak := zqam zqai
theorem zqaq : SpecOk Tryz.prog 106 (zqal zqap) := zqan zqai zqaoΓ

/-- pagewatch/clock.Elapsed$1 -/
abbrev zqar := {β : Type} → Int → Int → (Int → Option β) → Option β
def zqas (c : zqar) : Spec :=
  ⟨[(false, [.data (.int .i64)]), (false, [.data (.int .i64)])], [], [(false, [.data (.int .i64)])], [], fun x k => c x.1.1.1 x.1.2.1.1 (fun r0 => k (((r0, ()), ()), ()))⟩
section
@[reducible] def clock_Elapsed_f1_X : Ctx := ⟨look tab, pick1 [], false, false, false, false⟩
def zqat {β : Type} (a : Int) (b : Int) (k : (Int → Option β)) : Option β :=
  cond (!decide (b = 0))
  (let t : Int := (IntKind.i64.wrap (Int.tdiv (IntKind.i64.wrap ((IntKind.i64.wrap (a + b)) - (1 : Int))) b));
  k t)
  none
theorem zqau (hΓ : ΓOk Tryz.prog clock_Elapsed_f1_X.Γ) : SpecOk Tryz.prog 117 (zqas (zqat)) :=
  spec_exec (X := clock_Elapsed_f1_X) (Λ := pick1 []) (rs := [.tmp 4]) (c := bodyOf Tryz.f117) mixed tab_ok hΓ Tryz.func117 (by kernel_rfl) (by kernel_rfl) (by kernel_rfl) (by kernel_rfl) CutsOk_nil (fun x k r h => Eq.trans (b := (zqas (zqat)).run x k) (by kernel_rfl) h)
end
theorem zqavΓ : ΓOk Tryz.prog (pick1 []) := ΓOk_nil
def zqaw : zqar := zqat
theorem zqax : SpecOk Tryz.prog 117 (zqas zqaw) := zqau zqavΓ

/-- (*pagewatch/pagewatchmade.Dice).Record -/
abbrev zqay := {β : Type} → Int → (List Int × Int) → (zq2 → (List Int × Int) → (List Int) → Option β) → Option β
def zqaz (c : zqay) : Spec :=
  ⟨[(false, [.ptr 0 0]), (false, [.data (.int .i64)])], [.cells 68 [.data (.prod (.slice (.int .i64)) (.int .i64))]], [(true, [.data zq3]), (false, [.rowh 1])], [.cells 68 [.data (.prod (.slice (.int .i64)) (.int .i64))], .row 3 (.int .i64)], fun x k => c x.1.2.1.1 x.2.1.1 (fun r0 r1 r2 => k (((r0, ()), (), ()), ((r1, ()), r2, ())))⟩
noncomputable def made_Dice_Record_p1_code : Code := codeAt 122 (bodyOf Tryz.f9)
noncomputable def made_Dice_Record_p2_code : Code := codeAt 250 (bodyOf Tryz.f9)
noncomputable def made_Dice_Record_p3_code : Code := codeAt 1018 (bodyOf Tryz.f9)
noncomputable def made_Dice_Record_p5_code : Code := codeAt 2042 (bodyOf Tryz.f9)
noncomputable def made_Dice_Record_p4_code : Code := codeAt 51 (loopBody made_Dice_Record_p5_code)
abbrev zqb0 (β : Type) := Int → (List Int) → Int → (List Int) → (List (List UInt8 × Int)) → (List (Int × (Int × (Int × Int)))) → (List zq0) → (List (Int × (Int × Int))) → (List (List UInt8 × Int)) → (List (Int × (Int × (Int × Int)))) → (List zq0) → (List (Int × (Int × Int))) → Option β
abbrev zqb1 := {β : Type} → zqb0 β → Int → Int → (List Int) → Int → (List Int) → (List (List UInt8 × Int)) → (List (Int × (Int × (Int × Int)))) → (List zq0) → (List (Int × (Int × Int))) → (List (List UInt8 × Int)) → (List (Int × (Int × (Int × Int)))) → (List zq0) → (List (Int × (Int × Int))) → Option β
def zqb2 : View := ⟨1, [0, 1, 4, 6, 7, 8], [(false, [.ptr 0 0]), (false, [.data (.int .i64)]), (false, [.ptr 1 0]), (false, [.ptr 2 0]), (false, [.rowh 3]), (false, [.data (.int .i64)])], [.cells 68 [.data (.slice (.int .i64)), .data (.int .i64)], .cells 32 [.rowh 4, .rowh 5, .rowh 6, .rowh 7], .cells 32 [.rowh 8, .rowh 9, .rowh 10, .rowh 11], .row 3 (.int .i64), .row 62 (.prod .str (.int .i64)), .row 64 (.prod (.int .i64) (.prod (.int .i64) (.prod (.int .i64) (.int .i64)))), .row 60 zq1, .row 73 (.prod (.int .i64) (.prod (.int .i64) (.int .i64))), .row 62 (.prod .str (.int .i64)), .row 64 (.prod (.int .i64) (.prod (.int .i64) (.prod (.int .i64) (.int .i64)))), .row 60 zq1, .row 73 (.prod (.int .i64) (.prod (.int .i64) (.int .i64)))]⟩
def zqb3 : List (AExit × View) := [(.exit 0, ⟨1, [0, 1, 4, 6, 7], [(false, [.ptr 0 0]), (false, [.data (.int .i64)]), (false, [.ptr 1 0]), (false, [.ptr 2 0]), (false, [.rowh 3])], [.cells 68 [.data (.slice (.int .i64)), .data (.int .i64)], .cells 32 [.rowh 4, .rowh 5, .rowh 6, .rowh 7], .cells 32 [.rowh 8, .rowh 9, .rowh 10, .rowh 11], .row 3 (.int .i64), .row 62 (.prod .str (.int .i64)), .row 64 (.prod (.int .i64) (.prod (.int .i64) (.prod (.int .i64) (.int .i64)))), .row 60 zq1, .row 73 (.prod (.int .i64) (.prod (.int .i64) (.int .i64))), .row 62 (.prod .str (.int .i64)), .row 64 (.prod (.int .i64) (.prod (.int .i64) (.prod (.int .i64) (.int .i64)))), .row 60 zq1, .row 73 (.prod (.int .i64) (.prod (.int .i64) (.int .i64)))]⟩)]
@[reducible] def made_Dice_Record_p1_G (p : zqb1) {β : Type} (d : zqb2.den) (ks : Outs.K β zqb3) : Option β :=
  p (fun a0 a1 a2 a3 a4 a5 a6 a7 a8 a9 a10 a11 => ks.1 (((), (a0, ()), (), (), (), ()), ((a1, a2, ()), (), (), a3, a4, a5, a6, a7, a8, a9, a10, a11, ()))) d.1.2.1.1 d.1.2.2.2.2.2.1.1 d.2.1.1 d.2.1.2.1 d.2.2.2.2.1 d.2.2.2.2.2.1 d.2.2.2.2.2.2.1 d.2.2.2.2.2.2.2.1 d.2.2.2.2.2.2.2.2.1 d.2.2.2.2.2.2.2.2.2.1 d.2.2.2.2.2.2.2.2.2.2.1 d.2.2.2.2.2.2.2.2.2.2.2.1 d.2.2.2.2.2.2.2.2.2.2.2.2.1
abbrev zqb4 (β : Type) := Int → (List Int) → Int → (List Int) → (List (List UInt8 × Int)) → (List (Int × (Int × (Int × Int)))) → (List zq0) → (List (Int × (Int × Int))) → (List (List UInt8 × Int)) → (List (Int × (Int × (Int × Int)))) → (List zq0) → (List (Int × (Int × Int))) → Option β
abbrev zqb5 := {β : Type} → zqb4 β → Int → Int → (List Int) → Int → (List Int) → (List (List UInt8 × Int)) → (List (Int × (Int × (Int × Int)))) → (List zq0) → (List (Int × (Int × Int))) → (List (List UInt8 × Int)) → (List (Int × (Int × (Int × Int)))) → (List zq0) → (List (Int × (Int × Int))) → Option β
def zqb6 : View := ⟨1, [0, 1, 4, 6, 7, 9], [(false, [.ptr 0 0]), (false, [.data (.int .i64)]), (false, [.ptr 1 0]), (false, [.ptr 2 0]), (false, [.rowh 3]), (false, [.data (.int .i64)])], [.cells 68 [.data (.slice (.int .i64)), .data (.int .i64)], .cells 32 [.rowh 4, .rowh 5, .rowh 6, .rowh 7], .cells 32 [.rowh 8, .rowh 9, .rowh 10, .rowh 11], .row 3 (.int .i64), .row 62 (.prod .str (.int .i64)), .row 64 (.prod (.int .i64) (.prod (.int .i64) (.prod (.int .i64) (.int .i64)))), .row 60 zq1, .row 73 (.prod (.int .i64) (.prod (.int .i64) (.int .i64))), .row 62 (.prod .str (.int .i64)), .row 64 (.prod (.int .i64) (.prod (.int .i64) (.prod (.int .i64) (.int .i64)))), .row 60 zq1, .row 73 (.prod (.int .i64) (.prod (.int .i64) (.int .i64)))]⟩
def zqb7 : List (AExit × View) := [(.exit 2, ⟨1, [0, 1, 4, 6, 7], [(false, [.ptr 0 0]), (false, [.data (.int .i64)]), (false, [.ptr 1 0]), (false, [.ptr 2 0]), (false, [.rowh 3])], [.cells 68 [.data (.slice (.int .i64)), .data (.int .i64)], .cells 32 [.rowh 4, .rowh 5, .rowh 6, .rowh 7], .cells 32 [.rowh 8, .rowh 9, .rowh 10, .rowh 11], .row 3 (.int .i64), .row 62 (.prod .str (.int .i64)), .row 64 (.prod (.int .i64) (.prod (.int .i64) (.prod (.int .i64) (.int .i64)))), .row 60 zq1, .row 73 (.prod (.int .i64) (.prod (.int .i64) (.int .i64))), .row 62 (.prod .str (.int .i64)), .row 64 (.prod (.int .i64) (.prod (.int .i64) (.prod (.int .i64) (.int .i64)))), .row 60 zq1, .row 73 (.prod (.int .i64) (.prod (.int .i64) (.int .i64)))]⟩)]
@[reducible] def made_Dice_Record_p2_G (p : zqb5) {β : Type} (d : zqb6.den) (ks : Outs.K β zqb7) : Option β :=
  p (fun a0 a1 a2 a3 a4 a5 a6 a7 a8 a9 a10 a11 => ks.1 (((), (a0, ()), (), (), (), ()), ((a1, a2, ()), (), (), a3, a4, a5, a6, a7, a8, a9, a10, a11, ()))) d.1.2.1.1 d.1.2.2.2.2.2.1.1 d.2.1.1 d.2.1.2.1 d.2.2.2.2.1 d.2.2.2.2.2.1 d.2.2.2.2.2.2.1 d.2.2.2.2.2.2.2.1 d.2.2.2.2.2.2.2.2.1 d.2.2.2.2.2.2.2.2.2.1 d.2.2.2.2.2.2.2.2.2.2.1 d.2.2.2.2.2.2.2.2.2.2.2.1 d.2.2.2.2.2.2.2.2.2.2.2.2.1
abbrev zqb8 (β : Type) := (List Int) → Int → (List Int) → (List (List UInt8 × Int)) → (List (Int × (Int × (Int × Int)))) → (List zq0) → (List (Int × (Int × Int))) → (List (List UInt8 × Int)) → (List (Int × (Int × (Int × Int)))) → (List zq0) → (List (Int × (Int × Int))) → Option β
abbrev zqb9 := {β : Type} → zqb8 β → Int → (List Int) → Int → (List Int) → (List Int) → (List (List UInt8 × Int)) → (List (Int × (Int × (Int × Int)))) → (List zq0) → (List (Int × (Int × Int))) → (List (List UInt8 × Int)) → (List (Int × (Int × (Int × Int)))) → (List zq0) → (List (Int × (Int × Int))) → Option β
def zqba : View := ⟨1, [0, 4, 6, 7, 12, 13], [(false, [.ptr 0 0]), (false, [.ptr 1 0]), (false, [.ptr 2 0]), (false, [.rowh 3]), (false, [.rowh 4]), (false, [.data (.int .i64)])], [.cells 68 [.data (.slice (.int .i64)), .data (.int .i64)], .cells 32 [.rowh 5, .rowh 6, .rowh 7, .rowh 8], .cells 32 [.rowh 9, .rowh 10, .rowh 11, .rowh 12], .row 3 (.int .i64), .row 3 (.int .i64), .row 62 (.prod .str (.int .i64)), .row 64 (.prod (.int .i64) (.prod (.int .i64) (.prod (.int .i64) (.int .i64)))), .row 60 zq1, .row 73 (.prod (.int .i64) (.prod (.int .i64) (.int .i64))), .row 62 (.prod .str (.int .i64)), .row 64 (.prod (.int .i64) (.prod (.int .i64) (.prod (.int .i64) (.int .i64)))), .row 60 zq1, .row 73 (.prod (.int .i64) (.prod (.int .i64) (.int .i64)))]⟩
def zqbb : List (AExit × View) := [(.exit 4, ⟨1, [0, 4, 6, 12], [(false, [.ptr 0 0]), (false, [.ptr 1 0]), (false, [.ptr 2 0]), (false, [.rowh 3])], [.cells 68 [.data (.slice (.int .i64)), .data (.int .i64)], .cells 32 [.rowh 4, .rowh 5, .rowh 6, .rowh 7], .cells 32 [.rowh 8, .rowh 9, .rowh 10, .rowh 11], .row 3 (.int .i64), .row 62 (.prod .str (.int .i64)), .row 64 (.prod (.int .i64) (.prod (.int .i64) (.prod (.int .i64) (.int .i64)))), .row 60 zq1, .row 73 (.prod (.int .i64) (.prod (.int .i64) (.int .i64))), .row 62 (.prod .str (.int .i64)), .row 64 (.prod (.int .i64) (.prod (.int .i64) (.prod (.int .i64) (.int .i64)))), .row 60 zq1, .row 73 (.prod (.int .i64) (.prod (.int .i64) (.int .i64)))]⟩)]
@[reducible] def made_Dice_Record_p3_G (p : zqb9) {β : Type} (d : zqba.den) (ks : Outs.K β zqbb) : Option β :=
  p (fun a0 a1 a2 a3 a4 a5 a6 a7 a8 a9 a10 => ks.1 (((), (), (), (), ()), ((a0, a1, ()), (), (), a2, a3, a4, a5, a6, a7, a8, a9, a10, ()))) d.1.2.2.2.2.2.1.1 d.2.1.1 d.2.1.2.1 d.2.2.2.2.1 d.2.2.2.2.2.1 d.2.2.2.2.2.2.1 d.2.2.2.2.2.2.2.1 d.2.2.2.2.2.2.2.2.1 d.2.2.2.2.2.2.2.2.2.1 d.2.2.2.2.2.2.2.2.2.2.1 d.2.2.2.2.2.2.2.2.2.2.2.1 d.2.2.2.2.2.2.2.2.2.2.2.2.1 d.2.2.2.2.2.2.2.2.2.2.2.2.2.1
abbrev zqbc (β : Type) := Int → (List Int) → Int → (List Int) → (List (List UInt8 × Int)) → (List (Int × (Int × (Int × Int)))) → (List zq0) → (List (Int × (Int × Int))) → (List (List UInt8 × Int)) → (List (Int × (Int × (Int × Int)))) → (List zq0) → (List (Int × (Int × Int))) → Option β
abbrev zqbd := {β : Type} → zqbc β → Int → Int → Int → Bool → (List Int) → Int → (List Int) → (List (List UInt8 × Int)) → (List (Int × (Int × (Int × Int)))) → (List zq0) → (List (Int × (Int × Int))) → (List (List UInt8 × Int)) → (List (Int × (Int × (Int × Int)))) → (List zq0) → (List (Int × (Int × Int))) → Option β
def zqbe : View := ⟨1, [0, 4, 6, 12, 16, 17, 18, 154], [(false, [.ptr 0 0]), (false, [.ptr 1 0]), (false, [.ptr 2 0]), (false, [.rowh 3]), (false, [.data (.int .i64)]), (false, [.data (.int .i64)]), (false, [.data (.int .i64)]), (false, [.data .bool])], [.cells 68 [.data (.slice (.int .i64)), .data (.int .i64)], .cells 32 [.rowh 4, .rowh 5, .rowh 6, .rowh 7], .cells 32 [.rowh 8, .rowh 9, .rowh 10, .rowh 11], .row 3 (.int .i64), .row 62 (.prod .str (.int .i64)), .row 64 (.prod (.int .i64) (.prod (.int .i64) (.prod (.int .i64) (.int .i64)))), .row 60 zq1, .row 73 (.prod (.int .i64) (.prod (.int .i64) (.int .i64))), .row 62 (.prod .str (.int .i64)), .row 64 (.prod (.int .i64) (.prod (.int .i64) (.prod (.int .i64) (.int .i64)))), .row 60 zq1, .row 73 (.prod (.int .i64) (.prod (.int .i64) (.int .i64)))]⟩
def zqbf : List (AExit × View) := [(.normal, ⟨1, [0, 4, 6, 12, 16], [(false, [.ptr 0 0]), (false, [.ptr 1 0]), (false, [.ptr 2 0]), (false, [.rowh 3]), (false, [.data (.int .i64)])], [.cells 68 [.data (.slice (.int .i64)), .data (.int .i64)], .cells 32 [.rowh 4, .rowh 5, .rowh 6, .rowh 7], .cells 32 [.rowh 8, .rowh 9, .rowh 10, .rowh 11], .row 3 (.int .i64), .row 62 (.prod .str (.int .i64)), .row 64 (.prod (.int .i64) (.prod (.int .i64) (.prod (.int .i64) (.int .i64)))), .row 60 zq1, .row 73 (.prod (.int .i64) (.prod (.int .i64) (.int .i64))), .row 62 (.prod .str (.int .i64)), .row 64 (.prod (.int .i64) (.prod (.int .i64) (.prod (.int .i64) (.int .i64)))), .row 60 zq1, .row 73 (.prod (.int .i64) (.prod (.int .i64) (.int .i64)))]⟩)]
@[reducible] def made_Dice_Record_p4_G (p : zqbd) {β : Type} (d : zqbe.den) (ks : Outs.K β zqbf) : Option β :=
  p (fun a0 a1 a2 a3 a4 a5 a6 a7 a8 a9 a10 a11 => ks.1 (((), (), (), (), (a0, ()), ()), ((a1, a2, ()), (), (), a3, a4, a5, a6, a7, a8, a9, a10, a11, ()))) d.1.2.2.2.2.1.1 d.1.2.2.2.2.2.1.1 d.1.2.2.2.2.2.2.1.1 d.1.2.2.2.2.2.2.2.1.1 d.2.1.1 d.2.1.2.1 d.2.2.2.2.1 d.2.2.2.2.2.1 d.2.2.2.2.2.2.1 d.2.2.2.2.2.2.2.1 d.2.2.2.2.2.2.2.2.1 d.2.2.2.2.2.2.2.2.2.1 d.2.2.2.2.2.2.2.2.2.2.1 d.2.2.2.2.2.2.2.2.2.2.2.1 d.2.2.2.2.2.2.2.2.2.2.2.2.1
abbrev zqbg (β : Type) := (List Int) → Int → (List Int) → (List (List UInt8 × Int)) → (List (Int × (Int × (Int × Int)))) → (List zq0) → (List (Int × (Int × Int))) → (List (List UInt8 × Int)) → (List (Int × (Int × (Int × Int)))) → (List zq0) → (List (Int × (Int × Int))) → Option β
abbrev zqbh := {β : Type} → zqbg β → Int → (List Int) → Int → (List Int) → (List (List UInt8 × Int)) → (List (Int × (Int × (Int × Int)))) → (List zq0) → (List (Int × (Int × Int))) → (List (List UInt8 × Int)) → (List (Int × (Int × (Int × Int)))) → (List zq0) → (List (Int × (Int × Int))) → Option β
def zqbi : View := ⟨1, [0, 4, 6, 12, 16], [(false, [.ptr 0 0]), (false, [.ptr 1 0]), (false, [.ptr 2 0]), (false, [.rowh 3]), (false, [.data (.int .i64)])], [.cells 68 [.data (.slice (.int .i64)), .data (.int .i64)], .cells 32 [.rowh 4, .rowh 5, .rowh 6, .rowh 7], .cells 32 [.rowh 8, .rowh 9, .rowh 10, .rowh 11], .row 3 (.int .i64), .row 62 (.prod .str (.int .i64)), .row 64 (.prod (.int .i64) (.prod (.int .i64) (.prod (.int .i64) (.int .i64)))), .row 60 zq1, .row 73 (.prod (.int .i64) (.prod (.int .i64) (.int .i64))), .row 62 (.prod .str (.int .i64)), .row 64 (.prod (.int .i64) (.prod (.int .i64) (.prod (.int .i64) (.int .i64)))), .row 60 zq1, .row 73 (.prod (.int .i64) (.prod (.int .i64) (.int .i64)))]⟩
def zqbj : List (AExit × View) := [(.exit 6, ⟨1, [4, 6, 12], [(false, [.ptr 1 0]), (false, [.ptr 2 0]), (false, [.rowh 3])], [.cells 68 [.data (.slice (.int .i64)), .data (.int .i64)], .cells 32 [.rowh 4, .rowh 5, .rowh 6, .rowh 7], .cells 32 [.rowh 8, .rowh 9, .rowh 10, .rowh 11], .row 3 (.int .i64), .row 62 (.prod .str (.int .i64)), .row 64 (.prod (.int .i64) (.prod (.int .i64) (.prod (.int .i64) (.int .i64)))), .row 60 zq1, .row 73 (.prod (.int .i64) (.prod (.int .i64) (.int .i64))), .row 62 (.prod .str (.int .i64)), .row 64 (.prod (.int .i64) (.prod (.int .i64) (.prod (.int .i64) (.int .i64)))), .row 60 zq1, .row 73 (.prod (.int .i64) (.prod (.int .i64) (.int .i64)))]⟩)]
@[reducible] def made_Dice_Record_p5_G (p : zqbh) {β : Type} (d : zqbi.den) (ks : Outs.K β zqbj) : Option β :=
  p (fun a0 a1 a2 a3 a4 a5 a6 a7 a8 a9 a10 => ks.1 (((), (), (), ()), ((a0, a1, ()), (), (), a2, a3, a4, a5, a6, a7, a8, a9, a10, ()))) d.1.2.2.2.2.1.1 d.2.1.1 d.2.1.2.1 d.2.2.2.2.1 d.2.2.2.2.2.1 d.2.2.2.2.2.2.1 d.2.2.2.2.2.2.2.1 d.2.2.2.2.2.2.2.2.1 d.2.2.2.2.2.2.2.2.2.1 d.2.2.2.2.2.2.2.2.2.2.1 d.2.2.2.2.2.2.2.2.2.2.2.1 d.2.2.2.2.2.2.2.2.2.2.2.2.1
section
variable (c_made_Dice_Next : zq12) (c_made_Dice_One : zq19)
@[reducible] def made_Dice_Record_X : Ctx := ⟨look tab, pick1 [(22, .spec (zq13 c_made_Dice_Next)), (23, .spec (zq1a c_made_Dice_One))], false, false, false, false⟩
def zqbk {β : Type} (rec : Int → Int → (List Int) → Int → (List Int) → (List (List UInt8 × Int)) → (List (Int × (Int × (Int × Int)))) → (List zq0) → (List (Int × (Int × Int))) → (List (List UInt8 × Int)) → (List (Int × (Int × (Int × Int)))) → (List zq0) → (List (Int × (Int × Int))) → Option β) (k1 : zqb0 β) (n : Int) (i_ : Int) (d : List Int) (d2 : Int) (ahead : List Int) (b4_ : List (List UInt8 × Int)) (b5_ : List (Int × (Int × (Int × Int)))) (b6_ : List zq0) (b7_ : List (Int × (Int × Int))) (b8_ : List (List UInt8 × Int)) (b9_ : List (Int × (Int × (Int × Int)))) (b10_ : List zq0) (b11_ : List (Int × (Int × Int))) : Option β :=
  cond (decide ((0 : Int) < i_))
  (let l : List (List UInt8) := ([([100, 98] : List UInt8), ([119, 101, 98] : List UInt8), ([108, 98] : List UInt8)] : List (List UInt8));
  cond (decide (0 ≤ (List.length b8_ : Int)) && decide ((List.length b8_ : Int) < (List.length l : Int)))
  (let l2 : List Int := ([(0 : Int), (0 : Int), (100 : Int), (50000 : Int), (500000 : Int)] : List Int);
  c_made_Dice_One l2 (d, d2) (fun (rOne : Int) (mrOne : (List Int × Int)) =>
  let l3 : List (List UInt8 × Int) := ([((List.getD l (Int.toNat (List.length b8_ : Int)) ([] : List UInt8)), rOne)] : List (List UInt8 × Int));
  cond (decide ((List.length b8_ + List.length l3) * 24 ≤ roomMax))
  (let l4 : List (List UInt8 × Int) := (b8_ ++ l3);
  let l5 : List Int := ([(0 : Int), (7 : Int), (100 : Int)] : List Int);
  c_made_Dice_One l5 mrOne (fun (rOne2 : Int) (mrOne2 : (List Int × Int)) =>
  let l6 : List Int := ([rOne2] : List Int);
  cond (decide ((List.length ahead + List.length l6) * 8 ≤ roomMax))
  (let l7 : List Int := (ahead ++ l6);
  let i_2 : Int := (IntKind.i64.wrap (i_ - (1 : Int)));
  rec n i_2 mrOne2.1 mrOne2.2 l7 b4_ b5_ b6_ b7_ l4 b9_ b10_ b11_)
  none))
  none))
  none)
  (k1 n d d2 ahead b4_ b5_ b6_ b7_ b8_ b9_ b10_ b11_)
def zqbl {β : Type} : Nat → zqb0 β → Int → Int → (List Int) → Int → (List Int) → (List (List UInt8 × Int)) → (List (Int × (Int × (Int × Int)))) → (List zq0) → (List (Int × (Int × Int))) → (List (List UInt8 × Int)) → (List (Int × (Int × (Int × Int)))) → (List zq0) → (List (Int × (Int × Int))) → Option β
  | 0 => fun _ _ _ _ _ _ _ _ _ _ _ _ _ _ => none
  | i + 1 => fun k1 n i_ d d2 ahead b4_ b5_ b6_ b7_ b8_ b9_ b10_ b11_ => zqbk c_made_Dice_One (zqbl i k1) k1 n i_ d d2 ahead b4_ b5_ b6_ b7_ b8_ b9_ b10_ b11_
theorem zqbm (hΓ : ΓOk Tryz.prog (made_Dice_Record_X c_made_Dice_Next c_made_Dice_One).Γ) (i : Nat) : PieceOk Tryz.prog 177 1 made_Dice_Record_p1_code zqb2 zqb3 (made_Dice_Record_p1_G (zqbl c_made_Dice_One i)) := by
  rw [show made_Dice_Record_p1_code = .loop (loopBody made_Dice_Record_p1_code) by kernel_rfl]
  exact piece_loop (X := (made_Dice_Record_X c_made_Dice_Next c_made_Dice_One)) (p := 1) (Λ := pick1 []) (G := fun i => @fun β d ks => made_Dice_Record_p1_G (zqbl c_made_Dice_One i) d ks) mixed tab_ok hΓ rfl (by kernel_rfl) CutsOk_nil (fun _ _ => rfl) (fun i => @fun β d ks r h => Eq.trans (b := made_Dice_Record_p1_G (zqbl c_made_Dice_One (i + 1)) d ks) (by kernel_rfl) h) i
def zqbn {β : Type} (rec : Int → Int → (List Int) → Int → (List Int) → (List (List UInt8 × Int)) → (List (Int × (Int × (Int × Int)))) → (List zq0) → (List (Int × (Int × Int))) → (List (List UInt8 × Int)) → (List (Int × (Int × (Int × Int)))) → (List zq0) → (List (Int × (Int × Int))) → Option β) (k1 : zqb4 β) (n : Int) (i_ : Int) (d : List Int) (d2 : Int) (ahead : List Int) (b4_ : List (List UInt8 × Int)) (b5_ : List (Int × (Int × (Int × Int)))) (b6_ : List zq0) (b7_ : List (Int × (Int × Int))) (b8_ : List (List UInt8 × Int)) (b9_ : List (Int × (Int × (Int × Int)))) (b10_ : List zq0) (b11_ : List (Int × (Int × Int))) : Option β :=
  cond (decide ((0 : Int) < i_))
  (c_made_Dice_Next (List.length b8_ : Int) (d, d2) (fun (rNext : Int) (mrNext : (List Int × Int)) =>
  c_made_Dice_Next (400 : Int) mrNext (fun (rNext2 : Int) (mrNext2 : (List Int × Int)) =>
  let t : Int := (IntKind.i64.wrap ((864000 : Int) + rNext2));
  cond (decide (0 ≤ rNext) && decide (rNext < (List.length ahead : Int)))
  (let l : List Int := ([(0 : Int), (3 : Int), (20 : Int)] : List Int);
  c_made_Dice_One l mrNext2 (fun (rOne : Int) (mrOne : (List Int × Int)) =>
  let l2 : List Int := ([(0 : Int), (2 : Int), (15 : Int)] : List Int);
  c_made_Dice_One l2 mrOne (fun (rOne2 : Int) (mrOne2 : (List Int × Int)) =>
  let l3 : List (Int × (Int × (Int × Int))) := ([(rNext, ((IntKind.i64.wrap (t + (List.getD ahead (Int.toNat rNext) (0 : Int)))), ((IntKind.i64.wrap (t - rOne)), (IntKind.i64.wrap (t + rOne2)))))] : List (Int × (Int × (Int × Int))));
  cond (decide ((List.length b9_ + List.length l3) * 32 ≤ roomMax))
  (let l4 : List (Int × (Int × (Int × Int))) := (b9_ ++ l3);
  let i_2 : Int := (IntKind.i64.wrap (i_ - (1 : Int)));
  rec n i_2 mrOne2.1 mrOne2.2 ahead b4_ b5_ b6_ b7_ b8_ l4 b10_ b11_)
  none)))
  none)))
  (k1 n d d2 ahead b4_ b5_ b6_ b7_ b8_ b9_ b10_ b11_)
def zqbo {β : Type} : Nat → zqb4 β → Int → Int → (List Int) → Int → (List Int) → (List (List UInt8 × Int)) → (List (Int × (Int × (Int × Int)))) → (List zq0) → (List (Int × (Int × Int))) → (List (List UInt8 × Int)) → (List (Int × (Int × (Int × Int)))) → (List zq0) → (List (Int × (Int × Int))) → Option β
  | 0 => fun _ _ _ _ _ _ _ _ _ _ _ _ _ _ => none
  | i + 1 => fun k1 n i_ d d2 ahead b4_ b5_ b6_ b7_ b8_ b9_ b10_ b11_ => zqbn c_made_Dice_Next c_made_Dice_One (zqbo i k1) k1 n i_ d d2 ahead b4_ b5_ b6_ b7_ b8_ b9_ b10_ b11_
theorem zqbp (hΓ : ΓOk Tryz.prog (made_Dice_Record_X c_made_Dice_Next c_made_Dice_One).Γ) (i : Nat) : PieceOk Tryz.prog 177 1 made_Dice_Record_p2_code zqb6 zqb7 (made_Dice_Record_p2_G (zqbo c_made_Dice_Next c_made_Dice_One i)) := by
  rw [show made_Dice_Record_p2_code = .loop (loopBody made_Dice_Record_p2_code) by kernel_rfl]
  exact piece_loop (X := (made_Dice_Record_X c_made_Dice_Next c_made_Dice_One)) (p := 1) (Λ := pick1 []) (G := fun i => @fun β d ks => made_Dice_Record_p2_G (zqbo c_made_Dice_Next c_made_Dice_One i) d ks) mixed tab_ok hΓ rfl (by kernel_rfl) CutsOk_nil (fun _ _ => rfl) (fun i => @fun β d ks r h => Eq.trans (b := made_Dice_Record_p2_G (zqbo c_made_Dice_Next c_made_Dice_One (i + 1)) d ks) (by kernel_rfl) h) i
def zqbq {β : Type} (rec : Int → (List Int) → Int → (List Int) → (List Int) → (List (List UInt8 × Int)) → (List (Int × (Int × (Int × Int)))) → (List zq0) → (List (Int × (Int × Int))) → (List (List UInt8 × Int)) → (List (Int × (Int × (Int × Int)))) → (List zq0) → (List (Int × (Int × Int))) → Option β) (k1 : zqb8 β) (i_ : Int) (d : List Int) (d2 : Int) (ahead : List Int) (times : List Int) (b5_ : List (List UInt8 × Int)) (b6_ : List (Int × (Int × (Int × Int)))) (b7_ : List zq0) (b8_ : List (Int × (Int × Int))) (b9_ : List (List UInt8 × Int)) (b10_ : List (Int × (Int × (Int × Int)))) (b11_ : List zq0) (b12_ : List (Int × (Int × Int))) : Option β :=
  cond (decide ((0 : Int) < i_))
  (c_made_Dice_Next (List.length b9_ : Int) (d, d2) (fun (rNext : Int) (mrNext : (List Int × Int)) =>
  c_made_Dice_Next (300 : Int) mrNext (fun (rNext2 : Int) (mrNext2 : (List Int × Int)) =>
  let t : Int := (IntKind.i64.wrap ((864000 : Int) + rNext2));
  cond (decide (0 ≤ rNext) && decide (rNext < (List.length ahead : Int)))
  (let l : List (List UInt8) := ([([117, 112] : List UInt8), ([100, 111, 119, 110] : List UInt8), ([115, 108, 111, 119] : List UInt8)] : List (List UInt8));
  c_made_Dice_Next (3 : Int) mrNext2 (fun (rNext3 : Int) (mrNext3 : (List Int × Int)) =>
  cond (decide (0 ≤ rNext3) && decide (rNext3 < (List.length l : Int)))
  (let l2 : List zq0 := ([(rNext, ((IntKind.i64.wrap (t + (List.getD ahead (Int.toNat rNext) (0 : Int)))), (List.getD l (Int.toNat rNext3) ([] : List UInt8))))] : List zq0);
  cond (decide ((List.length b11_ + List.length l2) * 32 ≤ roomMax))
  (let l3 : List zq0 := (b11_ ++ l2);
  let l4 : List Int := ([t] : List Int);
  cond (decide ((List.length times + List.length l4) * 8 ≤ roomMax))
  (let l5 : List Int := (times ++ l4);
  let i_2 : Int := (IntKind.i64.wrap (i_ - (1 : Int)));
  rec i_2 mrNext3.1 mrNext3.2 ahead l5 b5_ b6_ b7_ b8_ b9_ b10_ l3 b12_)
  none)
  none)
  none))
  none)))
  (k1 d d2 times b5_ b6_ b7_ b8_ b9_ b10_ b11_ b12_)
def zqbr {β : Type} : Nat → zqb8 β → Int → (List Int) → Int → (List Int) → (List Int) → (List (List UInt8 × Int)) → (List (Int × (Int × (Int × Int)))) → (List zq0) → (List (Int × (Int × Int))) → (List (List UInt8 × Int)) → (List (Int × (Int × (Int × Int)))) → (List zq0) → (List (Int × (Int × Int))) → Option β
  | 0 => fun _ _ _ _ _ _ _ _ _ _ _ _ _ _ => none
  | i + 1 => fun k1 i_ d d2 ahead times b5_ b6_ b7_ b8_ b9_ b10_ b11_ b12_ => zqbq c_made_Dice_Next (zqbr i k1) k1 i_ d d2 ahead times b5_ b6_ b7_ b8_ b9_ b10_ b11_ b12_
theorem zqbs (hΓ : ΓOk Tryz.prog (made_Dice_Record_X c_made_Dice_Next c_made_Dice_One).Γ) (i : Nat) : PieceOk Tryz.prog 177 1 made_Dice_Record_p3_code zqba zqbb (made_Dice_Record_p3_G (zqbr c_made_Dice_Next i)) := by
  rw [show made_Dice_Record_p3_code = .loop (loopBody made_Dice_Record_p3_code) by kernel_rfl]
  exact piece_loop (X := (made_Dice_Record_X c_made_Dice_Next c_made_Dice_One)) (p := 1) (Λ := pick1 []) (G := fun i => @fun β d ks => made_Dice_Record_p3_G (zqbr c_made_Dice_Next i) d ks) mixed tab_ok hΓ rfl (by kernel_rfl) CutsOk_nil (fun _ _ => rfl) (fun i => @fun β d ks r h => Eq.trans (b := made_Dice_Record_p3_G (zqbr c_made_Dice_Next (i + 1)) d ks) (by kernel_rfl) h) i
def zqbt {β : Type} (k1 : zqbc β) (i_ : Int) (a : Int) (b : Int) (t154 : Bool) (d : List Int) (d2 : Int) (times : List Int) (b4_ : List (List UInt8 × Int)) (b5_ : List (Int × (Int × (Int × Int)))) (b6_ : List zq0) (b7_ : List (Int × (Int × Int))) (b8_ : List (List UInt8 × Int)) (b9_ : List (Int × (Int × (Int × Int)))) (b10_ : List zq0) (b11_ : List (Int × (Int × Int))) : Option β :=
  cond t154
  (cond (decide (0 ≤ b) && decide (b < (List.length times : Int)))
  (cond (decide (0 ≤ a) && decide (a < (List.length times : Int)))
  (c_made_Dice_Next (IntKind.i64.wrap ((IntKind.i64.wrap ((List.getD times (Int.toNat b) (0 : Int)) - (List.getD times (Int.toNat a) (0 : Int)))) + (1 : Int))) (d, d2) (fun (rNext : Int) (mrNext : (List Int × Int)) =>
  let l : List (Int × (Int × Int)) := ([(a, (b, rNext))] : List (Int × (Int × Int)));
  cond (decide ((List.length b11_ + List.length l) * 24 ≤ roomMax))
  (let l2 : List (Int × (Int × Int)) := (b11_ ++ l);
  k1 i_ mrNext.1 mrNext.2 times b4_ b5_ b6_ b7_ b8_ b9_ b10_ l2)
  none))
  none)
  none)
  (k1 i_ d d2 times b4_ b5_ b6_ b7_ b8_ b9_ b10_ b11_)
def zqbu {β : Type} (k1 : zqbc β) (i_ : Int) (a : Int) (b : Int) (t154 : Bool) (d : List Int) (d2 : Int) (times : List Int) (b4_ : List (List UInt8 × Int)) (b5_ : List (Int × (Int × (Int × Int)))) (b6_ : List zq0) (b7_ : List (Int × (Int × Int))) (b8_ : List (List UInt8 × Int)) (b9_ : List (Int × (Int × (Int × Int)))) (b10_ : List zq0) (b11_ : List (Int × (Int × Int))) : Option β := zqbt c_made_Dice_Next k1 i_ a b t154 d d2 times b4_ b5_ b6_ b7_ b8_ b9_ b10_ b11_
theorem zqbv (hΓ : ΓOk Tryz.prog (made_Dice_Record_X c_made_Dice_Next c_made_Dice_One).Γ) : PieceOk Tryz.prog 177 1 made_Dice_Record_p4_code zqbe zqbf (made_Dice_Record_p4_G (zqbu c_made_Dice_Next)) :=
  piece_exec (X := (made_Dice_Record_X c_made_Dice_Next c_made_Dice_One)) (p := 51) (Λ := pick1 []) mixed tab_ok hΓ (by kernel_rfl) CutsOk_nil (fun d ks r h => Eq.trans (b := made_Dice_Record_p4_G (zqbu c_made_Dice_Next) d ks) (by kernel_rfl) h)
def zqbw (p4 : zqbd) {β : Type} (rec : Int → (List Int) → Int → (List Int) → (List (List UInt8 × Int)) → (List (Int × (Int × (Int × Int)))) → (List zq0) → (List (Int × (Int × Int))) → (List (List UInt8 × Int)) → (List (Int × (Int × (Int × Int)))) → (List zq0) → (List (Int × (Int × Int))) → Option β) (k1 : zqbg β) (i_ : Int) (d : List Int) (d2 : Int) (times : List Int) (b4_ : List (List UInt8 × Int)) (b5_ : List (Int × (Int × (Int × Int)))) (b6_ : List zq0) (b7_ : List (Int × (Int × Int))) (b8_ : List (List UInt8 × Int)) (b9_ : List (Int × (Int × (Int × Int)))) (b10_ : List zq0) (b11_ : List (Int × (Int × Int))) : Option β :=
  cond (decide ((0 : Int) < i_))
  (cond (decide ((1 : Int) < (List.length times : Int)))
  (c_made_Dice_Next (List.length times : Int) (d, d2) (fun (rNext : Int) (mrNext : (List Int × Int)) =>
  c_made_Dice_Next (List.length times : Int) mrNext (fun (rNext2 : Int) (mrNext2 : (List Int × Int)) =>
  cond (!decide (rNext = rNext2))
  (cond (decide (0 ≤ rNext) && decide (rNext < (List.length times : Int)))
  (cond (decide (0 ≤ rNext2) && decide (rNext2 < (List.length times : Int)))
  (p4 (fun (i_2 : Int) (d3 : List Int) (d4 : Int) (times2 : List Int) (b4_2 : List (List UInt8 × Int)) (b5_2 : List (Int × (Int × (Int × Int)))) (b6_2 : List zq0) (b7_2 : List (Int × (Int × Int))) (b8_2 : List (List UInt8 × Int)) (b9_2 : List (Int × (Int × (Int × Int)))) (b10_2 : List zq0) (b11_2 : List (Int × (Int × Int))) =>
  let i_3 : Int := (IntKind.i64.wrap (i_2 - (1 : Int)));
  rec i_3 d3 d4 times2 b4_2 b5_2 b6_2 b7_2 b8_2 b9_2 b10_2 b11_2) i_ rNext rNext2 (decide ((List.getD times (Int.toNat rNext) (0 : Int)) ≤ (List.getD times (Int.toNat rNext2) (0 : Int)))) mrNext2.1 mrNext2.2 times b4_ b5_ b6_ b7_ b8_ b9_ b10_ b11_)
  none)
  none)
  (p4 (fun (i_2 : Int) (d3 : List Int) (d4 : Int) (times2 : List Int) (b4_2 : List (List UInt8 × Int)) (b5_2 : List (Int × (Int × (Int × Int)))) (b6_2 : List zq0) (b7_2 : List (Int × (Int × Int))) (b8_2 : List (List UInt8 × Int)) (b9_2 : List (Int × (Int × (Int × Int)))) (b10_2 : List zq0) (b11_2 : List (Int × (Int × Int))) =>
  let i_3 : Int := (IntKind.i64.wrap (i_2 - (1 : Int)));
  rec i_3 d3 d4 times2 b4_2 b5_2 b6_2 b7_2 b8_2 b9_2 b10_2 b11_2) i_ rNext rNext2 false mrNext2.1 mrNext2.2 times b4_ b5_ b6_ b7_ b8_ b9_ b10_ b11_))))
  (k1 d d2 times b4_ b5_ b6_ b7_ b8_ b9_ b10_ b11_))
  (k1 d d2 times b4_ b5_ b6_ b7_ b8_ b9_ b10_ b11_)
def zqbx (p4 : zqbd) {β : Type} : Nat → zqbg β → Int → (List Int) → Int → (List Int) → (List (List UInt8 × Int)) → (List (Int × (Int × (Int × Int)))) → (List zq0) → (List (Int × (Int × Int))) → (List (List UInt8 × Int)) → (List (Int × (Int × (Int × Int)))) → (List zq0) → (List (Int × (Int × Int))) → Option β
  | 0 => fun _ _ _ _ _ _ _ _ _ _ _ _ _ => none
  | i + 1 => fun k1 i_ d d2 times b4_ b5_ b6_ b7_ b8_ b9_ b10_ b11_ => zqbw c_made_Dice_Next p4 (zqbx p4 i k1) k1 i_ d d2 times b4_ b5_ b6_ b7_ b8_ b9_ b10_ b11_
theorem zqby (hΓ : ΓOk Tryz.prog (made_Dice_Record_X c_made_Dice_Next c_made_Dice_One).Γ) (p4 : zqbd) (hp4 : PieceOk Tryz.prog 177 1 made_Dice_Record_p4_code zqbe zqbf (made_Dice_Record_p4_G p4)) (i : Nat) : PieceOk Tryz.prog 177 1 made_Dice_Record_p5_code zqbi zqbj (made_Dice_Record_p5_G (zqbx c_made_Dice_Next p4 i)) := by
  rw [show made_Dice_Record_p5_code = .loop (loopBody made_Dice_Record_p5_code) by kernel_rfl]
  exact piece_loop (X := (made_Dice_Record_X c_made_Dice_Next c_made_Dice_One)) (p := 1) (Λ := pick1 [(51, pieceCut zqbe zqbf (made_Dice_Record_p4_G p4))]) (G := fun i => @fun β d ks => made_Dice_Record_p5_G (zqbx c_made_Dice_Next p4 i) d ks) mixed tab_ok hΓ rfl (by kernel_rfl) (CutsOk_cons (q := 51) (c' := made_Dice_Record_p4_code) (by kernel_rfl) rfl hp4 CutsOk_nil) (fun _ _ => rfl) (fun i => @fun β d ks r h => Eq.trans (b := made_Dice_Record_p5_G (zqbx c_made_Dice_Next p4 (i + 1)) d ks) (by kernel_rfl) h) i
def zqbz (p1 : zqb1) (p2 : zqb5) (p3 : zqb9) (p5 : zqbh) {β : Type} (n : Int) (d : (List Int × Int)) (k : (zq2 → (List Int × Int) → (List Int) → Option β)) : Option β :=
  c_made_Dice_Next (3 : Int) d (fun (rNext : Int) (mrNext : (List Int × Int)) =>
  let i_ : Int := (IntKind.i64.wrap ((1 : Int) + rNext));
  p1 (fun (n2 : Int) (d2 : List Int) (d3 : Int) (ahead : List Int) (b4_ : List (List UInt8 × Int)) (b5_ : List (Int × (Int × (Int × Int)))) (b6_ : List zq0) (b7_ : List (Int × (Int × Int))) (b8_ : List (List UInt8 × Int)) (b9_ : List (Int × (Int × (Int × Int)))) (b10_ : List zq0) (b11_ : List (Int × (Int × Int))) =>
  c_made_Dice_Next (5 : Int) (d2, d3) (fun (rNext2 : Int) (mrNext2 : (List Int × Int)) =>
  p2 (fun (n3 : Int) (d4 : List Int) (d5 : Int) (ahead2 : List Int) (b4_2 : List (List UInt8 × Int)) (b5_2 : List (Int × (Int × (Int × Int)))) (b6_2 : List zq0) (b7_2 : List (Int × (Int × Int))) (b8_2 : List (List UInt8 × Int)) (b9_2 : List (Int × (Int × (Int × Int)))) (b10_2 : List zq0) (b11_2 : List (Int × (Int × Int))) =>
  c_made_Dice_Next (IntKind.i64.wrap (n3 + (1 : Int))) (d4, d5) (fun (rNext3 : Int) (mrNext3 : (List Int × Int)) =>
  p3 (fun (d6 : List Int) (d7 : Int) (times : List Int) (b4_3 : List (List UInt8 × Int)) (b5_3 : List (Int × (Int × (Int × Int)))) (b6_3 : List zq0) (b7_3 : List (Int × (Int × Int))) (b8_3 : List (List UInt8 × Int)) (b9_3 : List (Int × (Int × (Int × Int)))) (b10_3 : List zq0) (b11_3 : List (Int × (Int × Int))) =>
  c_made_Dice_Next (4 : Int) (d6, d7) (fun (rNext4 : Int) (mrNext4 : (List Int × Int)) =>
  p5 (fun (b0_ : List Int) (b0_2 : Int) (times2 : List Int) (b4_4 : List (List UInt8 × Int)) (b5_4 : List (Int × (Int × (Int × Int)))) (b6_4 : List zq0) (b7_4 : List (Int × (Int × Int))) (b8_4 : List (List UInt8 × Int)) (b9_4 : List (Int × (Int × (Int × Int)))) (b10_4 : List zq0) (b11_4 : List (Int × (Int × Int))) =>
  k (b8_4, (b9_4, (b10_4, b11_4))) (b0_, b0_2) times2) rNext4 mrNext4.1 mrNext4.2 times b4_3 b5_3 b6_3 b7_3 b8_3 b9_3 b10_3 b11_3)) rNext3 mrNext3.1 mrNext3.2 ahead2 ([] : List Int) b4_2 b5_2 b6_2 b7_2 b8_2 b9_2 b10_2 b11_2)) n2 rNext2 mrNext2.1 mrNext2.2 ahead b4_ b5_ b6_ b7_ b8_ b9_ b10_ b11_)) n i_ mrNext.1 mrNext.2 ([] : List Int) ([] : List (List UInt8 × Int)) ([] : List (Int × (Int × (Int × Int)))) ([] : List zq0) ([] : List (Int × (Int × Int))) ([] : List (List UInt8 × Int)) ([] : List (Int × (Int × (Int × Int)))) ([] : List zq0) ([] : List (Int × (Int × Int))))
theorem zqc0 (hΓ : ΓOk Tryz.prog (made_Dice_Record_X c_made_Dice_Next c_made_Dice_One).Γ) (p1 : zqb1) (p2 : zqb5) (p3 : zqb9) (p5 : zqbh) (hp1 : PieceOk Tryz.prog 177 1 made_Dice_Record_p1_code zqb2 zqb3 (made_Dice_Record_p1_G p1)) (hp2 : PieceOk Tryz.prog 177 1 made_Dice_Record_p2_code zqb6 zqb7 (made_Dice_Record_p2_G p2)) (hp3 : PieceOk Tryz.prog 177 1 made_Dice_Record_p3_code zqba zqbb (made_Dice_Record_p3_G p3)) (hp5 : PieceOk Tryz.prog 177 1 made_Dice_Record_p5_code zqbi zqbj (made_Dice_Record_p5_G p5)) : SpecOk Tryz.prog 9 (zqaz (zqbz c_made_Dice_Next p1 p2 p3 p5)) :=
  spec_exec (X := (made_Dice_Record_X c_made_Dice_Next c_made_Dice_One)) (Λ := pick1 [(122, pieceCut zqb2 zqb3 (made_Dice_Record_p1_G p1)), (250, pieceCut zqb6 zqb7 (made_Dice_Record_p2_G p2)), (1018, pieceCut zqba zqbb (made_Dice_Record_p3_G p3)), (2042, pieceCut zqbi zqbj (made_Dice_Record_p5_G p5))]) (rs := [.cell 4 32, .tmp 5]) (c := bodyOf Tryz.f9) mixed tab_ok hΓ Tryz.func9 (by kernel_rfl) (by kernel_rfl) (by kernel_rfl) (by kernel_rfl) (CutsOk_cons (q := 122) (c' := made_Dice_Record_p1_code) (by kernel_rfl) rfl hp1 (CutsOk_cons (q := 250) (c' := made_Dice_Record_p2_code) (by kernel_rfl) rfl hp2 (CutsOk_cons (q := 1018) (c' := made_Dice_Record_p3_code) (by kernel_rfl) rfl hp3 (CutsOk_cons (q := 2042) (c' := made_Dice_Record_p5_code) (by kernel_rfl) rfl hp5 CutsOk_nil)))) (fun x k r h => Eq.trans (b := (zqaz (zqbz c_made_Dice_Next p1 p2 p3 p5)).run x k) (by kernel_rfl) h)
end
theorem zqc1Γ : ΓOk Tryz.prog (pick1 [(22, .spec (zq13 zq17)), (23, .spec (zq1a zq1e))]) := (ΓOk_cons zq18 (ΓOk_cons zq1f ΓOk_nil))
def zqc2 (m : Nat) : zqb1 := zqbl zq1e m
theorem zqc3 {β : Type} (i : Nat) (k1 n i_ d d2 ahead b4_ b5_ b6_ b7_ b8_ b9_ b10_ b11_) : (zqc2 (i + 1) k1 n i_ d d2 ahead b4_ b5_ b6_ b7_ b8_ b9_ b10_ b11_ : Option β) = zqbk zq1e (zqc2 i k1) k1 n i_ d d2 ahead b4_ b5_ b6_ b7_ b8_ b9_ b10_ b11_ := rfl
def zqc4 : zqb1 := zqc2 fuel
theorem zqc5 : PieceOk Tryz.prog 177 1 made_Dice_Record_p1_code zqb2 zqb3 (made_Dice_Record_p1_G zqc4) := zqbm zq17 zq1e zqc1Γ fuel
def zqc6 (m : Nat) : zqb5 := zqbo zq17 zq1e m
theorem zqc7 {β : Type} (i : Nat) (k1 n i_ d d2 ahead b4_ b5_ b6_ b7_ b8_ b9_ b10_ b11_) : (zqc6 (i + 1) k1 n i_ d d2 ahead b4_ b5_ b6_ b7_ b8_ b9_ b10_ b11_ : Option β) = zqbn zq17 zq1e (zqc6 i k1) k1 n i_ d d2 ahead b4_ b5_ b6_ b7_ b8_ b9_ b10_ b11_ := rfl
def zqc8 : zqb5 := zqc6 fuel
theorem zqc9 : PieceOk Tryz.prog 177 1 made_Dice_Record_p2_code zqb6 zqb7 (made_Dice_Record_p2_G zqc8) := zqbp zq17 zq1e zqc1Γ fuel
def zqca (m : Nat) : zqb9 := zqbr zq17 m
theorem zqcb {β : Type} (i : Nat) (k1 i_ d d2 ahead times b5_ b6_ b7_ b8_ b9_ b10_ b11_ b12_) : (zqca (i + 1) k1 i_ d d2 ahead times b5_ b6_ b7_ b8_ b9_ b10_ b11_ b12_ : Option β) = zqbq zq17 (zqca i k1) k1 i_ d d2 ahead times b5_ b6_ b7_ b8_ b9_ b10_ b11_ b12_ := rfl
def zqcc : zqb9 := zqca fuel
theorem zqcd : PieceOk Tryz.prog 177 1 made_Dice_Record_p3_code zqba zqbb (made_Dice_Record_p3_G zqcc) := zqbs zq17 zq1e zqc1Γ fuel
def zqce : zqbd := zqbu zq17
theorem zqcf : PieceOk Tryz.prog 177 1 made_Dice_Record_p4_code zqbe zqbf (made_Dice_Record_p4_G zqce) := zqbv zq17 zq1e zqc1Γ
def zqcg (m : Nat) : zqbh := zqbx zq17 zqce m
theorem zqch {β : Type} (i : Nat) (k1 i_ d d2 times b4_ b5_ b6_ b7_ b8_ b9_ b10_ b11_) : (zqcg (i + 1) k1 i_ d d2 times b4_ b5_ b6_ b7_ b8_ b9_ b10_ b11_ : Option β) = zqbw zq17 zqce (zqcg i k1) k1 i_ d d2 times b4_ b5_ b6_ b7_ b8_ b9_ b10_ b11_ := rfl
def zqci : zqbh := zqcg fuel
theorem zqcj : PieceOk Tryz.prog 177 1 made_Dice_Record_p5_code zqbi zqbj (made_Dice_Record_p5_G zqci) := zqby zq17 zq1e zqc1Γ zqce zqcf fuel
def zqck : zqay := zqbz zq17 zqc4 zqc8 zqcc zqci
theorem zqcl : SpecOk Tryz.prog 9 (zqaz zqck) := zqc0 zq17 zq1e zqc1Γ zqc4 zqc8 zqcc zqci zqc5 zqc9 zqcd zqcj

/-- pagewatch/timeline.Check$1 -/
abbrev zqcm := {β : Type} → api_Row → api_Row → (Bool → Option β) → Option β
def zqcn (c : zqcm) : Spec :=
  ⟨[(true, [.data zq4]), (true, [.data zq4])], [], [(false, [.data .bool])], [], fun x k => c x.1.1.1 x.1.2.1.1 (fun r0 => k (((r0, ()), ()), ()))⟩
section
variable (c_slices_Equal_int_int : zq1g)
@[reducible] def timeline_Check_f1_X : Ctx := ⟨look tab, pick1 [(29, .spec (zq1h c_slices_Equal_int_int))], false, false, false, false⟩
def zqco {β : Type} (a : api_Row) (b : api_Row) (k : (Bool → Option β)) : Option β :=
  cond (decide (a.1 = b.1))
  (cond (decide (a.2.1.1 = b.2.1.1) && (decide (a.2.1.2 = b.2.1.2) && true))
  (c_slices_Equal_int_int a.2.2 b.2.2 (fun (rEqualintint : Bool) =>
  k rEqualintint))
  (k false))
  (k false)
theorem zqcp (hΓ : ΓOk Tryz.prog (timeline_Check_f1_X c_slices_Equal_int_int).Γ) : SpecOk Tryz.prog 28 (zqcn (zqco c_slices_Equal_int_int)) :=
  spec_exec (X := (timeline_Check_f1_X c_slices_Equal_int_int)) (Λ := pick1 []) (rs := [.tmp 4]) (c := bodyOf Tryz.f28) mixed tab_ok hΓ Tryz.func28 (by kernel_rfl) (by kernel_rfl) (by kernel_rfl) (by kernel_rfl) CutsOk_nil (fun x k r h => Eq.trans (b := (zqcn (zqco c_slices_Equal_int_int)).run x k) (by kernel_rfl) h)
end
theorem zqcqΓ : ΓOk Tryz.prog (pick1 [(29, .spec (zq1h zq1x))]) := (ΓOk_cons zq1y ΓOk_nil)
def zqcr : zqcm := zqco zq1x
theorem zqcs : SpecOk Tryz.prog 28 (zqcn zqcr) := zqcp zq1x zqcqΓ

/-- pagewatch/timeline.copied -/
abbrev zqct := {β : Type} → zq2 → ((List (List UInt8 × Int)) → (List (Int × (Int × (Int × Int)))) → (List zq0) → (List (Int × (Int × Int))) → Option β) → Option β
def zqcu (c : zqct) : Spec :=
  ⟨[(true, [.data zq3])], [], [(true, [.rowh 0, .rowh 1, .rowh 2, .rowh 3])], [.row 62 (.prod .str (.int .i64)), .row 64 (.prod (.int .i64) (.prod (.int .i64) (.prod (.int .i64) (.int .i64)))), .row 60 zq1, .row 73 (.prod (.int .i64) (.prod (.int .i64) (.int .i64)))], fun x k => c x.1.1.1 (fun r0 r1 r2 r3 => k (((), ()), (r0, r1, r2, r3, ())))⟩
section
variable (c_slices_Clone_api_Event_api_Event : zq4w) (c_slices_Clone_api_Host_api_Host : zq4o) (c_slices_Clone_api_Link_api_Link : zq50) (c_slices_Clone_api_Sync_api_Sync : zq4s)
@[reducible] def timeline_copied_X : Ctx := ⟨look tab, pick1 [(60, .spec (zq4x c_slices_Clone_api_Event_api_Event)), (58, .spec (zq4p c_slices_Clone_api_Host_api_Host)), (61, .spec (zq51 c_slices_Clone_api_Link_api_Link)), (59, .spec (zq4t c_slices_Clone_api_Sync_api_Sync))], false, false, false, false⟩
def zqcv {β : Type} (r_ : zq2) (k : ((List (List UInt8 × Int)) → (List (Int × (Int × (Int × Int)))) → (List zq0) → (List (Int × (Int × Int))) → Option β)) : Option β :=
  c_slices_Clone_api_Host_api_Host r_.1 (fun (lrHost : List (List UInt8 × Int)) =>
  c_slices_Clone_api_Sync_api_Sync r_.2.1 (fun (lrSync : List (Int × (Int × (Int × Int)))) =>
  c_slices_Clone_api_Event_api_Event r_.2.2.1 (fun (lrEvent : List zq0) =>
  c_slices_Clone_api_Link_api_Link r_.2.2.2 (fun (lrLink : List (Int × (Int × Int))) =>
  k lrHost lrSync lrEvent lrLink))))
theorem zqcw (hΓ : ΓOk Tryz.prog (timeline_copied_X c_slices_Clone_api_Event_api_Event c_slices_Clone_api_Host_api_Host c_slices_Clone_api_Link_api_Link c_slices_Clone_api_Sync_api_Sync).Γ) : SpecOk Tryz.prog 34 (zqcu (zqcv c_slices_Clone_api_Event_api_Event c_slices_Clone_api_Host_api_Host c_slices_Clone_api_Link_api_Link c_slices_Clone_api_Sync_api_Sync)) :=
  spec_exec (X := (timeline_copied_X c_slices_Clone_api_Event_api_Event c_slices_Clone_api_Host_api_Host c_slices_Clone_api_Link_api_Link c_slices_Clone_api_Sync_api_Sync)) (Λ := pick1 []) (rs := [.cell 2 32]) (c := bodyOf Tryz.f34) mixed tab_ok hΓ Tryz.func34 (by kernel_rfl) (by kernel_rfl) (by kernel_rfl) (by kernel_rfl) CutsOk_nil (fun x k r h => Eq.trans (b := (zqcu (zqcv c_slices_Clone_api_Event_api_Event c_slices_Clone_api_Host_api_Host c_slices_Clone_api_Link_api_Link c_slices_Clone_api_Sync_api_Sync)).run x k) (by kernel_rfl) h)
end
theorem zqcxΓ : ΓOk Tryz.prog (pick1 [(60, .spec (zq4x zq4y)), (58, .spec (zq4p zq4q)), (61, .spec (zq51 zq52)), (59, .spec (zq4t zq4u))]) := (ΓOk_cons zq4z (ΓOk_cons zq4r (ΓOk_cons zq53 (ΓOk_cons zq4v ΓOk_nil))))
def zqcy : zqct := zqcv zq4y zq4q zq52 zq4u
theorem zqcz : SpecOk Tryz.prog 34 (zqcu zqcy) := zqcw zq4y zq4q zq52 zq4u zqcxΓ

/-- pagewatch/pagewatchref39.Fits -/
abbrev zqd0 := {β : Type} → Int → (List (Int × (Int × Int))) → (List Int) → (Bool → Option β) → Option β
def zqd1 (c : zqd0) : Spec :=
  ⟨[(false, [.data (.int .i64)]), (false, [.data (.slice (.prod (.int .i64) (.prod (.int .i64) (.int .i64))))]), (false, [.data (.slice (.int .i64))])], [], [(false, [.data .bool])], [], fun x k => c x.1.1.1 x.1.2.1.1 x.1.2.2.1.1 (fun r0 => k (((r0, ()), ()), ()))⟩
noncomputable def ref39_Fits_p1_code : Code := codeAt 58 (bodyOf Tryz.f37)
noncomputable def ref39_Fits_p2_code : Code := codeAt 122 (bodyOf Tryz.f37)
abbrev zqd2 (β : Type) := Bool → Option β
abbrev zqd3 (β : Type) := (List (Int × (Int × Int))) → (List Int) → Option β
abbrev zqd4 := {β : Type} → zqd2 β → zqd3 β → Int → (List (Int × (Int × Int))) → (List Int) → Int → Option β
def zqd5 : View := ⟨0, [0, 1, 2, 7], [(false, [.data (.int .i64)]), (false, [.data (.slice (.prod (.int .i64) (.prod (.int .i64) (.int .i64))))]), (false, [.data (.slice (.int .i64))]), (false, [.data (.int .i64)])], []⟩
def zqd6 : List (AExit × View) := [(.ret, ⟨0, [6], [(false, [.data .bool])], []⟩), (.exit 0, ⟨0, [1, 2], [(false, [.data (.slice (.prod (.int .i64) (.prod (.int .i64) (.int .i64))))]), (false, [.data (.slice (.int .i64))])], []⟩)]
@[reducible] def ref39_Fits_p1_G (p : zqd4) {β : Type} (d : zqd5.den) (ks : Outs.K β zqd6) : Option β :=
  p (fun a0 => ks.1 (((a0, ()), ()), ())) (fun a0 a1 => ks.2.1 (((a0, ()), (a1, ()), ()), ())) d.1.1.1 d.1.2.1.1 d.1.2.2.1.1 d.1.2.2.2.1.1
abbrev zqd7 (β : Type) := Bool → Option β
abbrev zqd8 (β : Type) := Unit → Option β
abbrev zqd9 := {β : Type} → zqd7 β → zqd8 β → (List (Int × (Int × Int))) → (List Int) → Int → Option β
def zqda : View := ⟨0, [1, 2, 8], [(false, [.data (.slice (.prod (.int .i64) (.prod (.int .i64) (.int .i64))))]), (false, [.data (.slice (.int .i64))]), (false, [.data (.int .i64)])], []⟩
def zqdb : List (AExit × View) := [(.ret, ⟨0, [6], [(false, [.data .bool])], []⟩), (.exit 2, ⟨0, [], [], []⟩)]
@[reducible] def ref39_Fits_p2_G (p : zqd9) {β : Type} (d : zqda.den) (ks : Outs.K β zqdb) : Option β :=
  p (fun a0 => ks.1 (((a0, ()), ()), ())) (fun _ => ks.2.1 ((), ())) d.1.1.1 d.1.2.1.1 d.1.2.2.1.1
section
variable (c_ref25_In : zq1z) (c_ref39_Valid : zq6u)
@[reducible] def ref39_Fits_X : Ctx := ⟨look tab, pick1 [(31, .spec (zq20 c_ref25_In)), (65, .spec (zq6v c_ref39_Valid))], false, false, false, false⟩
def zqdc {β : Type} (rec : Int → (List (Int × (Int × Int))) → (List Int) → Int → Option β) (k1 : zqd2 β) (k2 : zqd3 β) (n : Int) (l : List (Int × (Int × Int))) (x : List Int) (i_ : Int) : Option β :=
  cond (decide (i_ < n))
  (cond (decide (0 ≤ i_) && decide (i_ < (List.length x : Int)))
  (let e : Int := List.getD x (Int.toNat i_) (0 : Int);
  c_ref25_In e (-1099511627776 : Int) (1099511627776 : Int) (fun (rIn : Bool) =>
  cond (!rIn)
  (k1 false)
  (let i_2 : Int := (IntKind.i64.wrap (i_ + (1 : Int)));
  rec n l x i_2)))
  none)
  (k2 l x)
def zqdd {β : Type} : Nat → zqd2 β → zqd3 β → Int → (List (Int × (Int × Int))) → (List Int) → Int → Option β
  | 0 => fun _ _ _ _ _ _ => none
  | i + 1 => fun k1 k2 n l x i_ => zqdc c_ref25_In (zqdd i k1 k2) k1 k2 n l x i_
theorem zqde (hΓ : ΓOk Tryz.prog (ref39_Fits_X c_ref25_In c_ref39_Valid).Γ) (i : Nat) : PieceOk Tryz.prog 59 0 ref39_Fits_p1_code zqd5 zqd6 (ref39_Fits_p1_G (zqdd c_ref25_In i)) := by
  rw [show ref39_Fits_p1_code = .loop (loopBody ref39_Fits_p1_code) by kernel_rfl]
  exact piece_loop (X := (ref39_Fits_X c_ref25_In c_ref39_Valid)) (p := 1) (Λ := pick1 []) (G := fun i => @fun β d ks => ref39_Fits_p1_G (zqdd c_ref25_In i) d ks) mixed tab_ok hΓ rfl (by kernel_rfl) CutsOk_nil (fun _ _ => rfl) (fun i => @fun β d ks r h => Eq.trans (b := ref39_Fits_p1_G (zqdd c_ref25_In (i + 1)) d ks) (by kernel_rfl) h) i
def zqdf {β : Type} (rec : (List (Int × (Int × Int))) → (List Int) → Int → Option β) (k1 : zqd7 β) (k2 : zqd8 β) (l : List (Int × (Int × Int))) (x : List Int) (i_ : Int) : Option β :=
  cond (decide (i_ < (List.length l : Int)))
  (cond (decide (0 ≤ i_) && decide (i_ < (List.length l : Int)))
  (let e : (Int × (Int × Int)) := List.getD l (Int.toNat i_) ((0 : Int), ((0 : Int), (0 : Int)));
  cond (decide (0 ≤ e.2.1) && decide (e.2.1 < (List.length x : Int)))
  (let e2 : Int := List.getD x (Int.toNat e.2.1) (0 : Int);
  cond (decide (0 ≤ i_) && decide (i_ < (List.length l : Int)))
  (let e3 : (Int × (Int × Int)) := List.getD l (Int.toNat i_) ((0 : Int), ((0 : Int), (0 : Int)));
  cond (decide (0 ≤ e3.1) && decide (e3.1 < (List.length x : Int)))
  (let e4 : Int := List.getD x (Int.toNat e3.1) (0 : Int);
  cond (decide (0 ≤ i_) && decide (i_ < (List.length l : Int)))
  (let e5 : (Int × (Int × Int)) := List.getD l (Int.toNat i_) ((0 : Int), ((0 : Int), (0 : Int)));
  cond (decide (e5.2.2 < (IntKind.i64.wrap (e2 - e4))))
  (k1 false)
  (let i_2 : Int := (IntKind.i64.wrap (i_ + (1 : Int)));
  rec l x i_2))
  none)
  none)
  none)
  none)
  none)
  (k2 ())
def zqdg {β : Type} : Nat → zqd7 β → zqd8 β → (List (Int × (Int × Int))) → (List Int) → Int → Option β
  | 0 => fun _ _ _ _ _ => none
  | i + 1 => fun k1 k2 l x i_ => zqdf (zqdg i k1 k2) k1 k2 l x i_
theorem zqdh (hΓ : ΓOk Tryz.prog (ref39_Fits_X c_ref25_In c_ref39_Valid).Γ) (i : Nat) : PieceOk Tryz.prog 59 0 ref39_Fits_p2_code zqda zqdb (ref39_Fits_p2_G (zqdg i)) := by
  rw [show ref39_Fits_p2_code = .loop (loopBody ref39_Fits_p2_code) by kernel_rfl]
  exact piece_loop (X := (ref39_Fits_X c_ref25_In c_ref39_Valid)) (p := 1) (Λ := pick1 []) (G := fun i => @fun β d ks => ref39_Fits_p2_G (zqdg i) d ks) mixed tab_ok hΓ rfl (by kernel_rfl) CutsOk_nil (fun _ _ => rfl) (fun i => @fun β d ks r h => Eq.trans (b := ref39_Fits_p2_G (zqdg (i + 1)) d ks) (by kernel_rfl) h) i
def zqdi (p1 : zqd4) (p2 : zqd9) {β : Type} (n : Int) (l : List (Int × (Int × Int))) (x : List Int) (k : (Bool → Option β)) : Option β :=
  c_ref39_Valid n l (fun (rValid : Bool) =>
  cond (!rValid)
  (k false)
  (cond (!decide ((List.length x : Int) = n))
  (k false)
  (p1 (fun (t6 : Bool) =>
  k t6) (fun (l2 : List (Int × (Int × Int))) (x2 : List Int) =>
  p2 (fun (t6 : Bool) =>
  k t6) (fun (_ : Unit) =>
  k true) l2 x2 (0 : Int)) n l x (0 : Int))))
theorem zqdj (hΓ : ΓOk Tryz.prog (ref39_Fits_X c_ref25_In c_ref39_Valid).Γ) (p1 : zqd4) (p2 : zqd9) (hp1 : PieceOk Tryz.prog 59 0 ref39_Fits_p1_code zqd5 zqd6 (ref39_Fits_p1_G p1)) (hp2 : PieceOk Tryz.prog 59 0 ref39_Fits_p2_code zqda zqdb (ref39_Fits_p2_G p2)) : SpecOk Tryz.prog 37 (zqd1 (zqdi c_ref39_Valid p1 p2)) :=
  spec_exec (X := (ref39_Fits_X c_ref25_In c_ref39_Valid)) (Λ := pick1 [(58, pieceCut zqd5 zqd6 (ref39_Fits_p1_G p1)), (122, pieceCut zqda zqdb (ref39_Fits_p2_G p2))]) (rs := [.tmp 6]) (c := bodyOf Tryz.f37) mixed tab_ok hΓ Tryz.func37 (by kernel_rfl) (by kernel_rfl) (by kernel_rfl) (by kernel_rfl) (CutsOk_cons (q := 58) (c' := ref39_Fits_p1_code) (by kernel_rfl) rfl hp1 (CutsOk_cons (q := 122) (c' := ref39_Fits_p2_code) (by kernel_rfl) rfl hp2 CutsOk_nil)) (fun x k r h => Eq.trans (b := (zqd1 (zqdi c_ref39_Valid p1 p2)).run x k) (by kernel_rfl) h)
end
theorem zqdkΓ : ΓOk Tryz.prog (pick1 [(31, .spec (zq20 zq24)), (65, .spec (zq6v zq7b))]) := (ΓOk_cons zq25 (ΓOk_cons zq7c ΓOk_nil))
def zqdl (m : Nat) : zqd4 := zqdd zq24 m
theorem zqdm {β : Type} (i : Nat) (k1 k2 n l x i_) : (zqdl (i + 1) k1 k2 n l x i_ : Option β) = zqdc zq24 (zqdl i k1 k2) k1 k2 n l x i_ := rfl
def zqdn : zqd4 := zqdl fuel
theorem zqdo : PieceOk Tryz.prog 59 0 ref39_Fits_p1_code zqd5 zqd6 (ref39_Fits_p1_G zqdn) := zqde zq24 zq7b zqdkΓ fuel
def zqdp (m : Nat) : zqd9 := zqdg m
theorem zqdq {β : Type} (i : Nat) (k1 k2 l x i_) : (zqdp (i + 1) k1 k2 l x i_ : Option β) = zqdf (zqdp i k1 k2) k1 k2 l x i_ := rfl
def zqdr : zqd9 := zqdp fuel
theorem zqds : PieceOk Tryz.prog 59 0 ref39_Fits_p2_code zqda zqdb (ref39_Fits_p2_G zqdr) := zqdh zq24 zq7b zqdkΓ fuel
def zqdt : zqd0 := zqdi zq7b zqdn zqdr
theorem zqdu : SpecOk Tryz.prog 37 (zqd1 zqdt) := zqdj zq24 zq7b zqdkΓ zqdn zqdr zqdo zqds

/-- (pagewatch/order.matrix).earlier -/
abbrev zqdv := {β : Type} → (List (List Int)) → Int → Int → (Bool → Option β) → Option β
def zqdw (c : zqdv) : Spec :=
  ⟨[(false, [.data (.slice (.slice (.int .i64)))]), (false, [.data (.int .i64)]), (false, [.data (.int .i64)])], [], [(false, [.data .bool])], [], fun x k => c x.1.1.1 x.1.2.1.1 x.1.2.2.1.1 (fun r0 => k (((r0, ()), ()), ()))⟩
section
variable (c_order_matrix_when : zq7d)
@[reducible] def order_matrix_earlier_X : Ctx := ⟨look tab, pick1 [(70, .spec (zq7e c_order_matrix_when))], false, false, false, false⟩
def zqdx {β : Type} (m : List (List Int)) (a : Int) (b : Int) (k : (Bool → Option β)) : Option β :=
  c_order_matrix_when m a (fun (rwhen : (Int × Int)) =>
  c_order_matrix_when m b (fun (rwhen2 : (Int × Int)) =>
  cond (decide (rwhen.1 < rwhen2.1))
  (k true)
  (cond (decide (rwhen.1 = rwhen2.1))
  (let t : Bool := (decide (rwhen.2 < rwhen2.2));
  k t)
  (k false))))
theorem zqdy (hΓ : ΓOk Tryz.prog (order_matrix_earlier_X c_order_matrix_when).Γ) : SpecOk Tryz.prog 46 (zqdw (zqdx c_order_matrix_when)) :=
  spec_exec (X := (order_matrix_earlier_X c_order_matrix_when)) (Λ := pick1 []) (rs := [.tmp 6]) (c := bodyOf Tryz.f46) mixed tab_ok hΓ Tryz.func46 (by kernel_rfl) (by kernel_rfl) (by kernel_rfl) (by kernel_rfl) CutsOk_nil (fun x k r h => Eq.trans (b := (zqdw (zqdx c_order_matrix_when)).run x k) (by kernel_rfl) h)
end
theorem zqdzΓ : ΓOk Tryz.prog (pick1 [(70, .spec (zq7e zq7i))]) := (ΓOk_cons zq7j ΓOk_nil)
def zqe0 : zqdv := zqdx zq7i
theorem zqe1 : SpecOk Tryz.prog 46 (zqdw zqe0) := zqdy zq7i zqdzΓ

/-- slices.Contains[[]int,int] -/
abbrev zqe2 := {β : Type} → (List Int) → Int → (Bool → Option β) → Option β
def zqe3 (c : zqe2) : Spec :=
  ⟨[(false, [.data (.slice (.int .i64))]), (false, [.data (.int .i64)])], [], [(false, [.data .bool])], [], fun x k => c x.1.1.1 x.1.2.1.1 (fun r0 => k (((r0, ()), ()), ()))⟩
section
variable (c_slices_Index_int_int : zq7r)
@[reducible] def slices_Contains_int_int_X : Ctx := ⟨look tab, pick1 [(74, .spec (zq7s c_slices_Index_int_int))], false, false, false, false⟩
def zqe4 {β : Type} (s : List Int) (v : Int) (k : (Bool → Option β)) : Option β :=
  c_slices_Index_int_int s v (fun (rIndexintint : Int) =>
  let t : Bool := (decide ((0 : Int) ≤ rIndexintint));
  k t)
theorem zqe5 (hΓ : ΓOk Tryz.prog (slices_Contains_int_int_X c_slices_Index_int_int).Γ) : SpecOk Tryz.prog 51 (zqe3 (zqe4 c_slices_Index_int_int)) :=
  spec_exec (X := (slices_Contains_int_int_X c_slices_Index_int_int)) (Λ := pick1 []) (rs := [.tmp 4]) (c := bodyOf Tryz.f51) mixed tab_ok hΓ Tryz.func51 (by kernel_rfl) (by kernel_rfl) (by kernel_rfl) (by kernel_rfl) CutsOk_nil (fun x k r h => Eq.trans (b := (zqe3 (zqe4 c_slices_Index_int_int)).run x k) (by kernel_rfl) h)
end
theorem zqe6Γ : ΓOk Tryz.prog (pick1 [(74, .spec (zq7s zq88))]) := (ΓOk_cons zq89 ΓOk_nil)
def zqe7 : zqe2 := zqe4 zq88
theorem zqe8 : SpecOk Tryz.prog 51 (zqe3 zqe7) := zqe5 zq88 zqe6Γ

/-- pagewatch/pagewatchref39.Close -/
abbrev zqe9 := {β : Type} → Int → (List (Int × (Int × Int))) → ((List (List Int)) → Bool → Option β) → Option β
def zqea (c : zqe9) : Spec :=
  ⟨[(false, [.data (.int .i64)]), (false, [.data (.slice (.prod (.int .i64) (.prod (.int .i64) (.int .i64))))])], [], [(false, [.data (.slice (.slice (.int .i64)))]), (false, [.data .bool])], [], fun x k => c x.1.1.1 x.1.2.1.1 (fun r0 r1 => k (((r0, ()), (r1, ()), ()), ()))⟩
noncomputable def ref39_Close_p2_code : Code := codeAt 122 (bodyOf Tryz.f54)
noncomputable def ref39_Close_p3_code : Code := codeAt 250 (bodyOf Tryz.f54)
noncomputable def ref39_Close_p8_code : Code := codeAt 506 (bodyOf Tryz.f54)
noncomputable def ref39_Close_p1_code : Code := codeAt 202 (loopBody ref39_Close_p2_code)
noncomputable def ref39_Close_p6_code : Code := codeAt 98 (loopBody ref39_Close_p8_code)
noncomputable def ref39_Close_p7_code : Code := codeAt 102 (loopBody ref39_Close_p8_code)
noncomputable def ref39_Close_p5_code : Code := codeAt 50 (loopBody ref39_Close_p6_code)
noncomputable def ref39_Close_p4_code : Code := codeAt 25 (loopBody ref39_Close_p5_code)
abbrev zqeb (β : Type) := Int → (List (Int × (Int × Int))) → Int → (List (List Int)) → (List Int) → Option β
abbrev zqec := {β : Type} → zqeb β → Int → (List (Int × (Int × Int))) → Int → Int → (List (List Int)) → (List Int) → Option β
def zqed : View := ⟨0, [0, 1, 6, 7, 8, 9], [(false, [.data (.int .i64)]), (false, [.data (.slice (.prod (.int .i64) (.prod (.int .i64) (.int .i64))))]), (false, [.math 0]), (false, [.data (.int .i64)]), (false, [.rowh 1]), (false, [.data (.int .i64)])], [.mat 22 3 (.int .i64), .row 3 (.int .i64)]⟩
def zqee : List (AExit × View) := [(.exit 2, ⟨0, [0, 1, 6, 7, 8], [(false, [.data (.int .i64)]), (false, [.data (.slice (.prod (.int .i64) (.prod (.int .i64) (.int .i64))))]), (false, [.math 0]), (false, [.data (.int .i64)]), (false, [.rowh 1])], [.mat 22 3 (.int .i64), .row 3 (.int .i64)]⟩)]
@[reducible] def ref39_Close_p1_G (p : zqec) {β : Type} (d : zqed.den) (ks : Outs.K β zqee) : Option β :=
  p (fun a0 a1 a2 a3 a4 => ks.1 (((a0, ()), (a1, ()), (), (a2, ()), (), ()), (a3, a4, ()))) d.1.1.1 d.1.2.1.1 d.1.2.2.2.1.1 d.1.2.2.2.2.2.1.1 d.2.1 d.2.2.1
abbrev zqef (β : Type) := Int → (List (Int × (Int × Int))) → (List (List Int)) → Option β
abbrev zqeg := {β : Type} → zqef β → Int → (List (Int × (Int × Int))) → Int → (List (List Int)) → Option β
def zqeh : View := ⟨0, [0, 1, 6, 7], [(false, [.data (.int .i64)]), (false, [.data (.slice (.prod (.int .i64) (.prod (.int .i64) (.int .i64))))]), (false, [.math 0]), (false, [.data (.int .i64)])], [.mat 22 3 (.int .i64)]⟩
def zqei : List (AExit × View) := [(.exit 0, ⟨0, [0, 1, 6], [(false, [.data (.int .i64)]), (false, [.data (.slice (.prod (.int .i64) (.prod (.int .i64) (.int .i64))))]), (false, [.math 0])], [.mat 22 3 (.int .i64)]⟩)]
@[reducible] def ref39_Close_p2_G (p : zqeg) {β : Type} (d : zqeh.den) (ks : Outs.K β zqei) : Option β :=
  p (fun a0 a1 a2 => ks.1 (((a0, ()), (a1, ()), (), ()), (a2, ()))) d.1.1.1 d.1.2.1.1 d.1.2.2.2.1.1 d.2.1
abbrev zqej (β : Type) := Bool → (List (List Int)) → Option β
abbrev zqek (β : Type) := Int → (List (List Int)) → Option β
abbrev zqel := {β : Type} → zqej β → zqek β → Int → (List (Int × (Int × Int))) → Int → (List (List Int)) → Option β
def zqem : View := ⟨0, [0, 1, 6, 10], [(false, [.data (.int .i64)]), (false, [.data (.slice (.prod (.int .i64) (.prod (.int .i64) (.int .i64))))]), (false, [.math 0]), (false, [.data (.int .i64)])], [.mat 22 3 (.int .i64)]⟩
def zqen : List (AExit × View) := [(.ret, ⟨0, [4, 5], [(false, [.math 0]), (false, [.data .bool])], [.mat 22 3 (.int .i64)]⟩), (.exit 4, ⟨0, [0, 6], [(false, [.data (.int .i64)]), (false, [.math 0])], [.mat 22 3 (.int .i64)]⟩)]
@[reducible] def ref39_Close_p3_G (p : zqel) {β : Type} (d : zqem.den) (ks : Outs.K β zqen) : Option β :=
  p (fun a0 a1 => ks.1 (((), (a0, ()), ()), (a1, ()))) (fun a0 a1 => ks.2.1 (((a0, ()), (), ()), (a1, ()))) d.1.1.1 d.1.2.1.1 d.1.2.2.2.1.1 d.2.1
abbrev zqeo (β : Type) := Int → Int → Int → Int → (List (List Int)) → Option β
abbrev zqep := {β : Type} → zqeo β → Int → Int → Int → Int → Bool → (List (List Int)) → Option β
def zqeq : View := ⟨0, [0, 6, 11, 12, 13, 131], [(false, [.data (.int .i64)]), (false, [.math 0]), (false, [.data (.int .i64)]), (false, [.data (.int .i64)]), (false, [.data (.int .i64)]), (false, [.data .bool])], [.mat 22 3 (.int .i64)]⟩
def zqer : List (AExit × View) := [(.normal, ⟨0, [0, 6, 11, 12, 13], [(false, [.data (.int .i64)]), (false, [.math 0]), (false, [.data (.int .i64)]), (false, [.data (.int .i64)]), (false, [.data (.int .i64)])], [.mat 22 3 (.int .i64)]⟩)]
@[reducible] def ref39_Close_p4_G (p : zqep) {β : Type} (d : zqeq.den) (ks : Outs.K β zqer) : Option β :=
  p (fun a0 a1 a2 a3 a4 => ks.1 (((a0, ()), (), (a1, ()), (a2, ()), (a3, ()), ()), (a4, ()))) d.1.1.1 d.1.2.2.1.1 d.1.2.2.2.1.1 d.1.2.2.2.2.1.1 d.1.2.2.2.2.2.1.1 d.2.1
abbrev zqes (β : Type) := Int → Int → Int → (List (List Int)) → Option β
abbrev zqet := {β : Type} → zqes β → Int → Int → Int → Int → (List (List Int)) → Option β
def zqeu : View := ⟨0, [0, 6, 11, 12, 13], [(false, [.data (.int .i64)]), (false, [.math 0]), (false, [.data (.int .i64)]), (false, [.data (.int .i64)]), (false, [.data (.int .i64)])], [.mat 22 3 (.int .i64)]⟩
def zqev : List (AExit × View) := [(.exit 10, ⟨0, [0, 6, 11, 12], [(false, [.data (.int .i64)]), (false, [.math 0]), (false, [.data (.int .i64)]), (false, [.data (.int .i64)])], [.mat 22 3 (.int .i64)]⟩)]
@[reducible] def ref39_Close_p5_G (p : zqet) {β : Type} (d : zqeu.den) (ks : Outs.K β zqev) : Option β :=
  p (fun a0 a1 a2 a3 => ks.1 (((a0, ()), (), (a1, ()), (a2, ()), ()), (a3, ()))) d.1.1.1 d.1.2.2.1.1 d.1.2.2.2.1.1 d.1.2.2.2.2.1.1 d.2.1
abbrev zqew (β : Type) := Int → Int → (List (List Int)) → Option β
abbrev zqex := {β : Type} → zqew β → Int → Int → Int → (List (List Int)) → Option β
def zqey : View := ⟨0, [0, 6, 11, 12], [(false, [.data (.int .i64)]), (false, [.math 0]), (false, [.data (.int .i64)]), (false, [.data (.int .i64)])], [.mat 22 3 (.int .i64)]⟩
def zqez : List (AExit × View) := [(.exit 8, ⟨0, [0, 6, 11], [(false, [.data (.int .i64)]), (false, [.math 0]), (false, [.data (.int .i64)])], [.mat 22 3 (.int .i64)]⟩)]
@[reducible] def ref39_Close_p6_G (p : zqex) {β : Type} (d : zqey.den) (ks : Outs.K β zqez) : Option β :=
  p (fun a0 a1 a2 => ks.1 (((a0, ()), (), (a1, ()), ()), (a2, ()))) d.1.1.1 d.1.2.2.1.1 d.1.2.2.2.1.1 d.2.1
abbrev zqf0 (β : Type) := Bool → (List (List Int)) → Option β
abbrev zqf1 (β : Type) := Int → Int → (List (List Int)) → Option β
abbrev zqf2 := {β : Type} → zqf0 β → zqf1 β → Int → Int → Int → (List (List Int)) → Option β
def zqf3 : View := ⟨0, [0, 6, 11, 14], [(false, [.data (.int .i64)]), (false, [.math 0]), (false, [.data (.int .i64)]), (false, [.data (.int .i64)])], [.mat 22 3 (.int .i64)]⟩
def zqf4 : List (AExit × View) := [(.ret, ⟨0, [4, 5], [(false, [.math 0]), (false, [.data .bool])], [.mat 22 3 (.int .i64)]⟩), (.exit 12, ⟨0, [0, 6, 11], [(false, [.data (.int .i64)]), (false, [.math 0]), (false, [.data (.int .i64)])], [.mat 22 3 (.int .i64)]⟩)]
@[reducible] def ref39_Close_p7_G (p : zqf2) {β : Type} (d : zqf3.den) (ks : Outs.K β zqf4) : Option β :=
  p (fun a0 a1 => ks.1 (((), (a0, ()), ()), (a1, ()))) (fun a0 a1 a2 => ks.2.1 (((a0, ()), (), (a1, ()), ()), (a2, ()))) d.1.1.1 d.1.2.2.1.1 d.1.2.2.2.1.1 d.2.1
abbrev zqf5 (β : Type) := Bool → (List (List Int)) → Option β
abbrev zqf6 (β : Type) := (List (List Int)) → Option β
abbrev zqf7 := {β : Type} → zqf5 β → zqf6 β → Int → Int → (List (List Int)) → Option β
def zqf8 : View := ⟨0, [0, 6, 11], [(false, [.data (.int .i64)]), (false, [.math 0]), (false, [.data (.int .i64)])], [.mat 22 3 (.int .i64)]⟩
def zqf9 : List (AExit × View) := [(.ret, ⟨0, [4, 5], [(false, [.math 0]), (false, [.data .bool])], [.mat 22 3 (.int .i64)]⟩), (.exit 6, ⟨0, [6], [(false, [.math 0])], [.mat 22 3 (.int .i64)]⟩)]
@[reducible] def ref39_Close_p8_G (p : zqf7) {β : Type} (d : zqf8.den) (ks : Outs.K β zqf9) : Option β :=
  p (fun a0 a1 => ks.1 (((), (a0, ()), ()), (a1, ()))) (fun a0 => ks.2.1 (((), ()), (a0, ()))) d.1.1.1 d.1.2.2.1.1 d.2.1
section
variable (c_ref39_Valid : zq6u)
@[reducible] def ref39_Close_X : Ctx := ⟨look tab, pick1 [(65, .spec (zq6v c_ref39_Valid))], true, false, false, false⟩
def zqfa {β : Type} (rec : Int → (List (Int × (Int × Int))) → Int → Int → (List (List Int)) → (List Int) → Option β) (k1 : zqeb β) (n : Int) (l : List (Int × (Int × Int))) (i_ : Int) (j : Int) (d : List (List Int)) (row : List Int) : Option β :=
  cond (decide (j < n))
  (let l2 : List Int := ([(1099511627776 : Int)] : List Int);
  cond (decide ((List.length row + List.length l2) * 8 ≤ roomMax))
  (let l3 : List Int := (row ++ l2);
  let j2 : Int := (IntKind.i64.wrap (j + (1 : Int)));
  rec n l i_ j2 d l3)
  none)
  (k1 n l i_ d row)
def zqfb {β : Type} : Nat → zqeb β → Int → (List (Int × (Int × Int))) → Int → Int → (List (List Int)) → (List Int) → Option β
  | 0 => fun _ _ _ _ _ _ _ => none
  | i + 1 => fun k1 n l i_ j d row => zqfa (zqfb i k1) k1 n l i_ j d row
theorem zqfc (hΓ : ΓOk Tryz.prog (ref39_Close_X c_ref39_Valid).Γ) (i : Nat) : PieceOk Tryz.prog 175 0 ref39_Close_p1_code zqed zqee (ref39_Close_p1_G (zqfb i)) := by
  rw [show ref39_Close_p1_code = .loop (loopBody ref39_Close_p1_code) by kernel_rfl]
  exact piece_loop (X := (ref39_Close_X c_ref39_Valid)) (p := 1) (Λ := pick1 []) (G := fun i => @fun β d ks => ref39_Close_p1_G (zqfb i) d ks) mixed tab_ok hΓ rfl (by kernel_rfl) CutsOk_nil (fun _ _ => rfl) (fun i => @fun β d ks r h => Eq.trans (b := ref39_Close_p1_G (zqfb (i + 1)) d ks) (by kernel_rfl) h) i
def zqfd (p1 : zqec) {β : Type} (rec : Int → (List (Int × (Int × Int))) → Int → (List (List Int)) → Option β) (k1 : zqef β) (n : Int) (l : List (Int × (Int × Int))) (i_ : Int) (d : List (List Int)) : Option β :=
  cond (decide (i_ < n))
  (p1 (fun (n2 : Int) (l2 : List (Int × (Int × Int))) (i_2 : Int) (d2 : List (List Int)) (row : List Int) =>
  cond (decide (0 ≤ i_2) && decide (i_2 < (List.length row : Int)))
  (let l3 : List Int := (List.set row (Int.toNat i_2) (0 : Int));
  let m_ : List (List Int) := ([l3] : List (List Int));
  cond (decide ((List.length d2 + List.length m_) * 24 ≤ roomMax))
  (let m_2 : List (List Int) := (d2 ++ m_);
  let i_3 : Int := (IntKind.i64.wrap (i_2 + (1 : Int)));
  rec n2 l2 i_3 m_2)
  none)
  none) n l i_ (0 : Int) d ([] : List Int))
  (k1 n l d)
def zqfe (p1 : zqec) {β : Type} : Nat → zqef β → Int → (List (Int × (Int × Int))) → Int → (List (List Int)) → Option β
  | 0 => fun _ _ _ _ _ => none
  | i + 1 => fun k1 n l i_ d => zqfd p1 (zqfe p1 i k1) k1 n l i_ d
theorem zqff (hΓ : ΓOk Tryz.prog (ref39_Close_X c_ref39_Valid).Γ) (p1 : zqec) (hp1 : PieceOk Tryz.prog 175 0 ref39_Close_p1_code zqed zqee (ref39_Close_p1_G p1)) (i : Nat) : PieceOk Tryz.prog 175 0 ref39_Close_p2_code zqeh zqei (ref39_Close_p2_G (zqfe p1 i)) := by
  rw [show ref39_Close_p2_code = .loop (loopBody ref39_Close_p2_code) by kernel_rfl]
  exact piece_loop (X := (ref39_Close_X c_ref39_Valid)) (p := 1) (Λ := pick1 [(202, pieceCut zqed zqee (ref39_Close_p1_G p1))]) (G := fun i => @fun β d ks => ref39_Close_p2_G (zqfe p1 i) d ks) mixed tab_ok hΓ rfl (by kernel_rfl) (CutsOk_cons (q := 202) (c' := ref39_Close_p1_code) (by kernel_rfl) rfl hp1 CutsOk_nil) (fun _ _ => rfl) (fun i => @fun β d ks r h => Eq.trans (b := ref39_Close_p2_G (zqfe p1 (i + 1)) d ks) (by kernel_rfl) h) i
def zqfg {β : Type} (rec : Int → (List (Int × (Int × Int))) → Int → (List (List Int)) → Option β) (k1 : zqej β) (k2 : zqek β) (n : Int) (l : List (Int × (Int × Int))) (i_ : Int) (d : List (List Int)) : Option β :=
  cond (decide (i_ < (List.length l : Int)))
  (cond (decide (0 ≤ i_) && decide (i_ < (List.length l : Int)))
  (let e : (Int × (Int × Int)) := List.getD l (Int.toNat i_) ((0 : Int), ((0 : Int), (0 : Int)));
  cond (decide (0 ≤ e.1) && decide (e.1 < (List.length d : Int)))
  (cond (decide (0 ≤ i_) && decide (i_ < (List.length l : Int)))
  (let e2 : (Int × (Int × Int)) := List.getD l (Int.toNat i_) ((0 : Int), ((0 : Int), (0 : Int)));
  cond (decide (0 ≤ i_) && decide (i_ < (List.length l : Int)))
  (let e3 : (Int × (Int × Int)) := List.getD l (Int.toNat i_) ((0 : Int), ((0 : Int), (0 : Int)));
  cond (decide (0 ≤ e3.1) && decide (e3.1 < (List.length d : Int)))
  (cond (decide (0 ≤ i_) && decide (i_ < (List.length l : Int)))
  (let e4 : (Int × (Int × Int)) := List.getD l (Int.toNat i_) ((0 : Int), ((0 : Int), (0 : Int)));
  cond (decide (0 ≤ e4.2.1) && decide (e4.2.1 < (List.length (List.getD d (Int.toNat e3.1) []) : Int)))
  (cond (decide (0 ≤ i_) && decide (i_ < (List.length l : Int)))
  (let e5 : (Int × (Int × Int)) := List.getD l (Int.toNat i_) ((0 : Int), ((0 : Int), (0 : Int)));
  cond (decide (0 ≤ e2.2.1) && decide (e2.2.1 < (List.length (List.getD d (Int.toNat e.1) []) : Int)))
  (let m_ : List (List Int) := (List.set d (Int.toNat e.1) (List.set (List.getD d (Int.toNat e.1) []) (Int.toNat e2.2.1) (if e5.2.2 < (List.getD (List.getD d (Int.toNat e3.1) []) (Int.toNat e4.2.1) (0 : Int)) then e5.2.2 else (List.getD (List.getD d (Int.toNat e3.1) []) (Int.toNat e4.2.1) (0 : Int)))));
  cond (decide (0 ≤ i_) && decide (i_ < (List.length l : Int)))
  (let e6 : (Int × (Int × Int)) := List.getD l (Int.toNat i_) ((0 : Int), ((0 : Int), (0 : Int)));
  cond (decide (0 ≤ i_) && decide (i_ < (List.length l : Int)))
  (let e7 : (Int × (Int × Int)) := List.getD l (Int.toNat i_) ((0 : Int), ((0 : Int), (0 : Int)));
  cond (decide (e6.1 = e7.2.1))
  (cond (decide (0 ≤ i_) && decide (i_ < (List.length l : Int)))
  (let e8 : (Int × (Int × Int)) := List.getD l (Int.toNat i_) ((0 : Int), ((0 : Int), (0 : Int)));
  cond (decide (e8.2.2 < (0 : Int)))
  (k1 false ([] : List (List Int)))
  (let i_2 : Int := (IntKind.i64.wrap (i_ + (1 : Int)));
  rec n l i_2 m_))
  none)
  (let i_2 : Int := (IntKind.i64.wrap (i_ + (1 : Int)));
  rec n l i_2 m_))
  none)
  none)
  none)
  none)
  none)
  none)
  none)
  none)
  none)
  none)
  none)
  (k2 n d)
def zqfh {β : Type} : Nat → zqej β → zqek β → Int → (List (Int × (Int × Int))) → Int → (List (List Int)) → Option β
  | 0 => fun _ _ _ _ _ _ => none
  | i + 1 => fun k1 k2 n l i_ d => zqfg (zqfh i k1 k2) k1 k2 n l i_ d
theorem zqfi (hΓ : ΓOk Tryz.prog (ref39_Close_X c_ref39_Valid).Γ) (i : Nat) : PieceOk Tryz.prog 175 0 ref39_Close_p3_code zqem zqen (ref39_Close_p3_G (zqfh i)) := by
  rw [show ref39_Close_p3_code = .loop (loopBody ref39_Close_p3_code) by kernel_rfl]
  exact piece_loop (X := (ref39_Close_X c_ref39_Valid)) (p := 1) (Λ := pick1 []) (G := fun i => @fun β d ks => ref39_Close_p3_G (zqfh i) d ks) mixed tab_ok hΓ rfl (by kernel_rfl) CutsOk_nil (fun _ _ => rfl) (fun i => @fun β d ks r h => Eq.trans (b := ref39_Close_p3_G (zqfh (i + 1)) d ks) (by kernel_rfl) h) i
def zqfj {β : Type} (k1 : zqeo β) (n : Int) (k_ : Int) (i_ : Int) (j : Int) (t131 : Bool) (d : List (List Int)) : Option β :=
  cond t131
  (cond (decide (0 ≤ i_) && decide (i_ < (List.length d : Int)))
  (cond (decide (0 ≤ i_) && decide (i_ < (List.length d : Int)))
  (cond (decide (0 ≤ j) && decide (j < (List.length (List.getD d (Int.toNat i_) []) : Int)))
  (cond (decide (0 ≤ i_) && decide (i_ < (List.length d : Int)))
  (cond (decide (0 ≤ k_) && decide (k_ < (List.length (List.getD d (Int.toNat i_) []) : Int)))
  (cond (decide (0 ≤ k_) && decide (k_ < (List.length d : Int)))
  (cond (decide (0 ≤ j) && decide (j < (List.length (List.getD d (Int.toNat k_) []) : Int)))
  (cond (decide (0 ≤ j) && decide (j < (List.length (List.getD d (Int.toNat i_) []) : Int)))
  (let m_ : List (List Int) := (List.set d (Int.toNat i_) (List.set (List.getD d (Int.toNat i_) []) (Int.toNat j) (if (IntKind.i64.wrap ((List.getD (List.getD d (Int.toNat i_) []) (Int.toNat k_) (0 : Int)) + (List.getD (List.getD d (Int.toNat k_) []) (Int.toNat j) (0 : Int)))) < (List.getD (List.getD d (Int.toNat i_) []) (Int.toNat j) (0 : Int)) then (IntKind.i64.wrap ((List.getD (List.getD d (Int.toNat i_) []) (Int.toNat k_) (0 : Int)) + (List.getD (List.getD d (Int.toNat k_) []) (Int.toNat j) (0 : Int)))) else (List.getD (List.getD d (Int.toNat i_) []) (Int.toNat j) (0 : Int)))));
  k1 n k_ i_ j m_)
  none)
  none)
  none)
  none)
  none)
  none)
  none)
  none)
  (k1 n k_ i_ j d)
def zqfk {β : Type} (k1 : zqeo β) (n : Int) (k_ : Int) (i_ : Int) (j : Int) (t131 : Bool) (d : List (List Int)) : Option β := zqfj k1 n k_ i_ j t131 d
theorem zqfl (hΓ : ΓOk Tryz.prog (ref39_Close_X c_ref39_Valid).Γ) : PieceOk Tryz.prog 175 0 ref39_Close_p4_code zqeq zqer (ref39_Close_p4_G (zqfk)) :=
  piece_exec (X := (ref39_Close_X c_ref39_Valid)) (p := 25) (Λ := pick1 []) mixed tab_ok hΓ (by kernel_rfl) CutsOk_nil (fun d ks r h => Eq.trans (b := ref39_Close_p4_G (zqfk) d ks) (by kernel_rfl) h)
def zqfm (p4 : zqep) {β : Type} (rec : Int → Int → Int → Int → (List (List Int)) → Option β) (k1 : zqes β) (n : Int) (k_ : Int) (i_ : Int) (j : Int) (d : List (List Int)) : Option β :=
  cond (decide (j < n))
  (cond (decide (0 ≤ i_) && decide (i_ < (List.length d : Int)))
  (cond (decide (0 ≤ k_) && decide (k_ < (List.length (List.getD d (Int.toNat i_) []) : Int)))
  (cond (decide ((List.getD (List.getD d (Int.toNat i_) []) (Int.toNat k_) (0 : Int)) < (1099511627776 : Int)))
  (cond (decide (0 ≤ k_) && decide (k_ < (List.length d : Int)))
  (cond (decide (0 ≤ j) && decide (j < (List.length (List.getD d (Int.toNat k_) []) : Int)))
  (p4 (fun (n2 : Int) (k_2 : Int) (i_2 : Int) (j2 : Int) (d2 : List (List Int)) =>
  let j3 : Int := (IntKind.i64.wrap (j2 + (1 : Int)));
  rec n2 k_2 i_2 j3 d2) n k_ i_ j (decide ((List.getD (List.getD d (Int.toNat k_) []) (Int.toNat j) (0 : Int)) < (1099511627776 : Int))) d)
  none)
  none)
  (p4 (fun (n2 : Int) (k_2 : Int) (i_2 : Int) (j2 : Int) (d2 : List (List Int)) =>
  let j3 : Int := (IntKind.i64.wrap (j2 + (1 : Int)));
  rec n2 k_2 i_2 j3 d2) n k_ i_ j false d))
  none)
  none)
  (k1 n k_ i_ d)
def zqfn (p4 : zqep) {β : Type} : Nat → zqes β → Int → Int → Int → Int → (List (List Int)) → Option β
  | 0 => fun _ _ _ _ _ _ => none
  | i + 1 => fun k1 n k_ i_ j d => zqfm p4 (zqfn p4 i k1) k1 n k_ i_ j d
theorem zqfo (hΓ : ΓOk Tryz.prog (ref39_Close_X c_ref39_Valid).Γ) (p4 : zqep) (hp4 : PieceOk Tryz.prog 175 0 ref39_Close_p4_code zqeq zqer (ref39_Close_p4_G p4)) (i : Nat) : PieceOk Tryz.prog 175 0 ref39_Close_p5_code zqeu zqev (ref39_Close_p5_G (zqfn p4 i)) := by
  rw [show ref39_Close_p5_code = .loop (loopBody ref39_Close_p5_code) by kernel_rfl]
  exact piece_loop (X := (ref39_Close_X c_ref39_Valid)) (p := 1) (Λ := pick1 [(25, pieceCut zqeq zqer (ref39_Close_p4_G p4))]) (G := fun i => @fun β d ks => ref39_Close_p5_G (zqfn p4 i) d ks) mixed tab_ok hΓ rfl (by kernel_rfl) (CutsOk_cons (q := 25) (c' := ref39_Close_p4_code) (by kernel_rfl) rfl hp4 CutsOk_nil) (fun _ _ => rfl) (fun i => @fun β d ks r h => Eq.trans (b := ref39_Close_p5_G (zqfn p4 (i + 1)) d ks) (by kernel_rfl) h) i
def zqfp (p5 : zqet) {β : Type} (rec : Int → Int → Int → (List (List Int)) → Option β) (k1 : zqew β) (n : Int) (k_ : Int) (i_ : Int) (d : List (List Int)) : Option β :=
  cond (decide (i_ < n))
  (p5 (fun (n2 : Int) (k_2 : Int) (i_2 : Int) (d2 : List (List Int)) =>
  let i_3 : Int := (IntKind.i64.wrap (i_2 + (1 : Int)));
  rec n2 k_2 i_3 d2) n k_ i_ (0 : Int) d)
  (k1 n k_ d)
def zqfq (p5 : zqet) {β : Type} : Nat → zqew β → Int → Int → Int → (List (List Int)) → Option β
  | 0 => fun _ _ _ _ _ => none
  | i + 1 => fun k1 n k_ i_ d => zqfp p5 (zqfq p5 i k1) k1 n k_ i_ d
theorem zqfr (hΓ : ΓOk Tryz.prog (ref39_Close_X c_ref39_Valid).Γ) (p5 : zqet) (hp5 : PieceOk Tryz.prog 175 0 ref39_Close_p5_code zqeu zqev (ref39_Close_p5_G p5)) (i : Nat) : PieceOk Tryz.prog 175 0 ref39_Close_p6_code zqey zqez (ref39_Close_p6_G (zqfq p5 i)) := by
  rw [show ref39_Close_p6_code = .loop (loopBody ref39_Close_p6_code) by kernel_rfl]
  exact piece_loop (X := (ref39_Close_X c_ref39_Valid)) (p := 1) (Λ := pick1 [(50, pieceCut zqeu zqev (ref39_Close_p5_G p5))]) (G := fun i => @fun β d ks => ref39_Close_p6_G (zqfq p5 i) d ks) mixed tab_ok hΓ rfl (by kernel_rfl) (CutsOk_cons (q := 50) (c' := ref39_Close_p5_code) (by kernel_rfl) rfl hp5 CutsOk_nil) (fun _ _ => rfl) (fun i => @fun β d ks r h => Eq.trans (b := ref39_Close_p6_G (zqfq p5 (i + 1)) d ks) (by kernel_rfl) h) i
def zqfs {β : Type} (rec : Int → Int → Int → (List (List Int)) → Option β) (k1 : zqf0 β) (k2 : zqf1 β) (n : Int) (k_ : Int) (i_ : Int) (d : List (List Int)) : Option β :=
  cond (decide (i_ < n))
  (cond (decide (0 ≤ i_) && decide (i_ < (List.length d : Int)))
  (cond (decide (0 ≤ i_) && decide (i_ < (List.length (List.getD d (Int.toNat i_) []) : Int)))
  (cond (decide ((List.getD (List.getD d (Int.toNat i_) []) (Int.toNat i_) (0 : Int)) < (0 : Int)))
  (k1 false ([] : List (List Int)))
  (let i_2 : Int := (IntKind.i64.wrap (i_ + (1 : Int)));
  rec n k_ i_2 d))
  none)
  none)
  (k2 n k_ d)
def zqft {β : Type} : Nat → zqf0 β → zqf1 β → Int → Int → Int → (List (List Int)) → Option β
  | 0 => fun _ _ _ _ _ _ => none
  | i + 1 => fun k1 k2 n k_ i_ d => zqfs (zqft i k1 k2) k1 k2 n k_ i_ d
theorem zqfu (hΓ : ΓOk Tryz.prog (ref39_Close_X c_ref39_Valid).Γ) (i : Nat) : PieceOk Tryz.prog 175 0 ref39_Close_p7_code zqf3 zqf4 (ref39_Close_p7_G (zqft i)) := by
  rw [show ref39_Close_p7_code = .loop (loopBody ref39_Close_p7_code) by kernel_rfl]
  exact piece_loop (X := (ref39_Close_X c_ref39_Valid)) (p := 1) (Λ := pick1 []) (G := fun i => @fun β d ks => ref39_Close_p7_G (zqft i) d ks) mixed tab_ok hΓ rfl (by kernel_rfl) CutsOk_nil (fun _ _ => rfl) (fun i => @fun β d ks r h => Eq.trans (b := ref39_Close_p7_G (zqft (i + 1)) d ks) (by kernel_rfl) h) i
def zqfv (p6 : zqex) (p7 : zqf2) {β : Type} (rec : Int → Int → (List (List Int)) → Option β) (k1 : zqf5 β) (k2 : zqf6 β) (n : Int) (k_ : Int) (d : List (List Int)) : Option β :=
  cond (decide (k_ < n))
  (p6 (fun (n2 : Int) (k_2 : Int) (d2 : List (List Int)) =>
  p7 (fun (t5 : Bool) (t4 : List (List Int)) =>
  k1 t5 t4) (fun (n3 : Int) (k_3 : Int) (d3 : List (List Int)) =>
  let k_4 : Int := (IntKind.i64.wrap (k_3 + (1 : Int)));
  rec n3 k_4 d3) n2 k_2 (0 : Int) d2) n k_ (0 : Int) d)
  (k2 d)
def zqfw (p6 : zqex) (p7 : zqf2) {β : Type} : Nat → zqf5 β → zqf6 β → Int → Int → (List (List Int)) → Option β
  | 0 => fun _ _ _ _ _ => none
  | i + 1 => fun k1 k2 n k_ d => zqfv p6 p7 (zqfw p6 p7 i k1 k2) k1 k2 n k_ d
theorem zqfx (hΓ : ΓOk Tryz.prog (ref39_Close_X c_ref39_Valid).Γ) (p6 : zqex) (p7 : zqf2) (hp6 : PieceOk Tryz.prog 175 0 ref39_Close_p6_code zqey zqez (ref39_Close_p6_G p6)) (hp7 : PieceOk Tryz.prog 175 0 ref39_Close_p7_code zqf3 zqf4 (ref39_Close_p7_G p7)) (i : Nat) : PieceOk Tryz.prog 175 0 ref39_Close_p8_code zqf8 zqf9 (ref39_Close_p8_G (zqfw p6 p7 i)) := by
  rw [show ref39_Close_p8_code = .loop (loopBody ref39_Close_p8_code) by kernel_rfl]
  exact piece_loop (X := (ref39_Close_X c_ref39_Valid)) (p := 1) (Λ := pick1 [(98, pieceCut zqey zqez (ref39_Close_p6_G p6)), (102, pieceCut zqf3 zqf4 (ref39_Close_p7_G p7))]) (G := fun i => @fun β d ks => ref39_Close_p8_G (zqfw p6 p7 i) d ks) mixed tab_ok hΓ rfl (by kernel_rfl) (CutsOk_cons (q := 98) (c' := ref39_Close_p6_code) (by kernel_rfl) rfl hp6 (CutsOk_cons (q := 102) (c' := ref39_Close_p7_code) (by kernel_rfl) rfl hp7 CutsOk_nil)) (fun _ _ => rfl) (fun i => @fun β d ks r h => Eq.trans (b := ref39_Close_p8_G (zqfw p6 p7 (i + 1)) d ks) (by kernel_rfl) h) i
def zqfy (p2 : zqeg) (p3 : zqel) (p8 : zqf7) {β : Type} (n : Int) (l : List (Int × (Int × Int))) (k : ((List (List Int)) → Bool → Option β)) : Option β :=
  c_ref39_Valid n l (fun (rValid : Bool) =>
  cond (!rValid)
  (k ([] : List (List Int)) false)
  (p2 (fun (n2 : Int) (l2 : List (Int × (Int × Int))) (d : List (List Int)) =>
  p3 (fun (t5 : Bool) (t4 : List (List Int)) =>
  k t4 t5) (fun (n3 : Int) (d2 : List (List Int)) =>
  p8 (fun (t5 : Bool) (t4 : List (List Int)) =>
  k t4 t5) (fun (d3 : List (List Int)) =>
  k d3 true) n3 (0 : Int) d2) n2 l2 (0 : Int) d) n l (0 : Int) ([] : List (List Int))))
theorem zqfz (hΓ : ΓOk Tryz.prog (ref39_Close_X c_ref39_Valid).Γ) (p2 : zqeg) (p3 : zqel) (p8 : zqf7) (hp2 : PieceOk Tryz.prog 175 0 ref39_Close_p2_code zqeh zqei (ref39_Close_p2_G p2)) (hp3 : PieceOk Tryz.prog 175 0 ref39_Close_p3_code zqem zqen (ref39_Close_p3_G p3)) (hp8 : PieceOk Tryz.prog 175 0 ref39_Close_p8_code zqf8 zqf9 (ref39_Close_p8_G p8)) : SpecOk Tryz.prog 54 (zqea (zqfy c_ref39_Valid p2 p3 p8)) :=
  spec_exec (X := (ref39_Close_X c_ref39_Valid)) (Λ := pick1 [(122, pieceCut zqeh zqei (ref39_Close_p2_G p2)), (250, pieceCut zqem zqen (ref39_Close_p3_G p3)), (506, pieceCut zqf8 zqf9 (ref39_Close_p8_G p8))]) (rs := [.tmp 4, .tmp 5]) (c := bodyOf Tryz.f54) mixed tab_ok hΓ Tryz.func54 (by kernel_rfl) (by kernel_rfl) (by kernel_rfl) (by kernel_rfl) (CutsOk_cons (q := 122) (c' := ref39_Close_p2_code) (by kernel_rfl) rfl hp2 (CutsOk_cons (q := 250) (c' := ref39_Close_p3_code) (by kernel_rfl) rfl hp3 (CutsOk_cons (q := 506) (c' := ref39_Close_p8_code) (by kernel_rfl) rfl hp8 CutsOk_nil))) (fun x k r h => Eq.trans (b := (zqea (zqfy c_ref39_Valid p2 p3 p8)).run x k) (by kernel_rfl) h)
end
theorem zqg0Γ : ΓOk Tryz.prog (pick1 [(65, .spec (zq6v zq7b))]) := (ΓOk_cons zq7c ΓOk_nil)
def zqg1 (m : Nat) : zqec := zqfb m
theorem zqg2 {β : Type} (i : Nat) (k1 n l i_ j d row) : (zqg1 (i + 1) k1 n l i_ j d row : Option β) = zqfa (zqg1 i k1) k1 n l i_ j d row := rfl
def zqg3 : zqec := zqg1 fuel
theorem zqg4 : PieceOk Tryz.prog 175 0 ref39_Close_p1_code zqed zqee (ref39_Close_p1_G zqg3) := zqfc zq7b zqg0Γ fuel
def zqg5 (m : Nat) : zqeg := zqfe zqg3 m
theorem zqg6 {β : Type} (i : Nat) (k1 n l i_ d) : (zqg5 (i + 1) k1 n l i_ d : Option β) = zqfd zqg3 (zqg5 i k1) k1 n l i_ d := rfl
def zqg7 : zqeg := zqg5 fuel
theorem zqg8 : PieceOk Tryz.prog 175 0 ref39_Close_p2_code zqeh zqei (ref39_Close_p2_G zqg7) := zqff zq7b zqg0Γ zqg3 zqg4 fuel
def zqg9 (m : Nat) : zqel := zqfh m
theorem zqga {β : Type} (i : Nat) (k1 k2 n l i_ d) : (zqg9 (i + 1) k1 k2 n l i_ d : Option β) = zqfg (zqg9 i k1 k2) k1 k2 n l i_ d := rfl
def zqgb : zqel := zqg9 fuel
theorem zqgc : PieceOk Tryz.prog 175 0 ref39_Close_p3_code zqem zqen (ref39_Close_p3_G zqgb) := zqfi zq7b zqg0Γ fuel
def zqgd : zqep := zqfk
theorem zqge : PieceOk Tryz.prog 175 0 ref39_Close_p4_code zqeq zqer (ref39_Close_p4_G zqgd) := zqfl zq7b zqg0Γ
def zqgf (m : Nat) : zqet := zqfn zqgd m
theorem zqgg {β : Type} (i : Nat) (k1 n k_ i_ j d) : (zqgf (i + 1) k1 n k_ i_ j d : Option β) = zqfm zqgd (zqgf i k1) k1 n k_ i_ j d := rfl
def zqgh : zqet := zqgf fuel
theorem zqgi : PieceOk Tryz.prog 175 0 ref39_Close_p5_code zqeu zqev (ref39_Close_p5_G zqgh) := zqfo zq7b zqg0Γ zqgd zqge fuel
def zqgj (m : Nat) : zqex := zqfq zqgh m
theorem zqgk {β : Type} (i : Nat) (k1 n k_ i_ d) : (zqgj (i + 1) k1 n k_ i_ d : Option β) = zqfp zqgh (zqgj i k1) k1 n k_ i_ d := rfl
def zqgl : zqex := zqgj fuel
theorem zqgm : PieceOk Tryz.prog 175 0 ref39_Close_p6_code zqey zqez (ref39_Close_p6_G zqgl) := zqfr zq7b zqg0Γ zqgh zqgi fuel
def zqgn (m : Nat) : zqf2 := zqft m
theorem zqgo {β : Type} (i : Nat) (k1 k2 n k_ i_ d) : (zqgn (i + 1) k1 k2 n k_ i_ d : Option β) = zqfs (zqgn i k1 k2) k1 k2 n k_ i_ d := rfl
def zqgp : zqf2 := zqgn fuel
theorem zqgq : PieceOk Tryz.prog 175 0 ref39_Close_p7_code zqf3 zqf4 (ref39_Close_p7_G zqgp) := zqfu zq7b zqg0Γ fuel
def zqgr (m : Nat) : zqf7 := zqfw zqgl zqgp m
theorem zqgs {β : Type} (i : Nat) (k1 k2 n k_ d) : (zqgr (i + 1) k1 k2 n k_ d : Option β) = zqfv zqgl zqgp (zqgr i k1 k2) k1 k2 n k_ d := rfl
def zqgt : zqf7 := zqgr fuel
theorem zqgu : PieceOk Tryz.prog 175 0 ref39_Close_p8_code zqf8 zqf9 (ref39_Close_p8_G zqgt) := zqfx zq7b zqg0Γ zqgl zqgp zqgm zqgq fuel
def zqgv : zqe9 := zqfy zq7b zqg7 zqgb zqgt
theorem zqgw : SpecOk Tryz.prog 54 (zqea zqgv) := zqfz zq7b zqg0Γ zqg7 zqgb zqgt zqg8 zqgc zqgu

/-- pagewatch/clock.compared -/
abbrev zqgx := {β : Type} → (Int × (Int × (Int × Int))) → (Bool → Option β) → Option β
def zqgy (c : zqgx) : Spec :=
  ⟨[(true, [.data (.prod (.int .i64) (.prod (.int .i64) (.prod (.int .i64) (.int .i64))))])], [], [(false, [.data .bool])], [], fun x k => c x.1.1.1 (fun r0 => k (((r0, ()), ()), ()))⟩
section
variable (c_clock_instant : zq4h)
@[reducible] def clock_compared_X : Ctx := ⟨look tab, pick1 [(57, .spec (zq4i c_clock_instant))], false, false, false, false⟩
def zqgz {β : Type} (s : (Int × (Int × (Int × Int)))) (k : (Bool → Option β)) : Option β :=
  c_clock_instant s.2.1 (fun (rinstant : Bool) =>
  cond rinstant
  (c_clock_instant s.2.2.1 (fun (rinstant2 : Bool) =>
  cond rinstant2
  (c_clock_instant s.2.2.2 (fun (rinstant3 : Bool) =>
  cond rinstant3
  (let t : Bool := (decide (s.2.2.1 ≤ s.2.2.2));
  k t)
  (k false)))
  (k false)))
  (k false))
theorem zqh0 (hΓ : ΓOk Tryz.prog (clock_compared_X c_clock_instant).Γ) : SpecOk Tryz.prog 56 (zqgy (zqgz c_clock_instant)) :=
  spec_exec (X := (clock_compared_X c_clock_instant)) (Λ := pick1 []) (rs := [.tmp 2]) (c := bodyOf Tryz.f56) mixed tab_ok hΓ Tryz.func56 (by kernel_rfl) (by kernel_rfl) (by kernel_rfl) (by kernel_rfl) CutsOk_nil (fun x k r h => Eq.trans (b := (zqgy (zqgz c_clock_instant)).run x k) (by kernel_rfl) h)
end
theorem zqh1Γ : ΓOk Tryz.prog (pick1 [(57, .spec (zq4i zq4m))]) := (ΓOk_cons zq4n ΓOk_nil)
def zqh2 : zqgx := zqgz zq4m
theorem zqh3 : SpecOk Tryz.prog 56 (zqgy zqh2) := zqh0 zq4m zqh1Γ

/-- pagewatch/pagewatchref38.When -/
abbrev zqh4 := {β : Type} → zq2 → Int → Int → ((Int × Int) → Bool → Option β) → Option β
def zqh5 (c : zqh4) : Spec :=
  ⟨[(true, [.data zq3]), (false, [.data (.int .i64)]), (false, [.data (.int .i64)])], [], [(true, [.data (.prod (.int .i64) (.int .i64))]), (false, [.data .bool])], [], fun x k => c x.1.1.1 x.1.2.1.1 x.1.2.2.1.1 (fun r0 r1 => k (((r0, ()), (r1, ()), ()), ()))⟩
noncomputable def ref38_When_p1_code : Code := codeAt 122 (bodyOf Tryz.f63)
abbrev zqh6 (β : Type) := Int → Int → Int → Int → Option β
abbrev zqh7 := {β : Type} → zqh6 β → Int → Int → Int → (List (List UInt8 × Int)) → (List (Int × (Int × (Int × Int)))) → (List zq0) → (List (Int × (Int × Int))) → Int → Int → Int → Int → Option β
def zqh8 : View := ⟨0, [1, 2, 3, 6, 8, 9], [(false, [.data (.int .i64)]), (false, [.data (.int .i64)]), (false, [.ptr 0 0]), (false, [.ptr 1 0]), (false, [.ptr 2 0]), (false, [.data (.int .i64)])], [.cells 32 [.data (.slice (.prod .str (.int .i64))), .data (.slice (.prod (.int .i64) (.prod (.int .i64) (.prod (.int .i64) (.int .i64))))), .data (.slice zq1), .data (.slice (.prod (.int .i64) (.prod (.int .i64) (.int .i64))))], .cells 40 [.data (.int .i64), .data (.int .i64)], .cells 40 [.data (.int .i64), .data (.int .i64)]]⟩
def zqh9 : List (AExit × View) := [(.exit 0, ⟨0, [6, 8], [(false, [.ptr 0 0]), (false, [.ptr 1 0])], [.cells 40 [.data (.int .i64), .data (.int .i64)], .cells 40 [.data (.int .i64), .data (.int .i64)]]⟩)]
@[reducible] def ref38_When_p1_G (p : zqh7) {β : Type} (d : zqh8.den) (ks : Outs.K β zqh9) : Option β :=
  p (fun a0 a1 a2 a3 => ks.1 (((), (), ()), ((a0, a1, ()), (a2, a3, ()), ()))) d.1.1.1 d.1.2.1.1 d.1.2.2.2.2.2.1.1 d.2.1.1 d.2.1.2.1 d.2.1.2.2.1 d.2.1.2.2.2.1 d.2.2.1.1 d.2.2.1.2.1 d.2.2.2.1.1 d.2.2.2.1.2.1
section
variable (c_ref25_In : zq1z) (c_ref38_Empty : zq8o) (c_ref38_From : zq8h) (c_ref38_Meet : zq8a) (c_ref38_Valid : zq54)
@[reducible] def ref38_When_X : Ctx := ⟨look tab, pick1 [(31, .spec (zq20 c_ref25_In)), (78, .spec (zq8p c_ref38_Empty)), (77, .spec (zq8i c_ref38_From)), (76, .spec (zq8b c_ref38_Meet)), (62, .spec (zq55 c_ref38_Valid))], false, false, false, false⟩
def zqha {β : Type} (rec : Int → Int → Int → (List (List UInt8 × Int)) → (List (Int × (Int × (Int × Int)))) → (List zq0) → (List (Int × (Int × Int))) → Int → Int → Int → Int → Option β) (k1 : zqh6 β) (host : Int) (clock : Int) (i_ : Int) (r_ : List (List UInt8 × Int)) (r_2 : List (Int × (Int × (Int × Int)))) (r_3 : List zq0) (r_4 : List (Int × (Int × Int))) (t6 : Int) (t62 : Int) (out : Int) (out2 : Int) : Option β :=
  cond (decide (i_ < (List.length r_2 : Int)))
  (cond (decide (0 ≤ i_) && decide (i_ < (List.length r_2 : Int)))
  (let e : (Int × (Int × (Int × Int))) := List.getD r_2 (Int.toNat i_) ((0 : Int), ((0 : Int), ((0 : Int), (0 : Int))));
  cond (decide (e.1 = host))
  (cond (decide (0 ≤ host) && decide (host < (List.length r_ : Int)))
  (let e2 : (List UInt8 × Int) := List.getD r_ (Int.toNat host) (([] : List UInt8), (0 : Int));
  cond (decide (0 ≤ i_) && decide (i_ < (List.length r_2 : Int)))
  (let e3 : (Int × (Int × (Int × Int))) := List.getD r_2 (Int.toNat i_) ((0 : Int), ((0 : Int), ((0 : Int), (0 : Int))));
  c_ref38_From e2 e3 clock (fun (rFrom : (Int × Int)) =>
  c_ref38_Meet (out, out2) rFrom (fun (rMeet : (Int × Int)) =>
  let i_2 : Int := (IntKind.i64.wrap (i_ + (1 : Int)));
  rec host clock i_2 r_ r_2 r_3 r_4 t6 t62 rMeet.1 rMeet.2)))
  none)
  none)
  (let i_2 : Int := (IntKind.i64.wrap (i_ + (1 : Int)));
  rec host clock i_2 r_ r_2 r_3 r_4 t6 t62 out out2))
  none)
  (k1 t6 t62 out out2)
def zqhb {β : Type} : Nat → zqh6 β → Int → Int → Int → (List (List UInt8 × Int)) → (List (Int × (Int × (Int × Int)))) → (List zq0) → (List (Int × (Int × Int))) → Int → Int → Int → Int → Option β
  | 0 => fun _ _ _ _ _ _ _ _ _ _ _ _ => none
  | i + 1 => fun k1 host clock i_ r_ r_2 r_3 r_4 t6 t62 out out2 => zqha c_ref38_From c_ref38_Meet (zqhb i k1) k1 host clock i_ r_ r_2 r_3 r_4 t6 t62 out out2
theorem zqhc (hΓ : ΓOk Tryz.prog (ref38_When_X c_ref25_In c_ref38_Empty c_ref38_From c_ref38_Meet c_ref38_Valid).Γ) (i : Nat) : PieceOk Tryz.prog 62 0 ref38_When_p1_code zqh8 zqh9 (ref38_When_p1_G (zqhb c_ref38_From c_ref38_Meet i)) := by
  rw [show ref38_When_p1_code = .loop (loopBody ref38_When_p1_code) by kernel_rfl]
  exact piece_loop (X := (ref38_When_X c_ref25_In c_ref38_Empty c_ref38_From c_ref38_Meet c_ref38_Valid)) (p := 1) (Λ := pick1 []) (G := fun i => @fun β d ks => ref38_When_p1_G (zqhb c_ref38_From c_ref38_Meet i) d ks) mixed tab_ok hΓ rfl (by kernel_rfl) CutsOk_nil (fun _ _ => rfl) (fun i => @fun β d ks r h => Eq.trans (b := ref38_When_p1_G (zqhb c_ref38_From c_ref38_Meet (i + 1)) d ks) (by kernel_rfl) h) i
def zqhd (p1 : zqh7) {β : Type} (r_ : zq2) (host : Int) (clock : Int) (k : ((Int × Int) → Bool → Option β)) : Option β :=
  c_ref38_Valid r_ (fun (rValid : Bool) =>
  cond (!rValid)
  (k ((0 : Int), (0 : Int)) false)
  (c_ref25_In host (0 : Int) (IntKind.i64.wrap ((List.length r_.1 : Int) - (1 : Int))) (fun (rIn : Bool) =>
  cond (!rIn)
  (k ((0 : Int), (0 : Int)) false)
  (c_ref25_In clock (0 : Int) (8589934592 : Int) (fun (rIn2 : Bool) =>
  cond (!rIn2)
  (k ((0 : Int), (0 : Int)) false)
  (p1 (fun (t6 : Int) (t62 : Int) (out : Int) (out2 : Int) =>
  c_ref38_Empty (out, out2) (fun (rEmpty : Bool) =>
  k (out, out2) (!rEmpty))) host clock (0 : Int) r_.1 r_.2.1 r_.2.2.1 r_.2.2.2 (0 : Int) (0 : Int) (0 : Int) (8589934592 : Int)))))))
theorem zqhe (hΓ : ΓOk Tryz.prog (ref38_When_X c_ref25_In c_ref38_Empty c_ref38_From c_ref38_Meet c_ref38_Valid).Γ) (p1 : zqh7) (hp1 : PieceOk Tryz.prog 62 0 ref38_When_p1_code zqh8 zqh9 (ref38_When_p1_G p1)) : SpecOk Tryz.prog 63 (zqh5 (zqhd c_ref25_In c_ref38_Empty c_ref38_Valid p1)) :=
  spec_exec (X := (ref38_When_X c_ref25_In c_ref38_Empty c_ref38_From c_ref38_Meet c_ref38_Valid)) (Λ := pick1 [(122, pieceCut zqh8 zqh9 (ref38_When_p1_G p1))]) (rs := [.cell 6 40, .tmp 7]) (c := bodyOf Tryz.f63) mixed tab_ok hΓ Tryz.func63 (by kernel_rfl) (by kernel_rfl) (by kernel_rfl) (by kernel_rfl) (CutsOk_cons (q := 122) (c' := ref38_When_p1_code) (by kernel_rfl) rfl hp1 CutsOk_nil) (fun x k r h => Eq.trans (b := (zqh5 (zqhd c_ref25_In c_ref38_Empty c_ref38_Valid p1)).run x k) (by kernel_rfl) h)
end
theorem zqhfΓ : ΓOk Tryz.prog (pick1 [(31, .spec (zq20 zq24)), (78, .spec (zq8p zq8t)), (77, .spec (zq8i zq8m)), (76, .spec (zq8b zq8f)), (62, .spec (zq55 zq6l))]) := (ΓOk_cons zq25 (ΓOk_cons zq8u (ΓOk_cons zq8n (ΓOk_cons zq8g (ΓOk_cons zq6m ΓOk_nil)))))
def zqhg (m : Nat) : zqh7 := zqhb zq8m zq8f m
theorem zqhh {β : Type} (i : Nat) (k1 host clock i_ r_ r_2 r_3 r_4 t6 t62 out out2) : (zqhg (i + 1) k1 host clock i_ r_ r_2 r_3 r_4 t6 t62 out out2 : Option β) = zqha zq8m zq8f (zqhg i k1) k1 host clock i_ r_ r_2 r_3 r_4 t6 t62 out out2 := rfl
def zqhi : zqh7 := zqhg fuel
theorem zqhj : PieceOk Tryz.prog 62 0 ref38_When_p1_code zqh8 zqh9 (ref38_When_p1_G zqhi) := zqhc zq24 zq8t zq8m zq8f zq6l zqhfΓ fuel
def zqhk : zqh4 := zqhd zq24 zq8t zq6l zqhi
theorem zqhl : SpecOk Tryz.prog 63 (zqh5 zqhk) := zqhe zq24 zq8t zq8m zq8f zq6l zqhfΓ zqhi zqhj

/-- pagewatch/clock.Elapsed -/
abbrev zqhm := {β : Type} → Int → Int → (Int → Int → Option β) → Option β
def zqhn (c : zqhm) : Spec :=
  ⟨[(false, [.data (.int .i64)]), (false, [.data (.int .i64)])], [], [(false, [.data (.int .i64)]), (false, [.data (.int .i64)])], [], fun x k => c x.1.1.1 x.1.2.1.1 (fun r0 r1 => k (((r0, ()), (r1, ()), ()), ()))⟩
section
variable (c_clock_Elapsed_f1 : zqar) (c_clock_in : zq4a) (c_clock_instant : zq4h)
@[reducible] def clock_Elapsed_X : Ctx := ⟨look tab, pick1 [(117, .spec (zqas c_clock_Elapsed_f1)), (55, .spec (zq4b c_clock_in)), (57, .spec (zq4i c_clock_instant))], false, false, false, false⟩
def zqho {β : Type} (drift : Int) (d : Int) (k : (Int → Int → Option β)) : Option β :=
  c_clock_in drift (0 : Int) (500000 : Int) (fun (rin : Bool) =>
  cond (!rin)
  (k (0 : Int) (0 : Int))
  (c_clock_instant d (fun (rinstant : Bool) =>
  cond (!rinstant)
  (k (0 : Int) (0 : Int))
  (cond (!decide ((IntKind.i64.wrap ((1000000 : Int) + drift)) = 0))
  (c_clock_Elapsed_f1 (IntKind.i64.wrap (d * (1000000 : Int))) (IntKind.i64.wrap ((1000000 : Int) - drift)) (fun (rElapsed1 : Int) =>
  let low : Int := (IntKind.i64.wrap (Int.tdiv (IntKind.i64.wrap (d * (1000000 : Int))) (IntKind.i64.wrap ((1000000 : Int) + drift))));
  k low rElapsed1))
  none))))
theorem zqhp (hΓ : ΓOk Tryz.prog (clock_Elapsed_X c_clock_Elapsed_f1 c_clock_in c_clock_instant).Γ) : SpecOk Tryz.prog 103 (zqhn (zqho c_clock_Elapsed_f1 c_clock_in c_clock_instant)) :=
  spec_exec (X := (clock_Elapsed_X c_clock_Elapsed_f1 c_clock_in c_clock_instant)) (Λ := pick1 []) (rs := [.tmp 4, .tmp 5]) (c := bodyOf Tryz.f103) mixed tab_ok hΓ Tryz.func103 (by kernel_rfl) (by kernel_rfl) (by kernel_rfl) (by kernel_rfl) CutsOk_nil (fun x k r h => Eq.trans (b := (zqhn (zqho c_clock_Elapsed_f1 c_clock_in c_clock_instant)).run x k) (by kernel_rfl) h)
end
theorem zqhqΓ : ΓOk Tryz.prog (pick1 [(117, .spec (zqas zqaw)), (55, .spec (zq4b zq4f)), (57, .spec (zq4i zq4m))]) := (ΓOk_cons zqax (ΓOk_cons zq4g (ΓOk_cons zq4n ΓOk_nil)))
def zqhr : zqhm := zqho zqaw zq4f zq4m
theorem zqhs : SpecOk Tryz.prog 103 (zqhn zqhr) := zqhp zqaw zq4f zq4m zqhqΓ

/-- pagewatch/clock.Valid -/
abbrev zqht := {β : Type} → zq2 → (Bool → Option β) → Option β
def zqhu (c : zqht) : Spec :=
  ⟨[(true, [.data zq3])], [], [(false, [.data .bool])], [], fun x k => c x.1.1.1 (fun r0 => k (((r0, ()), ()), ()))⟩
noncomputable def clock_Valid_p1_code : Code := codeAt 58 (bodyOf Tryz.f33)
noncomputable def clock_Valid_p2_code : Code := codeAt 122 (bodyOf Tryz.f33)
noncomputable def clock_Valid_p3_code : Code := codeAt 250 (bodyOf Tryz.f33)
noncomputable def clock_Valid_p4_code : Code := codeAt 506 (bodyOf Tryz.f33)
abbrev zqhv (β : Type) := Bool → Option β
abbrev zqhw (β : Type) := (List (List UInt8 × Int)) → (List (Int × (Int × (Int × Int)))) → (List zq0) → (List (Int × (Int × Int))) → Option β
abbrev zqhx := {β : Type} → zqhv β → zqhw β → (List (List UInt8 × Int)) → Int → Int → (List (List UInt8 × Int)) → (List (Int × (Int × (Int × Int)))) → (List zq0) → (List (Int × (Int × Int))) → Option β
def zqhy : View := ⟨0, [1, 34, 35, 36], [(false, [.ptr 0 0]), (false, [.data (.slice (.prod .str (.int .i64)))]), (false, [.data (.int .i64)]), (false, [.data (.int .i64)])], [.cells 32 [.data (.slice (.prod .str (.int .i64))), .data (.slice (.prod (.int .i64) (.prod (.int .i64) (.prod (.int .i64) (.int .i64))))), .data (.slice zq1), .data (.slice (.prod (.int .i64) (.prod (.int .i64) (.int .i64))))]]⟩
def zqhz : List (AExit × View) := [(.ret, ⟨0, [2], [(false, [.data .bool])], []⟩), (.exit 0, ⟨0, [1], [(false, [.ptr 0 0])], [.cells 32 [.data (.slice (.prod .str (.int .i64))), .data (.slice (.prod (.int .i64) (.prod (.int .i64) (.prod (.int .i64) (.int .i64))))), .data (.slice zq1), .data (.slice (.prod (.int .i64) (.prod (.int .i64) (.int .i64))))]]⟩)]
@[reducible] def clock_Valid_p1_G (p : zqhx) {β : Type} (d : zqhy.den) (ks : Outs.K β zqhz) : Option β :=
  p (fun a0 => ks.1 (((a0, ()), ()), ())) (fun a0 a1 a2 a3 => ks.2.1 (((), ()), ((a0, a1, a2, a3, ()), ()))) d.1.2.1.1 d.1.2.2.1.1 d.1.2.2.2.1.1 d.2.1.1 d.2.1.2.1 d.2.1.2.2.1 d.2.1.2.2.2.1
abbrev zqi0 (β : Type) := Bool → Option β
abbrev zqi1 (β : Type) := (List (List UInt8 × Int)) → (List (Int × (Int × (Int × Int)))) → (List zq0) → (List (Int × (Int × Int))) → Option β
abbrev zqi2 := {β : Type} → zqi0 β → zqi1 β → (List (Int × (Int × (Int × Int)))) → Int → Int → (List (List UInt8 × Int)) → (List (Int × (Int × (Int × Int)))) → (List zq0) → (List (Int × (Int × Int))) → Option β
def zqi3 : View := ⟨0, [1, 46, 47, 48], [(false, [.ptr 0 0]), (false, [.data (.slice (.prod (.int .i64) (.prod (.int .i64) (.prod (.int .i64) (.int .i64)))))]), (false, [.data (.int .i64)]), (false, [.data (.int .i64)])], [.cells 32 [.data (.slice (.prod .str (.int .i64))), .data (.slice (.prod (.int .i64) (.prod (.int .i64) (.prod (.int .i64) (.int .i64))))), .data (.slice zq1), .data (.slice (.prod (.int .i64) (.prod (.int .i64) (.int .i64))))]]⟩
def zqi4 : List (AExit × View) := [(.ret, ⟨0, [2], [(false, [.data .bool])], []⟩), (.exit 2, ⟨0, [1], [(false, [.ptr 0 0])], [.cells 32 [.data (.slice (.prod .str (.int .i64))), .data (.slice (.prod (.int .i64) (.prod (.int .i64) (.prod (.int .i64) (.int .i64))))), .data (.slice zq1), .data (.slice (.prod (.int .i64) (.prod (.int .i64) (.int .i64))))]]⟩)]
@[reducible] def clock_Valid_p2_G (p : zqi2) {β : Type} (d : zqi3.den) (ks : Outs.K β zqi4) : Option β :=
  p (fun a0 => ks.1 (((a0, ()), ()), ())) (fun a0 a1 a2 a3 => ks.2.1 (((), ()), ((a0, a1, a2, a3, ()), ()))) d.1.2.1.1 d.1.2.2.1.1 d.1.2.2.2.1.1 d.2.1.1 d.2.1.2.1 d.2.1.2.2.1 d.2.1.2.2.2.1
abbrev zqi5 (β : Type) := Bool → Option β
abbrev zqi6 (β : Type) := (List (List UInt8 × Int)) → (List (Int × (Int × (Int × Int)))) → (List zq0) → (List (Int × (Int × Int))) → Option β
abbrev zqi7 := {β : Type} → zqi5 β → zqi6 β → (List zq0) → Int → Int → (List (List UInt8 × Int)) → (List (Int × (Int × (Int × Int)))) → (List zq0) → (List (Int × (Int × Int))) → Option β
def zqi8 : View := ⟨0, [1, 67, 68, 69], [(false, [.ptr 0 0]), (false, [.data (.slice zq1)]), (false, [.data (.int .i64)]), (false, [.data (.int .i64)])], [.cells 32 [.data (.slice (.prod .str (.int .i64))), .data (.slice (.prod (.int .i64) (.prod (.int .i64) (.prod (.int .i64) (.int .i64))))), .data (.slice zq1), .data (.slice (.prod (.int .i64) (.prod (.int .i64) (.int .i64))))]]⟩
def zqi9 : List (AExit × View) := [(.ret, ⟨0, [2], [(false, [.data .bool])], []⟩), (.exit 4, ⟨0, [1], [(false, [.ptr 0 0])], [.cells 32 [.data (.slice (.prod .str (.int .i64))), .data (.slice (.prod (.int .i64) (.prod (.int .i64) (.prod (.int .i64) (.int .i64))))), .data (.slice zq1), .data (.slice (.prod (.int .i64) (.prod (.int .i64) (.int .i64))))]]⟩)]
@[reducible] def clock_Valid_p3_G (p : zqi7) {β : Type} (d : zqi8.den) (ks : Outs.K β zqi9) : Option β :=
  p (fun a0 => ks.1 (((a0, ()), ()), ())) (fun a0 a1 a2 a3 => ks.2.1 (((), ()), ((a0, a1, a2, a3, ()), ()))) d.1.2.1.1 d.1.2.2.1.1 d.1.2.2.2.1.1 d.2.1.1 d.2.1.2.1 d.2.1.2.2.1 d.2.1.2.2.2.1
abbrev zqia (β : Type) := Bool → Option β
abbrev zqib (β : Type) := Unit → Option β
abbrev zqic := {β : Type} → zqia β → zqib β → (List (Int × (Int × Int))) → Int → Int → (List (List UInt8 × Int)) → (List (Int × (Int × (Int × Int)))) → (List zq0) → (List (Int × (Int × Int))) → Option β
def zqid : View := ⟨0, [1, 89, 90, 91], [(false, [.ptr 0 0]), (false, [.data (.slice (.prod (.int .i64) (.prod (.int .i64) (.int .i64))))]), (false, [.data (.int .i64)]), (false, [.data (.int .i64)])], [.cells 32 [.data (.slice (.prod .str (.int .i64))), .data (.slice (.prod (.int .i64) (.prod (.int .i64) (.prod (.int .i64) (.int .i64))))), .data (.slice zq1), .data (.slice (.prod (.int .i64) (.prod (.int .i64) (.int .i64))))]]⟩
def zqie : List (AExit × View) := [(.ret, ⟨0, [2], [(false, [.data .bool])], []⟩), (.exit 6, ⟨0, [], [], []⟩)]
@[reducible] def clock_Valid_p4_G (p : zqic) {β : Type} (d : zqid.den) (ks : Outs.K β zqie) : Option β :=
  p (fun a0 => ks.1 (((a0, ()), ()), ())) (fun _ => ks.2.1 ((), ())) d.1.2.1.1 d.1.2.2.1.1 d.1.2.2.2.1.1 d.2.1.1 d.2.1.2.1 d.2.1.2.2.1 d.2.1.2.2.2.1
section
variable (c_clock_compared : zqgx) (c_clock_in : zq4a) (c_clock_instant : zq4h)
@[reducible] def clock_Valid_X : Ctx := ⟨look tab, pick1 [(56, .spec (zqgy c_clock_compared)), (55, .spec (zq4b c_clock_in)), (57, .spec (zq4i c_clock_instant))], false, false, false, false⟩
def zqif {β : Type} (rec : (List (List UInt8 × Int)) → Int → Int → (List (List UInt8 × Int)) → (List (Int × (Int × (Int × Int)))) → (List zq0) → (List (Int × (Int × Int))) → Option β) (k1 : zqhv β) (k2 : zqhw β) (t34 : List (List UInt8 × Int)) (t35 : Int) (t36 : Int) (r_ : List (List UInt8 × Int)) (r_2 : List (Int × (Int × (Int × Int)))) (r_3 : List zq0) (r_4 : List (Int × (Int × Int))) : Option β :=
  cond (decide (t36 < t35))
  (cond (decide (0 ≤ t36) && decide (t36 < (List.length t34 : Int)))
  (let e : (List UInt8 × Int) := List.getD t34 (Int.toNat t36) (([] : List UInt8), (0 : Int));
  c_clock_in e.2 (0 : Int) (500000 : Int) (fun (rin : Bool) =>
  cond (!rin)
  (k1 false)
  (rec t34 t35 (IntKind.i64.wrap (t36 + (1 : Int))) r_ r_2 r_3 r_4)))
  none)
  (k2 r_ r_2 r_3 r_4)
def zqig {β : Type} : Nat → zqhv β → zqhw β → (List (List UInt8 × Int)) → Int → Int → (List (List UInt8 × Int)) → (List (Int × (Int × (Int × Int)))) → (List zq0) → (List (Int × (Int × Int))) → Option β
  | 0 => fun _ _ _ _ _ _ _ _ _ => none
  | i + 1 => fun k1 k2 t34 t35 t36 r_ r_2 r_3 r_4 => zqif c_clock_in (zqig i k1 k2) k1 k2 t34 t35 t36 r_ r_2 r_3 r_4
theorem zqih (hΓ : ΓOk Tryz.prog (clock_Valid_X c_clock_compared c_clock_in c_clock_instant).Γ) (i : Nat) : PieceOk Tryz.prog 127 0 clock_Valid_p1_code zqhy zqhz (clock_Valid_p1_G (zqig c_clock_in i)) := by
  rw [show clock_Valid_p1_code = .loop (loopBody clock_Valid_p1_code) by kernel_rfl]
  exact piece_loop (X := (clock_Valid_X c_clock_compared c_clock_in c_clock_instant)) (p := 1) (Λ := pick1 []) (G := fun i => @fun β d ks => clock_Valid_p1_G (zqig c_clock_in i) d ks) mixed tab_ok hΓ rfl (by kernel_rfl) CutsOk_nil (fun _ _ => rfl) (fun i => @fun β d ks r h => Eq.trans (b := clock_Valid_p1_G (zqig c_clock_in (i + 1)) d ks) (by kernel_rfl) h) i
def zqii {β : Type} (rec : (List (Int × (Int × (Int × Int)))) → Int → Int → (List (List UInt8 × Int)) → (List (Int × (Int × (Int × Int)))) → (List zq0) → (List (Int × (Int × Int))) → Option β) (k1 : zqi0 β) (k2 : zqi1 β) (t46 : List (Int × (Int × (Int × Int)))) (t47 : Int) (t48 : Int) (r_ : List (List UInt8 × Int)) (r_2 : List (Int × (Int × (Int × Int)))) (r_3 : List zq0) (r_4 : List (Int × (Int × Int))) : Option β :=
  cond (decide (t48 < t47))
  (cond (decide (0 ≤ t48) && decide (t48 < (List.length t46 : Int)))
  (let e : (Int × (Int × (Int × Int))) := List.getD t46 (Int.toNat t48) ((0 : Int), ((0 : Int), ((0 : Int), (0 : Int))));
  c_clock_in e.1 (0 : Int) (IntKind.i64.wrap ((List.length r_ : Int) - (1 : Int))) (fun (rin : Bool) =>
  cond (!rin)
  (k1 false)
  (c_clock_compared e (fun (rcompared : Bool) =>
  cond (!rcompared)
  (k1 false)
  (rec t46 t47 (IntKind.i64.wrap (t48 + (1 : Int))) r_ r_2 r_3 r_4)))))
  none)
  (k2 r_ r_2 r_3 r_4)
def zqij {β : Type} : Nat → zqi0 β → zqi1 β → (List (Int × (Int × (Int × Int)))) → Int → Int → (List (List UInt8 × Int)) → (List (Int × (Int × (Int × Int)))) → (List zq0) → (List (Int × (Int × Int))) → Option β
  | 0 => fun _ _ _ _ _ _ _ _ _ => none
  | i + 1 => fun k1 k2 t46 t47 t48 r_ r_2 r_3 r_4 => zqii c_clock_compared c_clock_in (zqij i k1 k2) k1 k2 t46 t47 t48 r_ r_2 r_3 r_4
theorem zqik (hΓ : ΓOk Tryz.prog (clock_Valid_X c_clock_compared c_clock_in c_clock_instant).Γ) (i : Nat) : PieceOk Tryz.prog 127 0 clock_Valid_p2_code zqi3 zqi4 (clock_Valid_p2_G (zqij c_clock_compared c_clock_in i)) := by
  rw [show clock_Valid_p2_code = .loop (loopBody clock_Valid_p2_code) by kernel_rfl]
  exact piece_loop (X := (clock_Valid_X c_clock_compared c_clock_in c_clock_instant)) (p := 1) (Λ := pick1 []) (G := fun i => @fun β d ks => clock_Valid_p2_G (zqij c_clock_compared c_clock_in i) d ks) mixed tab_ok hΓ rfl (by kernel_rfl) CutsOk_nil (fun _ _ => rfl) (fun i => @fun β d ks r h => Eq.trans (b := clock_Valid_p2_G (zqij c_clock_compared c_clock_in (i + 1)) d ks) (by kernel_rfl) h) i
def zqil {β : Type} (rec : (List zq0) → Int → Int → (List (List UInt8 × Int)) → (List (Int × (Int × (Int × Int)))) → (List zq0) → (List (Int × (Int × Int))) → Option β) (k1 : zqi5 β) (k2 : zqi6 β) (t67 : List zq0) (t68 : Int) (t69 : Int) (r_ : List (List UInt8 × Int)) (r_2 : List (Int × (Int × (Int × Int)))) (r_3 : List zq0) (r_4 : List (Int × (Int × Int))) : Option β :=
  cond (decide (t69 < t68))
  (cond (decide (0 ≤ t69) && decide (t69 < (List.length t67 : Int)))
  (let e : zq0 := List.getD t67 (Int.toNat t69) ((0 : Int), ((0 : Int), ([] : List UInt8)));
  c_clock_in e.1 (0 : Int) (IntKind.i64.wrap ((List.length r_ : Int) - (1 : Int))) (fun (rin : Bool) =>
  cond (!rin)
  (k1 false)
  (c_clock_instant e.2.1 (fun (rinstant : Bool) =>
  cond (!rinstant)
  (k1 false)
  (rec t67 t68 (IntKind.i64.wrap (t69 + (1 : Int))) r_ r_2 r_3 r_4)))))
  none)
  (k2 r_ r_2 r_3 r_4)
def zqim {β : Type} : Nat → zqi5 β → zqi6 β → (List zq0) → Int → Int → (List (List UInt8 × Int)) → (List (Int × (Int × (Int × Int)))) → (List zq0) → (List (Int × (Int × Int))) → Option β
  | 0 => fun _ _ _ _ _ _ _ _ _ => none
  | i + 1 => fun k1 k2 t67 t68 t69 r_ r_2 r_3 r_4 => zqil c_clock_in c_clock_instant (zqim i k1 k2) k1 k2 t67 t68 t69 r_ r_2 r_3 r_4
theorem zqin (hΓ : ΓOk Tryz.prog (clock_Valid_X c_clock_compared c_clock_in c_clock_instant).Γ) (i : Nat) : PieceOk Tryz.prog 127 0 clock_Valid_p3_code zqi8 zqi9 (clock_Valid_p3_G (zqim c_clock_in c_clock_instant i)) := by
  rw [show clock_Valid_p3_code = .loop (loopBody clock_Valid_p3_code) by kernel_rfl]
  exact piece_loop (X := (clock_Valid_X c_clock_compared c_clock_in c_clock_instant)) (p := 1) (Λ := pick1 []) (G := fun i => @fun β d ks => clock_Valid_p3_G (zqim c_clock_in c_clock_instant i) d ks) mixed tab_ok hΓ rfl (by kernel_rfl) CutsOk_nil (fun _ _ => rfl) (fun i => @fun β d ks r h => Eq.trans (b := clock_Valid_p3_G (zqim c_clock_in c_clock_instant (i + 1)) d ks) (by kernel_rfl) h) i
def zqio {β : Type} (rec : (List (Int × (Int × Int))) → Int → Int → (List (List UInt8 × Int)) → (List (Int × (Int × (Int × Int)))) → (List zq0) → (List (Int × (Int × Int))) → Option β) (k1 : zqia β) (k2 : zqib β) (t89 : List (Int × (Int × Int))) (t90 : Int) (t91 : Int) (r_ : List (List UInt8 × Int)) (r_2 : List (Int × (Int × (Int × Int)))) (r_3 : List zq0) (r_4 : List (Int × (Int × Int))) : Option β :=
  cond (decide (t91 < t90))
  (cond (decide (0 ≤ t91) && decide (t91 < (List.length t89 : Int)))
  (let e : (Int × (Int × Int)) := List.getD t89 (Int.toNat t91) ((0 : Int), ((0 : Int), (0 : Int)));
  c_clock_in e.1 (0 : Int) (IntKind.i64.wrap ((List.length r_3 : Int) - (1 : Int))) (fun (rin : Bool) =>
  cond (!rin)
  (k1 false)
  (c_clock_in e.2.1 (0 : Int) (IntKind.i64.wrap ((List.length r_3 : Int) - (1 : Int))) (fun (rin2 : Bool) =>
  cond (!rin2)
  (k1 false)
  (cond (decide (e.1 = e.2.1))
  (k1 false)
  (c_clock_instant e.2.2 (fun (rinstant : Bool) =>
  cond (!rinstant)
  (k1 false)
  (rec t89 t90 (IntKind.i64.wrap (t91 + (1 : Int))) r_ r_2 r_3 r_4))))))))
  none)
  (k2 ())
def zqip {β : Type} : Nat → zqia β → zqib β → (List (Int × (Int × Int))) → Int → Int → (List (List UInt8 × Int)) → (List (Int × (Int × (Int × Int)))) → (List zq0) → (List (Int × (Int × Int))) → Option β
  | 0 => fun _ _ _ _ _ _ _ _ _ => none
  | i + 1 => fun k1 k2 t89 t90 t91 r_ r_2 r_3 r_4 => zqio c_clock_in c_clock_instant (zqip i k1 k2) k1 k2 t89 t90 t91 r_ r_2 r_3 r_4
theorem zqiq (hΓ : ΓOk Tryz.prog (clock_Valid_X c_clock_compared c_clock_in c_clock_instant).Γ) (i : Nat) : PieceOk Tryz.prog 127 0 clock_Valid_p4_code zqid zqie (clock_Valid_p4_G (zqip c_clock_in c_clock_instant i)) := by
  rw [show clock_Valid_p4_code = .loop (loopBody clock_Valid_p4_code) by kernel_rfl]
  exact piece_loop (X := (clock_Valid_X c_clock_compared c_clock_in c_clock_instant)) (p := 1) (Λ := pick1 []) (G := fun i => @fun β d ks => clock_Valid_p4_G (zqip c_clock_in c_clock_instant i) d ks) mixed tab_ok hΓ rfl (by kernel_rfl) CutsOk_nil (fun _ _ => rfl) (fun i => @fun β d ks r h => Eq.trans (b := clock_Valid_p4_G (zqip c_clock_in c_clock_instant (i + 1)) d ks) (by kernel_rfl) h) i
def zqir (p1 : zqhx) (p2 : zqi2) (p3 : zqi7) (p4 : zqic) {β : Type} (r_ : zq2) (k : (Bool → Option β)) : Option β :=
  cond (decide ((8 : Int) < (List.length r_.1 : Int)))
  (k false)
  (cond (decide ((64 : Int) < (List.length r_.2.1 : Int)))
  (k false)
  (cond (decide ((40 : Int) < (List.length r_.2.2.1 : Int)))
  (k false)
  (cond (decide ((64 : Int) < (List.length r_.2.2.2 : Int)))
  (k false)
  (p1 (fun (t2 : Bool) =>
  k t2) (fun (r_2 : List (List UInt8 × Int)) (r_3 : List (Int × (Int × (Int × Int)))) (r_4 : List zq0) (r_5 : List (Int × (Int × Int))) =>
  p2 (fun (t2 : Bool) =>
  k t2) (fun (r_6 : List (List UInt8 × Int)) (r_7 : List (Int × (Int × (Int × Int)))) (r_8 : List zq0) (r_9 : List (Int × (Int × Int))) =>
  p3 (fun (t2 : Bool) =>
  k t2) (fun (r_10 : List (List UInt8 × Int)) (r_11 : List (Int × (Int × (Int × Int)))) (r_12 : List zq0) (r_13 : List (Int × (Int × Int))) =>
  p4 (fun (t2 : Bool) =>
  k t2) (fun (_ : Unit) =>
  k true) r_13 (List.length r_13 : Int) (0 : Int) r_10 r_11 r_12 r_13) r_8 (List.length r_8 : Int) (0 : Int) r_6 r_7 r_8 r_9) r_3 (List.length r_3 : Int) (0 : Int) r_2 r_3 r_4 r_5) r_.1 (List.length r_.1 : Int) (0 : Int) r_.1 r_.2.1 r_.2.2.1 r_.2.2.2))))
theorem zqis (hΓ : ΓOk Tryz.prog (clock_Valid_X c_clock_compared c_clock_in c_clock_instant).Γ) (p1 : zqhx) (p2 : zqi2) (p3 : zqi7) (p4 : zqic) (hp1 : PieceOk Tryz.prog 127 0 clock_Valid_p1_code zqhy zqhz (clock_Valid_p1_G p1)) (hp2 : PieceOk Tryz.prog 127 0 clock_Valid_p2_code zqi3 zqi4 (clock_Valid_p2_G p2)) (hp3 : PieceOk Tryz.prog 127 0 clock_Valid_p3_code zqi8 zqi9 (clock_Valid_p3_G p3)) (hp4 : PieceOk Tryz.prog 127 0 clock_Valid_p4_code zqid zqie (clock_Valid_p4_G p4)) : SpecOk Tryz.prog 33 (zqhu (zqir p1 p2 p3 p4)) :=
  spec_exec (X := (clock_Valid_X c_clock_compared c_clock_in c_clock_instant)) (Λ := pick1 [(58, pieceCut zqhy zqhz (clock_Valid_p1_G p1)), (122, pieceCut zqi3 zqi4 (clock_Valid_p2_G p2)), (250, pieceCut zqi8 zqi9 (clock_Valid_p3_G p3)), (506, pieceCut zqid zqie (clock_Valid_p4_G p4))]) (rs := [.tmp 2]) (c := bodyOf Tryz.f33) mixed tab_ok hΓ Tryz.func33 (by kernel_rfl) (by kernel_rfl) (by kernel_rfl) (by kernel_rfl) (CutsOk_cons (q := 58) (c' := clock_Valid_p1_code) (by kernel_rfl) rfl hp1 (CutsOk_cons (q := 122) (c' := clock_Valid_p2_code) (by kernel_rfl) rfl hp2 (CutsOk_cons (q := 250) (c' := clock_Valid_p3_code) (by kernel_rfl) rfl hp3 (CutsOk_cons (q := 506) (c' := clock_Valid_p4_code) (by kernel_rfl) rfl hp4 CutsOk_nil)))) (fun x k r h => Eq.trans (b := (zqhu (zqir p1 p2 p3 p4)).run x k) (by kernel_rfl) h)
end
theorem zqitΓ : ΓOk Tryz.prog (pick1 [(56, .spec (zqgy zqh2)), (55, .spec (zq4b zq4f)), (57, .spec (zq4i zq4m))]) := (ΓOk_cons zqh3 (ΓOk_cons zq4g (ΓOk_cons zq4n ΓOk_nil)))
def zqiu (m : Nat) : zqhx := zqig zq4f m
theorem zqiv {β : Type} (i : Nat) (k1 k2 t34 t35 t36 r_ r_2 r_3 r_4) : (zqiu (i + 1) k1 k2 t34 t35 t36 r_ r_2 r_3 r_4 : Option β) = zqif zq4f (zqiu i k1 k2) k1 k2 t34 t35 t36 r_ r_2 r_3 r_4 := rfl
def zqiw : zqhx := zqiu fuel
theorem zqix : PieceOk Tryz.prog 127 0 clock_Valid_p1_code zqhy zqhz (clock_Valid_p1_G zqiw) := zqih zqh2 zq4f zq4m zqitΓ fuel
def zqiy (m : Nat) : zqi2 := zqij zqh2 zq4f m
theorem zqiz {β : Type} (i : Nat) (k1 k2 t46 t47 t48 r_ r_2 r_3 r_4) : (zqiy (i + 1) k1 k2 t46 t47 t48 r_ r_2 r_3 r_4 : Option β) = zqii zqh2 zq4f (zqiy i k1 k2) k1 k2 t46 t47 t48 r_ r_2 r_3 r_4 := rfl
def zqj0 : zqi2 := zqiy fuel
theorem zqj1 : PieceOk Tryz.prog 127 0 clock_Valid_p2_code zqi3 zqi4 (clock_Valid_p2_G zqj0) := zqik zqh2 zq4f zq4m zqitΓ fuel
def zqj2 (m : Nat) : zqi7 := zqim zq4f zq4m m
theorem zqj3 {β : Type} (i : Nat) (k1 k2 t67 t68 t69 r_ r_2 r_3 r_4) : (zqj2 (i + 1) k1 k2 t67 t68 t69 r_ r_2 r_3 r_4 : Option β) = zqil zq4f zq4m (zqj2 i k1 k2) k1 k2 t67 t68 t69 r_ r_2 r_3 r_4 := rfl
def zqj4 : zqi7 := zqj2 fuel
theorem zqj5 : PieceOk Tryz.prog 127 0 clock_Valid_p3_code zqi8 zqi9 (clock_Valid_p3_G zqj4) := zqin zqh2 zq4f zq4m zqitΓ fuel
def zqj6 (m : Nat) : zqic := zqip zq4f zq4m m
theorem zqj7 {β : Type} (i : Nat) (k1 k2 t89 t90 t91 r_ r_2 r_3 r_4) : (zqj6 (i + 1) k1 k2 t89 t90 t91 r_ r_2 r_3 r_4 : Option β) = zqio zq4f zq4m (zqj6 i k1 k2) k1 k2 t89 t90 t91 r_ r_2 r_3 r_4 := rfl
def zqj8 : zqic := zqj6 fuel
theorem zqj9 : PieceOk Tryz.prog 127 0 clock_Valid_p4_code zqid zqie (clock_Valid_p4_G zqj8) := zqiq zqh2 zq4f zq4m zqitΓ fuel
def zqja : zqht := zqir zqiw zqj0 zqj4 zqj8
theorem zqjb : SpecOk Tryz.prog 33 (zqhu zqja) := zqis zqh2 zq4f zq4m zqitΓ zqiw zqj0 zqj4 zqj8 zqix zqj1 zqj5 zqj9
end
end Go.Lift
