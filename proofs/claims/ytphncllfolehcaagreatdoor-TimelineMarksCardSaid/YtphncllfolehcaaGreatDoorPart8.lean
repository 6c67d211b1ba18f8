/- Part8: Fn0. -/
import Derived.Test.YtphncllfolehcaaGreatDoorProg
import Derived.Test.YtphncllfolehcaaGreatDoorPart7
namespace Go.Lift
open Go.Proofs
noncomputable section
set_option maxRecDepth 100000
set_option linter.unusedVariables false

abbrev zq0 := (Int × (Int × List UInt8))
abbrev zq1 : Ty := (.prod (.int .i64) (.prod (.int .i64) .str))
abbrev zq2 := (List (List UInt8 × Int) × (List (Int × (Int × (Int × Int))) × (List zq0 × List (Int × (Int × Int)))))
abbrev zq3 : Ty := (.prod (.slice (.prod .str (.int .i64))) (.prod (.slice (.prod (.int .i64) (.prod (.int .i64) (.prod (.int .i64) (.int .i64))))) (.prod (.slice zq1) (.slice (.prod (.int .i64) (.prod (.int .i64) (.int .i64)))))))
abbrev api_Row := (Int × ((Int × Int) × List Int))
abbrev zq4 : Ty := (.prod (.int .i64) (.prod (.prod (.int .i64) (.int .i64)) (.slice (.int .i64))))

def tab : List (Nat × TI) := [
  (3, ⟨false, 1, 8, [.int .i64 (0 : Int)], [], none, none, (some (.int .i64)), (some .i64), false, false, none, none⟩),
  (4, ⟨false, 1, 1, [.bool false], [], none, none, (some .bool), none, true, false, none, none⟩),
  (5, ⟨false, 1, 1, [.int .u8 (0 : Int)], [], none, none, (some (.int .u8)), (some .u8), false, false, none, none⟩),
  (9, ⟨false, 1, 16, [.str ([] : List UInt8)], [], none, none, (some .str), none, false, true, none, none⟩),
  (22, ⟨false, 1, 24, [.nils], [], (some 3), none, (some (.slice (.int .i64))), none, false, false, none, none⟩),
  (27, ⟨false, 1, 24, [.nils], [], (some 62), none, (some (.slice (.prod .str (.int .i64)))), none, false, false, none, none⟩),
  (28, ⟨false, 1, 24, [.nils], [], (some 64), none, (some (.slice (.prod (.int .i64) (.prod (.int .i64) (.prod (.int .i64) (.int .i64)))))), none, false, false, none, none⟩),
  (29, ⟨false, 1, 24, [.nils], [], (some 60), none, (some (.slice zq1)), none, false, false, none, none⟩),
  (30, ⟨false, 1, 24, [.nils], [], (some 73), none, (some (.slice (.prod (.int .i64) (.prod (.int .i64) (.int .i64))))), none, false, false, none, none⟩),
  (32, ⟨true, 4, 96, [.nils, .nils, .nils, .nils], [(0, 1, false), (1, 1, false), (2, 1, false), (3, 1, false)], none, none, (some zq3), none, false, false, none, none⟩),
  (35, ⟨false, 1, 24, [.nils], [], (some 42), none, (some (.slice zq4)), none, false, false, none, none⟩),
  (40, ⟨true, 2, 16, [.int .i64 (0 : Int), .int .i64 (0 : Int)], [(0, 1, false), (1, 1, false)], none, none, (some (.prod (.int .i64) (.int .i64))), none, false, false, (some [.i, .i]), none⟩),
  (42, ⟨true, 4, 48, [.int .i64 (0 : Int), .int .i64 (0 : Int), .int .i64 (0 : Int), .nils], [(0, 1, false), (1, 2, true), (3, 1, false)], none, none, (some zq4), none, false, false, none, none⟩),
  (50, ⟨false, 1, 24, [.nils], [], (some 40), none, (some (.slice (.prod (.int .i64) (.int .i64)))), none, false, false, none, none⟩),
  (56, ⟨false, 1, 24, [.nils], [], (some 58), none, (some (.slice (.prod (.int .i64) (.int .i64)))), none, false, false, none, none⟩),
  (58, ⟨true, 2, 16, [.int .i64 (0 : Int), .int .i64 (0 : Int)], [], (some 3), (some 2), (some (.prod (.int .i64) (.int .i64))), none, false, false, (some [.i, .i]), none⟩),
  (60, ⟨true, 3, 32, [.int .i64 (0 : Int), .int .i64 (0 : Int), .str ([] : List UInt8)], [(0, 1, false), (1, 1, false), (2, 1, false)], none, none, (some zq1), none, false, false, (some [.i, .i, .s]), none⟩),
  (62, ⟨true, 2, 24, [.str ([] : List UInt8), .int .i64 (0 : Int)], [(0, 1, false), (1, 1, false)], none, none, (some (.prod .str (.int .i64))), none, false, false, (some [.s, .i]), none⟩),
  (64, ⟨true, 4, 32, [.int .i64 (0 : Int), .int .i64 (0 : Int), .int .i64 (0 : Int), .int .i64 (0 : Int)], [(0, 1, false), (1, 1, false), (2, 1, false), (3, 1, false)], none, none, (some (.prod (.int .i64) (.prod (.int .i64) (.prod (.int .i64) (.int .i64))))), none, false, false, (some [.i, .i, .i, .i]), none⟩),
  (68, ⟨true, 2, 32, [.nils, .int .i64 (0 : Int)], [(0, 1, false), (1, 1, false)], none, none, (some (.prod (.slice (.int .i64)) (.int .i64))), none, false, false, none, none⟩),
  (70, ⟨false, 1, 24, [.nils], [], (some 9), none, (some (.slice .str)), none, false, false, none, none⟩),
  (73, ⟨true, 3, 24, [.int .i64 (0 : Int), .int .i64 (0 : Int), .int .i64 (0 : Int)], [(0, 1, false), (1, 1, false), (2, 1, false)], none, none, (some (.prod (.int .i64) (.prod (.int .i64) (.int .i64)))), none, false, false, (some [.i, .i, .i]), none⟩),
  (80, ⟨false, 1, 24, [.nils], [], (some 22), none, (some (.slice (.slice (.int .i64)))), none, false, false, none, none⟩),
  (87, ⟨false, 1, 24, [.nils], [], (some 122), none, (some (.slice (.prod (.int .i64) (.prod (.int .i64) (.int .i64))))), none, false, false, none, none⟩),
  (95, ⟨true, 2, 32, [.nilp, .nils], [(0, 1, false), (1, 1, false)], none, none, none, none, false, false, none, none⟩),
  (104, ⟨false, 1, 24, [.nils], [], (some 22), none, (some (.slice (.slice (.int .i64)))), none, false, false, none, none⟩),
  (107, ⟨false, 1, 8, [.junk], [], none, none, none, none, false, false, none, (some (3, 4))⟩),
  (109, ⟨false, 1, 8, [.junk], [], none, none, none, none, false, false, none, (some (58, 4))⟩),
  (122, ⟨true, 3, 24, [.int .i64 (0 : Int), .int .i64 (0 : Int), .int .i64 (0 : Int)], [(0, 1, false), (1, 1, false), (2, 1, false)], none, none, (some (.prod (.int .i64) (.prod (.int .i64) (.int .i64)))), none, false, false, (some [.i, .i, .i]), none⟩)]

theorem tab_ok : TOk Tryz.prog (look tab) := TOk_of (by kernel_rfl)
theorem mixed : Tryz.prog.follows .mixedOrders = true := by kernel_rfl

/-- pagewatch/pagewatchmade.Light -/
abbrev zq5 := {β : Type} → (List Int) → (Bool → Option β) → Option β
def zq6 (c : zq5) : Spec :=
  ⟨[(false, [.data (.slice (.int .i64))])], [], [(false, [.data .bool])], [], fun x k => c x.1.1.1 (fun r0 => k (((r0, ()), ()), ()))⟩
section
@[reducible] def made_Light_X : Ctx := ⟨look tab, pick1 [], false, false, false, false⟩
def zq7 {β : Type} (l : List Int) (k : (Bool → Option β)) : Option β :=
  let t : Bool := (decide ((List.length l : Int) ≤ (500 : Int)));
  k t
theorem zq8 (hΓ : ΓOk Tryz.prog made_Light_X.Γ) : SpecOk Tryz.prog 6 (zq6 (zq7)) :=
  spec_exec (X := made_Light_X) (Λ := pick1 []) (rs := [.tmp 2]) (c := bodyOf Tryz.f6) mixed tab_ok hΓ Tryz.func6 (by kernel_rfl) (by kernel_rfl) (by kernel_rfl) (by kernel_rfl) CutsOk_nil (fun x k r h => Eq.trans (b := (zq6 (zq7)).run x k) (by kernel_rfl) h)
end
theorem zq9Γ : ΓOk Tryz.prog (pick1 []) := ΓOk_nil
def zqa : zq5 := zq7
theorem zqb : SpecOk Tryz.prog 6 (zq6 zqa) := zq8 zq9Γ

/-- pagewatch/pagewatchmade.Roll -/
abbrev zqc := {β : Type} → (List Int) → ((List Int × Int) → Option β) → Option β
def zqd (c : zqc) : Spec :=
  ⟨[(false, [.data (.slice (.int .i64))])], [], [(false, [.ptr 0 0])], [.cells 68 [.data (.prod (.slice (.int .i64)) (.int .i64))]], fun x k => c x.1.1.1 (fun r0 => k (((), ()), ((r0, ()), ())))⟩
section
@[reducible] def made_Roll_X : Ctx := ⟨look tab, pick1 [], false, false, false, false⟩
def zqe {β : Type} (l : List Int) (k : ((List Int × Int) → Option β)) : Option β :=
  k (l, (0 : Int))
theorem zqf (hΓ : ΓOk Tryz.prog made_Roll_X.Γ) : SpecOk Tryz.prog 8 (zqd (zqe)) :=
  spec_exec (X := made_Roll_X) (Λ := pick1 []) (rs := [.tmp 2]) (c := bodyOf Tryz.f8) mixed tab_ok hΓ Tryz.func8 (by kernel_rfl) (by kernel_rfl) (by kernel_rfl) (by kernel_rfl) CutsOk_nil (fun x k r h => Eq.trans (b := (zqd (zqe)).run x k) (by kernel_rfl) h)
end
theorem zqgΓ : ΓOk Tryz.prog (pick1 []) := ΓOk_nil
def zqh : zqc := zqe
theorem zqi : SpecOk Tryz.prog 8 (zqd zqh) := zqf zqgΓ

/-- pagewatch/pagewatchref25.Has -/
abbrev zqj := {β : Type} → (List Int) → Int → (Bool → Option β) → Option β
def zqk (c : zqj) : Spec :=
  ⟨[(false, [.data (.slice (.int .i64))]), (false, [.data (.int .i64)])], [], [(false, [.data .bool])], [], fun x k => c x.1.1.1 x.1.2.1.1 (fun r0 => k (((r0, ()), ()), ()))⟩
noncomputable def ref25_Has_p1_code : Code := codeAt 26 (bodyOf Tryz.f12)
abbrev zql (β : Type) := Bool → Option β
abbrev zqm (β : Type) := Unit → Option β
abbrev zqn := {β : Type} → zql β → zqm β → (List Int) → Int → Int → Option β
def zqo : View := ⟨0, [0, 1, 5], [(false, [.data (.slice (.int .i64))]), (false, [.data (.int .i64)]), (false, [.data (.int .i64)])], []⟩
def zqp : List (AExit × View) := [(.ret, ⟨0, [4], [(false, [.data .bool])], []⟩), (.exit 0, ⟨0, [], [], []⟩)]
@[reducible] def ref25_Has_p1_G (p : zqn) {β : Type} (d : zqo.den) (ks : Outs.K β zqp) : Option β :=
  p (fun a0 => ks.1 (((a0, ()), ()), ())) (fun _ => ks.2.1 ((), ())) d.1.1.1 d.1.2.1.1 d.1.2.2.1.1
section
@[reducible] def ref25_Has_X : Ctx := ⟨look tab, pick1 [], false, false, false, false⟩
def zqq {β : Type} (rec : (List Int) → Int → Int → Option β) (k1 : zql β) (k2 : zqm β) (l : List Int) (x : Int) (i_ : Int) : Option β :=
  cond (decide (i_ < (List.length l : Int)))
  (cond (decide (0 ≤ i_) && decide (i_ < (List.length l : Int)))
  (let e : Int := List.getD l (Int.toNat i_) (0 : Int);
  cond (decide (e = x))
  (k1 true)
  (let i_2 : Int := (IntKind.i64.wrap (i_ + (1 : Int)));
  rec l x i_2))
  none)
  (k2 ())
def zqr {β : Type} : Nat → zql β → zqm β → (List Int) → Int → Int → Option β
  | 0 => fun _ _ _ _ _ => none
  | i + 1 => fun k1 k2 l x i_ => zqq (zqr i k1 k2) k1 k2 l x i_
theorem zqs (hΓ : ΓOk Tryz.prog ref25_Has_X.Γ) (i : Nat) : PieceOk Tryz.prog 18 0 ref25_Has_p1_code zqo zqp (ref25_Has_p1_G (zqr i)) := by
  rw [show ref25_Has_p1_code = .loop (loopBody ref25_Has_p1_code) by kernel_rfl]
  exact piece_loop (X := ref25_Has_X) (p := 1) (Λ := pick1 []) (G := fun i => @fun β d ks => ref25_Has_p1_G (zqr i) d ks) mixed tab_ok hΓ rfl (by kernel_rfl) CutsOk_nil (fun _ _ => rfl) (fun i => @fun β d ks r h => Eq.trans (b := ref25_Has_p1_G (zqr (i + 1)) d ks) (by kernel_rfl) h) i
def zqt (p1 : zqn) {β : Type} (l : List Int) (x : Int) (k : (Bool → Option β)) : Option β :=
  p1 (fun (t4 : Bool) =>
  k t4) (fun (_ : Unit) =>
  k false) l x (0 : Int)
theorem zqu (hΓ : ΓOk Tryz.prog ref25_Has_X.Γ) (p1 : zqn) (hp1 : PieceOk Tryz.prog 18 0 ref25_Has_p1_code zqo zqp (ref25_Has_p1_G p1)) : SpecOk Tryz.prog 12 (zqk (zqt p1)) :=
  spec_exec (X := ref25_Has_X) (Λ := pick1 [(26, pieceCut zqo zqp (ref25_Has_p1_G p1))]) (rs := [.tmp 4]) (c := bodyOf Tryz.f12) mixed tab_ok hΓ Tryz.func12 (by kernel_rfl) (by kernel_rfl) (by kernel_rfl) (by kernel_rfl) (CutsOk_cons (q := 26) (c' := ref25_Has_p1_code) (by kernel_rfl) rfl hp1 CutsOk_nil) (fun x k r h => Eq.trans (b := (zqk (zqt p1)).run x k) (by kernel_rfl) h)
end
theorem zqvΓ : ΓOk Tryz.prog (pick1 []) := ΓOk_nil
def zqw (m : Nat) : zqn := zqr m
theorem zqx {β : Type} (i : Nat) (k1 k2 l x i_) : (zqw (i + 1) k1 k2 l x i_ : Option β) = zqq (zqw i k1 k2) k1 k2 l x i_ := rfl
def zqy : zqn := zqw fuel
theorem zqz : PieceOk Tryz.prog 18 0 ref25_Has_p1_code zqo zqp (ref25_Has_p1_G zqy) := zqs zqvΓ fuel
def zq10 : zqj := zqt zqy
theorem zq11 : SpecOk Tryz.prog 12 (zqk zq10) := zqu zqvΓ zqy zqz

/-- (*pagewatch/pagewatchmade.Dice).Next -/
abbrev zq12 := {β : Type} → Int → (List Int × Int) → (Int → (List Int × Int) → Option β) → Option β
def zq13 (c : zq12) : Spec :=
  ⟨[(false, [.ptr 0 0]), (false, [.data (.int .i64)])], [.cells 68 [.data (.prod (.slice (.int .i64)) (.int .i64))]], [(false, [.data (.int .i64)])], [.cells 68 [.data (.prod (.slice (.int .i64)) (.int .i64))]], fun x k => c x.1.2.1.1 x.2.1.1 (fun r0 r1 => k (((r0, ()), ()), ((r1, ()), ())))⟩
section
@[reducible] def made_Dice_Next_X : Ctx := ⟨look tab, pick1 [], false, false, false, false⟩
def zq14 {β : Type} (n : Int) (d : (List Int × Int)) (k : (Int → (List Int × Int) → Option β)) : Option β :=
  cond (decide ((List.length d.1 : Int) ≤ d.2))
  (k (0 : Int) d)
  (cond (decide (n < (1 : Int)))
  (k (0 : Int) d)
  (cond (decide (0 ≤ d.2) && decide (d.2 < (List.length d.1 : Int)))
  (let e : Int := List.getD d.1 (Int.toNat d.2) (0 : Int);
  cond (!decide (n = 0))
  (cond (decide ((Int.tmod e n) < (0 : Int)))
  (let x : Int := (IntKind.i64.wrap ((Int.tmod e n) + n));
  k x (d.1, (IntKind.i64.wrap (d.2 + (1 : Int)))))
  (k (Int.tmod e n) (d.1, (IntKind.i64.wrap (d.2 + (1 : Int))))))
  none)
  none))
theorem zq15 (hΓ : ΓOk Tryz.prog made_Dice_Next_X.Γ) : SpecOk Tryz.prog 22 (zq13 (zq14)) :=
  spec_exec (X := made_Dice_Next_X) (Λ := pick1 []) (rs := [.tmp 4]) (c := bodyOf Tryz.f22) mixed tab_ok hΓ Tryz.func22 (by kernel_rfl) (by kernel_rfl) (by kernel_rfl) (by kernel_rfl) CutsOk_nil (fun x k r h => Eq.trans (b := (zq13 (zq14)).run x k) (by kernel_rfl) h)
end
theorem zq16Γ : ΓOk Tryz.prog (pick1 []) := ΓOk_nil
def zq17 : zq12 := zq14
theorem zq18 : SpecOk Tryz.prog 22 (zq13 zq17) := zq15 zq16Γ

/-- (*pagewatch/pagewatchmade.Dice).One -/
abbrev zq19 := {β : Type} → (List Int) → (List Int × Int) → (Int → (List Int × Int) → Option β) → Option β
def zq1a (c : zq19) : Spec :=
  ⟨[(false, [.ptr 0 0]), (false, [.data (.slice (.int .i64))])], [.cells 68 [.data (.prod (.slice (.int .i64)) (.int .i64))]], [(false, [.data (.int .i64)])], [.cells 68 [.data (.prod (.slice (.int .i64)) (.int .i64))]], fun x k => c x.1.2.1.1 x.2.1.1 (fun r0 r1 => k (((r0, ()), ()), ((r1, ()), ())))⟩
section
variable (c_made_Dice_Next : zq12)
@[reducible] def made_Dice_One_X : Ctx := ⟨look tab, pick1 [(22, .spec (zq13 c_made_Dice_Next))], false, false, false, false⟩
def zq1b {β : Type} (l : List Int) (d : (List Int × Int)) (k : (Int → (List Int × Int) → Option β)) : Option β :=
  c_made_Dice_Next (List.length l : Int) d (fun (rNext : Int) (mrNext : (List Int × Int)) =>
  cond (decide (0 ≤ rNext) && decide (rNext < (List.length l : Int)))
  (let e : Int := List.getD l (Int.toNat rNext) (0 : Int);
  k e mrNext)
  none)
theorem zq1c (hΓ : ΓOk Tryz.prog (made_Dice_One_X c_made_Dice_Next).Γ) : SpecOk Tryz.prog 23 (zq1a (zq1b c_made_Dice_Next)) :=
  spec_exec (X := (made_Dice_One_X c_made_Dice_Next)) (Λ := pick1 []) (rs := [.tmp 4]) (c := bodyOf Tryz.f23) mixed tab_ok hΓ Tryz.func23 (by kernel_rfl) (by kernel_rfl) (by kernel_rfl) (by kernel_rfl) CutsOk_nil (fun x k r h => Eq.trans (b := (zq1a (zq1b c_made_Dice_Next)).run x k) (by kernel_rfl) h)
end
theorem zq1dΓ : ΓOk Tryz.prog (pick1 [(22, .spec (zq13 zq17))]) := (ΓOk_cons zq18 ΓOk_nil)
def zq1e : zq19 := zq1b zq17
theorem zq1f : SpecOk Tryz.prog 23 (zq1a zq1e) := zq1c zq17 zq1dΓ

/-- slices.Equal[[]int,int] -/
abbrev zq1g := {β : Type} → (List Int) → (List Int) → (Bool → Option β) → Option β
def zq1h (c : zq1g) : Spec :=
  ⟨[(false, [.data (.slice (.int .i64))]), (false, [.data (.slice (.int .i64))])], [], [(false, [.data .bool])], [], fun x k => c x.1.1.1 x.1.2.1.1 (fun r0 => k (((r0, ()), ()), ()))⟩
noncomputable def slices_Equal_int_int_p1_code : Code := codeAt 58 (bodyOf Tryz.f29)
abbrev zq1i (β : Type) := Bool → Option β
abbrev zq1j (β : Type) := Unit → Option β
abbrev zq1k := {β : Type} → zq1i β → zq1j β → (List Int) → (List Int) → Int → Int → Option β
def zq1l : View := ⟨0, [0, 1, 12, 13], [(false, [.data (.slice (.int .i64))]), (false, [.data (.slice (.int .i64))]), (false, [.data (.int .i64)]), (false, [.data (.int .i64)])], []⟩
def zq1m : List (AExit × View) := [(.ret, ⟨0, [4], [(false, [.data .bool])], []⟩), (.exit 0, ⟨0, [], [], []⟩)]
@[reducible] def slices_Equal_int_int_p1_G (p : zq1k) {β : Type} (d : zq1l.den) (ks : Outs.K β zq1m) : Option β :=
  p (fun a0 => ks.1 (((a0, ()), ()), ())) (fun _ => ks.2.1 ((), ())) d.1.1.1 d.1.2.1.1 d.1.2.2.1.1 d.1.2.2.2.1.1
section
@[reducible] def slices_Equal_int_int_X : Ctx := ⟨look tab, pick1 [], false, false, false, false⟩
def zq1n {β : Type} (rec : (List Int) → (List Int) → Int → Int → Option β) (k1 : zq1i β) (k2 : zq1j β) (s1 : List Int) (s2 : List Int) (t12 : Int) (t13 : Int) : Option β :=
  cond (decide (t13 < t12))
  (cond (decide (0 ≤ t13) && decide (t13 < (List.length s1 : Int)))
  (let e : Int := List.getD s1 (Int.toNat t13) (0 : Int);
  cond (decide (0 ≤ t13) && decide (t13 < (List.length s2 : Int)))
  (let e2 : Int := List.getD s2 (Int.toNat t13) (0 : Int);
  cond (!decide (e = e2))
  (k1 false)
  (rec s1 s2 t12 (IntKind.i64.wrap (t13 + (1 : Int)))))
  none)
  none)
  (k2 ())
def zq1o {β : Type} : Nat → zq1i β → zq1j β → (List Int) → (List Int) → Int → Int → Option β
  | 0 => fun _ _ _ _ _ _ => none
  | i + 1 => fun k1 k2 s1 s2 t12 t13 => zq1n (zq1o i k1 k2) k1 k2 s1 s2 t12 t13
theorem zq1p (hΓ : ΓOk Tryz.prog slices_Equal_int_int_X.Γ) (i : Nat) : PieceOk Tryz.prog 26 0 slices_Equal_int_int_p1_code zq1l zq1m (slices_Equal_int_int_p1_G (zq1o i)) := by
  rw [show slices_Equal_int_int_p1_code = .loop (loopBody slices_Equal_int_int_p1_code) by kernel_rfl]
  exact piece_loop (X := slices_Equal_int_int_X) (p := 1) (Λ := pick1 []) (G := fun i => @fun β d ks => slices_Equal_int_int_p1_G (zq1o i) d ks) mixed tab_ok hΓ rfl (by kernel_rfl) CutsOk_nil (fun _ _ => rfl) (fun i => @fun β d ks r h => Eq.trans (b := slices_Equal_int_int_p1_G (zq1o (i + 1)) d ks) (by kernel_rfl) h) i
def zq1q (p1 : zq1k) {β : Type} (s1 : List Int) (s2 : List Int) (k : (Bool → Option β)) : Option β :=
  cond (!decide ((List.length s1 : Int) = (List.length s2 : Int)))
  (k false)
  (p1 (fun (t4 : Bool) =>
  k t4) (fun (_ : Unit) =>
  k true) s1 s2 (List.length s1 : Int) (0 : Int))
theorem zq1r (hΓ : ΓOk Tryz.prog slices_Equal_int_int_X.Γ) (p1 : zq1k) (hp1 : PieceOk Tryz.prog 26 0 slices_Equal_int_int_p1_code zq1l zq1m (slices_Equal_int_int_p1_G p1)) : SpecOk Tryz.prog 29 (zq1h (zq1q p1)) :=
  spec_exec (X := slices_Equal_int_int_X) (Λ := pick1 [(58, pieceCut zq1l zq1m (slices_Equal_int_int_p1_G p1))]) (rs := [.tmp 4]) (c := bodyOf Tryz.f29) mixed tab_ok hΓ Tryz.func29 (by kernel_rfl) (by kernel_rfl) (by kernel_rfl) (by kernel_rfl) (CutsOk_cons (q := 58) (c' := slices_Equal_int_int_p1_code) (by kernel_rfl) rfl hp1 CutsOk_nil) (fun x k r h => Eq.trans (b := (zq1h (zq1q p1)).run x k) (by kernel_rfl) h)
end
theorem zq1sΓ : ΓOk Tryz.prog (pick1 []) := ΓOk_nil
def zq1t (m : Nat) : zq1k := zq1o m
theorem zq1u {β : Type} (i : Nat) (k1 k2 s1 s2 t12 t13) : (zq1t (i + 1) k1 k2 s1 s2 t12 t13 : Option β) = zq1n (zq1t i k1 k2) k1 k2 s1 s2 t12 t13 := rfl
def zq1v : zq1k := zq1t fuel
theorem zq1w : PieceOk Tryz.prog 26 0 slices_Equal_int_int_p1_code zq1l zq1m (slices_Equal_int_int_p1_G zq1v) := zq1p zq1sΓ fuel
def zq1x : zq1g := zq1q zq1v
theorem zq1y : SpecOk Tryz.prog 29 (zq1h zq1x) := zq1r zq1sΓ zq1v zq1w

/-- pagewatch/pagewatchref25.In -/
abbrev zq1z := {β : Type} → Int → Int → Int → (Bool → Option β) → Option β
def zq20 (c : zq1z) : Spec :=
  ⟨[(false, [.data (.int .i64)]), (false, [.data (.int .i64)]), (false, [.data (.int .i64)])], [], [(false, [.data .bool])], [], fun x k => c x.1.1.1 x.1.2.1.1 x.1.2.2.1.1 (fun r0 => k (((r0, ()), ()), ()))⟩
section
@[reducible] def ref25_In_X : Ctx := ⟨look tab, pick1 [], false, false, false, false⟩
def zq21 {β : Type} (n : Int) (lo : Int) (hi : Int) (k : (Bool → Option β)) : Option β :=
  cond (decide (lo ≤ n))
  (k (decide (n ≤ hi)))
  (k false)
theorem zq22 (hΓ : ΓOk Tryz.prog ref25_In_X.Γ) : SpecOk Tryz.prog 31 (zq20 (zq21)) :=
  spec_exec (X := ref25_In_X) (Λ := pick1 []) (rs := [.tmp 6]) (c := bodyOf Tryz.f31) mixed tab_ok hΓ Tryz.func31 (by kernel_rfl) (by kernel_rfl) (by kernel_rfl) (by kernel_rfl) CutsOk_nil (fun x k r h => Eq.trans (b := (zq20 (zq21)).run x k) (by kernel_rfl) h)
end
theorem zq23Γ : ΓOk Tryz.prog (pick1 []) := ΓOk_nil
def zq24 : zq1z := zq21
theorem zq25 : SpecOk Tryz.prog 31 (zq20 zq24) := zq22 zq23Γ

/-- pagewatch/pagewatchref40.compare -/
abbrev zq26 := {β : Type} → (List (List Int)) → Int → Int → (Int → Option β) → Option β
def zq27 (c : zq26) : Spec :=
  ⟨[(false, [.data (.slice (.slice (.int .i64)))]), (false, [.data (.int .i64)]), (false, [.data (.int .i64)])], [], [(false, [.data (.int .i64)])], [], fun x k => c x.1.1.1 x.1.2.1.1 x.1.2.2.1.1 (fun r0 => k (((r0, ()), ()), ()))⟩
section
@[reducible] def ref40_compare_X : Ctx := ⟨look tab, pick1 [], false, false, false, false⟩
def zq28 {β : Type} (d : List (List Int)) (a : Int) (b : Int) (k : (Int → Option β)) : Option β :=
  cond (decide (0 ≤ (IntKind.i64.wrap (b + (1 : Int)))) && decide ((IntKind.i64.wrap (b + (1 : Int))) < (List.length d : Int)))
  (let e : List Int := List.getD d (Int.toNat (IntKind.i64.wrap (b + (1 : Int)))) ([] : List Int);
  cond (decide (0 ≤ (IntKind.i64.wrap (a + (1 : Int)))) && decide ((IntKind.i64.wrap (a + (1 : Int))) < (List.length e : Int)))
  (let e2 : Int := List.getD e (Int.toNat (IntKind.i64.wrap (a + (1 : Int)))) (0 : Int);
  let t : Bool := (decide (e2 ≤ (-1 : Int)));
  cond t
  (k (-1 : Int))
  (cond (decide (0 ≤ (IntKind.i64.wrap (a + (1 : Int)))) && decide ((IntKind.i64.wrap (a + (1 : Int))) < (List.length d : Int)))
  (let e3 : List Int := List.getD d (Int.toNat (IntKind.i64.wrap (a + (1 : Int)))) ([] : List Int);
  cond (decide (0 ≤ (IntKind.i64.wrap (b + (1 : Int)))) && decide ((IntKind.i64.wrap (b + (1 : Int))) < (List.length e3 : Int)))
  (let e4 : Int := List.getD e3 (Int.toNat (IntKind.i64.wrap (b + (1 : Int)))) (0 : Int);
  let t2 : Bool := (decide (e4 ≤ (-1 : Int)));
  cond t2
  (k (1 : Int))
  (k (0 : Int)))
  none)
  none))
  none)
  none
theorem zq29 (hΓ : ΓOk Tryz.prog ref40_compare_X.Γ) : SpecOk Tryz.prog 32 (zq27 (zq28)) :=
  spec_exec (X := ref40_compare_X) (Λ := pick1 []) (rs := [.tmp 6]) (c := bodyOf Tryz.f32) mixed tab_ok hΓ Tryz.func32 (by kernel_rfl) (by kernel_rfl) (by kernel_rfl) (by kernel_rfl) CutsOk_nil (fun x k r h => Eq.trans (b := (zq27 (zq28)).run x k) (by kernel_rfl) h)
end
theorem zq2aΓ : ΓOk Tryz.prog (pick1 []) := ΓOk_nil
def zq2b : zq26 := zq28
theorem zq2c : SpecOk Tryz.prog 32 (zq27 zq2b) := zq29 zq2aΓ

/-- pagewatch/timeline.printed -/
abbrev zq2d := {β : Type} → (List UInt8) → Int → (Bool → Option β) → Option β
def zq2e (c : zq2d) : Spec :=
  ⟨[(false, [.data .str]), (false, [.data (.int .u8)])], [], [(false, [.data .bool])], [], fun x k => c x.1.1.1 x.1.2.1.1 (fun r0 => k (((r0, ()), ()), ()))⟩
noncomputable def timeline_printed_p1_code : Code := codeAt 26 (bodyOf Tryz.f39)
abbrev zq2f (β : Type) := Bool → Option β
abbrev zq2g (β : Type) := (List UInt8) → Option β
abbrev zq2h := {β : Type} → zq2f β → zq2g β → (List UInt8) → Int → Int → Int → Option β
def zq2i : View := ⟨0, [0, 1, 7, 8], [(false, [.data .str]), (false, [.data (.int .u8)]), (false, [.data (.int .i64)]), (false, [.data (.int .i64)])], []⟩
def zq2j : List (AExit × View) := [(.ret, ⟨0, [4], [(false, [.data .bool])], []⟩), (.exit 0, ⟨0, [0], [(false, [.data .str])], []⟩)]
@[reducible] def timeline_printed_p1_G (p : zq2h) {β : Type} (d : zq2i.den) (ks : Outs.K β zq2j) : Option β :=
  p (fun a0 => ks.1 (((a0, ()), ()), ())) (fun a0 => ks.2.1 (((a0, ()), ()), ())) d.1.1.1 d.1.2.1.1 d.1.2.2.1.1 d.1.2.2.2.1.1
section
@[reducible] def timeline_printed_X : Ctx := ⟨look tab, pick1 [], false, false, false, false⟩
def zq2k {β : Type} (rec : (List UInt8) → Int → Int → Int → Option β) (k1 : zq2f β) (k2 : zq2g β) (s : List UInt8) (least : Int) (t7 : Int) (t8 : Int) : Option β :=
  cond (decide (t8 < t7))
  (cond (decide (0 ≤ t8) && decide (t8 < (List.length s : Int)))
  (cond (decide (((List.getD s (Int.toNat t8) 0).toNat : Int) < least))
  (k1 false)
  (cond (decide (0 ≤ t8) && decide (t8 < (List.length s : Int)))
  (cond (decide ((126 : Int) < ((List.getD s (Int.toNat t8) 0).toNat : Int)))
  (k1 false)
  (rec s least t7 (IntKind.i64.wrap (t8 + (1 : Int)))))
  none))
  none)
  (k2 s)
def zq2l {β : Type} : Nat → zq2f β → zq2g β → (List UInt8) → Int → Int → Int → Option β
  | 0 => fun _ _ _ _ _ _ => none
  | i + 1 => fun k1 k2 s least t7 t8 => zq2k (zq2l i k1 k2) k1 k2 s least t7 t8
theorem zq2m (hΓ : ΓOk Tryz.prog timeline_printed_X.Γ) (i : Nat) : PieceOk Tryz.prog 25 0 timeline_printed_p1_code zq2i zq2j (timeline_printed_p1_G (zq2l i)) := by
  rw [show timeline_printed_p1_code = .loop (loopBody timeline_printed_p1_code) by kernel_rfl]
  exact piece_loop (X := timeline_printed_X) (p := 1) (Λ := pick1 []) (G := fun i => @fun β d ks => timeline_printed_p1_G (zq2l i) d ks) mixed tab_ok hΓ rfl (by kernel_rfl) CutsOk_nil (fun _ _ => rfl) (fun i => @fun β d ks r h => Eq.trans (b := timeline_printed_p1_G (zq2l (i + 1)) d ks) (by kernel_rfl) h) i
def zq2n (p1 : zq2h) {β : Type} (s : List UInt8) (least : Int) (k : (Bool → Option β)) : Option β :=
  p1 (fun (t4 : Bool) =>
  k t4) (fun (s2 : List UInt8) =>
  let t : Bool := (!decide (s2 = ([] : List UInt8)));
  k t) s least (List.length s : Int) (0 : Int)
theorem zq2o (hΓ : ΓOk Tryz.prog timeline_printed_X.Γ) (p1 : zq2h) (hp1 : PieceOk Tryz.prog 25 0 timeline_printed_p1_code zq2i zq2j (timeline_printed_p1_G p1)) : SpecOk Tryz.prog 39 (zq2e (zq2n p1)) :=
  spec_exec (X := timeline_printed_X) (Λ := pick1 [(26, pieceCut zq2i zq2j (timeline_printed_p1_G p1))]) (rs := [.tmp 4]) (c := bodyOf Tryz.f39) mixed tab_ok hΓ Tryz.func39 (by kernel_rfl) (by kernel_rfl) (by kernel_rfl) (by kernel_rfl) (CutsOk_cons (q := 26) (c' := timeline_printed_p1_code) (by kernel_rfl) rfl hp1 CutsOk_nil) (fun x k r h => Eq.trans (b := (zq2e (zq2n p1)).run x k) (by kernel_rfl) h)
end
theorem zq2pΓ : ΓOk Tryz.prog (pick1 []) := ΓOk_nil
def zq2q (m : Nat) : zq2h := zq2l m
theorem zq2r {β : Type} (i : Nat) (k1 k2 s least t7 t8) : (zq2q (i + 1) k1 k2 s least t7 t8 : Option β) = zq2k (zq2q i k1 k2) k1 k2 s least t7 t8 := rfl
def zq2s : zq2h := zq2q fuel
theorem zq2t : PieceOk Tryz.prog 25 0 timeline_printed_p1_code zq2i zq2j (timeline_printed_p1_G zq2s) := zq2m zq2pΓ fuel
def zq2u : zq2d := zq2n zq2s
theorem zq2v : SpecOk Tryz.prog 39 (zq2e zq2u) := zq2o zq2pΓ zq2s zq2t

/-- (*strings.Builder).WriteString -/
def zq2w : Shelf.Ren :=
      { 
      f := fun x =>
        match x with
        | 166 => 40
        | 240 => 66
        | 276 => 79
        | n => n,
      t := fun x =>
        match x with
        | 70 => 92
        | 9 => 9
        | 0 => 0
        | 72 => 95
        | 37 => 93
        | 127 => 126
        | 3 => 3
        | 5 => 5
        | 80 => 103
        | 4 => 4
        | 164 => 136
        | 20 => 20
        | 75 => 98
        | n => n,
      g := fun x => x }
theorem zq2x : Go.Proofs.Lays.n166 Tryz.prog zq2w :=
  { mixed := by kernel_rfl,
    f166 := Eq.trans Tryz.func40 (congrArg some (by kernel_rfl)),
    f240 := Eq.trans Tryz.func66 (congrArg some (by kernel_rfl)),
    f276 := Eq.trans Tryz.func79 (congrArg some (by kernel_rfl)),
    t0 := Tryz.underlying0,
    a0 := Tryz.isAgg0,
    z0 := Tryz.sizeOf0,
    v0 := Tryz.zeroValue0,
    t3 := Tryz.underlying3,
    a3 := Tryz.isAgg3,
    z3 := Tryz.sizeOf3,
    v3 := Tryz.zeroValue3,
    t4 := Tryz.underlying4,
    a4 := Tryz.isAgg4,
    z4 := Tryz.sizeOf4,
    v4 := Tryz.zeroValue4,
    t9 := Tryz.underlying9,
    a9 := Tryz.isAgg9,
    z9 := Tryz.sizeOf9,
    v9 := Tryz.zeroValue9,
    t20 := Tryz.underlying20,
    a20 := Tryz.isAgg20,
    z20 := Tryz.sizeOf20,
    v20 := Tryz.zeroValue20,
    t37 := Tryz.underlying93,
    a37 := Tryz.isAgg93,
    z37 := Tryz.sizeOf93,
    v37 := Tryz.zeroValue93,
    t70 := Tryz.underlying92,
    a70 := Tryz.isAgg92,
    z70 := Tryz.sizeOf92,
    v70 := Tryz.zeroValue92,
    t72 := Tryz.underlying95,
    a72 := Tryz.isAgg95,
    z72 := Tryz.sizeOf95,
    v72 := Tryz.zeroValue95,
    t75 := Tryz.underlying98,
    a75 := Tryz.isAgg98,
    z75 := Tryz.sizeOf98,
    v75 := Tryz.zeroValue98,
    t164 := Tryz.underlying136,
    a164 := Tryz.isAgg136,
    z164 := Tryz.sizeOf136,
    v164 := Tryz.zeroValue136 }
def zq2y : BldF := ⟨95, 5, 0⟩
theorem zq2z : BldOk Tryz.prog 40 zq2y :=
  bldWrite_ok zq2x { sizeBuilder := by kernel_rfl, liesBuilder := by kernel_rfl, t5 := Tryz.underlying5, a5 := Tryz.isAgg5, z5 := Tryz.sizeOf5, v5 := Tryz.zeroValue5, infoByte := by kernel_rfl, cellsByte := by kernel_rfl, sizeByte := by kernel_rfl, neB5 := by decide } rfl rfl rfl ⟨_, Tryz.func40, by kernel_rfl, by kernel_rfl⟩

/-- strconv.Itoa -/
def zq30 : Shelf.Ren :=
      { 
      f := fun x =>
        match x with
        | 171 => 41
        | 243 => 67
        | 246 => 80
        | 283 => 96
        | 284 => 97
        | 285 => 98
        | 286 => 99
        | 129 => 95
        | 317 => 113
        | 318 => 114
        | 319 => 115
        | 320 => 116
        | 337 => 120
        | 338 => 121
        | n => n,
      t := fun x =>
        match x with
        | 3 => 3
        | 9 => 9
        | 2 => 2
        | 4 => 4
        | 171 => 152
        | 0 => 0
        | 53 => 151
        | 37 => 93
        | 5 => 5
        | 173 => 154
        | 212 => 165
        | 51 => 149
        | 20 => 20
        | 213 => 166
        | 46 => 130
        | 232 => 171
        | 233 => 172
        | n => n,
      g := fun x =>
        match x with
        | 17 => 0
        | 18 => 1
        | 19 => 2
        | n => n }
theorem zq31 : Go.Proofs.LaysM.n171 Tryz.prog zq30 :=
  { mixed := by kernel_rfl,
    f129 := Eq.trans Tryz.func95 (congrArg some (by kernel_rfl)),
    f171 := Eq.trans Tryz.func41 (congrArg some (by kernel_rfl)),
    f243 := Eq.trans Tryz.func67 (congrArg some (by kernel_rfl)),
    f246 := Eq.trans Tryz.func80 (congrArg some (by kernel_rfl)),
    f283 := Eq.trans Tryz.func96 (congrArg some (by kernel_rfl)),
    f284 := Eq.trans Tryz.func97 (congrArg some (by kernel_rfl)),
    f285 := Eq.trans Tryz.func98 (congrArg some (by kernel_rfl)),
    f286 := Eq.trans Tryz.func99 (congrArg some (by kernel_rfl)),
    f317 := Eq.trans Tryz.func113 (congrArg some (by kernel_rfl)),
    f318 := Eq.trans Tryz.func114 (congrArg some (by kernel_rfl)),
    f319 := Eq.trans Tryz.func115 (congrArg some (by kernel_rfl)),
    f320 := Eq.trans Tryz.func116 (congrArg some (by kernel_rfl)),
    f337 := Eq.trans Tryz.func120 (congrArg some (by kernel_rfl)),
    f338 := Eq.trans Tryz.func121 (congrArg some (by kernel_rfl)),
    t0 := Tryz.underlying0,
    a0 := Tryz.isAgg0,
    z0 := Tryz.sizeOf0,
    v0 := Tryz.zeroValue0,
    t2 := Tryz.underlying2,
    a2 := Tryz.isAgg2,
    z2 := Tryz.sizeOf2,
    v2 := Tryz.zeroValue2,
    t3 := Tryz.underlying3,
    a3 := Tryz.isAgg3,
    z3 := Tryz.sizeOf3,
    v3 := Tryz.zeroValue3,
    t4 := Tryz.underlying4,
    a4 := Tryz.isAgg4,
    z4 := Tryz.sizeOf4,
    v4 := Tryz.zeroValue4,
    t5 := Tryz.underlying5,
    a5 := Tryz.isAgg5,
    z5 := Tryz.sizeOf5,
    v5 := Tryz.zeroValue5,
    t9 := Tryz.underlying9,
    a9 := Tryz.isAgg9,
    z9 := Tryz.sizeOf9,
    v9 := Tryz.zeroValue9,
    t20 := Tryz.underlying20,
    a20 := Tryz.isAgg20,
    z20 := Tryz.sizeOf20,
    v20 := Tryz.zeroValue20,
    t37 := Tryz.underlying93,
    a37 := Tryz.isAgg93,
    z37 := Tryz.sizeOf93,
    v37 := Tryz.zeroValue93,
    t46 := Tryz.underlying130,
    a46 := Tryz.isAgg130,
    z46 := Tryz.sizeOf130,
    v46 := Tryz.zeroValue130,
    t51 := Tryz.underlying149,
    a51 := Tryz.isAgg149,
    z51 := Tryz.sizeOf149,
    v51 := Tryz.zeroValue149,
    t53 := Tryz.underlying151,
    a53 := Tryz.isAgg151,
    z53 := Tryz.sizeOf151,
    v53 := Tryz.zeroValue151,
    t171 := Tryz.underlying152,
    a171 := Tryz.isAgg152,
    z171 := Tryz.sizeOf152,
    v171 := Tryz.zeroValue152,
    t173 := Tryz.underlying154,
    a173 := Tryz.isAgg154,
    z173 := Tryz.sizeOf154,
    v173 := Tryz.zeroValue154,
    t212 := Tryz.underlying165,
    a212 := Tryz.isAgg165,
    z212 := Tryz.sizeOf165,
    v212 := Tryz.zeroValue165,
    t213 := Tryz.underlying166,
    a213 := Tryz.isAgg166,
    z213 := Tryz.sizeOf166,
    t232 := Tryz.underlying171,
    a232 := Tryz.isAgg171,
    z232 := Tryz.sizeOf171,
    v232 := Tryz.zeroValue171,
    t233 := Tryz.underlying172,
    a233 := Tryz.isAgg172,
    z233 := Tryz.sizeOf172,
    v233 := Tryz.zeroValue172,
    g17 := by kernel_rfl,
    g18 := by kernel_rfl,
    g19 := by kernel_rfl,
    i0 := by kernel_rfl,
    i2 := by kernel_rfl,
    i3 := by kernel_rfl,
    i4 := by kernel_rfl,
    i5 := by kernel_rfl,
    i9 := by kernel_rfl,
    i20 := by kernel_rfl,
    i37 := by kernel_rfl,
    i46 := by kernel_rfl,
    i51 := by kernel_rfl,
    i53 := by kernel_rfl,
    i171 := by kernel_rfl,
    i173 := by kernel_rfl,
    i212 := by kernel_rfl,
    i232 := by kernel_rfl,
    i233 := by kernel_rfl,
    m17 := by kernel_rfl,
    m18 := by kernel_rfl,
    m19 := by kernel_rfl }
abbrev zq32 := itoaT
def zq33 (c : zq32) : Spec := itoaS c
def zq34 : zq32 := fun x k => itoaF x k
theorem zq35 : SpecOk Tryz.prog 41 (zq33 zq34) :=
  itoa_ok zq31 rfl (g := 0) (by kernel_rfl) ⟨_, Tryz.func41, by kernel_rfl, by kernel_rfl⟩

/-- (*strings.Builder).Len -/
def zq36 : Shelf.Ren :=
      { 
      f := fun x =>
        match x with
        | 170 => 42
        | n => n,
      t := fun x =>
        match x with
        | 70 => 92
        | 3 => 3
        | 0 => 0
        | 72 => 95
        | 37 => 93
        | 5 => 5
        | n => n,
      g := fun x => x }
theorem zq37 : Go.Proofs.Lays.n170 Tryz.prog zq36 :=
  { mixed := by kernel_rfl,
    f170 := Eq.trans Tryz.func42 (congrArg some (by kernel_rfl)),
    t0 := Tryz.underlying0,
    a0 := Tryz.isAgg0,
    z0 := Tryz.sizeOf0,
    v0 := Tryz.zeroValue0,
    t3 := Tryz.underlying3,
    a3 := Tryz.isAgg3,
    z3 := Tryz.sizeOf3,
    v3 := Tryz.zeroValue3,
    t37 := Tryz.underlying93,
    a37 := Tryz.isAgg93,
    z37 := Tryz.sizeOf93,
    v37 := Tryz.zeroValue93,
    t70 := Tryz.underlying92,
    a70 := Tryz.isAgg92,
    z70 := Tryz.sizeOf92,
    v70 := Tryz.zeroValue92,
    t72 := Tryz.underlying95,
    a72 := Tryz.isAgg95,
    z72 := Tryz.sizeOf95,
    v72 := Tryz.zeroValue95 }
def zq38 : BldF := ⟨95, 5, 2⟩
theorem zq39 : BldOk Tryz.prog 42 zq38 :=
  bldLen_ok zq37 rfl rfl rfl ⟨_, Tryz.func42, by kernel_rfl, by kernel_rfl⟩

/-- (*strings.Builder).String -/
def zq3a : Shelf.Ren :=
      { 
      f := fun x =>
        match x with
        | 169 => 43
        | n => n,
      t := fun x =>
        match x with
        | 70 => 92
        | 9 => 9
        | 0 => 0
        | 72 => 95
        | 37 => 93
        | 127 => 126
        | 3 => 3
        | 5 => 5
        | n => n,
      g := fun x => x }
theorem zq3b : Go.Proofs.Lays.n169 Tryz.prog zq3a :=
  { mixed := by kernel_rfl,
    f169 := Eq.trans Tryz.func43 (congrArg some (by kernel_rfl)),
    t0 := Tryz.underlying0,
    a0 := Tryz.isAgg0,
    z0 := Tryz.sizeOf0,
    v0 := Tryz.zeroValue0,
    t3 := Tryz.underlying3,
    a3 := Tryz.isAgg3,
    z3 := Tryz.sizeOf3,
    v3 := Tryz.zeroValue3,
    t9 := Tryz.underlying9,
    a9 := Tryz.isAgg9,
    z9 := Tryz.sizeOf9,
    v9 := Tryz.zeroValue9,
    t37 := Tryz.underlying93,
    a37 := Tryz.isAgg93,
    z37 := Tryz.sizeOf93,
    v37 := Tryz.zeroValue93,
    t70 := Tryz.underlying92,
    a70 := Tryz.isAgg92,
    z70 := Tryz.sizeOf92,
    v70 := Tryz.zeroValue92,
    t72 := Tryz.underlying95,
    a72 := Tryz.isAgg95,
    z72 := Tryz.sizeOf95,
    v72 := Tryz.zeroValue95,
    t127 := Tryz.underlying126,
    a127 := Tryz.isAgg126,
    z127 := Tryz.sizeOf126,
    v127 := Tryz.zeroValue126 }
def zq3c : BldF := ⟨95, 5, 1⟩
theorem zq3d : BldOk Tryz.prog 43 zq3c :=
  bldString_ok zq3b { sizeBuilder := by kernel_rfl, liesBuilder := by kernel_rfl, t5 := Tryz.underlying5, a5 := Tryz.isAgg5, z5 := Tryz.sizeOf5, v5 := Tryz.zeroValue5, infoByte := by kernel_rfl, cellsByte := by kernel_rfl, sizeByte := by kernel_rfl, neB5 := by decide } rfl rfl rfl ⟨_, Tryz.func43, by kernel_rfl, by kernel_rfl⟩

/-- (pagewatch/order.matrix).before -/
abbrev zq3e := {β : Type} → (List (List Int)) → Int → Int → (Bool → Option β) → Option β
def zq3f (c : zq3e) : Spec :=
  ⟨[(false, [.data (.slice (.slice (.int .i64)))]), (false, [.data (.int .i64)]), (false, [.data (.int .i64)])], [], [(false, [.data .bool])], [], fun x k => c x.1.1.1 x.1.2.1.1 x.1.2.2.1.1 (fun r0 => k (((r0, ()), ()), ()))⟩
section
@[reducible] def order_matrix_before_X : Ctx := ⟨look tab, pick1 [], false, false, false, false⟩
def zq3g {β : Type} (m : List (List Int)) (a : Int) (b : Int) (k : (Bool → Option β)) : Option β :=
  cond (decide (0 ≤ (IntKind.i64.wrap (b + (1 : Int)))) && decide ((IntKind.i64.wrap (b + (1 : Int))) < (List.length m : Int)))
  (let e : List Int := List.getD m (Int.toNat (IntKind.i64.wrap (b + (1 : Int)))) ([] : List Int);
  cond (decide (0 ≤ (IntKind.i64.wrap (a + (1 : Int)))) && decide ((IntKind.i64.wrap (a + (1 : Int))) < (List.length e : Int)))
  (let e2 : Int := List.getD e (Int.toNat (IntKind.i64.wrap (a + (1 : Int)))) (0 : Int);
  let t : Bool := (decide (e2 ≤ (-1 : Int)));
  k t)
  none)
  none
theorem zq3h (hΓ : ΓOk Tryz.prog order_matrix_before_X.Γ) : SpecOk Tryz.prog 45 (zq3f (zq3g)) :=
  spec_exec (X := order_matrix_before_X) (Λ := pick1 []) (rs := [.tmp 6]) (c := bodyOf Tryz.f45) mixed tab_ok hΓ Tryz.func45 (by kernel_rfl) (by kernel_rfl) (by kernel_rfl) (by kernel_rfl) CutsOk_nil (fun x k r h => Eq.trans (b := (zq3f (zq3g)).run x k) (by kernel_rfl) h)
end
theorem zq3iΓ : ΓOk Tryz.prog (pick1 []) := ΓOk_nil
def zq3j : zq3e := zq3g
theorem zq3k : SpecOk Tryz.prog 45 (zq3f zq3j) := zq3h zq3iΓ

/-- slices.Sort[[]int,int] -/
def zq3l : Shelf.Ren :=
      { 
      f := fun x =>
        match x with
        | 189 => 49
        | 125 => 73
        | 257 => 72
        | 128 => 94
        | 129 => 95
        | 294 => 85
        | 295 => 86
        | 296 => 87
        | 297 => 88
        | 298 => 89
        | 299 => 90
        | 216 => 91
        | 300 => 92
        | 301 => 93
        | 328 => 107
        | 329 => 108
        | 330 => 109
        | 331 => 110
        | 332 => 111
        | 215 => 112
        | 343 => 119
        | n => n,
      t := fun x =>
        match x with
        | 28 => 22
        | 3 => 3
        | 46 => 130
        | 0 => 0
        | 51 => 149
        | 53 => 151
        | 4 => 4
        | 183 => 143
        | 182 => 142
        | 131 => 44
        | 5 => 5
        | 9 => 9
        | 218 => 158
        | 222 => 162
        | 228 => 169
        | 229 => 123
        | n => n,
      g := fun x => x }
theorem zq3m : Go.Proofs.Lays.n189 Tryz.prog zq3l :=
  { mixed := by kernel_rfl,
    f125 := Eq.trans Tryz.func73 (congrArg some (by kernel_rfl)),
    f128 := Eq.trans Tryz.func94 (congrArg some (by kernel_rfl)),
    f129 := Eq.trans Tryz.func95 (congrArg some (by kernel_rfl)),
    f189 := Eq.trans Tryz.func49 (congrArg some (by kernel_rfl)),
    f215 := Eq.trans Tryz.func112 (congrArg some (by kernel_rfl)),
    f216 := Eq.trans Tryz.func91 (congrArg some (by kernel_rfl)),
    f257 := Eq.trans Tryz.func72 (congrArg some (by kernel_rfl)),
    f294 := Eq.trans Tryz.func85 (congrArg some (by kernel_rfl)),
    f295 := Eq.trans Tryz.func86 (congrArg some (by kernel_rfl)),
    f296 := Eq.trans Tryz.func87 (congrArg some (by kernel_rfl)),
    f297 := Eq.trans Tryz.func88 (congrArg some (by kernel_rfl)),
    f298 := Eq.trans Tryz.func89 (congrArg some (by kernel_rfl)),
    f299 := Eq.trans Tryz.func90 (congrArg some (by kernel_rfl)),
    f300 := Eq.trans Tryz.func92 (congrArg some (by kernel_rfl)),
    f301 := Eq.trans Tryz.func93 (congrArg some (by kernel_rfl)),
    f328 := Eq.trans Tryz.func107 (congrArg some (by kernel_rfl)),
    f329 := Eq.trans Tryz.func108 (congrArg some (by kernel_rfl)),
    f330 := Eq.trans Tryz.func109 (congrArg some (by kernel_rfl)),
    f331 := Eq.trans Tryz.func110 (congrArg some (by kernel_rfl)),
    f332 := Eq.trans Tryz.func111 (congrArg some (by kernel_rfl)),
    f343 := Eq.trans Tryz.func119 (congrArg some (by kernel_rfl)),
    t0 := Tryz.underlying0,
    a0 := Tryz.isAgg0,
    z0 := Tryz.sizeOf0,
    v0 := Tryz.zeroValue0,
    t3 := Tryz.underlying3,
    a3 := Tryz.isAgg3,
    z3 := Tryz.sizeOf3,
    v3 := Tryz.zeroValue3,
    t4 := Tryz.underlying4,
    a4 := Tryz.isAgg4,
    z4 := Tryz.sizeOf4,
    v4 := Tryz.zeroValue4,
    t5 := Tryz.underlying5,
    a5 := Tryz.isAgg5,
    z5 := Tryz.sizeOf5,
    v5 := Tryz.zeroValue5,
    t9 := Tryz.underlying9,
    a9 := Tryz.isAgg9,
    z9 := Tryz.sizeOf9,
    v9 := Tryz.zeroValue9,
    t28 := Tryz.underlying22,
    a28 := Tryz.isAgg22,
    z28 := Tryz.sizeOf22,
    v28 := Tryz.zeroValue22,
    t46 := Tryz.underlying130,
    a46 := Tryz.isAgg130,
    z46 := Tryz.sizeOf130,
    v46 := Tryz.zeroValue130,
    t51 := Tryz.underlying149,
    a51 := Tryz.isAgg149,
    z51 := Tryz.sizeOf149,
    v51 := Tryz.zeroValue149,
    t53 := Tryz.underlying151,
    a53 := Tryz.isAgg151,
    z53 := Tryz.sizeOf151,
    v53 := Tryz.zeroValue151,
    t131 := Tryz.underlying44,
    a131 := Tryz.isAgg44,
    z131 := Tryz.sizeOf44,
    v131 := Tryz.zeroValue44,
    t182 := Tryz.underlying142,
    a182 := Tryz.isAgg142,
    z182 := Tryz.sizeOf142,
    v182 := Tryz.zeroValue142,
    t183 := Tryz.underlying143,
    a183 := Tryz.isAgg143,
    z183 := Tryz.sizeOf143,
    v183 := Tryz.zeroValue143,
    t218 := Tryz.underlying158,
    a218 := Tryz.isAgg158,
    z218 := Tryz.sizeOf158,
    v218 := Tryz.zeroValue158,
    t222 := Tryz.underlying162,
    a222 := Tryz.isAgg162,
    z222 := Tryz.sizeOf162,
    v222 := Tryz.zeroValue162,
    t228 := Tryz.underlying169,
    a228 := Tryz.isAgg169,
    z228 := Tryz.sizeOf169,
    v228 := Tryz.zeroValue169,
    t229 := Tryz.underlying123,
    a229 := Tryz.isAgg123,
    z229 := Tryz.sizeOf123,
    v229 := Tryz.zeroValue123 }
def zq3n : RowF := sortF 3
theorem zq3o : RowOk Tryz.prog 49 zq3n :=
  sort_rowok zq3m rfl ⟨_, Tryz.func49, by kernel_rfl, by kernel_rfl⟩

/-- pagewatch/order.in -/
abbrev zq3p := {β : Type} → Int → Int → Int → (Bool → Option β) → Option β
def zq3q (c : zq3p) : Spec :=
  ⟨[(false, [.data (.int .i64)]), (false, [.data (.int .i64)]), (false, [.data (.int .i64)])], [], [(false, [.data .bool])], [], fun x k => c x.1.1.1 x.1.2.1.1 x.1.2.2.1.1 (fun r0 => k (((r0, ()), ()), ()))⟩
section
@[reducible] def order_in_X : Ctx := ⟨look tab, pick1 [], false, false, false, false⟩
def zq3r {β : Type} (n : Int) (low : Int) (high : Int) (k : (Bool → Option β)) : Option β :=
  cond (decide (low ≤ n))
  (k (decide (n ≤ high)))
  (k false)
theorem zq3s (hΓ : ΓOk Tryz.prog order_in_X.Γ) : SpecOk Tryz.prog 50 (zq3q (zq3r)) :=
  spec_exec (X := order_in_X) (Λ := pick1 []) (rs := [.tmp 6]) (c := bodyOf Tryz.f50) mixed tab_ok hΓ Tryz.func50 (by kernel_rfl) (by kernel_rfl) (by kernel_rfl) (by kernel_rfl) CutsOk_nil (fun x k r h => Eq.trans (b := (zq3q (zq3r)).run x k) (by kernel_rfl) h)
end
theorem zq3tΓ : ΓOk Tryz.prog (pick1 []) := ΓOk_nil
def zq3u : zq3p := zq3r
theorem zq3v : SpecOk Tryz.prog 50 (zq3q zq3u) := zq3s zq3tΓ

/-- pagewatch/order.Allows$1 -/
abbrev zq3w := {β : Type} → Int → (List (List Int)) → Int → (Bool → (List (List Int)) → Int → Option β) → Option β
def zq3x (c : zq3w) : Spec :=
  ⟨[(false, [.data (.int .i64)]), (false, [.ptr 0 0]), (false, [.ptr 1 0])], [.cells 104 [.data (.slice (.slice (.int .i64)))], .cells 3 [.data (.int .i64)]], [(false, [.data .bool])], [.cells 104 [.data (.slice (.slice (.int .i64)))], .cells 3 [.data (.int .i64)]], fun x k => c x.1.1.1 x.2.1.1 x.2.2.1.1 (fun r0 r1 r2 => k (((r0, ()), ()), ((r1, ()), (r2, ()), ())))⟩
section
variable (c_order_matrix_before : zq3e)
@[reducible] def order_Allows_f1_X : Ctx := ⟨look tab, pick1 [(45, .spec (zq3f c_order_matrix_before))], false, false, false, false⟩
def zq3y {β : Type} (y : Int) (t1 : List (List Int)) (t2 : Int) (k : (Bool → (List (List Int)) → Int → Option β)) : Option β :=
  c_order_matrix_before t1 t2 y (fun (rbefore : Bool) =>
  k rbefore t1 t2)
theorem zq3z (hΓ : ΓOk Tryz.prog (order_Allows_f1_X c_order_matrix_before).Γ) : SpecOk Tryz.prog 53 (zq3x (zq3y c_order_matrix_before)) :=
  spec_exec (X := (order_Allows_f1_X c_order_matrix_before)) (Λ := pick1 []) (rs := [.tmp 4]) (c := bodyOf Tryz.f53) mixed tab_ok hΓ Tryz.func53 (by kernel_rfl) (by kernel_rfl) (by kernel_rfl) (by kernel_rfl) CutsOk_nil (fun x k r h => Eq.trans (b := (zq3x (zq3y c_order_matrix_before)).run x k) (by kernel_rfl) h)
end
theorem zq40Γ : ΓOk Tryz.prog (pick1 [(45, .spec (zq3f zq3j))]) := (ΓOk_cons zq3k ΓOk_nil)
def zq41 : zq3w := zq3y zq3j
theorem zq42 : SpecOk Tryz.prog 53 (zq3x zq41) := zq3z zq3j zq40Γ

/-- pagewatch/clock.in -/
abbrev zq43 := {β : Type} → Int → Int → Int → (Bool → Option β) → Option β
def zq44 (c : zq43) : Spec :=
  ⟨[(false, [.data (.int .i64)]), (false, [.data (.int .i64)]), (false, [.data (.int .i64)])], [], [(false, [.data .bool])], [], fun x k => c x.1.1.1 x.1.2.1.1 x.1.2.2.1.1 (fun r0 => k (((r0, ()), ()), ()))⟩
section
@[reducible] def clock_in_X : Ctx := ⟨look tab, pick1 [], false, false, false, false⟩
def zq45 {β : Type} (n : Int) (low : Int) (high : Int) (k : (Bool → Option β)) : Option β :=
  cond (decide (low ≤ n))
  (k (decide (n ≤ high)))
  (k false)
theorem zq46 (hΓ : ΓOk Tryz.prog clock_in_X.Γ) : SpecOk Tryz.prog 55 (zq44 (zq45)) :=
  spec_exec (X := clock_in_X) (Λ := pick1 []) (rs := [.tmp 6]) (c := bodyOf Tryz.f55) mixed tab_ok hΓ Tryz.func55 (by kernel_rfl) (by kernel_rfl) (by kernel_rfl) (by kernel_rfl) CutsOk_nil (fun x k r h => Eq.trans (b := (zq44 (zq45)).run x k) (by kernel_rfl) h)
end
theorem zq47Γ : ΓOk Tryz.prog (pick1 []) := ΓOk_nil
def zq48 : zq43 := zq45
theorem zq49 : SpecOk Tryz.prog 55 (zq44 zq48) := zq46 zq47Γ

/-- pagewatch/clock.instant -/
abbrev zq4a := {β : Type} → Int → (Bool → Option β) → Option β
def zq4b (c : zq4a) : Spec :=
  ⟨[(false, [.data (.int .i64)])], [], [(false, [.data .bool])], [], fun x k => c x.1.1.1 (fun r0 => k (((r0, ()), ()), ()))⟩
section
variable (c_clock_in : zq43)
@[reducible] def clock_instant_X : Ctx := ⟨look tab, pick1 [(55, .spec (zq44 c_clock_in))], false, false, false, false⟩
def zq4c {β : Type} (n : Int) (k : (Bool → Option β)) : Option β :=
  c_clock_in n (0 : Int) (8589934592 : Int) (fun (rin : Bool) =>
  k rin)
theorem zq4d (hΓ : ΓOk Tryz.prog (clock_instant_X c_clock_in).Γ) : SpecOk Tryz.prog 57 (zq4b (zq4c c_clock_in)) :=
  spec_exec (X := (clock_instant_X c_clock_in)) (Λ := pick1 []) (rs := [.tmp 2]) (c := bodyOf Tryz.f57) mixed tab_ok hΓ Tryz.func57 (by kernel_rfl) (by kernel_rfl) (by kernel_rfl) (by kernel_rfl) CutsOk_nil (fun x k r h => Eq.trans (b := (zq4b (zq4c c_clock_in)).run x k) (by kernel_rfl) h)
end
theorem zq4eΓ : ΓOk Tryz.prog (pick1 [(55, .spec (zq44 zq48))]) := (ΓOk_cons zq49 ΓOk_nil)
def zq4f : zq4a := zq4c zq48
theorem zq4g : SpecOk Tryz.prog 57 (zq4b zq4f) := zq4d zq48 zq4eΓ

/-- pagewatch/pagewatchref38.Valid -/
abbrev zq4h := {β : Type} → zq2 → (Bool → Option β) → Option β
def zq4i (c : zq4h) : Spec :=
  ⟨[(true, [.data zq3])], [], [(false, [.data .bool])], [], fun x k => c x.1.1.1 (fun r0 => k (((r0, ()), ()), ()))⟩
noncomputable def ref38_Valid_p1_code : Code := codeAt 58 (bodyOf Tryz.f62)
noncomputable def ref38_Valid_p2_code : Code := codeAt 122 (bodyOf Tryz.f62)
noncomputable def ref38_Valid_p3_code : Code := codeAt 250 (bodyOf Tryz.f62)
noncomputable def ref38_Valid_p4_code : Code := codeAt 506 (bodyOf Tryz.f62)
abbrev zq4j (β : Type) := Bool → Option β
abbrev zq4k (β : Type) := (List (List UInt8 × Int)) → (List (Int × (Int × (Int × Int)))) → (List zq0) → (List (Int × (Int × Int))) → Option β
abbrev zq4l := {β : Type} → zq4j β → zq4k β → Int → (List (List UInt8 × Int)) → (List (Int × (Int × (Int × Int)))) → (List zq0) → (List (Int × (Int × Int))) → Option β
def zq4m : View := ⟨0, [1, 3], [(false, [.ptr 0 0]), (false, [.data (.int .i64)])], [.cells 32 [.data (.slice (.prod .str (.int .i64))), .data (.slice (.prod (.int .i64) (.prod (.int .i64) (.prod (.int .i64) (.int .i64))))), .data (.slice zq1), .data (.slice (.prod (.int .i64) (.prod (.int .i64) (.int .i64))))]]⟩
def zq4n : List (AExit × View) := [(.ret, ⟨0, [2], [(false, [.data .bool])], []⟩), (.exit 0, ⟨0, [1], [(false, [.ptr 0 0])], [.cells 32 [.data (.slice (.prod .str (.int .i64))), .data (.slice (.prod (.int .i64) (.prod (.int .i64) (.prod (.int .i64) (.int .i64))))), .data (.slice zq1), .data (.slice (.prod (.int .i64) (.prod (.int .i64) (.int .i64))))]]⟩)]
@[reducible] def ref38_Valid_p1_G (p : zq4l) {β : Type} (d : zq4m.den) (ks : Outs.K β zq4n) : Option β :=
  p (fun a0 => ks.1 (((a0, ()), ()), ())) (fun a0 a1 a2 a3 => ks.2.1 (((), ()), ((a0, a1, a2, a3, ()), ()))) d.1.2.1.1 d.2.1.1 d.2.1.2.1 d.2.1.2.2.1 d.2.1.2.2.2.1
abbrev zq4o (β : Type) := Bool → Option β
abbrev zq4p (β : Type) := (List (List UInt8 × Int)) → (List (Int × (Int × (Int × Int)))) → (List zq0) → (List (Int × (Int × Int))) → Option β
abbrev zq4q := {β : Type} → zq4o β → zq4p β → Int → (List (List UInt8 × Int)) → (List (Int × (Int × (Int × Int)))) → (List zq0) → (List (Int × (Int × Int))) → Option β
def zq4r : View := ⟨0, [1, 4], [(false, [.ptr 0 0]), (false, [.data (.int .i64)])], [.cells 32 [.data (.slice (.prod .str (.int .i64))), .data (.slice (.prod (.int .i64) (.prod (.int .i64) (.prod (.int .i64) (.int .i64))))), .data (.slice zq1), .data (.slice (.prod (.int .i64) (.prod (.int .i64) (.int .i64))))]]⟩
def zq4s : List (AExit × View) := [(.ret, ⟨0, [2], [(false, [.data .bool])], []⟩), (.exit 2, ⟨0, [1], [(false, [.ptr 0 0])], [.cells 32 [.data (.slice (.prod .str (.int .i64))), .data (.slice (.prod (.int .i64) (.prod (.int .i64) (.prod (.int .i64) (.int .i64))))), .data (.slice zq1), .data (.slice (.prod (.int .i64) (.prod (.int .i64) (.int .i64))))]]⟩)]
@[reducible] def ref38_Valid_p2_G (p : zq4q) {β : Type} (d : zq4r.den) (ks : Outs.K β zq4s) : Option β :=
  p (fun a0 => ks.1 (((a0, ()), ()), ())) (fun a0 a1 a2 a3 => ks.2.1 (((), ()), ((a0, a1, a2, a3, ()), ()))) d.1.2.1.1 d.2.1.1 d.2.1.2.1 d.2.1.2.2.1 d.2.1.2.2.2.1
abbrev zq4t (β : Type) := Bool → Option β
abbrev zq4u (β : Type) := (List (List UInt8 × Int)) → (List (Int × (Int × (Int × Int)))) → (List zq0) → (List (Int × (Int × Int))) → Option β
abbrev zq4v := {β : Type} → zq4t β → zq4u β → Int → (List (List UInt8 × Int)) → (List (Int × (Int × (Int × Int)))) → (List zq0) → (List (Int × (Int × Int))) → Option β
def zq4w : View := ⟨0, [1, 6], [(false, [.ptr 0 0]), (false, [.data (.int .i64)])], [.cells 32 [.data (.slice (.prod .str (.int .i64))), .data (.slice (.prod (.int .i64) (.prod (.int .i64) (.prod (.int .i64) (.int .i64))))), .data (.slice zq1), .data (.slice (.prod (.int .i64) (.prod (.int .i64) (.int .i64))))]]⟩
def zq4x : List (AExit × View) := [(.ret, ⟨0, [2], [(false, [.data .bool])], []⟩), (.exit 4, ⟨0, [1], [(false, [.ptr 0 0])], [.cells 32 [.data (.slice (.prod .str (.int .i64))), .data (.slice (.prod (.int .i64) (.prod (.int .i64) (.prod (.int .i64) (.int .i64))))), .data (.slice zq1), .data (.slice (.prod (.int .i64) (.prod (.int .i64) (.int .i64))))]]⟩)]
@[reducible] def ref38_Valid_p3_G (p : zq4v) {β : Type} (d : zq4w.den) (ks : Outs.K β zq4x) : Option β :=
  p (fun a0 => ks.1 (((a0, ()), ()), ())) (fun a0 a1 a2 a3 => ks.2.1 (((), ()), ((a0, a1, a2, a3, ()), ()))) d.1.2.1.1 d.2.1.1 d.2.1.2.1 d.2.1.2.2.1 d.2.1.2.2.2.1
abbrev zq4y (β : Type) := Bool → Option β
abbrev zq4z (β : Type) := Unit → Option β
abbrev zq50 := {β : Type} → zq4y β → zq4z β → Int → (List (List UInt8 × Int)) → (List (Int × (Int × (Int × Int)))) → (List zq0) → (List (Int × (Int × Int))) → Option β
def zq51 : View := ⟨0, [1, 8], [(false, [.ptr 0 0]), (false, [.data (.int .i64)])], [.cells 32 [.data (.slice (.prod .str (.int .i64))), .data (.slice (.prod (.int .i64) (.prod (.int .i64) (.prod (.int .i64) (.int .i64))))), .data (.slice zq1), .data (.slice (.prod (.int .i64) (.prod (.int .i64) (.int .i64))))]]⟩
def zq52 : List (AExit × View) := [(.ret, ⟨0, [2], [(false, [.data .bool])], []⟩), (.exit 6, ⟨0, [], [], []⟩)]
@[reducible] def ref38_Valid_p4_G (p : zq50) {β : Type} (d : zq51.den) (ks : Outs.K β zq52) : Option β :=
  p (fun a0 => ks.1 (((a0, ()), ()), ())) (fun _ => ks.2.1 ((), ())) d.1.2.1.1 d.2.1.1 d.2.1.2.1 d.2.1.2.2.1 d.2.1.2.2.2.1
section
variable (c_ref25_In : zq1z)
@[reducible] def ref38_Valid_X : Ctx := ⟨look tab, pick1 [(31, .spec (zq20 c_ref25_In))], false, false, false, false⟩
def zq53 {β : Type} (rec : Int → (List (List UInt8 × Int)) → (List (Int × (Int × (Int × Int)))) → (List zq0) → (List (Int × (Int × Int))) → Option β) (k1 : zq4j β) (k2 : zq4k β) (i_ : Int) (r_ : List (List UInt8 × Int)) (r_2 : List (Int × (Int × (Int × Int)))) (r_3 : List zq0) (r_4 : List (Int × (Int × Int))) : Option β :=
  cond (decide (i_ < (List.length r_ : Int)))
  (cond (decide (0 ≤ i_) && decide (i_ < (List.length r_ : Int)))
  (let e : (List UInt8 × Int) := List.getD r_ (Int.toNat i_) (([] : List UInt8), (0 : Int));
  c_ref25_In e.2 (0 : Int) (500000 : Int) (fun (rIn : Bool) =>
  cond (!rIn)
  (k1 false)
  (let i_2 : Int := (IntKind.i64.wrap (i_ + (1 : Int)));
  rec i_2 r_ r_2 r_3 r_4)))
  none)
  (k2 r_ r_2 r_3 r_4)
def zq54 {β : Type} : Nat → zq4j β → zq4k β → Int → (List (List UInt8 × Int)) → (List (Int × (Int × (Int × Int)))) → (List zq0) → (List (Int × (Int × Int))) → Option β
  | 0 => fun _ _ _ _ _ _ _ => none
  | i + 1 => fun k1 k2 i_ r_ r_2 r_3 r_4 => zq53 c_ref25_In (zq54 i k1 k2) k1 k2 i_ r_ r_2 r_3 r_4
theorem zq55 (hΓ : ΓOk Tryz.prog (ref38_Valid_X c_ref25_In).Γ) (i : Nat) : PieceOk Tryz.prog 155 0 ref38_Valid_p1_code zq4m zq4n (ref38_Valid_p1_G (zq54 c_ref25_In i)) := by
  rw [show ref38_Valid_p1_code = .loop (loopBody ref38_Valid_p1_code) by kernel_rfl]
  exact piece_loop (X := (ref38_Valid_X c_ref25_In)) (p := 1) (Λ := pick1 []) (G := fun i => @fun β d ks => ref38_Valid_p1_G (zq54 c_ref25_In i) d ks) mixed tab_ok hΓ rfl (by kernel_rfl) CutsOk_nil (fun _ _ => rfl) (fun i => @fun β d ks r h => Eq.trans (b := ref38_Valid_p1_G (zq54 c_ref25_In (i + 1)) d ks) (by kernel_rfl) h) i
def zq56 {β : Type} (rec : Int → (List (List UInt8 × Int)) → (List (Int × (Int × (Int × Int)))) → (List zq0) → (List (Int × (Int × Int))) → Option β) (k1 : zq4o β) (k2 : zq4p β) (i_ : Int) (r_ : List (List UInt8 × Int)) (r_2 : List (Int × (Int × (Int × Int)))) (r_3 : List zq0) (r_4 : List (Int × (Int × Int))) : Option β :=
  cond (decide (i_ < (List.length r_2 : Int)))
  (cond (decide (0 ≤ i_) && decide (i_ < (List.length r_2 : Int)))
  (let e : (Int × (Int × (Int × Int))) := List.getD r_2 (Int.toNat i_) ((0 : Int), ((0 : Int), ((0 : Int), (0 : Int))));
  c_ref25_In e.1 (0 : Int) (IntKind.i64.wrap ((List.length r_ : Int) - (1 : Int))) (fun (rIn : Bool) =>
  cond (!rIn)
  (k1 false)
  (c_ref25_In e.2.1 (0 : Int) (8589934592 : Int) (fun (rIn2 : Bool) =>
  cond (!rIn2)
  (k1 false)
  (c_ref25_In e.2.2.1 (0 : Int) e.2.2.2 (fun (rIn3 : Bool) =>
  cond (!rIn3)
  (k1 false)
  (cond (decide ((8589934592 : Int) < e.2.2.2))
  (k1 false)
  (let i_2 : Int := (IntKind.i64.wrap (i_ + (1 : Int)));
  rec i_2 r_ r_2 r_3 r_4))))))))
  none)
  (k2 r_ r_2 r_3 r_4)
def zq57 {β : Type} : Nat → zq4o β → zq4p β → Int → (List (List UInt8 × Int)) → (List (Int × (Int × (Int × Int)))) → (List zq0) → (List (Int × (Int × Int))) → Option β
  | 0 => fun _ _ _ _ _ _ _ => none
  | i + 1 => fun k1 k2 i_ r_ r_2 r_3 r_4 => zq56 c_ref25_In (zq57 i k1 k2) k1 k2 i_ r_ r_2 r_3 r_4
theorem zq58 (hΓ : ΓOk Tryz.prog (ref38_Valid_X c_ref25_In).Γ) (i : Nat) : PieceOk Tryz.prog 155 0 ref38_Valid_p2_code zq4r zq4s (ref38_Valid_p2_G (zq57 c_ref25_In i)) := by
  rw [show ref38_Valid_p2_code = .loop (loopBody ref38_Valid_p2_code) by kernel_rfl]
  exact piece_loop (X := (ref38_Valid_X c_ref25_In)) (p := 1) (Λ := pick1 []) (G := fun i => @fun β d ks => ref38_Valid_p2_G (zq57 c_ref25_In i) d ks) mixed tab_ok hΓ rfl (by kernel_rfl) CutsOk_nil (fun _ _ => rfl) (fun i => @fun β d ks r h => Eq.trans (b := ref38_Valid_p2_G (zq57 c_ref25_In (i + 1)) d ks) (by kernel_rfl) h) i
def zq59 {β : Type} (rec : Int → (List (List UInt8 × Int)) → (List (Int × (Int × (Int × Int)))) → (List zq0) → (List (Int × (Int × Int))) → Option β) (k1 : zq4t β) (k2 : zq4u β) (i_ : Int) (r_ : List (List UInt8 × Int)) (r_2 : List (Int × (Int × (Int × Int)))) (r_3 : List zq0) (r_4 : List (Int × (Int × Int))) : Option β :=
  cond (decide (i_ < (List.length r_3 : Int)))
  (cond (decide (0 ≤ i_) && decide (i_ < (List.length r_3 : Int)))
  (let e : zq0 := List.getD r_3 (Int.toNat i_) ((0 : Int), ((0 : Int), ([] : List UInt8)));
  c_ref25_In e.1 (0 : Int) (IntKind.i64.wrap ((List.length r_ : Int) - (1 : Int))) (fun (rIn : Bool) =>
  cond (!rIn)
  (k1 false)
  (c_ref25_In e.2.1 (0 : Int) (8589934592 : Int) (fun (rIn2 : Bool) =>
  cond (!rIn2)
  (k1 false)
  (let i_2 : Int := (IntKind.i64.wrap (i_ + (1 : Int)));
  rec i_2 r_ r_2 r_3 r_4)))))
  none)
  (k2 r_ r_2 r_3 r_4)
def zq5a {β : Type} : Nat → zq4t β → zq4u β → Int → (List (List UInt8 × Int)) → (List (Int × (Int × (Int × Int)))) → (List zq0) → (List (Int × (Int × Int))) → Option β
  | 0 => fun _ _ _ _ _ _ _ => none
  | i + 1 => fun k1 k2 i_ r_ r_2 r_3 r_4 => zq59 c_ref25_In (zq5a i k1 k2) k1 k2 i_ r_ r_2 r_3 r_4
theorem zq5b (hΓ : ΓOk Tryz.prog (ref38_Valid_X c_ref25_In).Γ) (i : Nat) : PieceOk Tryz.prog 155 0 ref38_Valid_p3_code zq4w zq4x (ref38_Valid_p3_G (zq5a c_ref25_In i)) := by
  rw [show ref38_Valid_p3_code = .loop (loopBody ref38_Valid_p3_code) by kernel_rfl]
  exact piece_loop (X := (ref38_Valid_X c_ref25_In)) (p := 1) (Λ := pick1 []) (G := fun i => @fun β d ks => ref38_Valid_p3_G (zq5a c_ref25_In i) d ks) mixed tab_ok hΓ rfl (by kernel_rfl) CutsOk_nil (fun _ _ => rfl) (fun i => @fun β d ks r h => Eq.trans (b := ref38_Valid_p3_G (zq5a c_ref25_In (i + 1)) d ks) (by kernel_rfl) h) i
def zq5c {β : Type} (rec : Int → (List (List UInt8 × Int)) → (List (Int × (Int × (Int × Int)))) → (List zq0) → (List (Int × (Int × Int))) → Option β) (k1 : zq4y β) (k2 : zq4z β) (i_ : Int) (r_ : List (List UInt8 × Int)) (r_2 : List (Int × (Int × (Int × Int)))) (r_3 : List zq0) (r_4 : List (Int × (Int × Int))) : Option β :=
  cond (decide (i_ < (List.length r_4 : Int)))
  (cond (decide (0 ≤ i_) && decide (i_ < (List.length r_4 : Int)))
  (let e : (Int × (Int × Int)) := List.getD r_4 (Int.toNat i_) ((0 : Int), ((0 : Int), (0 : Int)));
  c_ref25_In e.1 (0 : Int) (IntKind.i64.wrap ((List.length r_3 : Int) - (1 : Int))) (fun (rIn : Bool) =>
  cond (!rIn)
  (k1 false)
  (c_ref25_In e.2.1 (0 : Int) (IntKind.i64.wrap ((List.length r_3 : Int) - (1 : Int))) (fun (rIn2 : Bool) =>
  cond (!rIn2)
  (k1 false)
  (cond (decide (e.1 = e.2.1))
  (k1 false)
  (c_ref25_In e.2.2 (0 : Int) (8589934592 : Int) (fun (rIn3 : Bool) =>
  cond (!rIn3)
  (k1 false)
  (let i_2 : Int := (IntKind.i64.wrap (i_ + (1 : Int)));
  rec i_2 r_ r_2 r_3 r_4))))))))
  none)
  (k2 ())
def zq5d {β : Type} : Nat → zq4y β → zq4z β → Int → (List (List UInt8 × Int)) → (List (Int × (Int × (Int × Int)))) → (List zq0) → (List (Int × (Int × Int))) → Option β
  | 0 => fun _ _ _ _ _ _ _ => none
  | i + 1 => fun k1 k2 i_ r_ r_2 r_3 r_4 => zq5c c_ref25_In (zq5d i k1 k2) k1 k2 i_ r_ r_2 r_3 r_4
theorem zq5e (hΓ : ΓOk Tryz.prog (ref38_Valid_X c_ref25_In).Γ) (i : Nat) : PieceOk Tryz.prog 155 0 ref38_Valid_p4_code zq51 zq52 (ref38_Valid_p4_G (zq5d c_ref25_In i)) := by
  rw [show ref38_Valid_p4_code = .loop (loopBody ref38_Valid_p4_code) by kernel_rfl]
  exact piece_loop (X := (ref38_Valid_X c_ref25_In)) (p := 1) (Λ := pick1 []) (G := fun i => @fun β d ks => ref38_Valid_p4_G (zq5d c_ref25_In i) d ks) mixed tab_ok hΓ rfl (by kernel_rfl) CutsOk_nil (fun _ _ => rfl) (fun i => @fun β d ks r h => Eq.trans (b := ref38_Valid_p4_G (zq5d c_ref25_In (i + 1)) d ks) (by kernel_rfl) h) i
def zq5f (p1 : zq4l) (p2 : zq4q) (p3 : zq4v) (p4 : zq50) {β : Type} (r_ : zq2) (k : (Bool → Option β)) : Option β :=
  cond (decide ((8 : Int) < (List.length r_.1 : Int)))
  (k false)
  (cond (decide ((64 : Int) < (List.length r_.2.1 : Int)))
  (k false)
  (cond (decide ((40 : Int) < (List.length r_.2.2.1 : Int)))
  (k false)
  (cond (decide ((64 : Int) < (List.length r_.2.2.2 : Int)))
  (k false)
  (p1 (fun (t2 : Bool) =>
  k t2) (fun (r_2 : List (List UInt8 × Int)) (r_3 : List (Int × (Int × (Int × Int)))) (r_4 : List zq0) (r_5 : List (Int × (Int × Int))) =>
  p2 (fun (t2 : Bool) =>
  k t2) (fun (r_6 : List (List UInt8 × Int)) (r_7 : List (Int × (Int × (Int × Int)))) (r_8 : List zq0) (r_9 : List (Int × (Int × Int))) =>
  p3 (fun (t2 : Bool) =>
  k t2) (fun (r_10 : List (List UInt8 × Int)) (r_11 : List (Int × (Int × (Int × Int)))) (r_12 : List zq0) (r_13 : List (Int × (Int × Int))) =>
  p4 (fun (t2 : Bool) =>
  k t2) (fun (_ : Unit) =>
  k true) (0 : Int) r_10 r_11 r_12 r_13) (0 : Int) r_6 r_7 r_8 r_9) (0 : Int) r_2 r_3 r_4 r_5) (0 : Int) r_.1 r_.2.1 r_.2.2.1 r_.2.2.2))))
theorem zq5g (hΓ : ΓOk Tryz.prog (ref38_Valid_X c_ref25_In).Γ) (p1 : zq4l) (p2 : zq4q) (p3 : zq4v) (p4 : zq50) (hp1 : PieceOk Tryz.prog 155 0 ref38_Valid_p1_code zq4m zq4n (ref38_Valid_p1_G p1)) (hp2 : PieceOk Tryz.prog 155 0 ref38_Valid_p2_code zq4r zq4s (ref38_Valid_p2_G p2)) (hp3 : PieceOk Tryz.prog 155 0 ref38_Valid_p3_code zq4w zq4x (ref38_Valid_p3_G p3)) (hp4 : PieceOk Tryz.prog 155 0 ref38_Valid_p4_code zq51 zq52 (ref38_Valid_p4_G p4)) : SpecOk Tryz.prog 62 (zq4i (zq5f p1 p2 p3 p4)) :=
  spec_exec (X := (ref38_Valid_X c_ref25_In)) (Λ := pick1 [(58, pieceCut zq4m zq4n (ref38_Valid_p1_G p1)), (122, pieceCut zq4r zq4s (ref38_Valid_p2_G p2)), (250, pieceCut zq4w zq4x (ref38_Valid_p3_G p3)), (506, pieceCut zq51 zq52 (ref38_Valid_p4_G p4))]) (rs := [.tmp 2]) (c := bodyOf Tryz.f62) mixed tab_ok hΓ Tryz.func62 (by kernel_rfl) (by kernel_rfl) (by kernel_rfl) (by kernel_rfl) (CutsOk_cons (q := 58) (c' := ref38_Valid_p1_code) (by kernel_rfl) rfl hp1 (CutsOk_cons (q := 122) (c' := ref38_Valid_p2_code) (by kernel_rfl) rfl hp2 (CutsOk_cons (q := 250) (c' := ref38_Valid_p3_code) (by kernel_rfl) rfl hp3 (CutsOk_cons (q := 506) (c' := ref38_Valid_p4_code) (by kernel_rfl) rfl hp4 CutsOk_nil)))) (fun x k r h => Eq.trans (b := (zq4i (zq5f p1 p2 p3 p4)).run x k) (by kernel_rfl) h)
end
theorem zq5hΓ : ΓOk Tryz.prog (pick1 [(31, .spec (zq20 zq24))]) := (ΓOk_cons zq25 ΓOk_nil)
def zq5i (m : Nat) : zq4l := zq54 zq24 m
theorem zq5j {β : Type} (i : Nat) (k1 k2 i_ r_ r_2 r_3 r_4) : (zq5i (i + 1) k1 k2 i_ r_ r_2 r_3 r_4 : Option β) = zq53 zq24 (zq5i i k1 k2) k1 k2 i_ r_ r_2 r_3 r_4 := rfl
def zq5k : zq4l := zq5i fuel
theorem zq5l : PieceOk Tryz.prog 155 0 ref38_Valid_p1_code zq4m zq4n (ref38_Valid_p1_G zq5k) := zq55 zq24 zq5hΓ fuel
def zq5m (m : Nat) : zq4q := zq57 zq24 m
theorem zq5n {β : Type} (i : Nat) (k1 k2 i_ r_ r_2 r_3 r_4) : (zq5m (i + 1) k1 k2 i_ r_ r_2 r_3 r_4 : Option β) = zq56 zq24 (zq5m i k1 k2) k1 k2 i_ r_ r_2 r_3 r_4 := rfl
def zq5o : zq4q := zq5m fuel
theorem zq5p : PieceOk Tryz.prog 155 0 ref38_Valid_p2_code zq4r zq4s (ref38_Valid_p2_G zq5o) := zq58 zq24 zq5hΓ fuel
def zq5q (m : Nat) : zq4v := zq5a zq24 m
theorem zq5r {β : Type} (i : Nat) (k1 k2 i_ r_ r_2 r_3 r_4) : (zq5q (i + 1) k1 k2 i_ r_ r_2 r_3 r_4 : Option β) = zq59 zq24 (zq5q i k1 k2) k1 k2 i_ r_ r_2 r_3 r_4 := rfl
def zq5s : zq4v := zq5q fuel
theorem zq5t : PieceOk Tryz.prog 155 0 ref38_Valid_p3_code zq4w zq4x (ref38_Valid_p3_G zq5s) := zq5b zq24 zq5hΓ fuel
def zq5u (m : Nat) : zq50 := zq5d zq24 m
theorem zq5v {β : Type} (i : Nat) (k1 k2 i_ r_ r_2 r_3 r_4) : (zq5u (i + 1) k1 k2 i_ r_ r_2 r_3 r_4 : Option β) = zq5c zq24 (zq5u i k1 k2) k1 k2 i_ r_ r_2 r_3 r_4 := rfl
def zq5w : zq50 := zq5u fuel
theorem zq5x : PieceOk Tryz.prog 155 0 ref38_Valid_p4_code zq51 zq52 (ref38_Valid_p4_G zq5w) := zq5e zq24 zq5hΓ fuel
def zq5y : zq4h := zq5f zq5k zq5o zq5s zq5w
theorem zq5z : SpecOk Tryz.prog 62 (zq4i zq5y) := zq5g zq24 zq5hΓ zq5k zq5o zq5s zq5w zq5l zq5p zq5t zq5x

/-- pagewatch/pagewatchref38.Elapsed -/
abbrev zq60 := {β : Type} → Int → Int → (Int → Int → Option β) → Option β
def zq61 (c : zq60) : Spec :=
  ⟨[(false, [.data (.int .i64)]), (false, [.data (.int .i64)])], [], [(false, [.data (.int .i64)]), (false, [.data (.int .i64)])], [], fun x k => c x.1.1.1 x.1.2.1.1 (fun r0 r1 => k (((r0, ()), (r1, ()), ()), ()))⟩
section
variable (c_ref25_In : zq1z)
@[reducible] def ref38_Elapsed_X : Ctx := ⟨look tab, pick1 [(31, .spec (zq20 c_ref25_In))], false, false, false, false⟩
def zq62 {β : Type} (drift : Int) (d : Int) (k : (Int → Int → Option β)) : Option β :=
  c_ref25_In drift (0 : Int) (500000 : Int) (fun (rIn : Bool) =>
  cond (!rIn)
  (k (0 : Int) (0 : Int))
  (c_ref25_In d (0 : Int) (8589934592 : Int) (fun (rIn2 : Bool) =>
  cond (!rIn2)
  (k (0 : Int) (0 : Int))
  (cond (!decide ((IntKind.i64.wrap ((1000000 : Int) + drift)) = 0))
  (cond (!decide ((IntKind.i64.wrap ((1000000 : Int) - drift)) = 0))
  (let low : Int := (IntKind.i64.wrap (Int.tdiv (IntKind.i64.wrap (d * (1000000 : Int))) (IntKind.i64.wrap ((1000000 : Int) + drift))));
  let high : Int := (IntKind.i64.wrap (Int.tdiv (IntKind.i64.wrap ((IntKind.i64.wrap ((IntKind.i64.wrap ((IntKind.i64.wrap (d * (1000000 : Int))) + (1000000 : Int))) - drift)) - (1 : Int))) (IntKind.i64.wrap ((1000000 : Int) - drift))));
  k low high)
  none)
  none))))
theorem zq63 (hΓ : ΓOk Tryz.prog (ref38_Elapsed_X c_ref25_In).Γ) : SpecOk Tryz.prog 64 (zq61 (zq62 c_ref25_In)) :=
  spec_exec (X := (ref38_Elapsed_X c_ref25_In)) (Λ := pick1 []) (rs := [.tmp 4, .tmp 5]) (c := bodyOf Tryz.f64) mixed tab_ok hΓ Tryz.func64 (by kernel_rfl) (by kernel_rfl) (by kernel_rfl) (by kernel_rfl) CutsOk_nil (fun x k r h => Eq.trans (b := (zq61 (zq62 c_ref25_In)).run x k) (by kernel_rfl) h)
end
theorem zq64Γ : ΓOk Tryz.prog (pick1 [(31, .spec (zq20 zq24))]) := (ΓOk_cons zq25 ΓOk_nil)
def zq65 : zq60 := zq62 zq24
theorem zq66 : SpecOk Tryz.prog 64 (zq61 zq65) := zq63 zq24 zq64Γ

/-- pagewatch/pagewatchref39.Valid -/
abbrev zq67 := {β : Type} → Int → (List (Int × (Int × Int))) → (Bool → Option β) → Option β
def zq68 (c : zq67) : Spec :=
  ⟨[(false, [.data (.int .i64)]), (false, [.data (.slice (.prod (.int .i64) (.prod (.int .i64) (.int .i64))))])], [], [(false, [.data .bool])], [], fun x k => c x.1.1.1 x.1.2.1.1 (fun r0 => k (((r0, ()), ()), ()))⟩
noncomputable def ref39_Valid_p1_code : Code := codeAt 58 (bodyOf Tryz.f65)
abbrev zq69 (β : Type) := Bool → Option β
abbrev zq6a (β : Type) := Unit → Option β
abbrev zq6b := {β : Type} → zq69 β → zq6a β → Int → (List (Int × (Int × Int))) → Int → Option β
def zq6c : View := ⟨0, [0, 1, 5], [(false, [.data (.int .i64)]), (false, [.data (.slice (.prod (.int .i64) (.prod (.int .i64) (.int .i64))))]), (false, [.data (.int .i64)])], []⟩
def zq6d : List (AExit × View) := [(.ret, ⟨0, [4], [(false, [.data .bool])], []⟩), (.exit 0, ⟨0, [], [], []⟩)]
@[reducible] def ref39_Valid_p1_G (p : zq6b) {β : Type} (d : zq6c.den) (ks : Outs.K β zq6d) : Option β :=
  p (fun a0 => ks.1 (((a0, ()), ()), ())) (fun _ => ks.2.1 ((), ())) d.1.1.1 d.1.2.1.1 d.1.2.2.1.1
section
variable (c_ref25_In : zq1z)
@[reducible] def ref39_Valid_X : Ctx := ⟨look tab, pick1 [(31, .spec (zq20 c_ref25_In))], false, false, false, false⟩
def zq6e {β : Type} (rec : Int → (List (Int × (Int × Int))) → Int → Option β) (k1 : zq69 β) (k2 : zq6a β) (n : Int) (l : List (Int × (Int × Int))) (i_ : Int) : Option β :=
  cond (decide (i_ < (List.length l : Int)))
  (cond (decide (0 ≤ i_) && decide (i_ < (List.length l : Int)))
  (let e : (Int × (Int × Int)) := List.getD l (Int.toNat i_) ((0 : Int), ((0 : Int), (0 : Int)));
  c_ref25_In e.1 (0 : Int) (IntKind.i64.wrap (n - (1 : Int))) (fun (rIn : Bool) =>
  cond (!rIn)
  (k1 false)
  (cond (decide (0 ≤ i_) && decide (i_ < (List.length l : Int)))
  (let e2 : (Int × (Int × Int)) := List.getD l (Int.toNat i_) ((0 : Int), ((0 : Int), (0 : Int)));
  c_ref25_In e2.2.1 (0 : Int) (IntKind.i64.wrap (n - (1 : Int))) (fun (rIn2 : Bool) =>
  cond (!rIn2)
  (k1 false)
  (cond (decide (0 ≤ i_) && decide (i_ < (List.length l : Int)))
  (let e3 : (Int × (Int × Int)) := List.getD l (Int.toNat i_) ((0 : Int), ((0 : Int), (0 : Int)));
  c_ref25_In e3.2.2 (-17179869184 : Int) (17179869184 : Int) (fun (rIn3 : Bool) =>
  cond (!rIn3)
  (k1 false)
  (let i_2 : Int := (IntKind.i64.wrap (i_ + (1 : Int)));
  rec n l i_2)))
  none)))
  none)))
  none)
  (k2 ())
def zq6f {β : Type} : Nat → zq69 β → zq6a β → Int → (List (Int × (Int × Int))) → Int → Option β
  | 0 => fun _ _ _ _ _ => none
  | i + 1 => fun k1 k2 n l i_ => zq6e c_ref25_In (zq6f i k1 k2) k1 k2 n l i_
theorem zq6g (hΓ : ΓOk Tryz.prog (ref39_Valid_X c_ref25_In).Γ) (i : Nat) : PieceOk Tryz.prog 49 0 ref39_Valid_p1_code zq6c zq6d (ref39_Valid_p1_G (zq6f c_ref25_In i)) := by
  rw [show ref39_Valid_p1_code = .loop (loopBody ref39_Valid_p1_code) by kernel_rfl]
  exact piece_loop (X := (ref39_Valid_X c_ref25_In)) (p := 1) (Λ := pick1 []) (G := fun i => @fun β d ks => ref39_Valid_p1_G (zq6f c_ref25_In i) d ks) mixed tab_ok hΓ rfl (by kernel_rfl) CutsOk_nil (fun _ _ => rfl) (fun i => @fun β d ks r h => Eq.trans (b := ref39_Valid_p1_G (zq6f c_ref25_In (i + 1)) d ks) (by kernel_rfl) h) i
def zq6h (p1 : zq6b) {β : Type} (n : Int) (l : List (Int × (Int × Int))) (k : (Bool → Option β)) : Option β :=
  c_ref25_In n (1 : Int) (41 : Int) (fun (rIn : Bool) =>
  cond (!rIn)
  (k false)
  (cond (decide ((4000 : Int) < (List.length l : Int)))
  (k false)
  (p1 (fun (t4 : Bool) =>
  k t4) (fun (_ : Unit) =>
  k true) n l (0 : Int))))
theorem zq6i (hΓ : ΓOk Tryz.prog (ref39_Valid_X c_ref25_In).Γ) (p1 : zq6b) (hp1 : PieceOk Tryz.prog 49 0 ref39_Valid_p1_code zq6c zq6d (ref39_Valid_p1_G p1)) : SpecOk Tryz.prog 65 (zq68 (zq6h c_ref25_In p1)) :=
  spec_exec (X := (ref39_Valid_X c_ref25_In)) (Λ := pick1 [(58, pieceCut zq6c zq6d (ref39_Valid_p1_G p1))]) (rs := [.tmp 4]) (c := bodyOf Tryz.f65) mixed tab_ok hΓ Tryz.func65 (by kernel_rfl) (by kernel_rfl) (by kernel_rfl) (by kernel_rfl) (CutsOk_cons (q := 58) (c' := ref39_Valid_p1_code) (by kernel_rfl) rfl hp1 CutsOk_nil) (fun x k r h => Eq.trans (b := (zq68 (zq6h c_ref25_In p1)).run x k) (by kernel_rfl) h)
end
theorem zq6jΓ : ΓOk Tryz.prog (pick1 [(31, .spec (zq20 zq24))]) := (ΓOk_cons zq25 ΓOk_nil)
def zq6k (m : Nat) : zq6b := zq6f zq24 m
theorem zq6l {β : Type} (i : Nat) (k1 k2 n l i_) : (zq6k (i + 1) k1 k2 n l i_ : Option β) = zq6e zq24 (zq6k i k1 k2) k1 k2 n l i_ := rfl
def zq6m : zq6b := zq6k fuel
theorem zq6n : PieceOk Tryz.prog 49 0 ref39_Valid_p1_code zq6c zq6d (ref39_Valid_p1_G zq6m) := zq6g zq24 zq6jΓ fuel
def zq6o : zq67 := zq6h zq24 zq6m
theorem zq6p : SpecOk Tryz.prog 65 (zq68 zq6o) := zq6i zq24 zq6jΓ zq6m zq6n

/-- (pagewatch/order.matrix).when -/
abbrev zq6q := {β : Type} → (List (List Int)) → Int → ((Int × Int) → Option β) → Option β
def zq6r (c : zq6q) : Spec :=
  ⟨[(false, [.data (.slice (.slice (.int .i64)))]), (false, [.data (.int .i64)])], [], [(true, [.data (.prod (.int .i64) (.int .i64))])], [], fun x k => c x.1.1.1 x.1.2.1.1 (fun r0 => k (((r0, ()), ()), ()))⟩
section
@[reducible] def order_matrix_when_X : Ctx := ⟨look tab, pick1 [], false, false, false, false⟩
def zq6s {β : Type} (m : List (List Int)) (i_ : Int) (k : ((Int × Int) → Option β)) : Option β :=
  cond (decide (0 ≤ (IntKind.i64.wrap (i_ + (1 : Int)))) && decide ((IntKind.i64.wrap (i_ + (1 : Int))) < (List.length m : Int)))
  (let e : List Int := List.getD m (Int.toNat (IntKind.i64.wrap (i_ + (1 : Int)))) ([] : List Int);
  cond (decide (0 ≤ (0 : Int)) && decide ((0 : Int) < (List.length e : Int)))
  (let e2 : Int := List.getD e (Int.toNat (0 : Int)) (0 : Int);
  cond (decide (0 ≤ (0 : Int)) && decide ((0 : Int) < (List.length m : Int)))
  (let e3 : List Int := List.getD m (Int.toNat (0 : Int)) ([] : List Int);
  cond (decide (0 ≤ (IntKind.i64.wrap (i_ + (1 : Int)))) && decide ((IntKind.i64.wrap (i_ + (1 : Int))) < (List.length e3 : Int)))
  (let e4 : Int := List.getD e3 (Int.toNat (IntKind.i64.wrap (i_ + (1 : Int)))) (0 : Int);
  k ((IntKind.i64.wrap (0 - e2)), e4))
  none)
  none)
  none)
  none
theorem zq6t (hΓ : ΓOk Tryz.prog order_matrix_when_X.Γ) : SpecOk Tryz.prog 70 (zq6r (zq6s)) :=
  spec_exec (X := order_matrix_when_X) (Λ := pick1 []) (rs := [.cell 4 40]) (c := bodyOf Tryz.f70) mixed tab_ok hΓ Tryz.func70 (by kernel_rfl) (by kernel_rfl) (by kernel_rfl) (by kernel_rfl) CutsOk_nil (fun x k r h => Eq.trans (b := (zq6r (zq6s)).run x k) (by kernel_rfl) h)
end
theorem zq6uΓ : ΓOk Tryz.prog (pick1 []) := ΓOk_nil
def zq6v : zq6q := zq6s
theorem zq6w : SpecOk Tryz.prog 70 (zq6r zq6v) := zq6t zq6uΓ

/-- (pagewatch/order.matrix).open -/
abbrev zq6x := {β : Type} → (List (List Int)) → Int → Int → (Bool → Option β) → Option β
def zq6y (c : zq6x) : Spec :=
  ⟨[(false, [.data (.slice (.slice (.int .i64)))]), (false, [.data (.int .i64)]), (false, [.data (.int .i64)])], [], [(false, [.data .bool])], [], fun x k => c x.1.1.1 x.1.2.1.1 x.1.2.2.1.1 (fun r0 => k (((r0, ()), ()), ()))⟩
section
variable (c_order_matrix_before : zq3e)
@[reducible] def order_matrix_open_X : Ctx := ⟨look tab, pick1 [(45, .spec (zq3f c_order_matrix_before))], false, false, false, false⟩
def zq6z {β : Type} (m : List (List Int)) (a : Int) (b : Int) (k : (Bool → Option β)) : Option β :=
  c_order_matrix_before m a b (fun (rbefore : Bool) =>
  cond (!rbefore)
  (c_order_matrix_before m b a (fun (rbefore2 : Bool) =>
  k (!rbefore2)))
  (k false))
theorem zq70 (hΓ : ΓOk Tryz.prog (order_matrix_open_X c_order_matrix_before).Γ) : SpecOk Tryz.prog 71 (zq6y (zq6z c_order_matrix_before)) :=
  spec_exec (X := (order_matrix_open_X c_order_matrix_before)) (Λ := pick1 []) (rs := [.tmp 6]) (c := bodyOf Tryz.f71) mixed tab_ok hΓ Tryz.func71 (by kernel_rfl) (by kernel_rfl) (by kernel_rfl) (by kernel_rfl) CutsOk_nil (fun x k r h => Eq.trans (b := (zq6y (zq6z c_order_matrix_before)).run x k) (by kernel_rfl) h)
end
theorem zq71Γ : ΓOk Tryz.prog (pick1 [(45, .spec (zq3f zq3j))]) := (ΓOk_cons zq3k ΓOk_nil)
def zq72 : zq6x := zq6z zq3j
theorem zq73 : SpecOk Tryz.prog 71 (zq6y zq72) := zq70 zq3j zq71Γ

/-- slices.Index[[]int,int] -/
abbrev zq74 := {β : Type} → (List Int) → Int → (Int → Option β) → Option β
def zq75 (c : zq74) : Spec :=
  ⟨[(false, [.data (.slice (.int .i64))]), (false, [.data (.int .i64)])], [], [(false, [.data (.int .i64)])], [], fun x k => c x.1.1.1 x.1.2.1.1 (fun r0 => k (((r0, ()), ()), ()))⟩
noncomputable def slices_Index_int_int_p1_code : Code := codeAt 26 (bodyOf Tryz.f74)
abbrev zq76 (β : Type) := Int → Option β
abbrev zq77 (β : Type) := Unit → Option β
abbrev zq78 := {β : Type} → zq76 β → zq77 β → (List Int) → Int → Int → Int → Option β
def zq79 : View := ⟨0, [0, 1, 7, 8], [(false, [.data (.slice (.int .i64))]), (false, [.data (.int .i64)]), (false, [.data (.int .i64)]), (false, [.data (.int .i64)])], []⟩
def zq7a : List (AExit × View) := [(.ret, ⟨0, [4], [(false, [.data (.int .i64)])], []⟩), (.exit 0, ⟨0, [], [], []⟩)]
@[reducible] def slices_Index_int_int_p1_G (p : zq78) {β : Type} (d : zq79.den) (ks : Outs.K β zq7a) : Option β :=
  p (fun a0 => ks.1 (((a0, ()), ()), ())) (fun _ => ks.2.1 ((), ())) d.1.1.1 d.1.2.1.1 d.1.2.2.1.1 d.1.2.2.2.1.1
section
@[reducible] def slices_Index_int_int_X : Ctx := ⟨look tab, pick1 [], false, false, false, false⟩
def zq7b {β : Type} (rec : (List Int) → Int → Int → Int → Option β) (k1 : zq76 β) (k2 : zq77 β) (s : List Int) (v : Int) (t7 : Int) (t8 : Int) : Option β :=
  cond (decide (t8 < t7))
  (cond (decide (0 ≤ t8) && decide (t8 < (List.length s : Int)))
  (let e : Int := List.getD s (Int.toNat t8) (0 : Int);
  cond (decide (v = e))
  (k1 t8)
  (rec s v t7 (IntKind.i64.wrap (t8 + (1 : Int)))))
  none)
  (k2 ())
def zq7c {β : Type} : Nat → zq76 β → zq77 β → (List Int) → Int → Int → Int → Option β
  | 0 => fun _ _ _ _ _ _ => none
  | i + 1 => fun k1 k2 s v t7 t8 => zq7b (zq7c i k1 k2) k1 k2 s v t7 t8
theorem zq7d (hΓ : ΓOk Tryz.prog slices_Index_int_int_X.Γ) (i : Nat) : PieceOk Tryz.prog 19 0 slices_Index_int_int_p1_code zq79 zq7a (slices_Index_int_int_p1_G (zq7c i)) := by
  rw [show slices_Index_int_int_p1_code = .loop (loopBody slices_Index_int_int_p1_code) by kernel_rfl]
  exact piece_loop (X := slices_Index_int_int_X) (p := 1) (Λ := pick1 []) (G := fun i => @fun β d ks => slices_Index_int_int_p1_G (zq7c i) d ks) mixed tab_ok hΓ rfl (by kernel_rfl) CutsOk_nil (fun _ _ => rfl) (fun i => @fun β d ks r h => Eq.trans (b := slices_Index_int_int_p1_G (zq7c (i + 1)) d ks) (by kernel_rfl) h) i
def zq7e (p1 : zq78) {β : Type} (s : List Int) (v : Int) (k : (Int → Option β)) : Option β :=
  p1 (fun (t4 : Int) =>
  k t4) (fun (_ : Unit) =>
  k (-1 : Int)) s v (List.length s : Int) (0 : Int)
theorem zq7f (hΓ : ΓOk Tryz.prog slices_Index_int_int_X.Γ) (p1 : zq78) (hp1 : PieceOk Tryz.prog 19 0 slices_Index_int_int_p1_code zq79 zq7a (slices_Index_int_int_p1_G p1)) : SpecOk Tryz.prog 74 (zq75 (zq7e p1)) :=
  spec_exec (X := slices_Index_int_int_X) (Λ := pick1 [(26, pieceCut zq79 zq7a (slices_Index_int_int_p1_G p1))]) (rs := [.tmp 4]) (c := bodyOf Tryz.f74) mixed tab_ok hΓ Tryz.func74 (by kernel_rfl) (by kernel_rfl) (by kernel_rfl) (by kernel_rfl) (CutsOk_cons (q := 26) (c' := slices_Index_int_int_p1_code) (by kernel_rfl) rfl hp1 CutsOk_nil) (fun x k r h => Eq.trans (b := (zq75 (zq7e p1)).run x k) (by kernel_rfl) h)
end
theorem zq7gΓ : ΓOk Tryz.prog (pick1 []) := ΓOk_nil
def zq7h (m : Nat) : zq78 := zq7c m
theorem zq7i {β : Type} (i : Nat) (k1 k2 s v t7 t8) : (zq7h (i + 1) k1 k2 s v t7 t8 : Option β) = zq7b (zq7h i k1 k2) k1 k2 s v t7 t8 := rfl
def zq7j : zq78 := zq7h fuel
theorem zq7k : PieceOk Tryz.prog 19 0 slices_Index_int_int_p1_code zq79 zq7a (slices_Index_int_int_p1_G zq7j) := zq7d zq7gΓ fuel
def zq7l : zq74 := zq7e zq7j
theorem zq7m : SpecOk Tryz.prog 74 (zq75 zq7l) := zq7f zq7gΓ zq7j zq7k

/-- pagewatch/pagewatchref38.Meet -/
abbrev zq7n := {β : Type} → (Int × Int) → (Int × Int) → ((Int × Int) → Option β) → Option β
def zq7o (c : zq7n) : Spec :=
  ⟨[(true, [.data (.prod (.int .i64) (.int .i64))]), (true, [.data (.prod (.int .i64) (.int .i64))])], [], [(true, [.data (.prod (.int .i64) (.int .i64))])], [], fun x k => c x.1.1.1 x.1.2.1.1 (fun r0 => k (((r0, ()), ()), ()))⟩
section
@[reducible] def ref38_Meet_X : Ctx := ⟨look tab, pick1 [], false, false, false, false⟩
def zq7p {β : Type} (a : (Int × Int)) (b : (Int × Int)) (k : ((Int × Int) → Option β)) : Option β :=
  k ((if b.1 > a.1 then b.1 else a.1), (if b.2 < a.2 then b.2 else a.2))
theorem zq7q (hΓ : ΓOk Tryz.prog ref38_Meet_X.Γ) : SpecOk Tryz.prog 76 (zq7o (zq7p)) :=
  spec_exec (X := ref38_Meet_X) (Λ := pick1 []) (rs := [.cell 4 40]) (c := bodyOf Tryz.f76) mixed tab_ok hΓ Tryz.func76 (by kernel_rfl) (by kernel_rfl) (by kernel_rfl) (by kernel_rfl) CutsOk_nil (fun x k r h => Eq.trans (b := (zq7o (zq7p)).run x k) (by kernel_rfl) h)
end
theorem zq7rΓ : ΓOk Tryz.prog (pick1 []) := ΓOk_nil
def zq7s : zq7n := zq7p
theorem zq7t : SpecOk Tryz.prog 76 (zq7o zq7s) := zq7q zq7rΓ

/-- pagewatch/pagewatchref38.From -/
abbrev zq7u := {β : Type} → (List UInt8 × Int) → (Int × (Int × (Int × Int))) → Int → ((Int × Int) → Option β) → Option β
def zq7v (c : zq7u) : Spec :=
  ⟨[(true, [.data (.prod .str (.int .i64))]), (true, [.data (.prod (.int .i64) (.prod (.int .i64) (.prod (.int .i64) (.int .i64))))]), (false, [.data (.int .i64)])], [], [(true, [.data (.prod (.int .i64) (.int .i64))])], [], fun x k => c x.1.1.1 x.1.2.1.1 x.1.2.2.1.1 (fun r0 => k (((r0, ()), ()), ()))⟩
section
variable (c_ref25_In : zq1z) (c_ref38_Elapsed : zq60)
@[reducible] def ref38_From_X : Ctx := ⟨look tab, pick1 [(31, .spec (zq20 c_ref25_In)), (64, .spec (zq61 c_ref38_Elapsed))], false, false, false, false⟩
def zq7w {β : Type} (h : (List UInt8 × Int)) (s : (Int × (Int × (Int × Int)))) (clock : Int) (k : ((Int × Int) → Option β)) : Option β :=
  c_ref25_In h.2 (0 : Int) (500000 : Int) (fun (rIn : Bool) =>
  cond (!rIn)
  (k ((-1099511627776 : Int), (1099511627776 : Int)))
  (c_ref25_In s.2.1 (0 : Int) (8589934592 : Int) (fun (rIn2 : Bool) =>
  cond (!rIn2)
  (k ((-1099511627776 : Int), (1099511627776 : Int)))
  (c_ref25_In s.2.2.1 (0 : Int) s.2.2.2 (fun (rIn3 : Bool) =>
  cond (!rIn3)
  (k ((-1099511627776 : Int), (1099511627776 : Int)))
  (cond (decide ((8589934592 : Int) < s.2.2.2))
  (k ((-1099511627776 : Int), (1099511627776 : Int)))
  (c_ref25_In clock (0 : Int) (8589934592 : Int) (fun (rIn4 : Bool) =>
  cond (!rIn4)
  (k ((-1099511627776 : Int), (1099511627776 : Int)))
  (cond (decide (s.2.1 ≤ clock))
  (c_ref38_Elapsed h.2 (IntKind.i64.wrap (clock - s.2.1)) (fun (rElapsed : Int) (rElapsed2 : Int) =>
  k ((IntKind.i64.wrap (s.2.2.1 + rElapsed)), (IntKind.i64.wrap (s.2.2.2 + rElapsed2)))))
  (c_ref38_Elapsed h.2 (IntKind.i64.wrap (s.2.1 - clock)) (fun (rElapsed : Int) (rElapsed2 : Int) =>
  k ((IntKind.i64.wrap (s.2.2.1 - rElapsed2)), (IntKind.i64.wrap (s.2.2.2 - rElapsed))))))))))))))
theorem zq7x (hΓ : ΓOk Tryz.prog (ref38_From_X c_ref25_In c_ref38_Elapsed).Γ) : SpecOk Tryz.prog 77 (zq7v (zq7w c_ref25_In c_ref38_Elapsed)) :=
  spec_exec (X := (ref38_From_X c_ref25_In c_ref38_Elapsed)) (Λ := pick1 []) (rs := [.cell 6 40]) (c := bodyOf Tryz.f77) mixed tab_ok hΓ Tryz.func77 (by kernel_rfl) (by kernel_rfl) (by kernel_rfl) (by kernel_rfl) CutsOk_nil (fun x k r h => Eq.trans (b := (zq7v (zq7w c_ref25_In c_ref38_Elapsed)).run x k) (by kernel_rfl) h)
end
theorem zq7yΓ : ΓOk Tryz.prog (pick1 [(31, .spec (zq20 zq24)), (64, .spec (zq61 zq65))]) := (ΓOk_cons zq25 (ΓOk_cons zq66 ΓOk_nil))
def zq7z : zq7u := zq7w zq24 zq65
theorem zq80 : SpecOk Tryz.prog 77 (zq7v zq7z) := zq7x zq24 zq65 zq7yΓ

/-- pagewatch/pagewatchref38.Empty -/
abbrev zq81 := {β : Type} → (Int × Int) → (Bool → Option β) → Option β
def zq82 (c : zq81) : Spec :=
  ⟨[(true, [.data (.prod (.int .i64) (.int .i64))])], [], [(false, [.data .bool])], [], fun x k => c x.1.1.1 (fun r0 => k (((r0, ()), ()), ()))⟩
section
@[reducible] def ref38_Empty_X : Ctx := ⟨look tab, pick1 [], false, false, false, false⟩
def zq83 {β : Type} (a : (Int × Int)) (k : (Bool → Option β)) : Option β :=
  k (decide (a.2 < a.1))
theorem zq84 (hΓ : ΓOk Tryz.prog ref38_Empty_X.Γ) : SpecOk Tryz.prog 78 (zq82 (zq83)) :=
  spec_exec (X := ref38_Empty_X) (Λ := pick1 []) (rs := [.tmp 2]) (c := bodyOf Tryz.f78) mixed tab_ok hΓ Tryz.func78 (by kernel_rfl) (by kernel_rfl) (by kernel_rfl) (by kernel_rfl) CutsOk_nil (fun x k r h => Eq.trans (b := (zq82 (zq83)).run x k) (by kernel_rfl) h)
end
theorem zq85Γ : ΓOk Tryz.prog (pick1 []) := ΓOk_nil
def zq86 : zq81 := zq83
theorem zq87 : SpecOk Tryz.prog 78 (zq82 zq86) := zq84 zq85Γ

/-- pagewatch/constraint.direct -/
abbrev zq88 := {β : Type} → Int → (List (Int × (Int × Int))) → ((List (List Int)) → Option β) → Option β
def zq89 (c : zq88) : Spec :=
  ⟨[(false, [.data (.int .i64)]), (false, [.data (.slice (.prod (.int .i64) (.prod (.int .i64) (.int .i64))))])], [], [(false, [.math 0])], [.mat 22 3 (.int .i64)], fun x k => c x.1.1.1 x.1.2.1.1 (fun r0 => k (((), ()), (r0, ())))⟩
noncomputable def constraint_direct_p2_code : Code := codeAt 58 (bodyOf Tryz.f84)
noncomputable def constraint_direct_p3_code : Code := codeAt 122 (bodyOf Tryz.f84)
noncomputable def constraint_direct_p1_code : Code := codeAt 462 (loopBody constraint_direct_p2_code)
abbrev zq8a (β : Type) := Int → (List (Int × (Int × Int))) → Int → Int → (List (List Int)) → Option β
abbrev zq8b := {β : Type} → zq8a β → Int → (List (Int × (Int × Int))) → Int → Int → Int → Int → Int → (List (List Int)) → Option β
def zq8c : View := ⟨0, [0, 1, 5, 6, 13, 14, 26, 27], [(false, [.data (.int .i64)]), (false, [.data (.slice (.prod (.int .i64) (.prod (.int .i64) (.int .i64))))]), (false, [.math 0]), (false, [.data (.int .i64)]), (false, [.data (.int .i64)]), (false, [.data (.int .i64)]), (false, [.data (.int .i64)]), (false, [.data (.int .i64)])], [.mat 22 3 (.int .i64)]⟩
def zq8d : List (AExit × View) := [(.exit 2, ⟨0, [0, 1, 5, 13, 14], [(false, [.data (.int .i64)]), (false, [.data (.slice (.prod (.int .i64) (.prod (.int .i64) (.int .i64))))]), (false, [.math 0]), (false, [.data (.int .i64)]), (false, [.data (.int .i64)])], [.mat 22 3 (.int .i64)]⟩)]
@[reducible] def constraint_direct_p1_G (p : zq8b) {β : Type} (d : zq8c.den) (ks : Outs.K β zq8d) : Option β :=
  p (fun a0 a1 a2 a3 a4 => ks.1 (((a0, ()), (a1, ()), (), (a2, ()), (a3, ()), ()), (a4, ()))) d.1.1.1 d.1.2.1.1 d.1.2.2.2.1.1 d.1.2.2.2.2.1.1 d.1.2.2.2.2.2.1.1 d.1.2.2.2.2.2.2.1.1 d.1.2.2.2.2.2.2.2.1.1 d.2.1
abbrev zq8e (β : Type) := (List (Int × (Int × Int))) → (List (List Int)) → Option β
abbrev zq8f := {β : Type} → zq8e β → Int → (List (Int × (Int × Int))) → Int → Int → (List (List Int)) → Option β
def zq8g : View := ⟨0, [0, 1, 5, 13, 14], [(false, [.data (.int .i64)]), (false, [.data (.slice (.prod (.int .i64) (.prod (.int .i64) (.int .i64))))]), (false, [.math 0]), (false, [.data (.int .i64)]), (false, [.data (.int .i64)])], [.mat 22 3 (.int .i64)]⟩
def zq8h : List (AExit × View) := [(.exit 0, ⟨0, [1, 5], [(false, [.data (.slice (.prod (.int .i64) (.prod (.int .i64) (.int .i64))))]), (false, [.math 0])], [.mat 22 3 (.int .i64)]⟩)]
@[reducible] def constraint_direct_p2_G (p : zq8f) {β : Type} (d : zq8g.den) (ks : Outs.K β zq8h) : Option β :=
  p (fun a0 a1 => ks.1 (((a0, ()), (), ()), (a1, ()))) d.1.1.1 d.1.2.1.1 d.1.2.2.2.1.1 d.1.2.2.2.2.1.1 d.2.1
abbrev zq8i (β : Type) := (List (List Int)) → Option β
abbrev zq8j := {β : Type} → zq8i β → (List (Int × (Int × Int))) → Int → Int → (List (List Int)) → Option β
def zq8k : View := ⟨0, [5, 38, 39, 40], [(false, [.math 0]), (false, [.data (.slice (.prod (.int .i64) (.prod (.int .i64) (.int .i64))))]), (false, [.data (.int .i64)]), (false, [.data (.int .i64)])], [.mat 22 3 (.int .i64)]⟩
def zq8l : List (AExit × View) := [(.exit 4, ⟨0, [5], [(false, [.math 0])], [.mat 22 3 (.int .i64)]⟩)]
@[reducible] def constraint_direct_p3_G (p : zq8j) {β : Type} (d : zq8k.den) (ks : Outs.K β zq8l) : Option β :=
  p (fun a0 => ks.1 (((), ()), (a0, ()))) d.1.2.1.1 d.1.2.2.1.1 d.1.2.2.2.1.1 d.2.1
section
@[reducible] def constraint_direct_X : Ctx := ⟨look tab, pick1 [], true, false, false, false⟩
def zq8m {β : Type} (rec : Int → (List (Int × (Int × Int))) → Int → Int → Int → Int → Int → (List (List Int)) → Option β) (k1 : zq8a β) (n : Int) (l : List (Int × (Int × Int))) (i_ : Int) (t13 : Int) (t14 : Int) (t26 : Int) (t27 : Int) (out : List (List Int)) : Option β :=
  cond (decide (t27 < t26))
  (cond (decide (0 ≤ i_) && decide (i_ < (List.length out : Int)))
  (cond (decide (0 ≤ t27) && decide (t27 < (List.length (List.getD out (Int.toNat i_) []) : Int)))
  (let m_ : List (List Int) := (List.set out (Int.toNat i_) (List.set (List.getD out (Int.toNat i_) []) (Int.toNat t27) (1099511627776 : Int)));
  rec n l i_ t13 t14 t26 (IntKind.i64.wrap (t27 + (1 : Int))) m_)
  none)
  none)
  (k1 n l t13 t14 out)
def zq8n {β : Type} : Nat → zq8a β → Int → (List (Int × (Int × Int))) → Int → Int → Int → Int → Int → (List (List Int)) → Option β
  | 0 => fun _ _ _ _ _ _ _ _ _ => none
  | i + 1 => fun k1 n l i_ t13 t14 t26 t27 out => zq8m (zq8n i k1) k1 n l i_ t13 t14 t26 t27 out
theorem zq8o (hΓ : ΓOk Tryz.prog constraint_direct_X.Γ) (i : Nat) : PieceOk Tryz.prog 66 0 constraint_direct_p1_code zq8c zq8d (constraint_direct_p1_G (zq8n i)) := by
  rw [show constraint_direct_p1_code = .loop (loopBody constraint_direct_p1_code) by kernel_rfl]
  exact piece_loop (X := constraint_direct_X) (p := 1) (Λ := pick1 []) (G := fun i => @fun β d ks => constraint_direct_p1_G (zq8n i) d ks) mixed tab_ok hΓ rfl (by kernel_rfl) CutsOk_nil (fun _ _ => rfl) (fun i => @fun β d ks r h => Eq.trans (b := constraint_direct_p1_G (zq8n (i + 1)) d ks) (by kernel_rfl) h) i
def zq8p (p1 : zq8b) {β : Type} (rec : Int → (List (Int × (Int × Int))) → Int → Int → (List (List Int)) → Option β) (k1 : zq8e β) (n : Int) (l : List (Int × (Int × Int))) (t13 : Int) (t14 : Int) (out : List (List Int)) : Option β :=
  cond (decide (t14 < t13))
  (cond (decide (0 ≤ n) && (decide (n = n) && (decide (Int.toNat n * 8 ≤ roomMax) && decide (n ≤ 9223372036854775807))))
  (let l2 : List Int := (List.replicate (Int.toNat n) (0 : Int));
  cond (decide (0 ≤ t14) && decide (t14 < (List.length out : Int)))
  (let m_ : List (List Int) := (List.set out (Int.toNat t14) l2);
  cond (decide (0 ≤ t14) && decide (t14 < (List.length m_ : Int)))
  (p1 (fun (n2 : Int) (l3 : List (Int × (Int × Int))) (t132 : Int) (t142 : Int) (out2 : List (List Int)) =>
  rec n2 l3 t132 (IntKind.i64.wrap (t142 + (1 : Int))) out2) n l t14 t13 t14 (List.length (List.getD m_ (Int.toNat t14) []) : Int) (0 : Int) m_)
  none)
  none)
  none)
  (k1 l out)
def zq8q (p1 : zq8b) {β : Type} : Nat → zq8e β → Int → (List (Int × (Int × Int))) → Int → Int → (List (List Int)) → Option β
  | 0 => fun _ _ _ _ _ _ => none
  | i + 1 => fun k1 n l t13 t14 out => zq8p p1 (zq8q p1 i k1) k1 n l t13 t14 out
theorem zq8r (hΓ : ΓOk Tryz.prog constraint_direct_X.Γ) (p1 : zq8b) (hp1 : PieceOk Tryz.prog 66 0 constraint_direct_p1_code zq8c zq8d (constraint_direct_p1_G p1)) (i : Nat) : PieceOk Tryz.prog 66 0 constraint_direct_p2_code zq8g zq8h (constraint_direct_p2_G (zq8q p1 i)) := by
  rw [show constraint_direct_p2_code = .loop (loopBody constraint_direct_p2_code) by kernel_rfl]
  exact piece_loop (X := constraint_direct_X) (p := 1) (Λ := pick1 [(462, pieceCut zq8c zq8d (constraint_direct_p1_G p1))]) (G := fun i => @fun β d ks => constraint_direct_p2_G (zq8q p1 i) d ks) mixed tab_ok hΓ rfl (by kernel_rfl) (CutsOk_cons (q := 462) (c' := constraint_direct_p1_code) (by kernel_rfl) rfl hp1 CutsOk_nil) (fun _ _ => rfl) (fun i => @fun β d ks r h => Eq.trans (b := constraint_direct_p2_G (zq8q p1 (i + 1)) d ks) (by kernel_rfl) h) i
def zq8s {β : Type} (rec : (List (Int × (Int × Int))) → Int → Int → (List (List Int)) → Option β) (k1 : zq8i β) (t38 : List (Int × (Int × Int))) (t39 : Int) (t40 : Int) (out : List (List Int)) : Option β :=
  cond (decide (t40 < t39))
  (cond (decide (0 ≤ t40) && decide (t40 < (List.length t38 : Int)))
  (let e : (Int × (Int × Int)) := List.getD t38 (Int.toNat t40) ((0 : Int), ((0 : Int), (0 : Int)));
  cond (decide (0 ≤ e.1) && decide (e.1 < (List.length out : Int)))
  (cond (decide (0 ≤ e.1) && decide (e.1 < (List.length out : Int)))
  (cond (decide (0 ≤ e.2.1) && decide (e.2.1 < (List.length (List.getD out (Int.toNat e.1) []) : Int)))
  (cond (decide (0 ≤ e.2.1) && decide (e.2.1 < (List.length (List.getD out (Int.toNat e.1) []) : Int)))
  (let m_ : List (List Int) := (List.set out (Int.toNat e.1) (List.set (List.getD out (Int.toNat e.1) []) (Int.toNat e.2.1) (if e.2.2 < (List.getD (List.getD out (Int.toNat e.1) []) (Int.toNat e.2.1) (0 : Int)) then e.2.2 else (List.getD (List.getD out (Int.toNat e.1) []) (Int.toNat e.2.1) (0 : Int)))));
  rec t38 t39 (IntKind.i64.wrap (t40 + (1 : Int))) m_)
  none)
  none)
  none)
  none)
  none)
  (k1 out)
def zq8t {β : Type} : Nat → zq8i β → (List (Int × (Int × Int))) → Int → Int → (List (List Int)) → Option β
  | 0 => fun _ _ _ _ _ => none
  | i + 1 => fun k1 t38 t39 t40 out => zq8s (zq8t i k1) k1 t38 t39 t40 out
theorem zq8u (hΓ : ΓOk Tryz.prog constraint_direct_X.Γ) (i : Nat) : PieceOk Tryz.prog 66 0 constraint_direct_p3_code zq8k zq8l (constraint_direct_p3_G (zq8t i)) := by
  rw [show constraint_direct_p3_code = .loop (loopBody constraint_direct_p3_code) by kernel_rfl]
  exact piece_loop (X := constraint_direct_X) (p := 1) (Λ := pick1 []) (G := fun i => @fun β d ks => constraint_direct_p3_G (zq8t i) d ks) mixed tab_ok hΓ rfl (by kernel_rfl) CutsOk_nil (fun _ _ => rfl) (fun i => @fun β d ks r h => Eq.trans (b := constraint_direct_p3_G (zq8t (i + 1)) d ks) (by kernel_rfl) h) i
def zq8v (p2 : zq8f) (p3 : zq8j) {β : Type} (n : Int) (l : List (Int × (Int × Int))) (k : ((List (List Int)) → Option β)) : Option β :=
  cond (decide (0 ≤ n) && (decide (n = n) && (decide (Int.toNat n * 24 ≤ roomMax) && decide (n ≤ 9223372036854775807))))
  (let m_ : List (List Int) := (List.replicate (Int.toNat n) ([] : List Int));
  p2 (fun (l2 : List (Int × (Int × Int))) (out : List (List Int)) =>
  p3 (fun (out2 : List (List Int)) =>
  k out2) l2 (List.length l2 : Int) (0 : Int) out) n l (List.length m_ : Int) (0 : Int) m_)
  none
theorem zq8w (hΓ : ΓOk Tryz.prog constraint_direct_X.Γ) (p2 : zq8f) (p3 : zq8j) (hp2 : PieceOk Tryz.prog 66 0 constraint_direct_p2_code zq8g zq8h (constraint_direct_p2_G p2)) (hp3 : PieceOk Tryz.prog 66 0 constraint_direct_p3_code zq8k zq8l (constraint_direct_p3_G p3)) : SpecOk Tryz.prog 84 (zq89 (zq8v p2 p3)) :=
  spec_exec (X := constraint_direct_X) (Λ := pick1 [(58, pieceCut zq8g zq8h (constraint_direct_p2_G p2)), (122, pieceCut zq8k zq8l (constraint_direct_p3_G p3))]) (rs := [.tmp 4]) (c := bodyOf Tryz.f84) mixed tab_ok hΓ Tryz.func84 (by kernel_rfl) (by kernel_rfl) (by kernel_rfl) (by kernel_rfl) (CutsOk_cons (q := 58) (c' := constraint_direct_p2_code) (by kernel_rfl) rfl hp2 (CutsOk_cons (q := 122) (c' := constraint_direct_p3_code) (by kernel_rfl) rfl hp3 CutsOk_nil)) (fun x k r h => Eq.trans (b := (zq89 (zq8v p2 p3)).run x k) (by kernel_rfl) h)
end
theorem zq8xΓ : ΓOk Tryz.prog (pick1 []) := ΓOk_nil
def zq8y (m : Nat) : zq8b := zq8n m
theorem zq8z {β : Type} (i : Nat) (k1 n l i_ t13 t14 t26 t27 out) : (zq8y (i + 1) k1 n l i_ t13 t14 t26 t27 out : Option β) = zq8m (zq8y i k1) k1 n l i_ t13 t14 t26 t27 out := rfl
def zq90 : zq8b := zq8y fuel
theorem zq91 : PieceOk Tryz.prog 66 0 constraint_direct_p1_code zq8c zq8d (constraint_direct_p1_G zq90) := zq8o zq8xΓ fuel
def zq92 (m : Nat) : zq8f := zq8q zq90 m
theorem zq93 {β : Type} (i : Nat) (k1 n l t13 t14 out) : (zq92 (i + 1) k1 n l t13 t14 out : Option β) = zq8p zq90 (zq92 i k1) k1 n l t13 t14 out := rfl
def zq94 : zq8f := zq92 fuel
theorem zq95 : PieceOk Tryz.prog 66 0 constraint_direct_p2_code zq8g zq8h (constraint_direct_p2_G zq94) := zq8r zq8xΓ zq90 zq91 fuel
def zq96 (m : Nat) : zq8j := zq8t m
theorem zq97 {β : Type} (i : Nat) (k1 t38 t39 t40 out) : (zq96 (i + 1) k1 t38 t39 t40 out : Option β) = zq8s (zq96 i k1) k1 t38 t39 t40 out := rfl
def zq98 : zq8j := zq96 fuel
theorem zq99 : PieceOk Tryz.prog 66 0 constraint_direct_p3_code zq8k zq8l (constraint_direct_p3_G zq98) := zq8u zq8xΓ fuel
def zq9a : zq88 := zq8v zq94 zq98
theorem zq9b : SpecOk Tryz.prog 84 (zq89 zq9a) := zq8w zq8xΓ zq94 zq98 zq95 zq99

/-- pagewatch/clock.Meet -/
abbrev zq9c := {β : Type} → (Int × Int) → (Int × Int) → ((Int × Int) → Option β) → Option β
def zq9d (c : zq9c) : Spec :=
  ⟨[(true, [.data (.prod (.int .i64) (.int .i64))]), (true, [.data (.prod (.int .i64) (.int .i64))])], [], [(true, [.data (.prod (.int .i64) (.int .i64))])], [], fun x k => c x.1.1.1 x.1.2.1.1 (fun r0 => k (((r0, ()), ()), ()))⟩
section
@[reducible] def clock_Meet_X : Ctx := ⟨look tab, pick1 [], false, false, false, false⟩
def zq9e {β : Type} (a : (Int × Int)) (b : (Int × Int)) (k : ((Int × Int) → Option β)) : Option β :=
  k ((if b.1 > a.1 then b.1 else a.1), (if b.2 < a.2 then b.2 else a.2))
theorem zq9f (hΓ : ΓOk Tryz.prog clock_Meet_X.Γ) : SpecOk Tryz.prog 100 (zq9d (zq9e)) :=
  spec_exec (X := clock_Meet_X) (Λ := pick1 []) (rs := [.cell 4 40]) (c := bodyOf Tryz.f100) mixed tab_ok hΓ Tryz.func100 (by kernel_rfl) (by kernel_rfl) (by kernel_rfl) (by kernel_rfl) CutsOk_nil (fun x k r h => Eq.trans (b := (zq9d (zq9e)).run x k) (by kernel_rfl) h)
end
theorem zq9gΓ : ΓOk Tryz.prog (pick1 []) := ΓOk_nil
def zq9h : zq9c := zq9e
theorem zq9i : SpecOk Tryz.prog 100 (zq9d zq9h) := zq9f zq9gΓ

/-- pagewatch/clock.Empty -/
abbrev zq9j := {β : Type} → (Int × Int) → (Bool → Option β) → Option β
def zq9k (c : zq9j) : Spec :=
  ⟨[(true, [.data (.prod (.int .i64) (.int .i64))])], [], [(false, [.data .bool])], [], fun x k => c x.1.1.1 (fun r0 => k (((r0, ()), ()), ()))⟩
section
@[reducible] def clock_Empty_X : Ctx := ⟨look tab, pick1 [], false, false, false, false⟩
def zq9l {β : Type} (a : (Int × Int)) (k : (Bool → Option β)) : Option β :=
  k (decide (a.2 < a.1))
theorem zq9m (hΓ : ΓOk Tryz.prog clock_Empty_X.Γ) : SpecOk Tryz.prog 102 (zq9k (zq9l)) :=
  spec_exec (X := clock_Empty_X) (Λ := pick1 []) (rs := [.tmp 2]) (c := bodyOf Tryz.f102) mixed tab_ok hΓ Tryz.func102 (by kernel_rfl) (by kernel_rfl) (by kernel_rfl) (by kernel_rfl) CutsOk_nil (fun x k r h => Eq.trans (b := (zq9k (zq9l)).run x k) (by kernel_rfl) h)
end
theorem zq9nΓ : ΓOk Tryz.prog (pick1 []) := ΓOk_nil
def zq9o : zq9j := zq9l
theorem zq9p : SpecOk Tryz.prog 102 (zq9k zq9o) := zq9m zq9nΓ

/-- pagewatch/constraint.in -/
abbrev zq9q := {β : Type} → Int → Int → Int → (Bool → Option β) → Option β
def zq9r (c : zq9q) : Spec :=
  ⟨[(false, [.data (.int .i64)]), (false, [.data (.int .i64)]), (false, [.data (.int .i64)])], [], [(false, [.data .bool])], [], fun x k => c x.1.1.1 x.1.2.1.1 x.1.2.2.1.1 (fun r0 => k (((r0, ()), ()), ()))⟩
section
@[reducible] def constraint_in_X : Ctx := ⟨look tab, pick1 [], false, false, false, false⟩
def zq9s {β : Type} (n : Int) (low : Int) (high : Int) (k : (Bool → Option β)) : Option β :=
  cond (decide (low ≤ n))
  (k (decide (n ≤ high)))
  (k false)
theorem zq9t (hΓ : ΓOk Tryz.prog constraint_in_X.Γ) : SpecOk Tryz.prog 104 (zq9r (zq9s)) :=
  spec_exec (X := constraint_in_X) (Λ := pick1 []) (rs := [.tmp 6]) (c := bodyOf Tryz.f104) mixed tab_ok hΓ Tryz.func104 (by kernel_rfl) (by kernel_rfl) (by kernel_rfl) (by kernel_rfl) CutsOk_nil (fun x k r h => Eq.trans (b := (zq9r (zq9s)).run x k) (by kernel_rfl) h)
end
theorem zq9uΓ : ΓOk Tryz.prog (pick1 []) := ΓOk_nil
def zq9v : zq9q := zq9s
theorem zq9w : SpecOk Tryz.prog 104 (zq9r zq9v) := zq9t zq9uΓ

/-- pagewatch/constraint.Valid$1 -/
abbrev zq9x := {β : Type} → (Int × (Int × Int)) → Int → (Bool → Int → Option β) → Option β
def zq9y (c : zq9x) : Spec :=
  ⟨[(true, [.data (.prod (.int .i64) (.prod (.int .i64) (.int .i64)))]), (false, [.ptr 0 0])], [.cells 3 [.data (.int .i64)]], [(false, [.data .bool])], [.cells 3 [.data (.int .i64)]], fun x k => c x.1.1.1 x.2.1.1 (fun r0 r1 => k (((r0, ()), ()), ((r1, ()), ())))⟩
section
variable (c_constraint_in : zq9q)
@[reducible] def constraint_Valid_f1_X : Ctx := ⟨look tab, pick1 [(104, .spec (zq9r c_constraint_in))], false, false, false, false⟩
def zq9z {β : Type} (d : (Int × (Int × Int))) (t1 : Int) (k : (Bool → Int → Option β)) : Option β :=
  c_constraint_in d.1 (0 : Int) (IntKind.i64.wrap (t1 - (1 : Int))) (fun (rin : Bool) =>
  cond (!rin)
  (k true t1)
  (c_constraint_in d.2.1 (0 : Int) (IntKind.i64.wrap (t1 - (1 : Int))) (fun (rin2 : Bool) =>
  cond (!rin2)
  (k true t1)
  (c_constraint_in d.2.2 (-17179869184 : Int) (17179869184 : Int) (fun (rin3 : Bool) =>
  k (!rin3) t1)))))
theorem zqa0 (hΓ : ΓOk Tryz.prog (constraint_Valid_f1_X c_constraint_in).Γ) : SpecOk Tryz.prog 106 (zq9y (zq9z c_constraint_in)) :=
  spec_exec (X := (constraint_Valid_f1_X c_constraint_in)) (Λ := pick1 []) (rs := [.tmp 3]) (c := bodyOf Tryz.f106) mixed tab_ok hΓ Tryz.func106 (by kernel_rfl) (by kernel_rfl) (by kernel_rfl) (by kernel_rfl) CutsOk_nil (fun x k r h => Eq.trans (b := (zq9y (zq9z c_constraint_in)).run x k) (by kernel_rfl) h)
end
theorem zqa1Γ : ΓOk Tryz.prog (pick1 [(104, .spec (zq9r zq9v))]) := (ΓOk_cons zq9w ΓOk_nil)
def zqa2 : zq9x := zq9z zq9v
theorem zqa3 : SpecOk Tryz.prog 106 (zq9y zqa2) := zqa0 zq9v zqa1Γ

/-- pagewatch/clock.Elapsed$1 -/
abbrev zqa4 := {β : Type} → Int → Int → (Int → Option β) → Option β
def zqa5 (c : zqa4) : Spec :=
  ⟨[(false, [.data (.int .i64)]), (false, [.data (.int .i64)])], [], [(false, [.data (.int .i64)])], [], fun x k => c x.1.1.1 x.1.2.1.1 (fun r0 => k (((r0, ()), ()), ()))⟩
section
@[reducible] def clock_Elapsed_f1_X : Ctx := ⟨look tab, pick1 [], false, false, false, false⟩
def zqa6 {β : Type} (a : Int) (b : Int) (k : (Int → Option β)) : Option β :=
  cond (!decide (b = 0))
  (let t : Int := (IntKind.i64.wrap (Int.tdiv (IntKind.i64.wrap ((IntKind.i64.wrap (a + b)) - (1 : Int))) b));
  k t)
  none
theorem zqa7 (hΓ : ΓOk Tryz.prog clock_Elapsed_f1_X.Γ) : SpecOk Tryz.prog 117 (zqa5 (zqa6)) :=
  spec_exec (X := clock_Elapsed_f1_X) (Λ := pick1 []) (rs := [.tmp 4]) (c := bodyOf Tryz.f117) mixed tab_ok hΓ Tryz.func117 (by kernel_rfl) (by kernel_rfl) (by kernel_rfl) (by kernel_rfl) CutsOk_nil (fun x k r h => Eq.trans (b := (zqa5 (zqa6)).run x k) (by kernel_rfl) h)
end
theorem zqa8Γ : ΓOk Tryz.prog (pick1 []) := ΓOk_nil
def zqa9 : zqa4 := zqa6
theorem zqaa : SpecOk Tryz.prog 117 (zqa5 zqa9) := zqa7 zqa8Γ

/-- (*pagewatch/pagewatchmade.Dice).Record -/
abbrev zqab := {β : Type} → Int → (List Int × Int) → (zq2 → (List Int × Int) → (List Int) → Option β) → Option β
def zqac (c : zqab) : Spec :=
  ⟨[(false, [.ptr 0 0]), (false, [.data (.int .i64)])], [.cells 68 [.data (.prod (.slice (.int .i64)) (.int .i64))]], [(true, [.data zq3]), (false, [.rowh 1])], [.cells 68 [.data (.prod (.slice (.int .i64)) (.int .i64))], .row 3 (.int .i64)], fun x k => c x.1.2.1.1 x.2.1.1 (fun r0 r1 r2 => k (((r0, ()), (), ()), ((r1, ()), r2, ())))⟩
noncomputable def made_Dice_Record_p1_code : Code := codeAt 122 (bodyOf Tryz.f9)
noncomputable def made_Dice_Record_p2_code : Code := codeAt 250 (bodyOf Tryz.f9)
noncomputable def made_Dice_Record_p3_code : Code := codeAt 1018 (bodyOf Tryz.f9)
noncomputable def made_Dice_Record_p5_code : Code := codeAt 2042 (bodyOf Tryz.f9)
noncomputable def made_Dice_Record_p4_code : Code := codeAt 51 (loopBody made_Dice_Record_p5_code)
abbrev zqad (β : Type) := Int → (List Int) → Int → (List Int) → (List (List UInt8 × Int)) → (List (Int × (Int × (Int × Int)))) → (List zq0) → (List (Int × (Int × Int))) → (List (List UInt8 × Int)) → (List (Int × (Int × (Int × Int)))) → (List zq0) → (List (Int × (Int × Int))) → Option β
abbrev zqae := {β : Type} → zqad β → Int → Int → (List Int) → Int → (List Int) → (List (List UInt8 × Int)) → (List (Int × (Int × (Int × Int)))) → (List zq0) → (List (Int × (Int × Int))) → (List (List UInt8 × Int)) → (List (Int × (Int × (Int × Int)))) → (List zq0) → (List (Int × (Int × Int))) → Option β
def zqaf : View := ⟨1, [0, 1, 4, 6, 7, 8], [(false, [.ptr 0 0]), (false, [.data (.int .i64)]), (false, [.ptr 1 0]), (false, [.ptr 2 0]), (false, [.rowh 3]), (false, [.data (.int .i64)])], [.cells 68 [.data (.slice (.int .i64)), .data (.int .i64)], .cells 32 [.rowh 4, .rowh 5, .rowh 6, .rowh 7], .cells 32 [.rowh 8, .rowh 9, .rowh 10, .rowh 11], .row 3 (.int .i64), .row 62 (.prod .str (.int .i64)), .row 64 (.prod (.int .i64) (.prod (.int .i64) (.prod (.int .i64) (.int .i64)))), .row 60 zq1, .row 73 (.prod (.int .i64) (.prod (.int .i64) (.int .i64))), .row 62 (.prod .str (.int .i64)), .row 64 (.prod (.int .i64) (.prod (.int .i64) (.prod (.int .i64) (.int .i64)))), .row 60 zq1, .row 73 (.prod (.int .i64) (.prod (.int .i64) (.int .i64)))]⟩
def zqag : List (AExit × View) := [(.exit 0, ⟨1, [0, 1, 4, 6, 7], [(false, [.ptr 0 0]), (false, [.data (.int .i64)]), (false, [.ptr 1 0]), (false, [.ptr 2 0]), (false, [.rowh 3])], [.cells 68 [.data (.slice (.int .i64)), .data (.int .i64)], .cells 32 [.rowh 4, .rowh 5, .rowh 6, .rowh 7], .cells 32 [.rowh 8, .rowh 9, .rowh 10, .rowh 11], .row 3 (.int .i64), .row 62 (.prod .str (.int .i64)), .row 64 (.prod (.int .i64) (.prod (.int .i64) (.prod (.int .i64) (.int .i64)))), .row 60 zq1, .row 73 (.prod (.int .i64) (.prod (.int .i64) (.int .i64))), .row 62 (.prod .str (.int .i64)), .row 64 (.prod (.int .i64) (.prod (.int .i64) (.prod (.int .i64) (.int .i64)))), .row 60 zq1, .row 73 (.prod (.int .i64) (.prod (.int .i64) (.int .i64)))]⟩)]
@[reducible] def made_Dice_Record_p1_G (p : zqae) {β : Type} (d : zqaf.den) (ks : Outs.K β zqag) : Option β :=
  p (fun a0 a1 a2 a3 a4 a5 a6 a7 a8 a9 a10 a11 => ks.1 (((), (a0, ()), (), (), (), ()), ((a1, a2, ()), (), (), a3, a4, a5, a6, a7, a8, a9, a10, a11, ()))) d.1.2.1.1 d.1.2.2.2.2.2.1.1 d.2.1.1 d.2.1.2.1 d.2.2.2.2.1 d.2.2.2.2.2.1 d.2.2.2.2.2.2.1 d.2.2.2.2.2.2.2.1 d.2.2.2.2.2.2.2.2.1 d.2.2.2.2.2.2.2.2.2.1 d.2.2.2.2.2.2.2.2.2.2.1 d.2.2.2.2.2.2.2.2.2.2.2.1 d.2.2.2.2.2.2.2.2.2.2.2.2.1
abbrev zqah (β : Type) := Int → (List Int) → Int → (List Int) → (List (List UInt8 × Int)) → (List (Int × (Int × (Int × Int)))) → (List zq0) → (List (Int × (Int × Int))) → (List (List UInt8 × Int)) → (List (Int × (Int × (Int × Int)))) → (List zq0) → (List (Int × (Int × Int))) → Option β
abbrev zqai := {β : Type} → zqah β → Int → Int → (List Int) → Int → (List Int) → (List (List UInt8 × Int)) → (List (Int × (Int × (Int × Int)))) → (List zq0) → (List (Int × (Int × Int))) → (List (List UInt8 × Int)) → (List (Int × (Int × (Int × Int)))) → (List zq0) → (List (Int × (Int × Int))) → Option β
def zqaj : View := ⟨1, [0, 1, 4, 6, 7, 9], [(false, [.ptr 0 0]), (false, [.data (.int .i64)]), (false, [.ptr 1 0]), (false, [.ptr 2 0]), (false, [.rowh 3]), (false, [.data (.int .i64)])], [.cells 68 [.data (.slice (.int .i64)), .data (.int .i64)], .cells 32 [.rowh 4, .rowh 5, .rowh 6, .rowh 7], .cells 32 [.rowh 8, .rowh 9, .rowh 10, .rowh 11], .row 3 (.int .i64), .row 62 (.prod .str (.int .i64)), .row 64 (.prod (.int .i64) (.prod (.int .i64) (.prod (.int .i64) (.int .i64)))), .row 60 zq1, .row 73 (.prod (.int .i64) (.prod (.int .i64) (.int .i64))), .row 62 (.prod .str (.int .i64)), .row 64 (.prod (.int .i64) (.prod (.int .i64) (.prod (.int .i64) (.int .i64)))), .row 60 zq1, .row 73 (.prod (.int .i64) (.prod (.int .i64) (.int .i64)))]⟩
def zqak : List (AExit × View) := [(.exit 2, ⟨1, [0, 1, 4, 6, 7], [(false, [.ptr 0 0]), (false, [.data (.int .i64)]), (false, [.ptr 1 0]), (false, [.ptr 2 0]), (false, [.rowh 3])], [.cells 68 [.data (.slice (.int .i64)), .data (.int .i64)], .cells 32 [.rowh 4, .rowh 5, .rowh 6, .rowh 7], .cells 32 [.rowh 8, .rowh 9, .rowh 10, .rowh 11], .row 3 (.int .i64), .row 62 (.prod .str (.int .i64)), .row 64 (.prod (.int .i64) (.prod (.int .i64) (.prod (.int .i64) (.int .i64)))), .row 60 zq1, .row 73 (.prod (.int .i64) (.prod (.int .i64) (.int .i64))), .row 62 (.prod .str (.int .i64)), .row 64 (.prod (.int .i64) (.prod (.int .i64) (.prod (.int .i64) (.int .i64)))), .row 60 zq1, .row 73 (.prod (.int .i64) (.prod (.int .i64) (.int .i64)))]⟩)]
@[reducible] def made_Dice_Record_p2_G (p : zqai) {β : Type} (d : zqaj.den) (ks : Outs.K β zqak) : Option β :=
  p (fun a0 a1 a2 a3 a4 a5 a6 a7 a8 a9 a10 a11 => ks.1 (((), (a0, ()), (), (), (), ()), ((a1, a2, ()), (), (), a3, a4, a5, a6, a7, a8, a9, a10, a11, ()))) d.1.2.1.1 d.1.2.2.2.2.2.1.1 d.2.1.1 d.2.1.2.1 d.2.2.2.2.1 d.2.2.2.2.2.1 d.2.2.2.2.2.2.1 d.2.2.2.2.2.2.2.1 d.2.2.2.2.2.2.2.2.1 d.2.2.2.2.2.2.2.2.2.1 d.2.2.2.2.2.2.2.2.2.2.1 d.2.2.2.2.2.2.2.2.2.2.2.1 d.2.2.2.2.2.2.2.2.2.2.2.2.1
abbrev zqal (β : Type) := (List Int) → Int → (List Int) → (List (List UInt8 × Int)) → (List (Int × (Int × (Int × Int)))) → (List zq0) → (List (Int × (Int × Int))) → (List (List UInt8 × Int)) → (List (Int × (Int × (Int × Int)))) → (List zq0) → (List (Int × (Int × Int))) → Option β
abbrev zqam := {β : Type} → zqal β → Int → (List Int) → Int → (List Int) → (List Int) → (List (List UInt8 × Int)) → (List (Int × (Int × (Int × Int)))) → (List zq0) → (List (Int × (Int × Int))) → (List (List UInt8 × Int)) → (List (Int × (Int × (Int × Int)))) → (List zq0) → (List (Int × (Int × Int))) → Option β
def zqan : View := ⟨1, [0, 4, 6, 7, 12, 13], [(false, [.ptr 0 0]), (false, [.ptr 1 0]), (false, [.ptr 2 0]), (false, [.rowh 3]), (false, [.rowh 4]), (false, [.data (.int .i64)])], [.cells 68 [.data (.slice (.int .i64)), .data (.int .i64)], .cells 32 [.rowh 5, .rowh 6, .rowh 7, .rowh 8], .cells 32 [.rowh 9, .rowh 10, .rowh 11, .rowh 12], .row 3 (.int .i64), .row 3 (.int .i64), .row 62 (.prod .str (.int .i64)), .row 64 (.prod (.int .i64) (.prod (.int .i64) (.prod (.int .i64) (.int .i64)))), .row 60 zq1, .row 73 (.prod (.int .i64) (.prod (.int .i64) (.int .i64))), .row 62 (.prod .str (.int .i64)), .row 64 (.prod (.int .i64) (.prod (.int .i64) (.prod (.int .i64) (.int .i64)))), .row 60 zq1, .row 73 (.prod (.int .i64) (.prod (.int .i64) (.int .i64)))]⟩
def zqao : List (AExit × View) := [(.exit 4, ⟨1, [0, 4, 6, 12], [(false, [.ptr 0 0]), (false, [.ptr 1 0]), (false, [.ptr 2 0]), (false, [.rowh 3])], [.cells 68 [.data (.slice (.int .i64)), .data (.int .i64)], .cells 32 [.rowh 4, .rowh 5, .rowh 6, .rowh 7], .cells 32 [.rowh 8, .rowh 9, .rowh 10, .rowh 11], .row 3 (.int .i64), .row 62 (.prod .str (.int .i64)), .row 64 (.prod (.int .i64) (.prod (.int .i64) (.prod (.int .i64) (.int .i64)))), .row 60 zq1, .row 73 (.prod (.int .i64) (.prod (.int .i64) (.int .i64))), .row 62 (.prod .str (.int .i64)), .row 64 (.prod (.int .i64) (.prod (.int .i64) (.prod (.int .i64) (.int .i64)))), .row 60 zq1, .row 73 (.prod (.int .i64) (.prod (.int .i64) (.int .i64)))]⟩)]
@[reducible] def made_Dice_Record_p3_G (p : zqam) {β : Type} (d : zqan.den) (ks : Outs.K β zqao) : Option β :=
  p (fun a0 a1 a2 a3 a4 a5 a6 a7 a8 a9 a10 => ks.1 (((), (), (), (), ()), ((a0, a1, ()), (), (), a2, a3, a4, a5, a6, a7, a8, a9, a10, ()))) d.1.2.2.2.2.2.1.1 d.2.1.1 d.2.1.2.1 d.2.2.2.2.1 d.2.2.2.2.2.1 d.2.2.2.2.2.2.1 d.2.2.2.2.2.2.2.1 d.2.2.2.2.2.2.2.2.1 d.2.2.2.2.2.2.2.2.2.1 d.2.2.2.2.2.2.2.2.2.2.1 d.2.2.2.2.2.2.2.2.2.2.2.1 d.2.2.2.2.2.2.2.2.2.2.2.2.1 d.2.2.2.2.2.2.2.2.2.2.2.2.2.1
abbrev zqap (β : Type) := Int → (List Int) → Int → (List Int) → (List (List UInt8 × Int)) → (List (Int × (Int × (Int × Int)))) → (List zq0) → (List (Int × (Int × Int))) → (List (List UInt8 × Int)) → (List (Int × (Int × (Int × Int)))) → (List zq0) → (List (Int × (Int × Int))) → Option β
abbrev zqaq := {β : Type} → zqap β → Int → Int → Int → Bool → (List Int) → Int → (List Int) → (List (List UInt8 × Int)) → (List (Int × (Int × (Int × Int)))) → (List zq0) → (List (Int × (Int × Int))) → (List (List UInt8 × Int)) → (List (Int × (Int × (Int × Int)))) → (List zq0) → (List (Int × (Int × Int))) → Option β
def zqar : View := ⟨1, [0, 4, 6, 12, 16, 17, 18, 154], [(false, [.ptr 0 0]), (false, [.ptr 1 0]), (false, [.ptr 2 0]), (false, [.rowh 3]), (false, [.data (.int .i64)]), (false, [.data (.int .i64)]), (false, [.data (.int .i64)]), (false, [.data .bool])], [.cells 68 [.data (.slice (.int .i64)), .data (.int .i64)], .cells 32 [.rowh 4, .rowh 5, .rowh 6, .rowh 7], .cells 32 [.rowh 8, .rowh 9, .rowh 10, .rowh 11], .row 3 (.int .i64), .row 62 (.prod .str (.int .i64)), .row 64 (.prod (.int .i64) (.prod (.int .i64) (.prod (.int .i64) (.int .i64)))), .row 60 zq1, .row 73 (.prod (.int .i64) (.prod (.int .i64) (.int .i64))), .row 62 (.prod .str (.int .i64)), .row 64 (.prod (.int .i64) (.prod (.int .i64) (.prod (.int .i64) (.int .i64)))), .row 60 zq1, .row 73 (.prod (.int .i64) (.prod (.int .i64) (.int .i64)))]⟩
def zqas : List (AExit × View) := [(.normal, ⟨1, [0, 4, 6, 12, 16], [(false, [.ptr 0 0]), (false, [.ptr 1 0]), (false, [.ptr 2 0]), (false, [.rowh 3]), (false, [.data (.int .i64)])], [.cells 68 [.data (.slice (.int .i64)), .data (.int .i64)], .cells 32 [.rowh 4, .rowh 5, .rowh 6, .rowh 7], .cells 32 [.rowh 8, .rowh 9, .rowh 10, .rowh 11], .row 3 (.int .i64), .row 62 (.prod .str (.int .i64)), .row 64 (.prod (.int .i64) (.prod (.int .i64) (.prod (.int .i64) (.int .i64)))), .row 60 zq1, .row 73 (.prod (.int .i64) (.prod (.int .i64) (.int .i64))), .row 62 (.prod .str (.int .i64)), .row 64 (.prod (.int .i64) (.prod (.int .i64) (.prod (.int .i64) (.int .i64)))), .row 60 zq1, .row 73 (.prod (.int .i64) (.prod (.int .i64) (.int .i64)))]⟩)]
@[reducible] def made_Dice_Record_p4_G (p : zqaq) {β : Type} (d : zqar.den) (ks : Outs.K β zqas) : Option β :=
  p (fun a0 a1 a2 a3 a4 a5 a6 a7 a8 a9 a10 a11 => ks.1 (((), (), (), (), (a0, ()), ()), ((a1, a2, ()), (), (), a3, a4, a5, a6, a7, a8, a9, a10, a11, ()))) d.1.2.2.2.2.1.1 d.1.2.2.2.2.2.1.1 d.1.2.2.2.2.2.2.1.1 d.1.2.2.2.2.2.2.2.1.1 d.2.1.1 d.2.1.2.1 d.2.2.2.2.1 d.2.2.2.2.2.1 d.2.2.2.2.2.2.1 d.2.2.2.2.2.2.2.1 d.2.2.2.2.2.2.2.2.1 d.2.2.2.2.2.2.2.2.2.1 d.2.2.2.2.2.2.2.2.2.2.1 d.2.2.2.2.2.2.2.2.2.2.2.1 d.2.2.2.2.2.2.2.2.2.2.2.2.1
abbrev zqat (β : Type) := (List Int) → Int → (List Int) → (List (List UInt8 × Int)) → (List (Int × (Int × (Int × Int)))) → (List zq0) → (List (Int × (Int × Int))) → (List (List UInt8 × Int)) → (List (Int × (Int × (Int × Int)))) → (List zq0) → (List (Int × (Int × Int))) → Option β
abbrev zqau := {β : Type} → zqat β → Int → (List Int) → Int → (List Int) → (List (List UInt8 × Int)) → (List (Int × (Int × (Int × Int)))) → (List zq0) → (List (Int × (Int × Int))) → (List (List UInt8 × Int)) → (List (Int × (Int × (Int × Int)))) → (List zq0) → (List (Int × (Int × Int))) → Option β
def zqav : View := ⟨1, [0, 4, 6, 12, 16], [(false, [.ptr 0 0]), (false, [.ptr 1 0]), (false, [.ptr 2 0]), (false, [.rowh 3]), (false, [.data (.int .i64)])], [.cells 68 [.data (.slice (.int .i64)), .data (.int .i64)], .cells 32 [.rowh 4, .rowh 5, .rowh 6, .rowh 7], .cells 32 [.rowh 8, .rowh 9, .rowh 10, .rowh 11], .row 3 (.int .i64), .row 62 (.prod .str (.int .i64)), .row 64 (.prod (.int .i64) (.prod (.int .i64) (.prod (.int .i64) (.int .i64)))), .row 60 zq1, .row 73 (.prod (.int .i64) (.prod (.int .i64) (.int .i64))), .row 62 (.prod .str (.int .i64)), .row 64 (.prod (.int .i64) (.prod (.int .i64) (.prod (.int .i64) (.int .i64)))), .row 60 zq1, .row 73 (.prod (.int .i64) (.prod (.int .i64) (.int .i64)))]⟩
def zqaw : List (AExit × View) := [(.exit 6, ⟨1, [4, 6, 12], [(false, [.ptr 1 0]), (false, [.ptr 2 0]), (false, [.rowh 3])], [.cells 68 [.data (.slice (.int .i64)), .data (.int .i64)], .cells 32 [.rowh 4, .rowh 5, .rowh 6, .rowh 7], .cells 32 [.rowh 8, .rowh 9, .rowh 10, .rowh 11], .row 3 (.int .i64), .row 62 (.prod .str (.int .i64)), .row 64 (.prod (.int .i64) (.prod (.int .i64) (.prod (.int .i64) (.int .i64)))), .row 60 zq1, .row 73 (.prod (.int .i64) (.prod (.int .i64) (.int .i64))), .row 62 (.prod .str (.int .i64)), .row 64 (.prod (.int .i64) (.prod (.int .i64) (.prod (.int .i64) (.int .i64)))), .row 60 zq1, .row 73 (.prod (.int .i64) (.prod (.int .i64) (.int .i64)))]⟩)]
@[reducible] def made_Dice_Record_p5_G (p : zqau) {β : Type} (d : zqav.den) (ks : Outs.K β zqaw) : Option β :=
  p (fun a0 a1 a2 a3 a4 a5 a6 a7 a8 a9 a10 => ks.1 (((), (), (), ()), ((a0, a1, ()), (), (), a2, a3, a4, a5, a6, a7, a8, a9, a10, ()))) d.1.2.2.2.2.1.1 d.2.1.1 d.2.1.2.1 d.2.2.2.2.1 d.2.2.2.2.2.1 d.2.2.2.2.2.2.1 d.2.2.2.2.2.2.2.1 d.2.2.2.2.2.2.2.2.1 d.2.2.2.2.2.2.2.2.2.1 d.2.2.2.2.2.2.2.2.2.2.1 d.2.2.2.2.2.2.2.2.2.2.2.1 d.2.2.2.2.2.2.2.2.2.2.2.2.1
section
variable (c_made_Dice_Next : zq12) (c_made_Dice_One : zq19)
@[reducible] def made_Dice_Record_X : Ctx := ⟨look tab, pick1 [(22, .spec (zq13 c_made_Dice_Next)), (23, .spec (zq1a c_made_Dice_One))], false, false, false, false⟩
def zqax {β : Type} (rec : Int → Int → (List Int) → Int → (List Int) → (List (List UInt8 × Int)) → (List (Int × (Int × (Int × Int)))) → (List zq0) → (List (Int × (Int × Int))) → (List (List UInt8 × Int)) → (List (Int × (Int × (Int × Int)))) → (List zq0) → (List (Int × (Int × Int))) → Option β) (k1 : zqad β) (n : Int) (i_ : Int) (d : List Int) (d2 : Int) (ahead : List Int) (b4_ : List (List UInt8 × Int)) (b5_ : List (Int × (Int × (Int × Int)))) (b6_ : List zq0) (b7_ : List (Int × (Int × Int))) (b8_ : List (List UInt8 × Int)) (b9_ : List (Int × (Int × (Int × Int)))) (b10_ : List zq0) (b11_ : List (Int × (Int × Int))) : Option β :=
  cond (decide ((0 : Int) < i_))
  (let l : List (List UInt8) := ([([100, 98] : List UInt8), ([119, 101, 98] : List UInt8), ([108, 98] : List UInt8)] : List (List UInt8));
  cond (decide (0 ≤ (List.length b8_ : Int)) && decide ((List.length b8_ : Int) < (List.length l : Int)))
  (let l2 : List Int := ([(0 : Int), (0 : Int), (100 : Int), (50000 : Int), (500000 : Int)] : List Int);
  c_made_Dice_One l2 (d, d2) (fun (rOne : Int) (mrOne : (List Int × Int)) =>
  let l3 : List (List UInt8 × Int) := ([((List.getD l (Int.toNat (List.length b8_ : Int)) ([] : List UInt8)), rOne)] : List (List UInt8 × Int));
  cond (decide ((List.length b8_ + List.length l3) * 24 ≤ roomMax))
  (let l4 : List (List UInt8 × Int) := (b8_ ++ l3);
  let l5 : List Int := ([(0 : Int), (7 : Int), (100 : Int)] : List Int);
  c_made_Dice_One l5 mrOne (fun (rOne2 : Int) (mrOne2 : (List Int × Int)) =>
  let l6 : List Int := ([rOne2] : List Int);
  cond (decide ((List.length ahead + List.length l6) * 8 ≤ roomMax))
  (let l7 : List Int := (ahead ++ l6);
  let i_2 : Int := (IntKind.i64.wrap (i_ - (1 : Int)));
  rec n i_2 mrOne2.1 mrOne2.2 l7 b4_ b5_ b6_ b7_ l4 b9_ b10_ b11_)
  none))
  none))
  none)
  (k1 n d d2 ahead b4_ b5_ b6_ b7_ b8_ b9_ b10_ b11_)
def zqay {β : Type} : Nat → zqad β → Int → Int → (List Int) → Int → (List Int) → (List (List UInt8 × Int)) → (List (Int × (Int × (Int × Int)))) → (List zq0) → (List (Int × (Int × Int))) → (List (List UInt8 × Int)) → (List (Int × (Int × (Int × Int)))) → (List zq0) → (List (Int × (Int × Int))) → Option β
  | 0 => fun _ _ _ _ _ _ _ _ _ _ _ _ _ _ => none
  | i + 1 => fun k1 n i_ d d2 ahead b4_ b5_ b6_ b7_ b8_ b9_ b10_ b11_ => zqax c_made_Dice_One (zqay i k1) k1 n i_ d d2 ahead b4_ b5_ b6_ b7_ b8_ b9_ b10_ b11_
theorem zqaz (hΓ : ΓOk Tryz.prog (made_Dice_Record_X c_made_Dice_Next c_made_Dice_One).Γ) (i : Nat) : PieceOk Tryz.prog 177 1 made_Dice_Record_p1_code zqaf zqag (made_Dice_Record_p1_G (zqay c_made_Dice_One i)) := by
  rw [show made_Dice_Record_p1_code = .loop (loopBody made_Dice_Record_p1_code) by kernel_rfl]
  exact piece_loop (X := (made_Dice_Record_X c_made_Dice_Next c_made_Dice_One)) (p := 1) (Λ := pick1 []) (G := fun i => @fun β d ks => made_Dice_Record_p1_G (zqay c_made_Dice_One i) d ks) mixed tab_ok hΓ rfl (by kernel_rfl) CutsOk_nil (fun _ _ => rfl) (fun i => @fun β d ks r h => Eq.trans (b := made_Dice_Record_p1_G (zqay c_made_Dice_One (i + 1)) d ks) (by kernel_rfl) h) i
def zqb0 {β : Type} (rec : Int → Int → (List Int) → Int → (List Int) → (List (List UInt8 × Int)) → (List (Int × (Int × (Int × Int)))) → (List zq0) → (List (Int × (Int × Int))) → (List (List UInt8 × Int)) → (List (Int × (Int × (Int × Int)))) → (List zq0) → (List (Int × (Int × Int))) → Option β) (k1 : zqah β) (n : Int) (i_ : Int) (d : List Int) (d2 : Int) (ahead : List Int) (b4_ : List (List UInt8 × Int)) (b5_ : List (Int × (Int × (Int × Int)))) (b6_ : List zq0) (b7_ : List (Int × (Int × Int))) (b8_ : List (List UInt8 × Int)) (b9_ : List (Int × (Int × (Int × Int)))) (b10_ : List zq0) (b11_ : List (Int × (Int × Int))) : Option β :=
  cond (decide ((0 : Int) < i_))
  (c_made_Dice_Next (List.length b8_ : Int) (d, d2) (fun (rNext : Int) (mrNext : (List Int × Int)) =>
  c_made_Dice_Next (400 : Int) mrNext (fun (rNext2 : Int) (mrNext2 : (List Int × Int)) =>
  let t : Int := (IntKind.i64.wrap ((864000 : Int) + rNext2));
  cond (decide (0 ≤ rNext) && decide (rNext < (List.length ahead : Int)))
  (let l : List Int := ([(0 : Int), (3 : Int), (20 : Int)] : List Int);
  c_made_Dice_One l mrNext2 (fun (rOne : Int) (mrOne : (List Int × Int)) =>
  let l2 : List Int := ([(0 : Int), (2 : Int), (15 : Int)] : List Int);
  c_made_Dice_One l2 mrOne (fun (rOne2 : Int) (mrOne2 : (List Int × Int)) =>
  let l3 : List (Int × (Int × (Int × Int))) := ([(rNext, ((IntKind.i64.wrap (t + (List.getD ahead (Int.toNat rNext) (0 : Int)))), ((IntKind.i64.wrap (t - rOne)), (IntKind.i64.wrap (t + rOne2)))))] : List (Int × (Int × (Int × Int))));
  cond (decide ((List.length b9_ + List.length l3) * 32 ≤ roomMax))
  (let l4 : List (Int × (Int × (Int × Int))) := (b9_ ++ l3);
  let i_2 : Int := (IntKind.i64.wrap (i_ - (1 : Int)));
  rec n i_2 mrOne2.1 mrOne2.2 ahead b4_ b5_ b6_ b7_ b8_ l4 b10_ b11_)
  none)))
  none)))
  (k1 n d d2 ahead b4_ b5_ b6_ b7_ b8_ b9_ b10_ b11_)
def zqb1 {β : Type} : Nat → zqah β → Int → Int → (List Int) → Int → (List Int) → (List (List UInt8 × Int)) → (List (Int × (Int × (Int × Int)))) → (List zq0) → (List (Int × (Int × Int))) → (List (List UInt8 × Int)) → (List (Int × (Int × (Int × Int)))) → (List zq0) → (List (Int × (Int × Int))) → Option β
  | 0 => fun _ _ _ _ _ _ _ _ _ _ _ _ _ _ => none
  | i + 1 => fun k1 n i_ d d2 ahead b4_ b5_ b6_ b7_ b8_ b9_ b10_ b11_ => zqb0 c_made_Dice_Next c_made_Dice_One (zqb1 i k1) k1 n i_ d d2 ahead b4_ b5_ b6_ b7_ b8_ b9_ b10_ b11_
theorem zqb2 (hΓ : ΓOk Tryz.prog (made_Dice_Record_X c_made_Dice_Next c_made_Dice_One).Γ) (i : Nat) : PieceOk Tryz.prog 177 1 made_Dice_Record_p2_code zqaj zqak (made_Dice_Record_p2_G (zqb1 c_made_Dice_Next c_made_Dice_One i)) := by
  rw [show made_Dice_Record_p2_code = .loop (loopBody made_Dice_Record_p2_code) by kernel_rfl]
  exact piece_loop (X := (made_Dice_Record_X c_made_Dice_Next c_made_Dice_One)) (p := 1) (Λ := pick1 []) (G := fun i => @fun β d ks => made_Dice_Record_p2_G (zqb1 c_made_Dice_Next c_made_Dice_One i) d ks) mixed tab_ok hΓ rfl (by kernel_rfl) CutsOk_nil (fun _ _ => rfl) (fun i => @fun β d ks r h => Eq.trans (b := made_Dice_Record_p2_G (zqb1 c_made_Dice_Next c_made_Dice_One (i + 1)) d ks) (by kernel_rfl) h) i
def zqb3 {β : Type} (rec : Int → (List Int) → Int → (List Int) → (List Int) → (List (List UInt8 × Int)) → (List (Int × (Int × (Int × Int)))) → (List zq0) → (List (Int × (Int × Int))) → (List (List UInt8 × Int)) → (List (Int × (Int × (Int × Int)))) → (List zq0) → (List (Int × (Int × Int))) → Option β) (k1 : zqal β) (i_ : Int) (d : List Int) (d2 : Int) (ahead : List Int) (times : List Int) (b5_ : List (List UInt8 × Int)) (b6_ : List (Int × (Int × (Int × Int)))) (b7_ : List zq0) (b8_ : List (Int × (Int × Int))) (b9_ : List (List UInt8 × Int)) (b10_ : List (Int × (Int × (Int × Int)))) (b11_ : List zq0) (b12_ : List (Int × (Int × Int))) : Option β :=
  cond (decide ((0 : Int) < i_))
  (c_made_Dice_Next (List.length b9_ : Int) (d, d2) (fun (rNext : Int) (mrNext : (List Int × Int)) =>
  c_made_Dice_Next (300 : Int) mrNext (fun (rNext2 : Int) (mrNext2 : (List Int × Int)) =>
  let t : Int := (IntKind.i64.wrap ((864000 : Int) + rNext2));
  cond (decide (0 ≤ rNext) && decide (rNext < (List.length ahead : Int)))
  (let l : List (List UInt8) := ([([117, 112] : List UInt8), ([100, 111, 119, 110] : List UInt8), ([115, 108, 111, 119] : List UInt8)] : List (List UInt8));
  c_made_Dice_Next (3 : Int) mrNext2 (fun (rNext3 : Int) (mrNext3 : (List Int × Int)) =>
  cond (decide (0 ≤ rNext3) && decide (rNext3 < (List.length l : Int)))
  (let l2 : List zq0 := ([(rNext, ((IntKind.i64.wrap (t + (List.getD ahead (Int.toNat rNext) (0 : Int)))), (List.getD l (Int.toNat rNext3) ([] : List UInt8))))] : List zq0);
  cond (decide ((List.length b11_ + List.length l2) * 32 ≤ roomMax))
  (let l3 : List zq0 := (b11_ ++ l2);
  let l4 : List Int := ([t] : List Int);
  cond (decide ((List.length times + List.length l4) * 8 ≤ roomMax))
  (let l5 : List Int := (times ++ l4);
  let i_2 : Int := (IntKind.i64.wrap (i_ - (1 : Int)));
  rec i_2 mrNext3.1 mrNext3.2 ahead l5 b5_ b6_ b7_ b8_ b9_ b10_ l3 b12_)
  none)
  none)
  none))
  none)))
  (k1 d d2 times b5_ b6_ b7_ b8_ b9_ b10_ b11_ b12_)
def zqb4 {β : Type} : Nat → zqal β → Int → (List Int) → Int → (List Int) → (List Int) → (List (List UInt8 × Int)) → (List (Int × (Int × (Int × Int)))) → (List zq0) → (List (Int × (Int × Int))) → (List (List UInt8 × Int)) → (List (Int × (Int × (Int × Int)))) → (List zq0) → (List (Int × (Int × Int))) → Option β
  | 0 => fun _ _ _ _ _ _ _ _ _ _ _ _ _ _ => none
  | i + 1 => fun k1 i_ d d2 ahead times b5_ b6_ b7_ b8_ b9_ b10_ b11_ b12_ => zqb3 c_made_Dice_Next (zqb4 i k1) k1 i_ d d2 ahead times b5_ b6_ b7_ b8_ b9_ b10_ b11_ b12_
theorem zqb5 (hΓ : ΓOk Tryz.prog (made_Dice_Record_X c_made_Dice_Next c_made_Dice_One).Γ) (i : Nat) : PieceOk Tryz.prog 177 1 made_Dice_Record_p3_code zqan zqao (made_Dice_Record_p3_G (zqb4 c_made_Dice_Next i)) := by
  rw [show made_Dice_Record_p3_code = .loop (loopBody made_Dice_Record_p3_code) by kernel_rfl]
  exact piece_loop (X := (made_Dice_Record_X c_made_Dice_Next c_made_Dice_One)) (p := 1) (Λ := pick1 []) (G := fun i => @fun β d ks => made_Dice_Record_p3_G (zqb4 c_made_Dice_Next i) d ks) mixed tab_ok hΓ rfl (by kernel_rfl) CutsOk_nil (fun _ _ => rfl) (fun i => @fun β d ks r h => Eq.trans (b := made_Dice_Record_p3_G (zqb4 c_made_Dice_Next (i + 1)) d ks) (by kernel_rfl) h) i
def zqb6 {β : Type} (k1 : zqap β) (i_ : Int) (a : Int) (b : Int) (t154 : Bool) (d : List Int) (d2 : Int) (times : List Int) (b4_ : List (List UInt8 × Int)) (b5_ : List (Int × (Int × (Int × Int)))) (b6_ : List zq0) (b7_ : List (Int × (Int × Int))) (b8_ : List (List UInt8 × Int)) (b9_ : List (Int × (Int × (Int × Int)))) (b10_ : List zq0) (b11_ : List (Int × (Int × Int))) : Option β :=
  cond t154
  (cond (decide (0 ≤ b) && decide (b < (List.length times : Int)))
  (cond (decide (0 ≤ a) && decide (a < (List.length times : Int)))
  (c_made_Dice_Next (IntKind.i64.wrap ((IntKind.i64.wrap ((List.getD times (Int.toNat b) (0 : Int)) - (List.getD times (Int.toNat a) (0 : Int)))) + (1 : Int))) (d, d2) (fun (rNext : Int) (mrNext : (List Int × Int)) =>
  let l : List (Int × (Int × Int)) := ([(a, (b, rNext))] : List (Int × (Int × Int)));
  cond (decide ((List.length b11_ + List.length l) * 24 ≤ roomMax))
  (let l2 : List (Int × (Int × Int)) := (b11_ ++ l);
  k1 i_ mrNext.1 mrNext.2 times b4_ b5_ b6_ b7_ b8_ b9_ b10_ l2)
  none))
  none)
  none)
  (k1 i_ d d2 times b4_ b5_ b6_ b7_ b8_ b9_ b10_ b11_)
def zqb7 {β : Type} (k1 : zqap β) (i_ : Int) (a : Int) (b : Int) (t154 : Bool) (d : List Int) (d2 : Int) (times : List Int) (b4_ : List (List UInt8 × Int)) (b5_ : List (Int × (Int × (Int × Int)))) (b6_ : List zq0) (b7_ : List (Int × (Int × Int))) (b8_ : List (List UInt8 × Int)) (b9_ : List (Int × (Int × (Int × Int)))) (b10_ : List zq0) (b11_ : List (Int × (Int × Int))) : Option β := zqb6 c_made_Dice_Next k1 i_ a b t154 d d2 times b4_ b5_ b6_ b7_ b8_ b9_ b10_ b11_
theorem zqb8 (hΓ : ΓOk Tryz.prog (made_Dice_Record_X c_made_Dice_Next c_made_Dice_One).Γ) : PieceOk Tryz.prog 177 1 made_Dice_Record_p4_code zqar zqas (made_Dice_Record_p4_G (zqb7 c_made_Dice_Next)) :=
  piece_exec (X := (made_Dice_Record_X c_made_Dice_Next c_made_Dice_One)) (p := 51) (Λ := pick1 []) mixed tab_ok hΓ (by kernel_rfl) CutsOk_nil (fun d ks r h => Eq.trans (b := made_Dice_Record_p4_G (zqb7 c_made_Dice_Next) d ks) (by kernel_rfl) h)
def zqb9 (p4 : zqaq) {β : Type} (rec : Int → (List Int) → Int → (List Int) → (List (List UInt8 × Int)) → (List (Int × (Int × (Int × Int)))) → (List zq0) → (List (Int × (Int × Int))) → (List (List UInt8 × Int)) → (List (Int × (Int × (Int × Int)))) → (List zq0) → (List (Int × (Int × Int))) → Option β) (k1 : zqat β) (i_ : Int) (d : List Int) (d2 : Int) (times : List Int) (b4_ : List (List UInt8 × Int)) (b5_ : List (Int × (Int × (Int × Int)))) (b6_ : List zq0) (b7_ : List (Int × (Int × Int))) (b8_ : List (List UInt8 × Int)) (b9_ : List (Int × (Int × (Int × Int)))) (b10_ : List zq0) (b11_ : List (Int × (Int × Int))) : Option β :=
  cond (decide ((0 : Int) < i_))
  (cond (decide ((1 : Int) < (List.length times : Int)))
  (c_made_Dice_Next (List.length times : Int) (d, d2) (fun (rNext : Int) (mrNext : (List Int × Int)) =>
  c_made_Dice_Next (List.length times : Int) mrNext (fun (rNext2 : Int) (mrNext2 : (List Int × Int)) =>
  cond (!decide (rNext = rNext2))
  (cond (decide (0 ≤ rNext) && decide (rNext < (List.length times : Int)))
  (cond (decide (0 ≤ rNext2) && decide (rNext2 < (List.length times : Int)))
  (p4 (fun (i_2 : Int) (d3 : List Int) (d4 : Int) (times2 : List Int) (b4_2 : List (List UInt8 × Int)) (b5_2 : List (Int × (Int × (Int × Int)))) (b6_2 : List zq0) (b7_2 : List (Int × (Int × Int))) (b8_2 : List (List UInt8 × Int)) (b9_2 : List (Int × (Int × (Int × Int)))) (b10_2 : List zq0) (b11_2 : List (Int × (Int × Int))) =>
  let i_3 : Int := (IntKind.i64.wrap (i_2 - (1 : Int)));
  rec i_3 d3 d4 times2 b4_2 b5_2 b6_2 b7_2 b8_2 b9_2 b10_2 b11_2) i_ rNext rNext2 (decide ((List.getD times (Int.toNat rNext) (0 : Int)) ≤ (List.getD times (Int.toNat rNext2) (0 : Int)))) mrNext2.1 mrNext2.2 times b4_ b5_ b6_ b7_ b8_ b9_ b10_ b11_)
  none)
  none)
  (p4 (fun (i_2 : Int) (d3 : List Int) (d4 : Int) (times2 : List Int) (b4_2 : List (List UInt8 × Int)) (b5_2 : List (Int × (Int × (Int × Int)))) (b6_2 : List zq0) (b7_2 : List (Int × (Int × Int))) (b8_2 : List (List UInt8 × Int)) (b9_2 : List (Int × (Int × (Int × Int)))) (b10_2 : List zq0) (b11_2 : List (Int × (Int × Int))) =>
  let i_3 : Int := (IntKind.i64.wrap (i_2 - (1 : Int)));
  rec i_3 d3 d4 times2 b4_2 b5_2 b6_2 b7_2 b8_2 b9_2 b10_2 b11_2) i_ rNext rNext2 false mrNext2.1 mrNext2.2 times b4_ b5_ b6_ b7_ b8_ b9_ b10_ b11_))))
  (k1 d d2 times b4_ b5_ b6_ b7_ b8_ b9_ b10_ b11_))
  (k1 d d2 times b4_ b5_ b6_ b7_ b8_ b9_ b10_ b11_)
def zqba (p4 : zqaq) {β : Type} : Nat → zqat β → Int → (List Int) → Int → (List Int) → (List (List UInt8 × Int)) → (List (Int × (Int × (Int × Int)))) → (List zq0) → (List (Int × (Int × Int))) → (List (List UInt8 × Int)) → (List (Int × (Int × (Int × Int)))) → (List zq0) → (List (Int × (Int × Int))) → Option β
  | 0 => fun _ _ _ _ _ _ _ _ _ _ _ _ _ => none
  | i + 1 => fun k1 i_ d d2 times b4_ b5_ b6_ b7_ b8_ b9_ b10_ b11_ => zqb9 c_made_Dice_Next p4 (zqba p4 i k1) k1 i_ d d2 times b4_ b5_ b6_ b7_ b8_ b9_ b10_ b11_
theorem zqbb (hΓ : ΓOk Tryz.prog (made_Dice_Record_X c_made_Dice_Next c_made_Dice_One).Γ) (p4 : zqaq) (hp4 : PieceOk Tryz.prog 177 1 made_Dice_Record_p4_code zqar zqas (made_Dice_Record_p4_G p4)) (i : Nat) : PieceOk Tryz.prog 177 1 made_Dice_Record_p5_code zqav zqaw (made_Dice_Record_p5_G (zqba c_made_Dice_Next p4 i)) := by
  rw [show made_Dice_Record_p5_code = .loop (loopBody made_Dice_Record_p5_code) by kernel_rfl]
  exact piece_loop (X := (made_Dice_Record_X c_made_Dice_Next c_made_Dice_One)) (p := 1) (Λ := pick1 [(51, pieceCut zqar zqas (made_Dice_Record_p4_G p4))]) (G := fun i => @fun β d ks => made_Dice_Record_p5_G (zqba c_made_Dice_Next p4 i) d ks) mixed tab_ok hΓ rfl (by kernel_rfl) (CutsOk_cons (q := 51) (c' := made_Dice_Record_p4_code) (by kernel_rfl) rfl hp4 CutsOk_nil) (fun _ _ => rfl) (fun i => @fun β d ks r h => Eq.trans (b := made_Dice_Record_p5_G (zqba c_made_Dice_Next p4 (i + 1)) d ks) (by kernel_rfl) h) i
def zqbc (p1 : zqae) (p2 : zqai) (p3 : zqam) (p5 : zqau) {β : Type} (n : Int) (d : (List Int × Int)) (k : (zq2 → (List Int × Int) → (List Int) → Option β)) : Option β :=
  c_made_Dice_Next (3 : Int) d (fun (rNext : Int) (mrNext : (List Int × Int)) =>
  let i_ : Int := (IntKind.i64.wrap ((1 : Int) + rNext));
  p1 (fun (n2 : Int) (d2 : List Int) (d3 : Int) (ahead : List Int) (b4_ : List (List UInt8 × Int)) (b5_ : List (Int × (Int × (Int × Int)))) (b6_ : List zq0) (b7_ : List (Int × (Int × Int))) (b8_ : List (List UInt8 × Int)) (b9_ : List (Int × (Int × (Int × Int)))) (b10_ : List zq0) (b11_ : List (Int × (Int × Int))) =>
  c_made_Dice_Next (5 : Int) (d2, d3) (fun (rNext2 : Int) (mrNext2 : (List Int × Int)) =>
  p2 (fun (n3 : Int) (d4 : List Int) (d5 : Int) (ahead2 : List Int) (b4_2 : List (List UInt8 × Int)) (b5_2 : List (Int × (Int × (Int × Int)))) (b6_2 : List zq0) (b7_2 : List (Int × (Int × Int))) (b8_2 : List (List UInt8 × Int)) (b9_2 : List (Int × (Int × (Int × Int)))) (b10_2 : List zq0) (b11_2 : List (Int × (Int × Int))) =>
  c_made_Dice_Next (IntKind.i64.wrap (n3 + (1 : Int))) (d4, d5) (fun (rNext3 : Int) (mrNext3 : (List Int × Int)) =>
  p3 (fun (d6 : List Int) (d7 : Int) (times : List Int) (b4_3 : List (List UInt8 × Int)) (b5_3 : List (Int × (Int × (Int × Int)))) (b6_3 : List zq0) (b7_3 : List (Int × (Int × Int))) (b8_3 : List (List UInt8 × Int)) (b9_3 : List (Int × (Int × (Int × Int)))) (b10_3 : List zq0) (b11_3 : List (Int × (Int × Int))) =>
  c_made_Dice_Next (4 : Int) (d6, d7) (fun (rNext4 : Int) (mrNext4 : (List Int × Int)) =>
  p5 (fun (b0_ : List Int) (b0_2 : Int) (times2 : List Int) (b4_4 : List (List UInt8 × Int)) (b5_4 : List (Int × (Int × (Int × Int)))) (b6_4 : List zq0) (b7_4 : List (Int × (Int × Int))) (b8_4 : List (List UInt8 × Int)) (b9_4 : List (Int × (Int × (Int × Int)))) (b10_4 : List zq0) (b11_4 : List (Int × (Int × Int))) =>
  k (b8_4, (b9_4, (b10_4, b11_4))) (b0_, b0_2) times2) rNext4 mrNext4.1 mrNext4.2 times b4_3 b5_3 b6_3 b7_3 b8_3 b9_3 b10_3 b11_3)) rNext3 mrNext3.1 mrNext3.2 ahead2 ([] : List Int) b4_2 b5_2 b6_2 b7_2 b8_2 b9_2 b10_2 b11_2)) n2 rNext2 mrNext2.1 mrNext2.2 ahead b4_ b5_ b6_ b7_ b8_ b9_ b10_ b11_)) n i_ mrNext.1 mrNext.2 ([] : List Int) ([] : List (List UInt8 × Int)) ([] : List (Int × (Int × (Int × Int)))) ([] : List zq0) ([] : List (Int × (Int × Int))) ([] : List (List UInt8 × Int)) ([] : List (Int × (Int × (Int × Int)))) ([] : List zq0) ([] : List (Int × (Int × Int))))
theorem zqbd (hΓ : ΓOk Tryz.prog (made_Dice_Record_X c_made_Dice_Next c_made_Dice_One).Γ) (p1 : zqae) (p2 : zqai) (p3 : zqam) (p5 : zqau) (hp1 : PieceOk Tryz.prog 177 1 made_Dice_Record_p1_code zqaf zqag (made_Dice_Record_p1_G p1)) (hp2 : PieceOk Tryz.prog 177 1 made_Dice_Record_p2_code zqaj zqak (made_Dice_Record_p2_G p2)) (hp3 : PieceOk Tryz.prog 177 1 made_Dice_Record_p3_code zqan zqao (made_Dice_Record_p3_G p3)) (hp5 : PieceOk Tryz.prog 177 1 made_Dice_Record_p5_code zqav zqaw (made_Dice_Record_p5_G p5)) : SpecOk Tryz.prog 9 (zqac (zqbc c_made_Dice_Next p1 p2 p3 p5)) :=
  spec_exec (X := (made_Dice_Record_X c_made_Dice_Next c_made_Dice_One)) (Λ := pick1 [(122, pieceCut zqaf zqag (made_Dice_Record_p1_G p1)), (250, pieceCut zqaj zqak (made_Dice_Record_p2_G p2)), (1018, pieceCut zqan zqao (made_Dice_Record_p3_G p3)), (2042, pieceCut zqav zqaw (made_Dice_Record_p5_G p5))]) (rs := [.cell 4 32, .tmp 5]) (c := bodyOf Tryz.f9) mixed tab_ok hΓ Tryz.func9 (by kernel_rfl) (by kernel_rfl) (by kernel_rfl) (by kernel_rfl) (CutsOk_cons (q := 122) (c' := made_Dice_Record_p1_code) (by kernel_rfl) rfl hp1 (CutsOk_cons (q := 250) (c' := made_Dice_Record_p2_code) (by kernel_rfl) rfl hp2 (CutsOk_cons (q := 1018) (c' := made_Dice_Record_p3_code) (by kernel_rfl) rfl hp3 (CutsOk_cons (q := 2042) (c' := made_Dice_Record_p5_code) (by kernel_rfl) rfl hp5 CutsOk_nil)))) (fun x k r h => Eq.trans (b := (zqac (zqbc c_made_Dice_Next p1 p2 p3 p5)).run x k) (by kernel_rfl) h)
end
theorem zqbeΓ : ΓOk Tryz.prog (pick1 [(22, .spec (zq13 zq17)), (23, .spec (zq1a zq1e))]) := (ΓOk_cons zq18 (ΓOk_cons zq1f ΓOk_nil))
def zqbf (m : Nat) : zqae := zqay zq1e m
theorem zqbg {β : Type} (i : Nat) (k1 n i_ d d2 ahead b4_ b5_ b6_ b7_ b8_ b9_ b10_ b11_) : (zqbf (i + 1) k1 n i_ d d2 ahead b4_ b5_ b6_ b7_ b8_ b9_ b10_ b11_ : Option β) = zqax zq1e (zqbf i k1) k1 n i_ d d2 ahead b4_ b5_ b6_ b7_ b8_ b9_ b10_ b11_ := rfl
def zqbh : zqae := zqbf fuel
theorem zqbi : PieceOk Tryz.prog 177 1 made_Dice_Record_p1_code zqaf zqag (made_Dice_Record_p1_G zqbh) := zqaz zq17 zq1e zqbeΓ fuel
def zqbj (m : Nat) : zqai := zqb1 zq17 zq1e m
theorem zqbk {β : Type} (i : Nat) (k1 n i_ d d2 ahead b4_ b5_ b6_ b7_ b8_ b9_ b10_ b11_) : (zqbj (i + 1) k1 n i_ d d2 ahead b4_ b5_ b6_ b7_ b8_ b9_ b10_ b11_ : Option β) = zqb0 zq17 zq1e (zqbj i k1) k1 n i_ d d2 ahead b4_ b5_ b6_ b7_ b8_ b9_ b10_ b11_ := rfl
def zqbl : zqai := zqbj fuel
theorem zqbm : PieceOk Tryz.prog 177 1 made_Dice_Record_p2_code zqaj zqak (made_Dice_Record_p2_G zqbl) := zqb2 zq17 zq1e zqbeΓ fuel
def zqbn (m : Nat) : zqam := zqb4 zq17 m
theorem zqbo {β : Type} (i : Nat) (k1 i_ d d2 ahead times b5_ b6_ b7_ b8_ b9_ b10_ b11_ b12_) : (zqbn (i + 1) k1 i_ d d2 ahead times b5_ b6_ b7_ b8_ b9_ b10_ b11_ b12_ : Option β) = zqb3 zq17 (zqbn i k1) k1 i_ d d2 ahead times b5_ b6_ b7_ b8_ b9_ b10_ b11_ b12_ := rfl
def zqbp : zqam := zqbn fuel
theorem zqbq : PieceOk Tryz.prog 177 1 made_Dice_Record_p3_code zqan zqao (made_Dice_Record_p3_G zqbp) := zqb5 zq17 zq1e zqbeΓ fuel
def zqbr : zqaq := zqb7 zq17
theorem zqbs : PieceOk Tryz.prog 177 1 made_Dice_Record_p4_code zqar zqas (made_Dice_Record_p4_G zqbr) := zqb8 zq17 zq1e zqbeΓ
def zqbt (m : Nat) : zqau := zqba zq17 zqbr m
theorem zqbu {β : Type} (i : Nat) (k1 i_ d d2 times b4_ b5_ b6_ b7_ b8_ b9_ b10_ b11_) : (zqbt (i + 1) k1 i_ d d2 times b4_ b5_ b6_ b7_ b8_ b9_ b10_ b11_ : Option β) = zqb9 zq17 zqbr (zqbt i k1) k1 i_ d d2 times b4_ b5_ b6_ b7_ b8_ b9_ b10_ b11_ := rfl
def zqbv : zqau := zqbt fuel
theorem zqbw : PieceOk Tryz.prog 177 1 made_Dice_Record_p5_code zqav zqaw (made_Dice_Record_p5_G zqbv) := zqbb zq17 zq1e zqbeΓ zqbr zqbs fuel
def zqbx : zqab := zqbc zq17 zqbh zqbl zqbp zqbv
theorem zqby : SpecOk Tryz.prog 9 (zqac zqbx) := zqbd zq17 zq1e zqbeΓ zqbh zqbl zqbp zqbv zqbi zqbm zqbq zqbw

/-- pagewatch/timeline.Check$1 -/
abbrev zqbz := {β : Type} → api_Row → api_Row → (Bool → Option β) → Option β
def zqc0 (c : zqbz) : Spec :=
  ⟨[(true, [.data zq4]), (true, [.data zq4])], [], [(false, [.data .bool])], [], fun x k => c x.1.1.1 x.1.2.1.1 (fun r0 => k (((r0, ()), ()), ()))⟩
section
variable (c_slices_Equal_int_int : zq1g)
@[reducible] def timeline_Check_f1_X : Ctx := ⟨look tab, pick1 [(29, .spec (zq1h c_slices_Equal_int_int))], false, false, false, false⟩
def zqc1 {β : Type} (a : api_Row) (b : api_Row) (k : (Bool → Option β)) : Option β :=
  cond (decide (a.1 = b.1))
  (cond (decide (a.2.1.1 = b.2.1.1) && (decide (a.2.1.2 = b.2.1.2) && true))
  (c_slices_Equal_int_int a.2.2 b.2.2 (fun (rEqualintint : Bool) =>
  k rEqualintint))
  (k false))
  (k false)
theorem zqc2 (hΓ : ΓOk Tryz.prog (timeline_Check_f1_X c_slices_Equal_int_int).Γ) : SpecOk Tryz.prog 28 (zqc0 (zqc1 c_slices_Equal_int_int)) :=
  spec_exec (X := (timeline_Check_f1_X c_slices_Equal_int_int)) (Λ := pick1 []) (rs := [.tmp 4]) (c := bodyOf Tryz.f28) mixed tab_ok hΓ Tryz.func28 (by kernel_rfl) (by kernel_rfl) (by kernel_rfl) (by kernel_rfl) CutsOk_nil (fun x k r h => Eq.trans (b := (zqc0 (zqc1 c_slices_Equal_int_int)).run x k) (by kernel_rfl) h)
end
theorem zqc3Γ : ΓOk Tryz.prog (pick1 [(29, .spec (zq1h zq1x))]) := (ΓOk_cons zq1y ΓOk_nil)
def zqc4 : zqbz := zqc1 zq1x
theorem zqc5 : SpecOk Tryz.prog 28 (zqc0 zqc4) := zqc2 zq1x zqc3Γ

/-- (pagewatch/order.matrix).earlier -/
abbrev zqc6 := {β : Type} → (List (List Int)) → Int → Int → (Bool → Option β) → Option β
def zqc7 (c : zqc6) : Spec :=
  ⟨[(false, [.data (.slice (.slice (.int .i64)))]), (false, [.data (.int .i64)]), (false, [.data (.int .i64)])], [], [(false, [.data .bool])], [], fun x k => c x.1.1.1 x.1.2.1.1 x.1.2.2.1.1 (fun r0 => k (((r0, ()), ()), ()))⟩
section
variable (c_order_matrix_when : zq6q)
@[reducible] def order_matrix_earlier_X : Ctx := ⟨look tab, pick1 [(70, .spec (zq6r c_order_matrix_when))], false, false, false, false⟩
def zqc8 {β : Type} (m : List (List Int)) (a : Int) (b : Int) (k : (Bool → Option β)) : Option β :=
  c_order_matrix_when m a (fun (rwhen : (Int × Int)) =>
  c_order_matrix_when m b (fun (rwhen2 : (Int × Int)) =>
  cond (decide (rwhen.1 < rwhen2.1))
  (k true)
  (cond (decide (rwhen.1 = rwhen2.1))
  (let t : Bool := (decide (rwhen.2 < rwhen2.2));
  k t)
  (k false))))
theorem zqc9 (hΓ : ΓOk Tryz.prog (order_matrix_earlier_X c_order_matrix_when).Γ) : SpecOk Tryz.prog 46 (zqc7 (zqc8 c_order_matrix_when)) :=
  spec_exec (X := (order_matrix_earlier_X c_order_matrix_when)) (Λ := pick1 []) (rs := [.tmp 6]) (c := bodyOf Tryz.f46) mixed tab_ok hΓ Tryz.func46 (by kernel_rfl) (by kernel_rfl) (by kernel_rfl) (by kernel_rfl) CutsOk_nil (fun x k r h => Eq.trans (b := (zqc7 (zqc8 c_order_matrix_when)).run x k) (by kernel_rfl) h)
end
theorem zqcaΓ : ΓOk Tryz.prog (pick1 [(70, .spec (zq6r zq6v))]) := (ΓOk_cons zq6w ΓOk_nil)
def zqcb : zqc6 := zqc8 zq6v
theorem zqcc : SpecOk Tryz.prog 46 (zqc7 zqcb) := zqc9 zq6v zqcaΓ

/-- slices.Contains[[]int,int] -/
abbrev zqcd := {β : Type} → (List Int) → Int → (Bool → Option β) → Option β
def zqce (c : zqcd) : Spec :=
  ⟨[(false, [.data (.slice (.int .i64))]), (false, [.data (.int .i64)])], [], [(false, [.data .bool])], [], fun x k => c x.1.1.1 x.1.2.1.1 (fun r0 => k (((r0, ()), ()), ()))⟩
section
variable (c_slices_Index_int_int : zq74)
@[reducible] def slices_Contains_int_int_X : Ctx := ⟨look tab, pick1 [(74, .spec (zq75 c_slices_Index_int_int))], false, false, false, false⟩
def zqcf {β : Type} (s : List Int) (v : Int) (k : (Bool → Option β)) : Option β :=
  c_slices_Index_int_int s v (fun (rIndexintint : Int) =>
  let t : Bool := (decide ((0 : Int) ≤ rIndexintint));
  k t)
theorem zqcg (hΓ : ΓOk Tryz.prog (slices_Contains_int_int_X c_slices_Index_int_int).Γ) : SpecOk Tryz.prog 51 (zqce (zqcf c_slices_Index_int_int)) :=
  spec_exec (X := (slices_Contains_int_int_X c_slices_Index_int_int)) (Λ := pick1 []) (rs := [.tmp 4]) (c := bodyOf Tryz.f51) mixed tab_ok hΓ Tryz.func51 (by kernel_rfl) (by kernel_rfl) (by kernel_rfl) (by kernel_rfl) CutsOk_nil (fun x k r h => Eq.trans (b := (zqce (zqcf c_slices_Index_int_int)).run x k) (by kernel_rfl) h)
end
theorem zqchΓ : ΓOk Tryz.prog (pick1 [(74, .spec (zq75 zq7l))]) := (ΓOk_cons zq7m ΓOk_nil)
def zqci : zqcd := zqcf zq7l
theorem zqcj : SpecOk Tryz.prog 51 (zqce zqci) := zqcg zq7l zqchΓ

/-- pagewatch/pagewatchref39.Close -/
abbrev zqck := {β : Type} → Int → (List (Int × (Int × Int))) → ((List (List Int)) → Bool → Option β) → Option β
def zqcl (c : zqck) : Spec :=
  ⟨[(false, [.data (.int .i64)]), (false, [.data (.slice (.prod (.int .i64) (.prod (.int .i64) (.int .i64))))])], [], [(false, [.data (.slice (.slice (.int .i64)))]), (false, [.data .bool])], [], fun x k => c x.1.1.1 x.1.2.1.1 (fun r0 r1 => k (((r0, ()), (r1, ()), ()), ()))⟩
noncomputable def ref39_Close_p2_code : Code := codeAt 122 (bodyOf Tryz.f54)
noncomputable def ref39_Close_p3_code : Code := codeAt 250 (bodyOf Tryz.f54)
noncomputable def ref39_Close_p8_code : Code := codeAt 506 (bodyOf Tryz.f54)
noncomputable def ref39_Close_p1_code : Code := codeAt 202 (loopBody ref39_Close_p2_code)
noncomputable def ref39_Close_p6_code : Code := codeAt 98 (loopBody ref39_Close_p8_code)
noncomputable def ref39_Close_p7_code : Code := codeAt 102 (loopBody ref39_Close_p8_code)
noncomputable def ref39_Close_p5_code : Code := codeAt 50 (loopBody ref39_Close_p6_code)
noncomputable def ref39_Close_p4_code : Code := codeAt 25 (loopBody ref39_Close_p5_code)
abbrev zqcm (β : Type) := Int → (List (Int × (Int × Int))) → Int → (List (List Int)) → (List Int) → Option β
abbrev zqcn := {β : Type} → zqcm β → Int → (List (Int × (Int × Int))) → Int → Int → (List (List Int)) → (List Int) → Option β
def zqco : View := ⟨0, [0, 1, 6, 7, 8, 9], [(false, [.data (.int .i64)]), (false, [.data (.slice (.prod (.int .i64) (.prod (.int .i64) (.int .i64))))]), (false, [.math 0]), (false, [.data (.int .i64)]), (false, [.rowh 1]), (false, [.data (.int .i64)])], [.mat 22 3 (.int .i64), .row 3 (.int .i64)]⟩
def zqcp : List (AExit × View) := [(.exit 2, ⟨0, [0, 1, 6, 7, 8], [(false, [.data (.int .i64)]), (false, [.data (.slice (.prod (.int .i64) (.prod (.int .i64) (.int .i64))))]), (false, [.math 0]), (false, [.data (.int .i64)]), (false, [.rowh 1])], [.mat 22 3 (.int .i64), .row 3 (.int .i64)]⟩)]
@[reducible] def ref39_Close_p1_G (p : zqcn) {β : Type} (d : zqco.den) (ks : Outs.K β zqcp) : Option β :=
  p (fun a0 a1 a2 a3 a4 => ks.1 (((a0, ()), (a1, ()), (), (a2, ()), (), ()), (a3, a4, ()))) d.1.1.1 d.1.2.1.1 d.1.2.2.2.1.1 d.1.2.2.2.2.2.1.1 d.2.1 d.2.2.1
abbrev zqcq (β : Type) := Int → (List (Int × (Int × Int))) → (List (List Int)) → Option β
abbrev zqcr := {β : Type} → zqcq β → Int → (List (Int × (Int × Int))) → Int → (List (List Int)) → Option β
def zqcs : View := ⟨0, [0, 1, 6, 7], [(false, [.data (.int .i64)]), (false, [.data (.slice (.prod (.int .i64) (.prod (.int .i64) (.int .i64))))]), (false, [.math 0]), (false, [.data (.int .i64)])], [.mat 22 3 (.int .i64)]⟩
def zqct : List (AExit × View) := [(.exit 0, ⟨0, [0, 1, 6], [(false, [.data (.int .i64)]), (false, [.data (.slice (.prod (.int .i64) (.prod (.int .i64) (.int .i64))))]), (false, [.math 0])], [.mat 22 3 (.int .i64)]⟩)]
@[reducible] def ref39_Close_p2_G (p : zqcr) {β : Type} (d : zqcs.den) (ks : Outs.K β zqct) : Option β :=
  p (fun a0 a1 a2 => ks.1 (((a0, ()), (a1, ()), (), ()), (a2, ()))) d.1.1.1 d.1.2.1.1 d.1.2.2.2.1.1 d.2.1
abbrev zqcu (β : Type) := Bool → (List (List Int)) → Option β
abbrev zqcv (β : Type) := Int → (List (List Int)) → Option β
abbrev zqcw := {β : Type} → zqcu β → zqcv β → Int → (List (Int × (Int × Int))) → Int → (List (List Int)) → Option β
def zqcx : View := ⟨0, [0, 1, 6, 10], [(false, [.data (.int .i64)]), (false, [.data (.slice (.prod (.int .i64) (.prod (.int .i64) (.int .i64))))]), (false, [.math 0]), (false, [.data (.int .i64)])], [.mat 22 3 (.int .i64)]⟩
def zqcy : List (AExit × View) := [(.ret, ⟨0, [4, 5], [(false, [.math 0]), (false, [.data .bool])], [.mat 22 3 (.int .i64)]⟩), (.exit 4, ⟨0, [0, 6], [(false, [.data (.int .i64)]), (false, [.math 0])], [.mat 22 3 (.int .i64)]⟩)]
@[reducible] def ref39_Close_p3_G (p : zqcw) {β : Type} (d : zqcx.den) (ks : Outs.K β zqcy) : Option β :=
  p (fun a0 a1 => ks.1 (((), (a0, ()), ()), (a1, ()))) (fun a0 a1 => ks.2.1 (((a0, ()), (), ()), (a1, ()))) d.1.1.1 d.1.2.1.1 d.1.2.2.2.1.1 d.2.1
abbrev zqcz (β : Type) := Int → Int → Int → Int → (List (List Int)) → Option β
abbrev zqd0 := {β : Type} → zqcz β → Int → Int → Int → Int → Bool → (List (List Int)) → Option β
def zqd1 : View := ⟨0, [0, 6, 11, 12, 13, 131], [(false, [.data (.int .i64)]), (false, [.math 0]), (false, [.data (.int .i64)]), (false, [.data (.int .i64)]), (false, [.data (.int .i64)]), (false, [.data .bool])], [.mat 22 3 (.int .i64)]⟩
def zqd2 : List (AExit × View) := [(.normal, ⟨0, [0, 6, 11, 12, 13], [(false, [.data (.int .i64)]), (false, [.math 0]), (false, [.data (.int .i64)]), (false, [.data (.int .i64)]), (false, [.data (.int .i64)])], [.mat 22 3 (.int .i64)]⟩)]
@[reducible] def ref39_Close_p4_G (p : zqd0) {β : Type} (d : zqd1.den) (ks : Outs.K β zqd2) : Option β :=
  p (fun a0 a1 a2 a3 a4 => ks.1 (((a0, ()), (), (a1, ()), (a2, ()), (a3, ()), ()), (a4, ()))) d.1.1.1 d.1.2.2.1.1 d.1.2.2.2.1.1 d.1.2.2.2.2.1.1 d.1.2.2.2.2.2.1.1 d.2.1
abbrev zqd3 (β : Type) := Int → Int → Int → (List (List Int)) → Option β
abbrev zqd4 := {β : Type} → zqd3 β → Int → Int → Int → Int → (List (List Int)) → Option β
def zqd5 : View := ⟨0, [0, 6, 11, 12, 13], [(false, [.data (.int .i64)]), (false, [.math 0]), (false, [.data (.int .i64)]), (false, [.data (.int .i64)]), (false, [.data (.int .i64)])], [.mat 22 3 (.int .i64)]⟩
def zqd6 : List (AExit × View) := [(.exit 10, ⟨0, [0, 6, 11, 12], [(false, [.data (.int .i64)]), (false, [.math 0]), (false, [.data (.int .i64)]), (false, [.data (.int .i64)])], [.mat 22 3 (.int .i64)]⟩)]
@[reducible] def ref39_Close_p5_G (p : zqd4) {β : Type} (d : zqd5.den) (ks : Outs.K β zqd6) : Option β :=
  p (fun a0 a1 a2 a3 => ks.1 (((a0, ()), (), (a1, ()), (a2, ()), ()), (a3, ()))) d.1.1.1 d.1.2.2.1.1 d.1.2.2.2.1.1 d.1.2.2.2.2.1.1 d.2.1
abbrev zqd7 (β : Type) := Int → Int → (List (List Int)) → Option β
abbrev zqd8 := {β : Type} → zqd7 β → Int → Int → Int → (List (List Int)) → Option β
def zqd9 : View := ⟨0, [0, 6, 11, 12], [(false, [.data (.int .i64)]), (false, [.math 0]), (false, [.data (.int .i64)]), (false, [.data (.int .i64)])], [.mat 22 3 (.int .i64)]⟩
def zqda : List (AExit × View) := [(.exit 8, ⟨0, [0, 6, 11], [(false, [.data (.int .i64)]), (false, [.math 0]), (false, [.data (.int .i64)])], [.mat 22 3 (.int .i64)]⟩)]
@[reducible] def ref39_Close_p6_G (p : zqd8) {β : Type} (d : zqd9.den) (ks : Outs.K β zqda) : Option β :=
  p (fun a0 a1 a2 => ks.1 (((a0, ()), (), (a1, ()), ()), (a2, ()))) d.1.1.1 d.1.2.2.1.1 d.1.2.2.2.1.1 d.2.1
abbrev zqdb (β : Type) := Bool → (List (List Int)) → Option β
abbrev zqdc (β : Type) := Int → Int → (List (List Int)) → Option β
abbrev zqdd := {β : Type} → zqdb β → zqdc β → Int → Int → Int → (List (List Int)) → Option β
def zqde : View := ⟨0, [0, 6, 11, 14], [(false, [.data (.int .i64)]), (false, [.math 0]), (false, [.data (.int .i64)]), (false, [.data (.int .i64)])], [.mat 22 3 (.int .i64)]⟩
def zqdf : List (AExit × View) := [(.ret, ⟨0, [4, 5], [(false, [.math 0]), (false, [.data .bool])], [.mat 22 3 (.int .i64)]⟩), (.exit 12, ⟨0, [0, 6, 11], [(false, [.data (.int .i64)]), (false, [.math 0]), (false, [.data (.int .i64)])], [.mat 22 3 (.int .i64)]⟩)]
@[reducible] def ref39_Close_p7_G (p : zqdd) {β : Type} (d : zqde.den) (ks : Outs.K β zqdf) : Option β :=
  p (fun a0 a1 => ks.1 (((), (a0, ()), ()), (a1, ()))) (fun a0 a1 a2 => ks.2.1 (((a0, ()), (), (a1, ()), ()), (a2, ()))) d.1.1.1 d.1.2.2.1.1 d.1.2.2.2.1.1 d.2.1
abbrev zqdg (β : Type) := Bool → (List (List Int)) → Option β
abbrev zqdh (β : Type) := (List (List Int)) → Option β
abbrev zqdi := {β : Type} → zqdg β → zqdh β → Int → Int → (List (List Int)) → Option β
def zqdj : View := ⟨0, [0, 6, 11], [(false, [.data (.int .i64)]), (false, [.math 0]), (false, [.data (.int .i64)])], [.mat 22 3 (.int .i64)]⟩
def zqdk : List (AExit × View) := [(.ret, ⟨0, [4, 5], [(false, [.math 0]), (false, [.data .bool])], [.mat 22 3 (.int .i64)]⟩), (.exit 6, ⟨0, [6], [(false, [.math 0])], [.mat 22 3 (.int .i64)]⟩)]
@[reducible] def ref39_Close_p8_G (p : zqdi) {β : Type} (d : zqdj.den) (ks : Outs.K β zqdk) : Option β :=
  p (fun a0 a1 => ks.1 (((), (a0, ()), ()), (a1, ()))) (fun a0 => ks.2.1 (((), ()), (a0, ()))) d.1.1.1 d.1.2.2.1.1 d.2.1
section
variable (c_ref39_Valid : zq67)
@[reducible] def ref39_Close_X : Ctx := ⟨look tab, pick1 [(65, .spec (zq68 c_ref39_Valid))], true, false, false, false⟩
def zqdl {β : Type} (rec : Int → (List (Int × (Int × Int))) → Int → Int → (List (List Int)) → (List Int) → Option β) (k1 : zqcm β) (n : Int) (l : List (Int × (Int × Int))) (i_ : Int) (j : Int) (d : List (List Int)) (row : List Int) : Option β :=
  cond (decide (j < n))
  (let l2 : List Int := ([(1099511627776 : Int)] : List Int);
  cond (decide ((List.length row + List.length l2) * 8 ≤ roomMax))
  (let l3 : List Int := (row ++ l2);
  let j2 : Int := (IntKind.i64.wrap (j + (1 : Int)));
  rec n l i_ j2 d l3)
  none)
  (k1 n l i_ d row)
def zqdm {β : Type} : Nat → zqcm β → Int → (List (Int × (Int × Int))) → Int → Int → (List (List Int)) → (List Int) → Option β
  | 0 => fun _ _ _ _ _ _ _ => none
  | i + 1 => fun k1 n l i_ j d row => zqdl (zqdm i k1) k1 n l i_ j d row
theorem zqdn (hΓ : ΓOk Tryz.prog (ref39_Close_X c_ref39_Valid).Γ) (i : Nat) : PieceOk Tryz.prog 175 0 ref39_Close_p1_code zqco zqcp (ref39_Close_p1_G (zqdm i)) := by
  rw [show ref39_Close_p1_code = .loop (loopBody ref39_Close_p1_code) by kernel_rfl]
  exact piece_loop (X := (ref39_Close_X c_ref39_Valid)) (p := 1) (Λ := pick1 []) (G := fun i => @fun β d ks => ref39_Close_p1_G (zqdm i) d ks) mixed tab_ok hΓ rfl (by kernel_rfl) CutsOk_nil (fun _ _ => rfl) (fun i => @fun β d ks r h => Eq.trans (b := ref39_Close_p1_G (zqdm (i + 1)) d ks) (by kernel_rfl) h) i
def zqdo (p1 : zqcn) {β : Type} (rec : Int → (List (Int × (Int × Int))) → Int → (List (List Int)) → Option β) (k1 : zqcq β) (n : Int) (l : List (Int × (Int × Int))) (i_ : Int) (d : List (List Int)) : Option β :=
  cond (decide (i_ < n))
  (p1 (fun (n2 : Int) (l2 : List (Int × (Int × Int))) (i_2 : Int) (d2 : List (List Int)) (row : List Int) =>
  cond (decide (0 ≤ i_2) && decide (i_2 < (List.length row : Int)))
  (let l3 : List Int := (List.set row (Int.toNat i_2) (0 : Int));
  let m_ : List (List Int) := ([l3] : List (List Int));
  cond (decide ((List.length d2 + List.length m_) * 24 ≤ roomMax))
  (let m_2 : List (List Int) := (d2 ++ m_);
  let i_3 : Int := (IntKind.i64.wrap (i_2 + (1 : Int)));
  rec n2 l2 i_3 m_2)
  none)
  none) n l i_ (0 : Int) d ([] : List Int))
  (k1 n l d)
def zqdp (p1 : zqcn) {β : Type} : Nat → zqcq β → Int → (List (Int × (Int × Int))) → Int → (List (List Int)) → Option β
  | 0 => fun _ _ _ _ _ => none
  | i + 1 => fun k1 n l i_ d => zqdo p1 (zqdp p1 i k1) k1 n l i_ d
theorem zqdq (hΓ : ΓOk Tryz.prog (ref39_Close_X c_ref39_Valid).Γ) (p1 : zqcn) (hp1 : PieceOk Tryz.prog 175 0 ref39_Close_p1_code zqco zqcp (ref39_Close_p1_G p1)) (i : Nat) : PieceOk Tryz.prog 175 0 ref39_Close_p2_code zqcs zqct (ref39_Close_p2_G (zqdp p1 i)) := by
  rw [show ref39_Close_p2_code = .loop (loopBody ref39_Close_p2_code) by kernel_rfl]
  exact piece_loop (X := (ref39_Close_X c_ref39_Valid)) (p := 1) (Λ := pick1 [(202, pieceCut zqco zqcp (ref39_Close_p1_G p1))]) (G := fun i => @fun β d ks => ref39_Close_p2_G (zqdp p1 i) d ks) mixed tab_ok hΓ rfl (by kernel_rfl) (CutsOk_cons (q := 202) (c' := ref39_Close_p1_code) (by kernel_rfl) rfl hp1 CutsOk_nil) (fun _ _ => rfl) (fun i => @fun β d ks r h => Eq.trans (b := ref39_Close_p2_G (zqdp p1 (i + 1)) d ks) (by kernel_rfl) h) i
def zqdr {β : Type} (rec : Int → (List (Int × (Int × Int))) → Int → (List (List Int)) → Option β) (k1 : zqcu β) (k2 : zqcv β) (n : Int) (l : List (Int × (Int × Int))) (i_ : Int) (d : List (List Int)) : Option β :=
  cond (decide (i_ < (List.length l : Int)))
  (cond (decide (0 ≤ i_) && decide (i_ < (List.length l : Int)))
  (let e : (Int × (Int × Int)) := List.getD l (Int.toNat i_) ((0 : Int), ((0 : Int), (0 : Int)));
  cond (decide (0 ≤ e.1) && decide (e.1 < (List.length d : Int)))
  (cond (decide (0 ≤ i_) && decide (i_ < (List.length l : Int)))
  (let e2 : (Int × (Int × Int)) := List.getD l (Int.toNat i_) ((0 : Int), ((0 : Int), (0 : Int)));
  cond (decide (0 ≤ i_) && decide (i_ < (List.length l : Int)))
  (let e3 : (Int × (Int × Int)) := List.getD l (Int.toNat i_) ((0 : Int), ((0 : Int), (0 : Int)));
  cond (decide (0 ≤ e3.1) && decide (e3.1 < (List.length d : Int)))
  (cond (decide (0 ≤ i_) && decide (i_ < (List.length l : Int)))
  (let e4 : (Int × (Int × Int)) := List.getD l (Int.toNat i_) ((0 : Int), ((0 : Int), (0 : Int)));
  cond (decide (0 ≤ e4.2.1) && decide (e4.2.1 < (List.length (List.getD d (Int.toNat e3.1) []) : Int)))
  (cond (decide (0 ≤ i_) && decide (i_ < (List.length l : Int)))
  (let e5 : (Int × (Int × Int)) := List.getD l (Int.toNat i_) ((0 : Int), ((0 : Int), (0 : Int)));
  cond (decide (0 ≤ e2.2.1) && decide (e2.2.1 < (List.length (List.getD d (Int.toNat e.1) []) : Int)))
  (let m_ : List (List Int) := (List.set d (Int.toNat e.1) (List.set (List.getD d (Int.toNat e.1) []) (Int.toNat e2.2.1) (if e5.2.2 < (List.getD (List.getD d (Int.toNat e3.1) []) (Int.toNat e4.2.1) (0 : Int)) then e5.2.2 else (List.getD (List.getD d (Int.toNat e3.1) []) (Int.toNat e4.2.1) (0 : Int)))));
  cond (decide (0 ≤ i_) && decide (i_ < (List.length l : Int)))
  (let e6 : (Int × (Int × Int)) := List.getD l (Int.toNat i_) ((0 : Int), ((0 : Int), (0 : Int)));
  cond (decide (0 ≤ i_) && decide (i_ < (List.length l : Int)))
  (let e7 : (Int × (Int × Int)) := List.getD l (Int.toNat i_) ((0 : Int), ((0 : Int), (0 : Int)));
  cond (decide (e6.1 = e7.2.1))
  (cond (decide (0 ≤ i_) && decide (i_ < (List.length l : Int)))
  (let e8 : (Int × (Int × Int)) := List.getD l (Int.toNat i_) ((0 : Int), ((0 : Int), (0 : Int)));
  cond (decide (e8.2.2 < (0 : Int)))
  (k1 false ([] : List (List Int)))
  (let i_2 : Int := (IntKind.i64.wrap (i_ + (1 : Int)));
  rec n l i_2 m_))
  none)
  (let i_2 : Int := (IntKind.i64.wrap (i_ + (1 : Int)));
  rec n l i_2 m_))
  none)
  none)
  none)
  none)
  none)
  none)
  none)
  none)
  none)
  none)
  none)
  (k2 n d)
def zqds {β : Type} : Nat → zqcu β → zqcv β → Int → (List (Int × (Int × Int))) → Int → (List (List Int)) → Option β
  | 0 => fun _ _ _ _ _ _ => none
  | i + 1 => fun k1 k2 n l i_ d => zqdr (zqds i k1 k2) k1 k2 n l i_ d
theorem zqdt (hΓ : ΓOk Tryz.prog (ref39_Close_X c_ref39_Valid).Γ) (i : Nat) : PieceOk Tryz.prog 175 0 ref39_Close_p3_code zqcx zqcy (ref39_Close_p3_G (zqds i)) := by
  rw [show ref39_Close_p3_code = .loop (loopBody ref39_Close_p3_code) by kernel_rfl]
  exact piece_loop (X := (ref39_Close_X c_ref39_Valid)) (p := 1) (Λ := pick1 []) (G := fun i => @fun β d ks => ref39_Close_p3_G (zqds i) d ks) mixed tab_ok hΓ rfl (by kernel_rfl) CutsOk_nil (fun _ _ => rfl) (fun i => @fun β d ks r h => Eq.trans (b := ref39_Close_p3_G (zqds (i + 1)) d ks) (by kernel_rfl) h) i
def zqdu {β : Type} (k1 : zqcz β) (n : Int) (k_ : Int) (i_ : Int) (j : Int) (t131 : Bool) (d : List (List Int)) : Option β :=
  cond t131
  (cond (decide (0 ≤ i_) && decide (i_ < (List.length d : Int)))
  (cond (decide (0 ≤ i_) && decide (i_ < (List.length d : Int)))
  (cond (decide (0 ≤ j) && decide (j < (List.length (List.getD d (Int.toNat i_) []) : Int)))
  (cond (decide (0 ≤ i_) && decide (i_ < (List.length d : Int)))
  (cond (decide (0 ≤ k_) && decide (k_ < (List.length (List.getD d (Int.toNat i_) []) : Int)))
  (cond (decide (0 ≤ k_) && decide (k_ < (List.length d : Int)))
  (cond (decide (0 ≤ j) && decide (j < (List.length (List.getD d (Int.toNat k_) []) : Int)))
  (cond (decide (0 ≤ j) && decide (j < (List.length (List.getD d (Int.toNat i_) []) : Int)))
  (let m_ : List (List Int) := (List.set d (Int.toNat i_) (List.set (List.getD d (Int.toNat i_) []) (Int.toNat j) (if (IntKind.i64.wrap ((List.getD (List.getD d (Int.toNat i_) []) (Int.toNat k_) (0 : Int)) + (List.getD (List.getD d (Int.toNat k_) []) (Int.toNat j) (0 : Int)))) < (List.getD (List.getD d (Int.toNat i_) []) (Int.toNat j) (0 : Int)) then (IntKind.i64.wrap ((List.getD (List.getD d (Int.toNat i_) []) (Int.toNat k_) (0 : Int)) + (List.getD (List.getD d (Int.toNat k_) []) (Int.toNat j) (0 : Int)))) else (List.getD (List.getD d (Int.toNat i_) []) (Int.toNat j) (0 : Int)))));
  k1 n k_ i_ j m_)
  none)
  none)
  none)
  none)
  none)
  none)
  none)
  none)
  (k1 n k_ i_ j d)
def zqdv {β : Type} (k1 : zqcz β) (n : Int) (k_ : Int) (i_ : Int) (j : Int) (t131 : Bool) (d : List (List Int)) : Option β := zqdu k1 n k_ i_ j t131 d
theorem zqdw (hΓ : ΓOk Tryz.prog (ref39_Close_X c_ref39_Valid).Γ) : PieceOk Tryz.prog 175 0 ref39_Close_p4_code zqd1 zqd2 (ref39_Close_p4_G (zqdv)) :=
  piece_exec (X := (ref39_Close_X c_ref39_Valid)) (p := 25) (Λ := pick1 []) mixed tab_ok hΓ (by kernel_rfl) CutsOk_nil (fun d ks r h => Eq.trans (b := ref39_Close_p4_G (zqdv) d ks) (by kernel_rfl) h)
def zqdx (p4 : zqd0) {β : Type} (rec : Int → Int → Int → Int → (List (List Int)) → Option β) (k1 : zqd3 β) (n : Int) (k_ : Int) (i_ : Int) (j : Int) (d : List (List Int)) : Option β :=
  cond (decide (j < n))
  (cond (decide (0 ≤ i_) && decide (i_ < (List.length d : Int)))
  (cond (decide (0 ≤ k_) && decide (k_ < (List.length (List.getD d (Int.toNat i_) []) : Int)))
  (cond (decide ((List.getD (List.getD d (Int.toNat i_) []) (Int.toNat k_) (0 : Int)) < (1099511627776 : Int)))
  (cond (decide (0 ≤ k_) && decide (k_ < (List.length d : Int)))
  (cond (decide (0 ≤ j) && decide (j < (List.length (List.getD d (Int.toNat k_) []) : Int)))
  (p4 (fun (n2 : Int) (k_2 : Int) (i_2 : Int) (j2 : Int) (d2 : List (List Int)) =>
  let j3 : Int := (IntKind.i64.wrap (j2 + (1 : Int)));
  rec n2 k_2 i_2 j3 d2) n k_ i_ j (decide ((List.getD (List.getD d (Int.toNat k_) []) (Int.toNat j) (0 : Int)) < (1099511627776 : Int))) d)
  none)
  none)
  (p4 (fun (n2 : Int) (k_2 : Int) (i_2 : Int) (j2 : Int) (d2 : List (List Int)) =>
  let j3 : Int := (IntKind.i64.wrap (j2 + (1 : Int)));
  rec n2 k_2 i_2 j3 d2) n k_ i_ j false d))
  none)
  none)
  (k1 n k_ i_ d)
def zqdy (p4 : zqd0) {β : Type} : Nat → zqd3 β → Int → Int → Int → Int → (List (List Int)) → Option β
  | 0 => fun _ _ _ _ _ _ => none
  | i + 1 => fun k1 n k_ i_ j d => zqdx p4 (zqdy p4 i k1) k1 n k_ i_ j d
theorem zqdz (hΓ : ΓOk Tryz.prog (ref39_Close_X c_ref39_Valid).Γ) (p4 : zqd0) (hp4 : PieceOk Tryz.prog 175 0 ref39_Close_p4_code zqd1 zqd2 (ref39_Close_p4_G p4)) (i : Nat) : PieceOk Tryz.prog 175 0 ref39_Close_p5_code zqd5 zqd6 (ref39_Close_p5_G (zqdy p4 i)) := by
  rw [show ref39_Close_p5_code = .loop (loopBody ref39_Close_p5_code) by kernel_rfl]
  exact piece_loop (X := (ref39_Close_X c_ref39_Valid)) (p := 1) (Λ := pick1 [(25, pieceCut zqd1 zqd2 (ref39_Close_p4_G p4))]) (G := fun i => @fun β d ks => ref39_Close_p5_G (zqdy p4 i) d ks) mixed tab_ok hΓ rfl (by kernel_rfl) (CutsOk_cons (q := 25) (c' := ref39_Close_p4_code) (by kernel_rfl) rfl hp4 CutsOk_nil) (fun _ _ => rfl) (fun i => @fun β d ks r h => Eq.trans (b := ref39_Close_p5_G (zqdy p4 (i + 1)) d ks) (by kernel_rfl) h) i
def zqe0 (p5 : zqd4) {β : Type} (rec : Int → Int → Int → (List (List Int)) → Option β) (k1 : zqd7 β) (n : Int) (k_ : Int) (i_ : Int) (d : List (List Int)) : Option β :=
  cond (decide (i_ < n))
  (p5 (fun (n2 : Int) (k_2 : Int) (i_2 : Int) (d2 : List (List Int)) =>
  let i_3 : Int := (IntKind.i64.wrap (i_2 + (1 : Int)));
  rec n2 k_2 i_3 d2) n k_ i_ (0 : Int) d)
  (k1 n k_ d)
def zqe1 (p5 : zqd4) {β : Type} : Nat → zqd7 β → Int → Int → Int → (List (List Int)) → Option β
  | 0 => fun _ _ _ _ _ => none
  | i + 1 => fun k1 n k_ i_ d => zqe0 p5 (zqe1 p5 i k1) k1 n k_ i_ d
theorem zqe2 (hΓ : ΓOk Tryz.prog (ref39_Close_X c_ref39_Valid).Γ) (p5 : zqd4) (hp5 : PieceOk Tryz.prog 175 0 ref39_Close_p5_code zqd5 zqd6 (ref39_Close_p5_G p5)) (i : Nat) : PieceOk Tryz.prog 175 0 ref39_Close_p6_code zqd9 zqda (ref39_Close_p6_G (zqe1 p5 i)) := by
  rw [show ref39_Close_p6_code = .loop (loopBody ref39_Close_p6_code) by kernel_rfl]
  exact piece_loop (X := (ref39_Close_X c_ref39_Valid)) (p := 1) (Λ := pick1 [(50, pieceCut zqd5 zqd6 (ref39_Close_p5_G p5))]) (G := fun i => @fun β d ks => ref39_Close_p6_G (zqe1 p5 i) d ks) mixed tab_ok hΓ rfl (by kernel_rfl) (CutsOk_cons (q := 50) (c' := ref39_Close_p5_code) (by kernel_rfl) rfl hp5 CutsOk_nil) (fun _ _ => rfl) (fun i => @fun β d ks r h => Eq.trans (b := ref39_Close_p6_G (zqe1 p5 (i + 1)) d ks) (by kernel_rfl) h) i
def zqe3 {β : Type} (rec : Int → Int → Int → (List (List Int)) → Option β) (k1 : zqdb β) (k2 : zqdc β) (n : Int) (k_ : Int) (i_ : Int) (d : List (List Int)) : Option β :=
  cond (decide (i_ < n))
  (cond (decide (0 ≤ i_) && decide (i_ < (List.length d : Int)))
  (cond (decide (0 ≤ i_) && decide (i_ < (List.length (List.getD d (Int.toNat i_) []) : Int)))
  (cond (decide ((List.getD (List.getD d (Int.toNat i_) []) (Int.toNat i_) (0 : Int)) < (0 : Int)))
  (k1 false ([] : List (List Int)))
  (let i_2 : Int := (IntKind.i64.wrap (i_ + (1 : Int)));
  rec n k_ i_2 d))
  none)
  none)
  (k2 n k_ d)
def zqe4 {β : Type} : Nat → zqdb β → zqdc β → Int → Int → Int → (List (List Int)) → Option β
  | 0 => fun _ _ _ _ _ _ => none
  | i + 1 => fun k1 k2 n k_ i_ d => zqe3 (zqe4 i k1 k2) k1 k2 n k_ i_ d
theorem zqe5 (hΓ : ΓOk Tryz.prog (ref39_Close_X c_ref39_Valid).Γ) (i : Nat) : PieceOk Tryz.prog 175 0 ref39_Close_p7_code zqde zqdf (ref39_Close_p7_G (zqe4 i)) := by
  rw [show ref39_Close_p7_code = .loop (loopBody ref39_Close_p7_code) by kernel_rfl]
  exact piece_loop (X := (ref39_Close_X c_ref39_Valid)) (p := 1) (Λ := pick1 []) (G := fun i => @fun β d ks => ref39_Close_p7_G (zqe4 i) d ks) mixed tab_ok hΓ rfl (by kernel_rfl) CutsOk_nil (fun _ _ => rfl) (fun i => @fun β d ks r h => Eq.trans (b := ref39_Close_p7_G (zqe4 (i + 1)) d ks) (by kernel_rfl) h) i
def zqe6 (p6 : zqd8) (p7 : zqdd) {β : Type} (rec : Int → Int → (List (List Int)) → Option β) (k1 : zqdg β) (k2 : zqdh β) (n : Int) (k_ : Int) (d : List (List Int)) : Option β :=
  cond (decide (k_ < n))
  (p6 (fun (n2 : Int) (k_2 : Int) (d2 : List (List Int)) =>
  p7 (fun (t5 : Bool) (t4 : List (List Int)) =>
  k1 t5 t4) (fun (n3 : Int) (k_3 : Int) (d3 : List (List Int)) =>
  let k_4 : Int := (IntKind.i64.wrap (k_3 + (1 : Int)));
  rec n3 k_4 d3) n2 k_2 (0 : Int) d2) n k_ (0 : Int) d)
  (k2 d)
def zqe7 (p6 : zqd8) (p7 : zqdd) {β : Type} : Nat → zqdg β → zqdh β → Int → Int → (List (List Int)) → Option β
  | 0 => fun _ _ _ _ _ => none
  | i + 1 => fun k1 k2 n k_ d => zqe6 p6 p7 (zqe7 p6 p7 i k1 k2) k1 k2 n k_ d
theorem zqe8 (hΓ : ΓOk Tryz.prog (ref39_Close_X c_ref39_Valid).Γ) (p6 : zqd8) (p7 : zqdd) (hp6 : PieceOk Tryz.prog 175 0 ref39_Close_p6_code zqd9 zqda (ref39_Close_p6_G p6)) (hp7 : PieceOk Tryz.prog 175 0 ref39_Close_p7_code zqde zqdf (ref39_Close_p7_G p7)) (i : Nat) : PieceOk Tryz.prog 175 0 ref39_Close_p8_code zqdj zqdk (ref39_Close_p8_G (zqe7 p6 p7 i)) := by
  rw [show ref39_Close_p8_code = .loop (loopBody ref39_Close_p8_code) by kernel_rfl]
  exact piece_loop (X := (ref39_Close_X c_ref39_Valid)) (p := 1) (Λ := pick1 [(98, pieceCut zqd9 zqda (ref39_Close_p6_G p6)), (102, pieceCut zqde zqdf (ref39_Close_p7_G p7))]) (G := fun i => @fun β d ks => ref39_Close_p8_G (zqe7 p6 p7 i) d ks) mixed tab_ok hΓ rfl (by kernel_rfl) (CutsOk_cons (q := 98) (c' := ref39_Close_p6_code) (by kernel_rfl) rfl hp6 (CutsOk_cons (q := 102) (c' := ref39_Close_p7_code) (by kernel_rfl) rfl hp7 CutsOk_nil)) (fun _ _ => rfl) (fun i => @fun β d ks r h => Eq.trans (b := ref39_Close_p8_G (zqe7 p6 p7 (i + 1)) d ks) (by kernel_rfl) h) i
def zqe9 (p2 : zqcr) (p3 : zqcw) (p8 : zqdi) {β : Type} (n : Int) (l : List (Int × (Int × Int))) (k : ((List (List Int)) → Bool → Option β)) : Option β :=
  c_ref39_Valid n l (fun (rValid : Bool) =>
  cond (!rValid)
  (k ([] : List (List Int)) false)
  (p2 (fun (n2 : Int) (l2 : List (Int × (Int × Int))) (d : List (List Int)) =>
  p3 (fun (t5 : Bool) (t4 : List (List Int)) =>
  k t4 t5) (fun (n3 : Int) (d2 : List (List Int)) =>
  p8 (fun (t5 : Bool) (t4 : List (List Int)) =>
  k t4 t5) (fun (d3 : List (List Int)) =>
  k d3 true) n3 (0 : Int) d2) n2 l2 (0 : Int) d) n l (0 : Int) ([] : List (List Int))))
theorem zqea (hΓ : ΓOk Tryz.prog (ref39_Close_X c_ref39_Valid).Γ) (p2 : zqcr) (p3 : zqcw) (p8 : zqdi) (hp2 : PieceOk Tryz.prog 175 0 ref39_Close_p2_code zqcs zqct (ref39_Close_p2_G p2)) (hp3 : PieceOk Tryz.prog 175 0 ref39_Close_p3_code zqcx zqcy (ref39_Close_p3_G p3)) (hp8 : PieceOk Tryz.prog 175 0 ref39_Close_p8_code zqdj zqdk (ref39_Close_p8_G p8)) : SpecOk Tryz.prog 54 (zqcl (zqe9 c_ref39_Valid p2 p3 p8)) :=
  spec_exec (X := (ref39_Close_X c_ref39_Valid)) (Λ := pick1 [(122, pieceCut zqcs zqct (ref39_Close_p2_G p2)), (250, pieceCut zqcx zqcy (ref39_Close_p3_G p3)), (506, pieceCut zqdj zqdk (ref39_Close_p8_G p8))]) (rs := [.tmp 4, .tmp 5]) (c := bodyOf Tryz.f54) mixed tab_ok hΓ Tryz.func54 (by kernel_rfl) (by kernel_rfl) (by kernel_rfl) (by kernel_rfl) (CutsOk_cons (q := 122) (c' := ref39_Close_p2_code) (by kernel_rfl) rfl hp2 (CutsOk_cons (q := 250) (c' := ref39_Close_p3_code) (by kernel_rfl) rfl hp3 (CutsOk_cons (q := 506) (c' := ref39_Close_p8_code) (by kernel_rfl) rfl hp8 CutsOk_nil))) (fun x k r h => Eq.trans (b := (zqcl (zqe9 c_ref39_Valid p2 p3 p8)).run x k) (by kernel_rfl) h)
end
theorem zqebΓ : ΓOk Tryz.prog (pick1 [(65, .spec (zq68 zq6o))]) := (ΓOk_cons zq6p ΓOk_nil)
def zqec (m : Nat) : zqcn := zqdm m
theorem zqed {β : Type} (i : Nat) (k1 n l i_ j d row) : (zqec (i + 1) k1 n l i_ j d row : Option β) = zqdl (zqec i k1) k1 n l i_ j d row := rfl
def zqee : zqcn := zqec fuel
theorem zqef : PieceOk Tryz.prog 175 0 ref39_Close_p1_code zqco zqcp (ref39_Close_p1_G zqee) := zqdn zq6o zqebΓ fuel
def zqeg (m : Nat) : zqcr := zqdp zqee m
theorem zqeh {β : Type} (i : Nat) (k1 n l i_ d) : (zqeg (i + 1) k1 n l i_ d : Option β) = zqdo zqee (zqeg i k1) k1 n l i_ d := rfl
def zqei : zqcr := zqeg fuel
theorem zqej : PieceOk Tryz.prog 175 0 ref39_Close_p2_code zqcs zqct (ref39_Close_p2_G zqei) := zqdq zq6o zqebΓ zqee zqef fuel
def zqek (m : Nat) : zqcw := zqds m
theorem zqel {β : Type} (i : Nat) (k1 k2 n l i_ d) : (zqek (i + 1) k1 k2 n l i_ d : Option β) = zqdr (zqek i k1 k2) k1 k2 n l i_ d := rfl
def zqem : zqcw := zqek fuel
theorem zqen : PieceOk Tryz.prog 175 0 ref39_Close_p3_code zqcx zqcy (ref39_Close_p3_G zqem) := zqdt zq6o zqebΓ fuel
def zqeo : zqd0 := zqdv
theorem zqep : PieceOk Tryz.prog 175 0 ref39_Close_p4_code zqd1 zqd2 (ref39_Close_p4_G zqeo) := zqdw zq6o zqebΓ
def zqeq (m : Nat) : zqd4 := zqdy zqeo m
theorem zqer {β : Type} (i : Nat) (k1 n k_ i_ j d) : (zqeq (i + 1) k1 n k_ i_ j d : Option β) = zqdx zqeo (zqeq i k1) k1 n k_ i_ j d := rfl
def zqes : zqd4 := zqeq fuel
theorem zqet : PieceOk Tryz.prog 175 0 ref39_Close_p5_code zqd5 zqd6 (ref39_Close_p5_G zqes) := zqdz zq6o zqebΓ zqeo zqep fuel
def zqeu (m : Nat) : zqd8 := zqe1 zqes m
theorem zqev {β : Type} (i : Nat) (k1 n k_ i_ d) : (zqeu (i + 1) k1 n k_ i_ d : Option β) = zqe0 zqes (zqeu i k1) k1 n k_ i_ d := rfl
def zqew : zqd8 := zqeu fuel
theorem zqex : PieceOk Tryz.prog 175 0 ref39_Close_p6_code zqd9 zqda (ref39_Close_p6_G zqew) := zqe2 zq6o zqebΓ zqes zqet fuel
def zqey (m : Nat) : zqdd := zqe4 m
theorem zqez {β : Type} (i : Nat) (k1 k2 n k_ i_ d) : (zqey (i + 1) k1 k2 n k_ i_ d : Option β) = zqe3 (zqey i k1 k2) k1 k2 n k_ i_ d := rfl
def zqf0 : zqdd := zqey fuel
theorem zqf1 : PieceOk Tryz.prog 175 0 ref39_Close_p7_code zqde zqdf (ref39_Close_p7_G zqf0) := zqe5 zq6o zqebΓ fuel
def zqf2 (m : Nat) : zqdi := zqe7 zqew zqf0 m
theorem zqf3 {β : Type} (i : Nat) (k1 k2 n k_ d) : (zqf2 (i + 1) k1 k2 n k_ d : Option β) = zqe6 zqew zqf0 (zqf2 i k1 k2) k1 k2 n k_ d := rfl
def zqf4 : zqdi := zqf2 fuel
theorem zqf5 : PieceOk Tryz.prog 175 0 ref39_Close_p8_code zqdj zqdk (ref39_Close_p8_G zqf4) := zqe8 zq6o zqebΓ zqew zqf0 zqex zqf1 fuel
def zqf6 : zqck := zqe9 zq6o zqei zqem zqf4
theorem zqf7 : SpecOk Tryz.prog 54 (zqcl zqf6) := zqea zq6o zqebΓ zqei zqem zqf4 zqej zqen zqf5

/-- pagewatch/clock.compared -/
abbrev zqf8 := {β : Type} → (Int × (Int × (Int × Int))) → (Bool → Option β) → Option β
def zqf9 (c : zqf8) : Spec :=
  ⟨[(true, [.data (.prod (.int .i64) (.prod (.int .i64) (.prod (.int .i64) (.int .i64))))])], [], [(false, [.data .bool])], [], fun x k => c x.1.1.1 (fun r0 => k (((r0, ()), ()), ()))⟩
section
variable (c_clock_instant : zq4a)
@[reducible] def clock_compared_X : Ctx := ⟨look tab, pick1 [(57, .spec (zq4b c_clock_instant))], false, false, false, false⟩
def zqfa {β : Type} (s : (Int × (Int × (Int × Int)))) (k : (Bool → Option β)) : Option β :=
  c_clock_instant s.2.1 (fun (rinstant : Bool) =>
  cond rinstant
  (c_clock_instant s.2.2.1 (fun (rinstant2 : Bool) =>
  cond rinstant2
  (c_clock_instant s.2.2.2 (fun (rinstant3 : Bool) =>
  cond rinstant3
  (let t : Bool := (decide (s.2.2.1 ≤ s.2.2.2));
  k t)
  (k false)))
  (k false)))
  (k false))
theorem zqfb (hΓ : ΓOk Tryz.prog (clock_compared_X c_clock_instant).Γ) : SpecOk Tryz.prog 56 (zqf9 (zqfa c_clock_instant)) :=
  spec_exec (X := (clock_compared_X c_clock_instant)) (Λ := pick1 []) (rs := [.tmp 2]) (c := bodyOf Tryz.f56) mixed tab_ok hΓ Tryz.func56 (by kernel_rfl) (by kernel_rfl) (by kernel_rfl) (by kernel_rfl) CutsOk_nil (fun x k r h => Eq.trans (b := (zqf9 (zqfa c_clock_instant)).run x k) (by kernel_rfl) h)
end
theorem zqfcΓ : ΓOk Tryz.prog (pick1 [(57, .spec (zq4b zq4f))]) := (ΓOk_cons zq4g ΓOk_nil)
def zqfd : zqf8 := zqfa zq4f
theorem zqfe : SpecOk Tryz.prog 56 (zqf9 zqfd) := zqfb zq4f zqfcΓ

/-- pagewatch/pagewatchref38.When -/
abbrev zqff := {β : Type} → zq2 → Int → Int → ((Int × Int) → Bool → Option β) → Option β
def zqfg (c : zqff) : Spec :=
  ⟨[(true, [.data zq3]), (false, [.data (.int .i64)]), (false, [.data (.int .i64)])], [], [(true, [.data (.prod (.int .i64) (.int .i64))]), (false, [.data .bool])], [], fun x k => c x.1.1.1 x.1.2.1.1 x.1.2.2.1.1 (fun r0 r1 => k (((r0, ()), (r1, ()), ()), ()))⟩
noncomputable def ref38_When_p1_code : Code := codeAt 122 (bodyOf Tryz.f63)
abbrev zqfh (β : Type) := Int → Int → Int → Int → Option β
abbrev zqfi := {β : Type} → zqfh β → Int → Int → Int → (List (List UInt8 × Int)) → (List (Int × (Int × (Int × Int)))) → (List zq0) → (List (Int × (Int × Int))) → Int → Int → Int → Int → Option β
def zqfj : View := ⟨0, [1, 2, 3, 6, 8, 9], [(false, [.data (.int .i64)]), (false, [.data (.int .i64)]), (false, [.ptr 0 0]), (false, [.ptr 1 0]), (false, [.ptr 2 0]), (false, [.data (.int .i64)])], [.cells 32 [.data (.slice (.prod .str (.int .i64))), .data (.slice (.prod (.int .i64) (.prod (.int .i64) (.prod (.int .i64) (.int .i64))))), .data (.slice zq1), .data (.slice (.prod (.int .i64) (.prod (.int .i64) (.int .i64))))], .cells 40 [.data (.int .i64), .data (.int .i64)], .cells 40 [.data (.int .i64), .data (.int .i64)]]⟩
def zqfk : List (AExit × View) := [(.exit 0, ⟨0, [6, 8], [(false, [.ptr 0 0]), (false, [.ptr 1 0])], [.cells 40 [.data (.int .i64), .data (.int .i64)], .cells 40 [.data (.int .i64), .data (.int .i64)]]⟩)]
@[reducible] def ref38_When_p1_G (p : zqfi) {β : Type} (d : zqfj.den) (ks : Outs.K β zqfk) : Option β :=
  p (fun a0 a1 a2 a3 => ks.1 (((), (), ()), ((a0, a1, ()), (a2, a3, ()), ()))) d.1.1.1 d.1.2.1.1 d.1.2.2.2.2.2.1.1 d.2.1.1 d.2.1.2.1 d.2.1.2.2.1 d.2.1.2.2.2.1 d.2.2.1.1 d.2.2.1.2.1 d.2.2.2.1.1 d.2.2.2.1.2.1
section
variable (c_ref25_In : zq1z) (c_ref38_Empty : zq81) (c_ref38_From : zq7u) (c_ref38_Meet : zq7n) (c_ref38_Valid : zq4h)
@[reducible] def ref38_When_X : Ctx := ⟨look tab, pick1 [(31, .spec (zq20 c_ref25_In)), (78, .spec (zq82 c_ref38_Empty)), (77, .spec (zq7v c_ref38_From)), (76, .spec (zq7o c_ref38_Meet)), (62, .spec (zq4i c_ref38_Valid))], false, false, false, false⟩
def zqfl {β : Type} (rec : Int → Int → Int → (List (List UInt8 × Int)) → (List (Int × (Int × (Int × Int)))) → (List zq0) → (List (Int × (Int × Int))) → Int → Int → Int → Int → Option β) (k1 : zqfh β) (host : Int) (clock : Int) (i_ : Int) (r_ : List (List UInt8 × Int)) (r_2 : List (Int × (Int × (Int × Int)))) (r_3 : List zq0) (r_4 : List (Int × (Int × Int))) (t6 : Int) (t62 : Int) (out : Int) (out2 : Int) : Option β :=
  cond (decide (i_ < (List.length r_2 : Int)))
  (cond (decide (0 ≤ i_) && decide (i_ < (List.length r_2 : Int)))
  (let e : (Int × (Int × (Int × Int))) := List.getD r_2 (Int.toNat i_) ((0 : Int), ((0 : Int), ((0 : Int), (0 : Int))));
  cond (decide (e.1 = host))
  (cond (decide (0 ≤ host) && decide (host < (List.length r_ : Int)))
  (let e2 : (List UInt8 × Int) := List.getD r_ (Int.toNat host) (([] : List UInt8), (0 : Int));
  cond (decide (0 ≤ i_) && decide (i_ < (List.length r_2 : Int)))
  (let e3 : (Int × (Int × (Int × Int))) := List.getD r_2 (Int.toNat i_) ((0 : Int), ((0 : Int), ((0 : Int), (0 : Int))));
  c_ref38_From e2 e3 clock (fun (rFrom : (Int × Int)) =>
  c_ref38_Meet (out, out2) rFrom (fun (rMeet : (Int × Int)) =>
  let i_2 : Int := (IntKind.i64.wrap (i_ + (1 : Int)));
  rec host clock i_2 r_ r_2 r_3 r_4 t6 t62 rMeet.1 rMeet.2)))
  none)
  none)
  (let i_2 : Int := (IntKind.i64.wrap (i_ + (1 : Int)));
  rec host clock i_2 r_ r_2 r_3 r_4 t6 t62 out out2))
  none)
  (k1 t6 t62 out out2)
def zqfm {β : Type} : Nat → zqfh β → Int → Int → Int → (List (List UInt8 × Int)) → (List (Int × (Int × (Int × Int)))) → (List zq0) → (List (Int × (Int × Int))) → Int → Int → Int → Int → Option β
  | 0 => fun _ _ _ _ _ _ _ _ _ _ _ _ => none
  | i + 1 => fun k1 host clock i_ r_ r_2 r_3 r_4 t6 t62 out out2 => zqfl c_ref38_From c_ref38_Meet (zqfm i k1) k1 host clock i_ r_ r_2 r_3 r_4 t6 t62 out out2
theorem zqfn (hΓ : ΓOk Tryz.prog (ref38_When_X c_ref25_In c_ref38_Empty c_ref38_From c_ref38_Meet c_ref38_Valid).Γ) (i : Nat) : PieceOk Tryz.prog 62 0 ref38_When_p1_code zqfj zqfk (ref38_When_p1_G (zqfm c_ref38_From c_ref38_Meet i)) := by
  rw [show ref38_When_p1_code = .loop (loopBody ref38_When_p1_code) by kernel_rfl]
  exact piece_loop (X := (ref38_When_X c_ref25_In c_ref38_Empty c_ref38_From c_ref38_Meet c_ref38_Valid)) (p := 1) (Λ := pick1 []) (G := fun i => @fun β d ks => ref38_When_p1_G (zqfm c_ref38_From c_ref38_Meet i) d ks) mixed tab_ok hΓ rfl (by kernel_rfl) CutsOk_nil (fun _ _ => rfl) (fun i => @fun β d ks r h => Eq.trans (b := ref38_When_p1_G (zqfm c_ref38_From c_ref38_Meet (i + 1)) d ks) (by kernel_rfl) h) i
def zqfo (p1 : zqfi) {β : Type} (r_ : zq2) (host : Int) (clock : Int) (k : ((Int × Int) → Bool → Option β)) : Option β :=
  c_ref38_Valid r_ (fun (rValid : Bool) =>
  cond (!rValid)
  (k ((0 : Int), (0 : Int)) false)
  (c_ref25_In host (0 : Int) (IntKind.i64.wrap ((List.length r_.1 : Int) - (1 : Int))) (fun (rIn : Bool) =>
  cond (!rIn)
  (k ((0 : Int), (0 : Int)) false)
  (c_ref25_In clock (0 : Int) (8589934592 : Int) (fun (rIn2 : Bool) =>
  cond (!rIn2)
  (k ((0 : Int), (0 : Int)) false)
  (p1 (fun (t6 : Int) (t62 : Int) (out : Int) (out2 : Int) =>
  c_ref38_Empty (out, out2) (fun (rEmpty : Bool) =>
  k (out, out2) (!rEmpty))) host clock (0 : Int) r_.1 r_.2.1 r_.2.2.1 r_.2.2.2 (0 : Int) (0 : Int) (0 : Int) (8589934592 : Int)))))))
theorem zqfp (hΓ : ΓOk Tryz.prog (ref38_When_X c_ref25_In c_ref38_Empty c_ref38_From c_ref38_Meet c_ref38_Valid).Γ) (p1 : zqfi) (hp1 : PieceOk Tryz.prog 62 0 ref38_When_p1_code zqfj zqfk (ref38_When_p1_G p1)) : SpecOk Tryz.prog 63 (zqfg (zqfo c_ref25_In c_ref38_Empty c_ref38_Valid p1)) :=
  spec_exec (X := (ref38_When_X c_ref25_In c_ref38_Empty c_ref38_From c_ref38_Meet c_ref38_Valid)) (Λ := pick1 [(122, pieceCut zqfj zqfk (ref38_When_p1_G p1))]) (rs := [.cell 6 40, .tmp 7]) (c := bodyOf Tryz.f63) mixed tab_ok hΓ Tryz.func63 (by kernel_rfl) (by kernel_rfl) (by kernel_rfl) (by kernel_rfl) (CutsOk_cons (q := 122) (c' := ref38_When_p1_code) (by kernel_rfl) rfl hp1 CutsOk_nil) (fun x k r h => Eq.trans (b := (zqfg (zqfo c_ref25_In c_ref38_Empty c_ref38_Valid p1)).run x k) (by kernel_rfl) h)
end
theorem zqfqΓ : ΓOk Tryz.prog (pick1 [(31, .spec (zq20 zq24)), (78, .spec (zq82 zq86)), (77, .spec (zq7v zq7z)), (76, .spec (zq7o zq7s)), (62, .spec (zq4i zq5y))]) := (ΓOk_cons zq25 (ΓOk_cons zq87 (ΓOk_cons zq80 (ΓOk_cons zq7t (ΓOk_cons zq5z ΓOk_nil)))))
def zqfr (m : Nat) : zqfi := zqfm zq7z zq7s m
theorem zqfs {β : Type} (i : Nat) (k1 host clock i_ r_ r_2 r_3 r_4 t6 t62 out out2) : (zqfr (i + 1) k1 host clock i_ r_ r_2 r_3 r_4 t6 t62 out out2 : Option β) = zqfl zq7z zq7s (zqfr i k1) k1 host clock i_ r_ r_2 r_3 r_4 t6 t62 out out2 := rfl
def zqft : zqfi := zqfr fuel
theorem zqfu : PieceOk Tryz.prog 62 0 ref38_When_p1_code zqfj zqfk (ref38_When_p1_G zqft) := zqfn zq24 zq86 zq7z zq7s zq5y zqfqΓ fuel
def zqfv : zqff := zqfo zq24 zq86 zq5y zqft
theorem zqfw : SpecOk Tryz.prog 63 (zqfg zqfv) := zqfp zq24 zq86 zq7z zq7s zq5y zqfqΓ zqft zqfu

/-- pagewatch/clock.Elapsed -/
abbrev zqfx := {β : Type} → Int → Int → (Int → Int → Option β) → Option β
def zqfy (c : zqfx) : Spec :=
  ⟨[(false, [.data (.int .i64)]), (false, [.data (.int .i64)])], [], [(false, [.data (.int .i64)]), (false, [.data (.int .i64)])], [], fun x k => c x.1.1.1 x.1.2.1.1 (fun r0 r1 => k (((r0, ()), (r1, ()), ()), ()))⟩
section
variable (c_clock_Elapsed_f1 : zqa4) (c_clock_in : zq43) (c_clock_instant : zq4a)
@[reducible] def clock_Elapsed_X : Ctx := ⟨look tab, pick1 [(117, .spec (zqa5 c_clock_Elapsed_f1)), (55, .spec (zq44 c_clock_in)), (57, .spec (zq4b c_clock_instant))], false, false, false, false⟩
def zqfz {β : Type} (drift : Int) (d : Int) (k : (Int → Int → Option β)) : Option β :=
  c_clock_in drift (0 : Int) (500000 : Int) (fun (rin : Bool) =>
  cond (!rin)
  (k (0 : Int) (0 : Int))
  (c_clock_instant d (fun (rinstant : Bool) =>
  cond (!rinstant)
  (k (0 : Int) (0 : Int))
  (cond (!decide ((IntKind.i64.wrap ((1000000 : Int) + drift)) = 0))
  (c_clock_Elapsed_f1 (IntKind.i64.wrap (d * (1000000 : Int))) (IntKind.i64.wrap ((1000000 : Int) - drift)) (fun (rElapsed1 : Int) =>
  let low : Int := (IntKind.i64.wrap (Int.tdiv (IntKind.i64.wrap (d * (1000000 : Int))) (IntKind.i64.wrap ((1000000 : Int) + drift))));
  k low rElapsed1))
  none))))
theorem zqg0 (hΓ : ΓOk Tryz.prog (clock_Elapsed_X c_clock_Elapsed_f1 c_clock_in c_clock_instant).Γ) : SpecOk Tryz.prog 103 (zqfy (zqfz c_clock_Elapsed_f1 c_clock_in c_clock_instant)) :=
  spec_exec (X := (clock_Elapsed_X c_clock_Elapsed_f1 c_clock_in c_clock_instant)) (Λ := pick1 []) (rs := [.tmp 4, .tmp 5]) (c := bodyOf Tryz.f103) mixed tab_ok hΓ Tryz.func103 (by kernel_rfl) (by kernel_rfl) (by kernel_rfl) (by kernel_rfl) CutsOk_nil (fun x k r h => Eq.trans (b := (zqfy (zqfz c_clock_Elapsed_f1 c_clock_in c_clock_instant)).run x k) (by kernel_rfl) h)
end
theorem zqg1Γ : ΓOk Tryz.prog (pick1 [(117, .spec (zqa5 zqa9)), (55, .spec (zq44 zq48)), (57, .spec (zq4b zq4f))]) := (ΓOk_cons zqaa (ΓOk_cons zq49 (ΓOk_cons zq4g ΓOk_nil)))
def zqg2 : zqfx := zqfz zqa9 zq48 zq4f
theorem zqg3 : SpecOk Tryz.prog 103 (zqfy zqg2) := zqg0 zqa9 zq48 zq4f zqg1Γ

/-- pagewatch/clock.Valid -/
abbrev zqg4 := {β : Type} → zq2 → (Bool → Option β) → Option β
def zqg5 (c : zqg4) : Spec :=
  ⟨[(true, [.data zq3])], [], [(false, [.data .bool])], [], fun x k => c x.1.1.1 (fun r0 => k (((r0, ()), ()), ()))⟩
noncomputable def clock_Valid_p1_code : Code := codeAt 58 (bodyOf Tryz.f33)
noncomputable def clock_Valid_p2_code : Code := codeAt 122 (bodyOf Tryz.f33)
noncomputable def clock_Valid_p3_code : Code := codeAt 250 (bodyOf Tryz.f33)
noncomputable def clock_Valid_p4_code : Code := codeAt 506 (bodyOf Tryz.f33)
abbrev zqg6 (β : Type) := Bool → Option β
abbrev zqg7 (β : Type) := (List (List UInt8 × Int)) → (List (Int × (Int × (Int × Int)))) → (List zq0) → (List (Int × (Int × Int))) → Option β
abbrev zqg8 := {β : Type} → zqg6 β → zqg7 β → (List (List UInt8 × Int)) → Int → Int → (List (List UInt8 × Int)) → (List (Int × (Int × (Int × Int)))) → (List zq0) → (List (Int × (Int × Int))) → Option β
def zqg9 : View := ⟨0, [1, 34, 35, 36], [(false, [.ptr 0 0]), (false, [.data (.slice (.prod .str (.int .i64)))]), (false, [.data (.int .i64)]), (false, [.data (.int .i64)])], [.cells 32 [.data (.slice (.prod .str (.int .i64))), .data (.slice (.prod (.int .i64) (.prod (.int .i64) (.prod (.int .i64) (.int .i64))))), .data (.slice zq1), .data (.slice (.prod (.int .i64) (.prod (.int .i64) (.int .i64))))]]⟩
def zqga : List (AExit × View) := [(.ret, ⟨0, [2], [(false, [.data .bool])], []⟩), (.exit 0, ⟨0, [1], [(false, [.ptr 0 0])], [.cells 32 [.data (.slice (.prod .str (.int .i64))), .data (.slice (.prod (.int .i64) (.prod (.int .i64) (.prod (.int .i64) (.int .i64))))), .data (.slice zq1), .data (.slice (.prod (.int .i64) (.prod (.int .i64) (.int .i64))))]]⟩)]
@[reducible] def clock_Valid_p1_G (p : zqg8) {β : Type} (d : zqg9.den) (ks : Outs.K β zqga) : Option β :=
  p (fun a0 => ks.1 (((a0, ()), ()), ())) (fun a0 a1 a2 a3 => ks.2.1 (((), ()), ((a0, a1, a2, a3, ()), ()))) d.1.2.1.1 d.1.2.2.1.1 d.1.2.2.2.1.1 d.2.1.1 d.2.1.2.1 d.2.1.2.2.1 d.2.1.2.2.2.1
abbrev zqgb (β : Type) := Bool → Option β
abbrev zqgc (β : Type) := (List (List UInt8 × Int)) → (List (Int × (Int × (Int × Int)))) → (List zq0) → (List (Int × (Int × Int))) → Option β
abbrev zqgd := {β : Type} → zqgb β → zqgc β → (List (Int × (Int × (Int × Int)))) → Int → Int → (List (List UInt8 × Int)) → (List (Int × (Int × (Int × Int)))) → (List zq0) → (List (Int × (Int × Int))) → Option β
def zqge : View := ⟨0, [1, 46, 47, 48], [(false, [.ptr 0 0]), (false, [.data (.slice (.prod (.int .i64) (.prod (.int .i64) (.prod (.int .i64) (.int .i64)))))]), (false, [.data (.int .i64)]), (false, [.data (.int .i64)])], [.cells 32 [.data (.slice (.prod .str (.int .i64))), .data (.slice (.prod (.int .i64) (.prod (.int .i64) (.prod (.int .i64) (.int .i64))))), .data (.slice zq1), .data (.slice (.prod (.int .i64) (.prod (.int .i64) (.int .i64))))]]⟩
def zqgf : List (AExit × View) := [(.ret, ⟨0, [2], [(false, [.data .bool])], []⟩), (.exit 2, ⟨0, [1], [(false, [.ptr 0 0])], [.cells 32 [.data (.slice (.prod .str (.int .i64))), .data (.slice (.prod (.int .i64) (.prod (.int .i64) (.prod (.int .i64) (.int .i64))))), .data (.slice zq1), .data (.slice (.prod (.int .i64) (.prod (.int .i64) (.int .i64))))]]⟩)]
@[reducible] def clock_Valid_p2_G (p : zqgd) {β : Type} (d : zqge.den) (ks : Outs.K β zqgf) : Option β :=
  p (fun a0 => ks.1 (((a0, ()), ()), ())) (fun a0 a1 a2 a3 => ks.2.1 (((), ()), ((a0, a1, a2, a3, ()), ()))) d.1.2.1.1 d.1.2.2.1.1 d.1.2.2.2.1.1 d.2.1.1 d.2.1.2.1 d.2.1.2.2.1 d.2.1.2.2.2.1
abbrev zqgg (β : Type) := Bool → Option β
abbrev zqgh (β : Type) := (List (List UInt8 × Int)) → (List (Int × (Int × (Int × Int)))) → (List zq0) → (List (Int × (Int × Int))) → Option β
abbrev zqgi := {β : Type} → zqgg β → zqgh β → (List zq0) → Int → Int → (List (List UInt8 × Int)) → (List (Int × (Int × (Int × Int)))) → (List zq0) → (List (Int × (Int × Int))) → Option β
def zqgj : View := ⟨0, [1, 67, 68, 69], [(false, [.ptr 0 0]), (false, [.data (.slice zq1)]), (false, [.data (.int .i64)]), (false, [.data (.int .i64)])], [.cells 32 [.data (.slice (.prod .str (.int .i64))), .data (.slice (.prod (.int .i64) (.prod (.int .i64) (.prod (.int .i64) (.int .i64))))), .data (.slice zq1), .data (.slice (.prod (.int .i64) (.prod (.int .i64) (.int .i64))))]]⟩
def zqgk : List (AExit × View) := [(.ret, ⟨0, [2], [(false, [.data .bool])], []⟩), (.exit 4, ⟨0, [1], [(false, [.ptr 0 0])], [.cells 32 [.data (.slice (.prod .str (.int .i64))), .data (.slice (.prod (.int .i64) (.prod (.int .i64) (.prod (.int .i64) (.int .i64))))), .data (.slice zq1), .data (.slice (.prod (.int .i64) (.prod (.int .i64) (.int .i64))))]]⟩)]
@[reducible] def clock_Valid_p3_G (p : zqgi) {β : Type} (d : zqgj.den) (ks : Outs.K β zqgk) : Option β :=
  p (fun a0 => ks.1 (((a0, ()), ()), ())) (fun a0 a1 a2 a3 => ks.2.1 (((), ()), ((a0, a1, a2, a3, ()), ()))) d.1.2.1.1 d.1.2.2.1.1 d.1.2.2.2.1.1 d.2.1.1 d.2.1.2.1 d.2.1.2.2.1 d.2.1.2.2.2.1
abbrev zqgl (β : Type) := Bool → Option β
abbrev zqgm (β : Type) := Unit → Option β
abbrev zqgn := {β : Type} → zqgl β → zqgm β → (List (Int × (Int × Int))) → Int → Int → (List (List UInt8 × Int)) → (List (Int × (Int × (Int × Int)))) → (List zq0) → (List (Int × (Int × Int))) → Option β
def zqgo : View := ⟨0, [1, 89, 90, 91], [(false, [.ptr 0 0]), (false, [.data (.slice (.prod (.int .i64) (.prod (.int .i64) (.int .i64))))]), (false, [.data (.int .i64)]), (false, [.data (.int .i64)])], [.cells 32 [.data (.slice (.prod .str (.int .i64))), .data (.slice (.prod (.int .i64) (.prod (.int .i64) (.prod (.int .i64) (.int .i64))))), .data (.slice zq1), .data (.slice (.prod (.int .i64) (.prod (.int .i64) (.int .i64))))]]⟩
def zqgp : List (AExit × View) := [(.ret, ⟨0, [2], [(false, [.data .bool])], []⟩), (.exit 6, ⟨0, [], [], []⟩)]
@[reducible] def clock_Valid_p4_G (p : zqgn) {β : Type} (d : zqgo.den) (ks : Outs.K β zqgp) : Option β :=
  p (fun a0 => ks.1 (((a0, ()), ()), ())) (fun _ => ks.2.1 ((), ())) d.1.2.1.1 d.1.2.2.1.1 d.1.2.2.2.1.1 d.2.1.1 d.2.1.2.1 d.2.1.2.2.1 d.2.1.2.2.2.1
section
variable (c_clock_compared : zqf8) (c_clock_in : zq43) (c_clock_instant : zq4a)
@[reducible] def clock_Valid_X : Ctx := ⟨look tab, pick1 [(56, .spec (zqf9 c_clock_compared)), (55, .spec (zq44 c_clock_in)), (57, .spec (zq4b c_clock_instant))], false, false, false, false⟩
def zqgq {β : Type} (rec : (List (List UInt8 × Int)) → Int → Int → (List (List UInt8 × Int)) → (List (Int × (Int × (Int × Int)))) → (List zq0) → (List (Int × (Int × Int))) → Option β) (k1 : zqg6 β) (k2 : zqg7 β) (t34 : List (List UInt8 × Int)) (t35 : Int) (t36 : Int) (r_ : List (List UInt8 × Int)) (r_2 : List (Int × (Int × (Int × Int)))) (r_3 : List zq0) (r_4 : List (Int × (Int × Int))) : Option β :=
  cond (decide (t36 < t35))
  (cond (decide (0 ≤ t36) && decide (t36 < (List.length t34 : Int)))
  (let e : (List UInt8 × Int) := List.getD t34 (Int.toNat t36) (([] : List UInt8), (0 : Int));
  c_clock_in e.2 (0 : Int) (500000 : Int) (fun (rin : Bool) =>
  cond (!rin)
  (k1 false)
  (rec t34 t35 (IntKind.i64.wrap (t36 + (1 : Int))) r_ r_2 r_3 r_4)))
  none)
  (k2 r_ r_2 r_3 r_4)
def zqgr {β : Type} : Nat → zqg6 β → zqg7 β → (List (List UInt8 × Int)) → Int → Int → (List (List UInt8 × Int)) → (List (Int × (Int × (Int × Int)))) → (List zq0) → (List (Int × (Int × Int))) → Option β
  | 0 => fun _ _ _ _ _ _ _ _ _ => none
  | i + 1 => fun k1 k2 t34 t35 t36 r_ r_2 r_3 r_4 => zqgq c_clock_in (zqgr i k1 k2) k1 k2 t34 t35 t36 r_ r_2 r_3 r_4
theorem zqgs (hΓ : ΓOk Tryz.prog (clock_Valid_X c_clock_compared c_clock_in c_clock_instant).Γ) (i : Nat) : PieceOk Tryz.prog 127 0 clock_Valid_p1_code zqg9 zqga (clock_Valid_p1_G (zqgr c_clock_in i)) := by
  rw [show clock_Valid_p1_code = .loop (loopBody clock_Valid_p1_code) by kernel_rfl]
  exact piece_loop (X := (clock_Valid_X c_clock_compared c_clock_in c_clock_instant)) (p := 1) (Λ := pick1 []) (G := fun i => @fun β d ks => clock_Valid_p1_G (zqgr c_clock_in i) d ks) mixed tab_ok hΓ rfl (by kernel_rfl) CutsOk_nil (fun _ _ => rfl) (fun i => @fun β d ks r h => Eq.trans (b := clock_Valid_p1_G (zqgr c_clock_in (i + 1)) d ks) (by kernel_rfl) h) i
def zqgt {β : Type} (rec : (List (Int × (Int × (Int × Int)))) → Int → Int → (List (List UInt8 × Int)) → (List (Int × (Int × (Int × Int)))) → (List zq0) → (List (Int × (Int × Int))) → Option β) (k1 : zqgb β) (k2 : zqgc β) (t46 : List (Int × (Int × (Int × Int)))) (t47 : Int) (t48 : Int) (r_ : List (List UInt8 × Int)) (r_2 : List (Int × (Int × (Int × Int)))) (r_3 : List zq0) (r_4 : List (Int × (Int × Int))) : Option β :=
  cond (decide (t48 < t47))
  (cond (decide (0 ≤ t48) && decide (t48 < (List.length t46 : Int)))
  (let e : (Int × (Int × (Int × Int))) := List.getD t46 (Int.toNat t48) ((0 : Int), ((0 : Int), ((0 : Int), (0 : Int))));
  c_clock_in e.1 (0 : Int) (IntKind.i64.wrap ((List.length r_ : Int) - (1 : Int))) (fun (rin : Bool) =>
  cond (!rin)
  (k1 false)
  (c_clock_compared e (fun (rcompared : Bool) =>
  cond (!rcompared)
  (k1 false)
  (rec t46 t47 (IntKind.i64.wrap (t48 + (1 : Int))) r_ r_2 r_3 r_4)))))
  none)
  (k2 r_ r_2 r_3 r_4)
def zqgu {β : Type} : Nat → zqgb β → zqgc β → (List (Int × (Int × (Int × Int)))) → Int → Int → (List (List UInt8 × Int)) → (List (Int × (Int × (Int × Int)))) → (List zq0) → (List (Int × (Int × Int))) → Option β
  | 0 => fun _ _ _ _ _ _ _ _ _ => none
  | i + 1 => fun k1 k2 t46 t47 t48 r_ r_2 r_3 r_4 => zqgt c_clock_compared c_clock_in (zqgu i k1 k2) k1 k2 t46 t47 t48 r_ r_2 r_3 r_4
theorem zqgv (hΓ : ΓOk Tryz.prog (clock_Valid_X c_clock_compared c_clock_in c_clock_instant).Γ) (i : Nat) : PieceOk Tryz.prog 127 0 clock_Valid_p2_code zqge zqgf (clock_Valid_p2_G (zqgu c_clock_compared c_clock_in i)) := by
  rw [show clock_Valid_p2_code = .loop (loopBody clock_Valid_p2_code) by kernel_rfl]
  exact piece_loop (X := (clock_Valid_X c_clock_compared c_clock_in c_clock_instant)) (p := 1) (Λ := pick1 []) (G := fun i => @fun β d ks => clock_Valid_p2_G (zqgu c_clock_compared c_clock_in i) d ks) mixed tab_ok hΓ rfl (by kernel_rfl) CutsOk_nil (fun _ _ => rfl) (fun i => @fun β d ks r h => Eq.trans (b := clock_Valid_p2_G (zqgu c_clock_compared c_clock_in (i + 1)) d ks) (by kernel_rfl) h) i
def zqgw {β : Type} (rec : (List zq0) → Int → Int → (List (List UInt8 × Int)) → (List (Int × (Int × (Int × Int)))) → (List zq0) → (List (Int × (Int × Int))) → Option β) (k1 : zqgg β) (k2 : zqgh β) (t67 : List zq0) (t68 : Int) (t69 : Int) (r_ : List (List UInt8 × Int)) (r_2 : List (Int × (Int × (Int × Int)))) (r_3 : List zq0) (r_4 : List (Int × (Int × Int))) : Option β :=
  cond (decide (t69 < t68))
  (cond (decide (0 ≤ t69) && decide (t69 < (List.length t67 : Int)))
  (let e : zq0 := List.getD t67 (Int.toNat t69) ((0 : Int), ((0 : Int), ([] : List UInt8)));
  c_clock_in e.1 (0 : Int) (IntKind.i64.wrap ((List.length r_ : Int) - (1 : Int))) (fun (rin : Bool) =>
  cond (!rin)
  (k1 false)
  (c_clock_instant e.2.1 (fun (rinstant : Bool) =>
  cond (!rinstant)
  (k1 false)
  (rec t67 t68 (IntKind.i64.wrap (t69 + (1 : Int))) r_ r_2 r_3 r_4)))))
  none)
  (k2 r_ r_2 r_3 r_4)
def zqgx {β : Type} : Nat → zqgg β → zqgh β → (List zq0) → Int → Int → (List (List UInt8 × Int)) → (List (Int × (Int × (Int × Int)))) → (List zq0) → (List (Int × (Int × Int))) → Option β
  | 0 => fun _ _ _ _ _ _ _ _ _ => none
  | i + 1 => fun k1 k2 t67 t68 t69 r_ r_2 r_3 r_4 => zqgw c_clock_in c_clock_instant (zqgx i k1 k2) k1 k2 t67 t68 t69 r_ r_2 r_3 r_4
theorem zqgy (hΓ : ΓOk Tryz.prog (clock_Valid_X c_clock_compared c_clock_in c_clock_instant).Γ) (i : Nat) : PieceOk Tryz.prog 127 0 clock_Valid_p3_code zqgj zqgk (clock_Valid_p3_G (zqgx c_clock_in c_clock_instant i)) := by
  rw [show clock_Valid_p3_code = .loop (loopBody clock_Valid_p3_code) by kernel_rfl]
  exact piece_loop (X := (clock_Valid_X c_clock_compared c_clock_in c_clock_instant)) (p := 1) (Λ := pick1 []) (G := fun i => @fun β d ks => clock_Valid_p3_G (zqgx c_clock_in c_clock_instant i) d ks) mixed tab_ok hΓ rfl (by kernel_rfl) CutsOk_nil (fun _ _ => rfl) (fun i => @fun β d ks r h => Eq.trans (b := clock_Valid_p3_G (zqgx c_clock_in c_clock_instant (i + 1)) d ks) (by kernel_rfl) h) i
def zqgz {β : Type} (rec : (List (Int × (Int × Int))) → Int → Int → (List (List UInt8 × Int)) → (List (Int × (Int × (Int × Int)))) → (List zq0) → (List (Int × (Int × Int))) → Option β) (k1 : zqgl β) (k2 : zqgm β) (t89 : List (Int × (Int × Int))) (t90 : Int) (t91 : Int) (r_ : List (List UInt8 × Int)) (r_2 : List (Int × (Int × (Int × Int)))) (r_3 : List zq0) (r_4 : List (Int × (Int × Int))) : Option β :=
  cond (decide (t91 < t90))
  (cond (decide (0 ≤ t91) && decide (t91 < (List.length t89 : Int)))
  (let e : (Int × (Int × Int)) := List.getD t89 (Int.toNat t91) ((0 : Int), ((0 : Int), (0 : Int)));
  c_clock_in e.1 (0 : Int) (IntKind.i64.wrap ((List.length r_3 : Int) - (1 : Int))) (fun (rin : Bool) =>
  cond (!rin)
  (k1 false)
  (c_clock_in e.2.1 (0 : Int) (IntKind.i64.wrap ((List.length r_3 : Int) - (1 : Int))) (fun (rin2 : Bool) =>
  cond (!rin2)
  (k1 false)
  (cond (decide (e.1 = e.2.1))
  (k1 false)
  (c_clock_instant e.2.2 (fun (rinstant : Bool) =>
  cond (!rinstant)
  (k1 false)
  (rec t89 t90 (IntKind.i64.wrap (t91 + (1 : Int))) r_ r_2 r_3 r_4))))))))
  none)
  (k2 ())
def zqh0 {β : Type} : Nat → zqgl β → zqgm β → (List (Int × (Int × Int))) → Int → Int → (List (List UInt8 × Int)) → (List (Int × (Int × (Int × Int)))) → (List zq0) → (List (Int × (Int × Int))) → Option β
  | 0 => fun _ _ _ _ _ _ _ _ _ => none
  | i + 1 => fun k1 k2 t89 t90 t91 r_ r_2 r_3 r_4 => zqgz c_clock_in c_clock_instant (zqh0 i k1 k2) k1 k2 t89 t90 t91 r_ r_2 r_3 r_4
theorem zqh1 (hΓ : ΓOk Tryz.prog (clock_Valid_X c_clock_compared c_clock_in c_clock_instant).Γ) (i : Nat) : PieceOk Tryz.prog 127 0 clock_Valid_p4_code zqgo zqgp (clock_Valid_p4_G (zqh0 c_clock_in c_clock_instant i)) := by
  rw [show clock_Valid_p4_code = .loop (loopBody clock_Valid_p4_code) by kernel_rfl]
  exact piece_loop (X := (clock_Valid_X c_clock_compared c_clock_in c_clock_instant)) (p := 1) (Λ := pick1 []) (G := fun i => @fun β d ks => clock_Valid_p4_G (zqh0 c_clock_in c_clock_instant i) d ks) mixed tab_ok hΓ rfl (by kernel_rfl) CutsOk_nil (fun _ _ => rfl) (fun i => @fun β d ks r h => Eq.trans (b := clock_Valid_p4_G (zqh0 c_clock_in c_clock_instant (i + 1)) d ks) (by kernel_rfl) h) i
def zqh2 (p1 : zqg8) (p2 : zqgd) (p3 : zqgi) (p4 : zqgn) {β : Type} (r_ : zq2) (k : (Bool → Option β)) : Option β :=
  cond (decide ((8 : Int) < (List.length r_.1 : Int)))
  (k false)
  (cond (decide ((64 : Int) < (List.length r_.2.1 : Int)))
  (k false)
  (cond (decide ((40 : Int) < (List.length r_.2.2.1 : Int)))
  (k false)
  (cond (decide ((64 : Int) < (List.length r_.2.2.2 : Int)))
  (k false)
  (p1 (fun (t2 : Bool) =>
  k t2) (fun (r_2 : List (List UInt8 × Int)) (r_3 : List (Int × (Int × (Int × Int)))) (r_4 : List zq0) (r_5 : List (Int × (Int × Int))) =>
  p2 (fun (t2 : Bool) =>
  k t2) (fun (r_6 : List (List UInt8 × Int)) (r_7 : List (Int × (Int × (Int × Int)))) (r_8 : List zq0) (r_9 : List (Int × (Int × Int))) =>
  p3 (fun (t2 : Bool) =>
  k t2) (fun (r_10 : List (List UInt8 × Int)) (r_11 : List (Int × (Int × (Int × Int)))) (r_12 : List zq0) (r_13 : List (Int × (Int × Int))) =>
  p4 (fun (t2 : Bool) =>
  k t2) (fun (_ : Unit) =>
  k true) r_13 (List.length r_13 : Int) (0 : Int) r_10 r_11 r_12 r_13) r_8 (List.length r_8 : Int) (0 : Int) r_6 r_7 r_8 r_9) r_3 (List.length r_3 : Int) (0 : Int) r_2 r_3 r_4 r_5) r_.1 (List.length r_.1 : Int) (0 : Int) r_.1 r_.2.1 r_.2.2.1 r_.2.2.2))))
theorem zqh3 (hΓ : ΓOk Tryz.prog (clock_Valid_X c_clock_compared c_clock_in c_clock_instant).Γ) (p1 : zqg8) (p2 : zqgd) (p3 : zqgi) (p4 : zqgn) (hp1 : PieceOk Tryz.prog 127 0 clock_Valid_p1_code zqg9 zqga (clock_Valid_p1_G p1)) (hp2 : PieceOk Tryz.prog 127 0 clock_Valid_p2_code zqge zqgf (clock_Valid_p2_G p2)) (hp3 : PieceOk Tryz.prog 127 0 clock_Valid_p3_code zqgj zqgk (clock_Valid_p3_G p3)) (hp4 : PieceOk Tryz.prog 127 0 clock_Valid_p4_code zqgo zqgp (clock_Valid_p4_G p4)) : SpecOk Tryz.prog 33 (zqg5 (zqh2 p1 p2 p3 p4)) :=
  spec_exec (X := (clock_Valid_X c_clock_compared c_clock_in c_clock_instant)) (Λ := pick1 [(58, pieceCut zqg9 zqga (clock_Valid_p1_G p1)), (122, pieceCut zqge zqgf (clock_Valid_p2_G p2)), (250, pieceCut zqgj zqgk (clock_Valid_p3_G p3)), (506, pieceCut zqgo zqgp (clock_Valid_p4_G p4))]) (rs := [.tmp 2]) (c := bodyOf Tryz.f33) mixed tab_ok hΓ Tryz.func33 (by kernel_rfl) (by kernel_rfl) (by kernel_rfl) (by kernel_rfl) (CutsOk_cons (q := 58) (c' := clock_Valid_p1_code) (by kernel_rfl) rfl hp1 (CutsOk_cons (q := 122) (c' := clock_Valid_p2_code) (by kernel_rfl) rfl hp2 (CutsOk_cons (q := 250) (c' := clock_Valid_p3_code) (by kernel_rfl) rfl hp3 (CutsOk_cons (q := 506) (c' := clock_Valid_p4_code) (by kernel_rfl) rfl hp4 CutsOk_nil)))) (fun x k r h => Eq.trans (b := (zqg5 (zqh2 p1 p2 p3 p4)).run x k) (by kernel_rfl) h)
end
theorem zqh4Γ : ΓOk Tryz.prog (pick1 [(56, .spec (zqf9 zqfd)), (55, .spec (zq44 zq48)), (57, .spec (zq4b zq4f))]) := (ΓOk_cons zqfe (ΓOk_cons zq49 (ΓOk_cons zq4g ΓOk_nil)))
def zqh5 (m : Nat) : zqg8 := zqgr zq48 m
theorem zqh6 {β : Type} (i : Nat) (k1 k2 t34 t35 t36 r_ r_2 r_3 r_4) : (zqh5 (i + 1) k1 k2 t34 t35 t36 r_ r_2 r_3 r_4 : Option β) = zqgq zq48 (zqh5 i k1 k2) k1 k2 t34 t35 t36 r_ r_2 r_3 r_4 := rfl
def zqh7 : zqg8 := zqh5 fuel
theorem zqh8 : PieceOk Tryz.prog 127 0 clock_Valid_p1_code zqg9 zqga (clock_Valid_p1_G zqh7) := zqgs zqfd zq48 zq4f zqh4Γ fuel
def zqh9 (m : Nat) : zqgd := zqgu zqfd zq48 m
theorem zqha {β : Type} (i : Nat) (k1 k2 t46 t47 t48 r_ r_2 r_3 r_4) : (zqh9 (i + 1) k1 k2 t46 t47 t48 r_ r_2 r_3 r_4 : Option β) = zqgt zqfd zq48 (zqh9 i k1 k2) k1 k2 t46 t47 t48 r_ r_2 r_3 r_4 := rfl
def zqhb : zqgd := zqh9 fuel
theorem zqhc : PieceOk Tryz.prog 127 0 clock_Valid_p2_code zqge zqgf (clock_Valid_p2_G zqhb) := zqgv zqfd zq48 zq4f zqh4Γ fuel
def zqhd (m : Nat) : zqgi := zqgx zq48 zq4f m
theorem zqhe {β : Type} (i : Nat) (k1 k2 t67 t68 t69 r_ r_2 r_3 r_4) : (zqhd (i + 1) k1 k2 t67 t68 t69 r_ r_2 r_3 r_4 : Option β) = zqgw zq48 zq4f (zqhd i k1 k2) k1 k2 t67 t68 t69 r_ r_2 r_3 r_4 := rfl
def zqhf : zqgi := zqhd fuel
theorem zqhg : PieceOk Tryz.prog 127 0 clock_Valid_p3_code zqgj zqgk (clock_Valid_p3_G zqhf) := zqgy zqfd zq48 zq4f zqh4Γ fuel
def zqhh (m : Nat) : zqgn := zqh0 zq48 zq4f m
theorem zqhi {β : Type} (i : Nat) (k1 k2 t89 t90 t91 r_ r_2 r_3 r_4) : (zqhh (i + 1) k1 k2 t89 t90 t91 r_ r_2 r_3 r_4 : Option β) = zqgz zq48 zq4f (zqhh i k1 k2) k1 k2 t89 t90 t91 r_ r_2 r_3 r_4 := rfl
def zqhj : zqgn := zqhh fuel
theorem zqhk : PieceOk Tryz.prog 127 0 clock_Valid_p4_code zqgo zqgp (clock_Valid_p4_G zqhj) := zqh1 zqfd zq48 zq4f zqh4Γ fuel
def zqhl : zqg4 := zqh2 zqh7 zqhb zqhf zqhj
theorem zqhm : SpecOk Tryz.prog 33 (zqg5 zqhl) := zqh3 zqfd zq48 zq4f zqh4Γ zqh7 zqhb zqhf zqhj zqh8 zqhc zqhg zqhk

/-- pagewatch/pagewatchref40.Constraints -/
abbrev zqhn := {β : Type} → zq2 → (Bool → (List (Int × (Int × Int))) → Option β) → Option β
def zqho (c : zqhn) : Spec :=
  ⟨[(true, [.data zq3])], [], [(false, [.rowh 0]), (false, [.data .bool])], [.row 122 (.prod (.int .i64) (.prod (.int .i64) (.int .i64)))], fun x k => c x.1.1.1 (fun r0 r1 => k (((), (r0, ()), ()), (r1, ())))⟩
noncomputable def ref40_Constraints_p1_code : Code := codeAt 122 (bodyOf Tryz.f36)
noncomputable def ref40_Constraints_p4_code : Code := codeAt 250 (bodyOf Tryz.f36)
noncomputable def ref40_Constraints_p5_code : Code := codeAt 506 (bodyOf Tryz.f36)
noncomputable def ref40_Constraints_p3_code : Code := codeAt 50 (loopBody ref40_Constraints_p4_code)
noncomputable def ref40_Constraints_p2_code : Code := codeAt 207 (loopBody ref40_Constraints_p3_code)
abbrev zqhp (β : Type) := Bool → (List (Int × (Int × Int))) → Option β
abbrev zqhq (β : Type) := (List (List UInt8 × Int)) → (List (Int × (Int × (Int × Int)))) → (List zq0) → (List (Int × (Int × Int))) → (List (Int × (Int × Int))) → Option β
abbrev zqhr := {β : Type} → zqhp β → zqhq β → Int → (List (List UInt8 × Int)) → (List (Int × (Int × (Int × Int)))) → (List zq0) → (List (Int × (Int × Int))) → (List (Int × (Int × Int))) → Option β
def zqhs : View := ⟨0, [1, 4, 5], [(false, [.ptr 0 0]), (false, [.rowh 1]), (false, [.data (.int .i64)])], [.cells 32 [.data (.slice (.prod .str (.int .i64))), .data (.slice (.prod (.int .i64) (.prod (.int .i64) (.prod (.int .i64) (.int .i64))))), .data (.slice zq1), .data (.slice (.prod (.int .i64) (.prod (.int .i64) (.int .i64))))], .row 122 (.prod (.int .i64) (.prod (.int .i64) (.int .i64)))]⟩
def zqht : List (AExit × View) := [(.ret, ⟨0, [2, 3], [(false, [.rowh 0]), (false, [.data .bool])], [.row 122 (.prod (.int .i64) (.prod (.int .i64) (.int .i64)))]⟩), (.exit 0, ⟨0, [1, 4], [(false, [.ptr 0 0]), (false, [.rowh 1])], [.cells 32 [.data (.slice (.prod .str (.int .i64))), .data (.slice (.prod (.int .i64) (.prod (.int .i64) (.prod (.int .i64) (.int .i64))))), .data (.slice zq1), .data (.slice (.prod (.int .i64) (.prod (.int .i64) (.int .i64))))], .row 122 (.prod (.int .i64) (.prod (.int .i64) (.int .i64)))]⟩)]
@[reducible] def ref40_Constraints_p1_G (p : zqhr) {β : Type} (d : zqhs.den) (ks : Outs.K β zqht) : Option β :=
  p (fun a0 a1 => ks.1 (((), (a0, ()), ()), (a1, ()))) (fun a0 a1 a2 a3 a4 => ks.2.1 (((), (), ()), ((a0, a1, a2, a3, ()), a4, ()))) d.1.2.2.1.1 d.2.1.1 d.2.1.2.1 d.2.1.2.2.1 d.2.1.2.2.2.1 d.2.2.1
abbrev zqhu (β : Type) := Int → Int → (List (List UInt8 × Int)) → (List (Int × (Int × (Int × Int)))) → (List zq0) → (List (Int × (Int × Int))) → (List (Int × (Int × Int))) → Option β
abbrev zqhv := {β : Type} → zqhu β → Int → Int → Int → Int → Int → (List (List UInt8 × Int)) → (List (Int × (Int × (Int × Int)))) → (List zq0) → (List (Int × (Int × Int))) → (List (Int × (Int × Int))) → Int → Int → (List UInt8) → Option β
def zqhw : View := ⟨0, [1, 4, 8, 9, 10, 12, 13, 14], [(false, [.ptr 0 0]), (false, [.rowh 1]), (false, [.data (.int .i64)]), (false, [.data (.int .i64)]), (false, [.ptr 2 0]), (false, [.data (.int .i64)]), (false, [.data (.int .i64)]), (false, [.data (.int .i64)])], [.cells 32 [.data (.slice (.prod .str (.int .i64))), .data (.slice (.prod (.int .i64) (.prod (.int .i64) (.prod (.int .i64) (.int .i64))))), .data (.slice zq1), .data (.slice (.prod (.int .i64) (.prod (.int .i64) (.int .i64))))], .row 122 (.prod (.int .i64) (.prod (.int .i64) (.int .i64))), .cells 60 [.data (.int .i64), .data (.int .i64), .data .str]]⟩
def zqhx : List (AExit × View) := [(.normal, ⟨0, [1, 4, 8, 9], [(false, [.ptr 0 0]), (false, [.rowh 1]), (false, [.data (.int .i64)]), (false, [.data (.int .i64)])], [.cells 32 [.data (.slice (.prod .str (.int .i64))), .data (.slice (.prod (.int .i64) (.prod (.int .i64) (.prod (.int .i64) (.int .i64))))), .data (.slice zq1), .data (.slice (.prod (.int .i64) (.prod (.int .i64) (.int .i64))))], .row 122 (.prod (.int .i64) (.prod (.int .i64) (.int .i64)))]⟩)]
@[reducible] def ref40_Constraints_p2_G (p : zqhv) {β : Type} (d : zqhw.den) (ks : Outs.K β zqhx) : Option β :=
  p (fun a0 a1 a2 a3 a4 a5 a6 => ks.1 (((), (), (a0, ()), (a1, ()), ()), ((a2, a3, a4, a5, ()), a6, ()))) d.1.2.2.1.1 d.1.2.2.2.1.1 d.1.2.2.2.2.2.1.1 d.1.2.2.2.2.2.2.1.1 d.1.2.2.2.2.2.2.2.1.1 d.2.1.1 d.2.1.2.1 d.2.1.2.2.1 d.2.1.2.2.2.1 d.2.2.1 d.2.2.2.1.1 d.2.2.2.1.2.1 d.2.2.2.1.2.2.1
abbrev zqhy (β : Type) := Int → (List (List UInt8 × Int)) → (List (Int × (Int × (Int × Int)))) → (List zq0) → (List (Int × (Int × Int))) → (List (Int × (Int × Int))) → Option β
abbrev zqhz := {β : Type} → zqhy β → Int → Int → (List (List UInt8 × Int)) → (List (Int × (Int × (Int × Int)))) → (List zq0) → (List (Int × (Int × Int))) → (List (Int × (Int × Int))) → Option β
def zqi0 : View := ⟨0, [1, 4, 8, 9], [(false, [.ptr 0 0]), (false, [.rowh 1]), (false, [.data (.int .i64)]), (false, [.data (.int .i64)])], [.cells 32 [.data (.slice (.prod .str (.int .i64))), .data (.slice (.prod (.int .i64) (.prod (.int .i64) (.prod (.int .i64) (.int .i64))))), .data (.slice zq1), .data (.slice (.prod (.int .i64) (.prod (.int .i64) (.int .i64))))], .row 122 (.prod (.int .i64) (.prod (.int .i64) (.int .i64)))]⟩
def zqi1 : List (AExit × View) := [(.exit 4, ⟨0, [1, 4, 8], [(false, [.ptr 0 0]), (false, [.rowh 1]), (false, [.data (.int .i64)])], [.cells 32 [.data (.slice (.prod .str (.int .i64))), .data (.slice (.prod (.int .i64) (.prod (.int .i64) (.prod (.int .i64) (.int .i64))))), .data (.slice zq1), .data (.slice (.prod (.int .i64) (.prod (.int .i64) (.int .i64))))], .row 122 (.prod (.int .i64) (.prod (.int .i64) (.int .i64)))]⟩)]
@[reducible] def ref40_Constraints_p3_G (p : zqhz) {β : Type} (d : zqi0.den) (ks : Outs.K β zqi1) : Option β :=
  p (fun a0 a1 a2 a3 a4 a5 => ks.1 (((), (), (a0, ()), ()), ((a1, a2, a3, a4, ()), a5, ()))) d.1.2.2.1.1 d.1.2.2.2.1.1 d.2.1.1 d.2.1.2.1 d.2.1.2.2.1 d.2.1.2.2.2.1 d.2.2.1
abbrev zqi2 (β : Type) := (List (List UInt8 × Int)) → (List (Int × (Int × (Int × Int)))) → (List zq0) → (List (Int × (Int × Int))) → (List (Int × (Int × Int))) → Option β
abbrev zqi3 := {β : Type} → zqi2 β → Int → (List (List UInt8 × Int)) → (List (Int × (Int × (Int × Int)))) → (List zq0) → (List (Int × (Int × Int))) → (List (Int × (Int × Int))) → Option β
def zqi4 : View := ⟨0, [1, 4, 8], [(false, [.ptr 0 0]), (false, [.rowh 1]), (false, [.data (.int .i64)])], [.cells 32 [.data (.slice (.prod .str (.int .i64))), .data (.slice (.prod (.int .i64) (.prod (.int .i64) (.prod (.int .i64) (.int .i64))))), .data (.slice zq1), .data (.slice (.prod (.int .i64) (.prod (.int .i64) (.int .i64))))], .row 122 (.prod (.int .i64) (.prod (.int .i64) (.int .i64)))]⟩
def zqi5 : List (AExit × View) := [(.exit 2, ⟨0, [1, 4], [(false, [.ptr 0 0]), (false, [.rowh 1])], [.cells 32 [.data (.slice (.prod .str (.int .i64))), .data (.slice (.prod (.int .i64) (.prod (.int .i64) (.prod (.int .i64) (.int .i64))))), .data (.slice zq1), .data (.slice (.prod (.int .i64) (.prod (.int .i64) (.int .i64))))], .row 122 (.prod (.int .i64) (.prod (.int .i64) (.int .i64)))]⟩)]
@[reducible] def ref40_Constraints_p4_G (p : zqi3) {β : Type} (d : zqi4.den) (ks : Outs.K β zqi5) : Option β :=
  p (fun a0 a1 a2 a3 a4 => ks.1 (((), (), ()), ((a0, a1, a2, a3, ()), a4, ()))) d.1.2.2.1.1 d.2.1.1 d.2.1.2.1 d.2.1.2.2.1 d.2.1.2.2.2.1 d.2.2.1
abbrev zqi6 (β : Type) := (List (Int × (Int × Int))) → Option β
abbrev zqi7 := {β : Type} → zqi6 β → Int → (List (List UInt8 × Int)) → (List (Int × (Int × (Int × Int)))) → (List zq0) → (List (Int × (Int × Int))) → (List (Int × (Int × Int))) → Option β
def zqi8 : View := ⟨0, [1, 4, 17], [(false, [.ptr 0 0]), (false, [.rowh 1]), (false, [.data (.int .i64)])], [.cells 32 [.data (.slice (.prod .str (.int .i64))), .data (.slice (.prod (.int .i64) (.prod (.int .i64) (.prod (.int .i64) (.int .i64))))), .data (.slice zq1), .data (.slice (.prod (.int .i64) (.prod (.int .i64) (.int .i64))))], .row 122 (.prod (.int .i64) (.prod (.int .i64) (.int .i64)))]⟩
def zqi9 : List (AExit × View) := [(.exit 6, ⟨0, [4], [(false, [.rowh 0])], [.row 122 (.prod (.int .i64) (.prod (.int .i64) (.int .i64)))]⟩)]
@[reducible] def ref40_Constraints_p5_G (p : zqi7) {β : Type} (d : zqi8.den) (ks : Outs.K β zqi9) : Option β :=
  p (fun a0 => ks.1 (((), ()), (a0, ()))) d.1.2.2.1.1 d.2.1.1 d.2.1.2.1 d.2.1.2.2.1 d.2.1.2.2.2.1 d.2.2.1
section
variable (c_ref38_Elapsed : zq60) (c_ref38_Valid : zq4h) (c_ref38_When : zqff)
@[reducible] def ref40_Constraints_X : Ctx := ⟨look tab, pick1 [(64, .spec (zq61 c_ref38_Elapsed)), (62, .spec (zq4i c_ref38_Valid)), (63, .spec (zqfg c_ref38_When))], false, false, false, false⟩
def zqia {β : Type} (rec : Int → (List (List UInt8 × Int)) → (List (Int × (Int × (Int × Int)))) → (List zq0) → (List (Int × (Int × Int))) → (List (Int × (Int × Int))) → Option β) (k1 : zqhp β) (k2 : zqhq β) (i_ : Int) (r_ : List (List UInt8 × Int)) (r_2 : List (Int × (Int × (Int × Int)))) (r_3 : List zq0) (r_4 : List (Int × (Int × Int))) (out : List (Int × (Int × Int))) : Option β :=
  cond (decide (i_ < (List.length r_3 : Int)))
  (cond (decide (0 ≤ i_) && decide (i_ < (List.length r_3 : Int)))
  (let e : zq0 := List.getD r_3 (Int.toNat i_) ((0 : Int), ((0 : Int), ([] : List UInt8)));
  cond (decide (0 ≤ i_) && decide (i_ < (List.length r_3 : Int)))
  (let e2 : zq0 := List.getD r_3 (Int.toNat i_) ((0 : Int), ((0 : Int), ([] : List UInt8)));
  c_ref38_When (r_, (r_2, (r_3, r_4))) e.1 e2.2.1 (fun (rWhen : (Int × Int)) (rWhen2 : Bool) =>
  cond (!rWhen2)
  (k1 false ([] : List (Int × (Int × Int))))
  (let l : List (Int × (Int × Int)) := ([((0 : Int), ((IntKind.i64.wrap (i_ + (1 : Int))), rWhen.2)), ((IntKind.i64.wrap (i_ + (1 : Int))), ((0 : Int), (IntKind.i64.wrap (0 - rWhen.1))))] : List (Int × (Int × Int)));
  cond (decide ((List.length out + List.length l) * 24 ≤ roomMax))
  (let l2 : List (Int × (Int × Int)) := (out ++ l);
  let i_2 : Int := (IntKind.i64.wrap (i_ + (1 : Int)));
  rec i_2 r_ r_2 r_3 r_4 l2)
  none)))
  none)
  none)
  (k2 r_ r_2 r_3 r_4 out)
def zqib {β : Type} : Nat → zqhp β → zqhq β → Int → (List (List UInt8 × Int)) → (List (Int × (Int × (Int × Int)))) → (List zq0) → (List (Int × (Int × Int))) → (List (Int × (Int × Int))) → Option β
  | 0 => fun _ _ _ _ _ _ _ _ => none
  | i + 1 => fun k1 k2 i_ r_ r_2 r_3 r_4 out => zqia c_ref38_When (zqib i k1 k2) k1 k2 i_ r_ r_2 r_3 r_4 out
theorem zqic (hΓ : ΓOk Tryz.prog (ref40_Constraints_X c_ref38_Elapsed c_ref38_Valid c_ref38_When).Γ) (i : Nat) : PieceOk Tryz.prog 164 0 ref40_Constraints_p1_code zqhs zqht (ref40_Constraints_p1_G (zqib c_ref38_When i)) := by
  rw [show ref40_Constraints_p1_code = .loop (loopBody ref40_Constraints_p1_code) by kernel_rfl]
  exact piece_loop (X := (ref40_Constraints_X c_ref38_Elapsed c_ref38_Valid c_ref38_When)) (p := 1) (Λ := pick1 []) (G := fun i => @fun β d ks => ref40_Constraints_p1_G (zqib c_ref38_When i) d ks) mixed tab_ok hΓ rfl (by kernel_rfl) CutsOk_nil (fun _ _ => rfl) (fun i => @fun β d ks r h => Eq.trans (b := ref40_Constraints_p1_G (zqib c_ref38_When (i + 1)) d ks) (by kernel_rfl) h) i
def zqid {β : Type} (k1 : zqhu β) (i_ : Int) (j : Int) (a : Int) (b : Int) (d : Int) (r_ : List (List UInt8 × Int)) (r_2 : List (Int × (Int × (Int × Int)))) (r_3 : List zq0) (r_4 : List (Int × (Int × Int))) (out : List (Int × (Int × Int))) (x : Int) (x2 : Int) (x3 : List UInt8) : Option β :=
  cond (decide (0 ≤ x) && decide (x < (List.length r_ : Int)))
  (let e : (List UInt8 × Int) := List.getD r_ (Int.toNat x) (([] : List UInt8), (0 : Int));
  c_ref38_Elapsed e.2 d (fun (rElapsed : Int) (rElapsed2 : Int) =>
  let l : List (Int × (Int × Int)) := ([(a, (b, rElapsed2)), (b, (a, (IntKind.i64.wrap (0 - rElapsed))))] : List (Int × (Int × Int)));
  cond (decide ((List.length out + List.length l) * 24 ≤ roomMax))
  (let l2 : List (Int × (Int × Int)) := (out ++ l);
  k1 i_ j r_ r_2 r_3 r_4 l2)
  none))
  none
def zqie {β : Type} (k1 : zqhu β) (i_ : Int) (j : Int) (a : Int) (b : Int) (d : Int) (r_ : List (List UInt8 × Int)) (r_2 : List (Int × (Int × (Int × Int)))) (r_3 : List zq0) (r_4 : List (Int × (Int × Int))) (out : List (Int × (Int × Int))) (x : Int) (x2 : Int) (x3 : List UInt8) : Option β := zqid c_ref38_Elapsed k1 i_ j a b d r_ r_2 r_3 r_4 out x x2 x3
theorem zqif (hΓ : ΓOk Tryz.prog (ref40_Constraints_X c_ref38_Elapsed c_ref38_Valid c_ref38_When).Γ) : PieceOk Tryz.prog 164 0 ref40_Constraints_p2_code zqhw zqhx (ref40_Constraints_p2_G (zqie c_ref38_Elapsed)) :=
  piece_exec (X := (ref40_Constraints_X c_ref38_Elapsed c_ref38_Valid c_ref38_When)) (p := 207) (Λ := pick1 []) mixed tab_ok hΓ (by kernel_rfl) CutsOk_nil (fun d ks r h => Eq.trans (b := ref40_Constraints_p2_G (zqie c_ref38_Elapsed) d ks) (by kernel_rfl) h)
def zqig (p2 : zqhv) {β : Type} (rec : Int → Int → (List (List UInt8 × Int)) → (List (Int × (Int × (Int × Int)))) → (List zq0) → (List (Int × (Int × Int))) → (List (Int × (Int × Int))) → Option β) (k1 : zqhy β) (i_ : Int) (j : Int) (r_ : List (List UInt8 × Int)) (r_2 : List (Int × (Int × (Int × Int)))) (r_3 : List zq0) (r_4 : List (Int × (Int × Int))) (out : List (Int × (Int × Int))) : Option β :=
  cond (decide (j < (List.length r_3 : Int)))
  (cond (decide (0 ≤ i_) && decide (i_ < (List.length r_3 : Int)))
  (let e : zq0 := List.getD r_3 (Int.toNat i_) ((0 : Int), ((0 : Int), ([] : List UInt8)));
  cond (decide (0 ≤ j) && decide (j < (List.length r_3 : Int)))
  (let e2 : zq0 := List.getD r_3 (Int.toNat j) ((0 : Int), ((0 : Int), ([] : List UInt8)));
  cond (!decide (e.1 = e2.1))
  (let j2 : Int := (IntKind.i64.wrap (j + (1 : Int)));
  rec i_ j2 r_ r_2 r_3 r_4 out)
  (let a : Int := (IntKind.i64.wrap (i_ + (1 : Int)));
  let b : Int := (IntKind.i64.wrap (j + (1 : Int)));
  let d : Int := (IntKind.i64.wrap (e2.2.1 - e.2.1));
  cond (decide (d < (0 : Int)))
  (let d2 : Int := (IntKind.i64.wrap (0 - d));
  p2 (fun (i_2 : Int) (j2 : Int) (r_5 : List (List UInt8 × Int)) (r_6 : List (Int × (Int × (Int × Int)))) (r_7 : List zq0) (r_8 : List (Int × (Int × Int))) (out2 : List (Int × (Int × Int))) =>
  let j3 : Int := (IntKind.i64.wrap (j2 + (1 : Int)));
  rec i_2 j3 r_5 r_6 r_7 r_8 out2) i_ j b a d2 r_ r_2 r_3 r_4 out e.1 e.2.1 e.2.2)
  (p2 (fun (i_2 : Int) (j2 : Int) (r_5 : List (List UInt8 × Int)) (r_6 : List (Int × (Int × (Int × Int)))) (r_7 : List zq0) (r_8 : List (Int × (Int × Int))) (out2 : List (Int × (Int × Int))) =>
  let j3 : Int := (IntKind.i64.wrap (j2 + (1 : Int)));
  rec i_2 j3 r_5 r_6 r_7 r_8 out2) i_ j a b d r_ r_2 r_3 r_4 out e.1 e.2.1 e.2.2)))
  none)
  none)
  (k1 i_ r_ r_2 r_3 r_4 out)
def zqih (p2 : zqhv) {β : Type} : Nat → zqhy β → Int → Int → (List (List UInt8 × Int)) → (List (Int × (Int × (Int × Int)))) → (List zq0) → (List (Int × (Int × Int))) → (List (Int × (Int × Int))) → Option β
  | 0 => fun _ _ _ _ _ _ _ _ => none
  | i + 1 => fun k1 i_ j r_ r_2 r_3 r_4 out => zqig p2 (zqih p2 i k1) k1 i_ j r_ r_2 r_3 r_4 out
theorem zqii (hΓ : ΓOk Tryz.prog (ref40_Constraints_X c_ref38_Elapsed c_ref38_Valid c_ref38_When).Γ) (p2 : zqhv) (hp2 : PieceOk Tryz.prog 164 0 ref40_Constraints_p2_code zqhw zqhx (ref40_Constraints_p2_G p2)) (i : Nat) : PieceOk Tryz.prog 164 0 ref40_Constraints_p3_code zqi0 zqi1 (ref40_Constraints_p3_G (zqih p2 i)) := by
  rw [show ref40_Constraints_p3_code = .loop (loopBody ref40_Constraints_p3_code) by kernel_rfl]
  exact piece_loop (X := (ref40_Constraints_X c_ref38_Elapsed c_ref38_Valid c_ref38_When)) (p := 1) (Λ := pick1 [(207, pieceCut zqhw zqhx (ref40_Constraints_p2_G p2))]) (G := fun i => @fun β d ks => ref40_Constraints_p3_G (zqih p2 i) d ks) mixed tab_ok hΓ rfl (by kernel_rfl) (CutsOk_cons (q := 207) (c' := ref40_Constraints_p2_code) (by kernel_rfl) rfl hp2 CutsOk_nil) (fun _ _ => rfl) (fun i => @fun β d ks r h => Eq.trans (b := ref40_Constraints_p3_G (zqih p2 (i + 1)) d ks) (by kernel_rfl) h) i
def zqij (p3 : zqhz) {β : Type} (rec : Int → (List (List UInt8 × Int)) → (List (Int × (Int × (Int × Int)))) → (List zq0) → (List (Int × (Int × Int))) → (List (Int × (Int × Int))) → Option β) (k1 : zqi2 β) (i_ : Int) (r_ : List (List UInt8 × Int)) (r_2 : List (Int × (Int × (Int × Int)))) (r_3 : List zq0) (r_4 : List (Int × (Int × Int))) (out : List (Int × (Int × Int))) : Option β :=
  cond (decide (i_ < (List.length r_3 : Int)))
  (let j : Int := (IntKind.i64.wrap (i_ + (1 : Int)));
  p3 (fun (i_2 : Int) (r_5 : List (List UInt8 × Int)) (r_6 : List (Int × (Int × (Int × Int)))) (r_7 : List zq0) (r_8 : List (Int × (Int × Int))) (out2 : List (Int × (Int × Int))) =>
  let i_3 : Int := (IntKind.i64.wrap (i_2 + (1 : Int)));
  rec i_3 r_5 r_6 r_7 r_8 out2) i_ j r_ r_2 r_3 r_4 out)
  (k1 r_ r_2 r_3 r_4 out)
def zqik (p3 : zqhz) {β : Type} : Nat → zqi2 β → Int → (List (List UInt8 × Int)) → (List (Int × (Int × (Int × Int)))) → (List zq0) → (List (Int × (Int × Int))) → (List (Int × (Int × Int))) → Option β
  | 0 => fun _ _ _ _ _ _ _ => none
  | i + 1 => fun k1 i_ r_ r_2 r_3 r_4 out => zqij p3 (zqik p3 i k1) k1 i_ r_ r_2 r_3 r_4 out
theorem zqil (hΓ : ΓOk Tryz.prog (ref40_Constraints_X c_ref38_Elapsed c_ref38_Valid c_ref38_When).Γ) (p3 : zqhz) (hp3 : PieceOk Tryz.prog 164 0 ref40_Constraints_p3_code zqi0 zqi1 (ref40_Constraints_p3_G p3)) (i : Nat) : PieceOk Tryz.prog 164 0 ref40_Constraints_p4_code zqi4 zqi5 (ref40_Constraints_p4_G (zqik p3 i)) := by
  rw [show ref40_Constraints_p4_code = .loop (loopBody ref40_Constraints_p4_code) by kernel_rfl]
  exact piece_loop (X := (ref40_Constraints_X c_ref38_Elapsed c_ref38_Valid c_ref38_When)) (p := 1) (Λ := pick1 [(50, pieceCut zqi0 zqi1 (ref40_Constraints_p3_G p3))]) (G := fun i => @fun β d ks => ref40_Constraints_p4_G (zqik p3 i) d ks) mixed tab_ok hΓ rfl (by kernel_rfl) (CutsOk_cons (q := 50) (c' := ref40_Constraints_p3_code) (by kernel_rfl) rfl hp3 CutsOk_nil) (fun _ _ => rfl) (fun i => @fun β d ks r h => Eq.trans (b := ref40_Constraints_p4_G (zqik p3 (i + 1)) d ks) (by kernel_rfl) h) i
def zqim {β : Type} (rec : Int → (List (List UInt8 × Int)) → (List (Int × (Int × (Int × Int)))) → (List zq0) → (List (Int × (Int × Int))) → (List (Int × (Int × Int))) → Option β) (k1 : zqi6 β) (i_ : Int) (r_ : List (List UInt8 × Int)) (r_2 : List (Int × (Int × (Int × Int)))) (r_3 : List zq0) (r_4 : List (Int × (Int × Int))) (out : List (Int × (Int × Int))) : Option β :=
  cond (decide (i_ < (List.length r_4 : Int)))
  (cond (decide (0 ≤ i_) && decide (i_ < (List.length r_4 : Int)))
  (let e : (Int × (Int × Int)) := List.getD r_4 (Int.toNat i_) ((0 : Int), ((0 : Int), (0 : Int)));
  cond (decide (0 ≤ i_) && decide (i_ < (List.length r_4 : Int)))
  (let e2 : (Int × (Int × Int)) := List.getD r_4 (Int.toNat i_) ((0 : Int), ((0 : Int), (0 : Int)));
  cond (decide (0 ≤ i_) && decide (i_ < (List.length r_4 : Int)))
  (let e3 : (Int × (Int × Int)) := List.getD r_4 (Int.toNat i_) ((0 : Int), ((0 : Int), (0 : Int)));
  let l : List (Int × (Int × Int)) := ([((IntKind.i64.wrap (e.2.1 + (1 : Int))), ((IntKind.i64.wrap (e2.1 + (1 : Int))), (IntKind.i64.wrap (0 - e3.2.2))))] : List (Int × (Int × Int)));
  cond (decide ((List.length out + List.length l) * 24 ≤ roomMax))
  (let l2 : List (Int × (Int × Int)) := (out ++ l);
  let i_2 : Int := (IntKind.i64.wrap (i_ + (1 : Int)));
  rec i_2 r_ r_2 r_3 r_4 l2)
  none)
  none)
  none)
  none)
  (k1 out)
def zqin {β : Type} : Nat → zqi6 β → Int → (List (List UInt8 × Int)) → (List (Int × (Int × (Int × Int)))) → (List zq0) → (List (Int × (Int × Int))) → (List (Int × (Int × Int))) → Option β
  | 0 => fun _ _ _ _ _ _ _ => none
  | i + 1 => fun k1 i_ r_ r_2 r_3 r_4 out => zqim (zqin i k1) k1 i_ r_ r_2 r_3 r_4 out
theorem zqio (hΓ : ΓOk Tryz.prog (ref40_Constraints_X c_ref38_Elapsed c_ref38_Valid c_ref38_When).Γ) (i : Nat) : PieceOk Tryz.prog 164 0 ref40_Constraints_p5_code zqi8 zqi9 (ref40_Constraints_p5_G (zqin i)) := by
  rw [show ref40_Constraints_p5_code = .loop (loopBody ref40_Constraints_p5_code) by kernel_rfl]
  exact piece_loop (X := (ref40_Constraints_X c_ref38_Elapsed c_ref38_Valid c_ref38_When)) (p := 1) (Λ := pick1 []) (G := fun i => @fun β d ks => ref40_Constraints_p5_G (zqin i) d ks) mixed tab_ok hΓ rfl (by kernel_rfl) CutsOk_nil (fun _ _ => rfl) (fun i => @fun β d ks r h => Eq.trans (b := ref40_Constraints_p5_G (zqin (i + 1)) d ks) (by kernel_rfl) h) i
def zqip (p1 : zqhr) (p4 : zqi3) (p5 : zqi7) {β : Type} (r_ : zq2) (k : (Bool → (List (Int × (Int × Int))) → Option β)) : Option β :=
  c_ref38_Valid r_ (fun (rValid : Bool) =>
  cond (!rValid)
  (k false ([] : List (Int × (Int × Int))))
  (p1 (fun (t3 : Bool) (t2 : List (Int × (Int × Int))) =>
  k t3 t2) (fun (r_2 : List (List UInt8 × Int)) (r_3 : List (Int × (Int × (Int × Int)))) (r_4 : List zq0) (r_5 : List (Int × (Int × Int))) (out : List (Int × (Int × Int))) =>
  p4 (fun (r_6 : List (List UInt8 × Int)) (r_7 : List (Int × (Int × (Int × Int)))) (r_8 : List zq0) (r_9 : List (Int × (Int × Int))) (out2 : List (Int × (Int × Int))) =>
  p5 (fun (out3 : List (Int × (Int × Int))) =>
  k true out3) (0 : Int) r_6 r_7 r_8 r_9 out2) (0 : Int) r_2 r_3 r_4 r_5 out) (0 : Int) r_.1 r_.2.1 r_.2.2.1 r_.2.2.2 ([] : List (Int × (Int × Int)))))
theorem zqiq (hΓ : ΓOk Tryz.prog (ref40_Constraints_X c_ref38_Elapsed c_ref38_Valid c_ref38_When).Γ) (p1 : zqhr) (p4 : zqi3) (p5 : zqi7) (hp1 : PieceOk Tryz.prog 164 0 ref40_Constraints_p1_code zqhs zqht (ref40_Constraints_p1_G p1)) (hp4 : PieceOk Tryz.prog 164 0 ref40_Constraints_p4_code zqi4 zqi5 (ref40_Constraints_p4_G p4)) (hp5 : PieceOk Tryz.prog 164 0 ref40_Constraints_p5_code zqi8 zqi9 (ref40_Constraints_p5_G p5)) : SpecOk Tryz.prog 36 (zqho (zqip c_ref38_Valid p1 p4 p5)) :=
  spec_exec (X := (ref40_Constraints_X c_ref38_Elapsed c_ref38_Valid c_ref38_When)) (Λ := pick1 [(122, pieceCut zqhs zqht (ref40_Constraints_p1_G p1)), (250, pieceCut zqi4 zqi5 (ref40_Constraints_p4_G p4)), (506, pieceCut zqi8 zqi9 (ref40_Constraints_p5_G p5))]) (rs := [.tmp 2, .tmp 3]) (c := bodyOf Tryz.f36) mixed tab_ok hΓ Tryz.func36 (by kernel_rfl) (by kernel_rfl) (by kernel_rfl) (by kernel_rfl) (CutsOk_cons (q := 122) (c' := ref40_Constraints_p1_code) (by kernel_rfl) rfl hp1 (CutsOk_cons (q := 250) (c' := ref40_Constraints_p4_code) (by kernel_rfl) rfl hp4 (CutsOk_cons (q := 506) (c' := ref40_Constraints_p5_code) (by kernel_rfl) rfl hp5 CutsOk_nil))) (fun x k r h => Eq.trans (b := (zqho (zqip c_ref38_Valid p1 p4 p5)).run x k) (by kernel_rfl) h)
end
theorem zqirΓ : ΓOk Tryz.prog (pick1 [(64, .spec (zq61 zq65)), (62, .spec (zq4i zq5y)), (63, .spec (zqfg zqfv))]) := (ΓOk_cons zq66 (ΓOk_cons zq5z (ΓOk_cons zqfw ΓOk_nil)))
def zqis (m : Nat) : zqhr := zqib zqfv m
theorem zqit {β : Type} (i : Nat) (k1 k2 i_ r_ r_2 r_3 r_4 out) : (zqis (i + 1) k1 k2 i_ r_ r_2 r_3 r_4 out : Option β) = zqia zqfv (zqis i k1 k2) k1 k2 i_ r_ r_2 r_3 r_4 out := rfl
def zqiu : zqhr := zqis fuel
theorem zqiv : PieceOk Tryz.prog 164 0 ref40_Constraints_p1_code zqhs zqht (ref40_Constraints_p1_G zqiu) := zqic zq65 zq5y zqfv zqirΓ fuel
def zqiw : zqhv := zqie zq65
theorem zqix : PieceOk Tryz.prog 164 0 ref40_Constraints_p2_code zqhw zqhx (ref40_Constraints_p2_G zqiw) := zqif zq65 zq5y zqfv zqirΓ
def zqiy (m : Nat) : zqhz := zqih zqiw m
theorem zqiz {β : Type} (i : Nat) (k1 i_ j r_ r_2 r_3 r_4 out) : (zqiy (i + 1) k1 i_ j r_ r_2 r_3 r_4 out : Option β) = zqig zqiw (zqiy i k1) k1 i_ j r_ r_2 r_3 r_4 out := rfl
def zqj0 : zqhz := zqiy fuel
theorem zqj1 : PieceOk Tryz.prog 164 0 ref40_Constraints_p3_code zqi0 zqi1 (ref40_Constraints_p3_G zqj0) := zqii zq65 zq5y zqfv zqirΓ zqiw zqix fuel
def zqj2 (m : Nat) : zqi3 := zqik zqj0 m
theorem zqj3 {β : Type} (i : Nat) (k1 i_ r_ r_2 r_3 r_4 out) : (zqj2 (i + 1) k1 i_ r_ r_2 r_3 r_4 out : Option β) = zqij zqj0 (zqj2 i k1) k1 i_ r_ r_2 r_3 r_4 out := rfl
def zqj4 : zqi3 := zqj2 fuel
theorem zqj5 : PieceOk Tryz.prog 164 0 ref40_Constraints_p4_code zqi4 zqi5 (ref40_Constraints_p4_G zqj4) := zqil zq65 zq5y zqfv zqirΓ zqj0 zqj1 fuel
def zqj6 (m : Nat) : zqi7 := zqin m
theorem zqj7 {β : Type} (i : Nat) (k1 i_ r_ r_2 r_3 r_4 out) : (zqj6 (i + 1) k1 i_ r_ r_2 r_3 r_4 out : Option β) = zqim (zqj6 i k1) k1 i_ r_ r_2 r_3 r_4 out := rfl
def zqj8 : zqi7 := zqj6 fuel
theorem zqj9 : PieceOk Tryz.prog 164 0 ref40_Constraints_p5_code zqi8 zqi9 (ref40_Constraints_p5_G zqj8) := zqio zq65 zq5y zqfv zqirΓ fuel
def zqja : zqhn := zqip zq5y zqiu zqj4 zqj8
theorem zqjb : SpecOk Tryz.prog 36 (zqho zqja) := zqiq zq65 zq5y zqfv zqirΓ zqiu zqj4 zqj8 zqiv zqj5 zqj9

/-- pagewatch/order.pair -/
abbrev zqjc := {β : Type} → zq2 → Int → Int → ((List (Int × (Int × Int))) → Option β) → Option β
def zqjd (c : zqjc) : Spec :=
  ⟨[(true, [.data zq3]), (false, [.data (.int .i64)]), (false, [.data (.int .i64)])], [], [(false, [.rowh 0])], [.row 122 (.prod (.int .i64) (.prod (.int .i64) (.int .i64)))], fun x k => c x.1.1.1 x.1.2.1.1 x.1.2.2.1.1 (fun r0 => k (((), ()), (r0, ())))⟩
noncomputable def order_pair_p1_code : Code := codeAt 15 (bodyOf Tryz.f82)
abbrev zqje (β : Type) := (List (Int × (Int × Int))) → Option β
abbrev zqjf := {β : Type} → zqje β → Int → Int → (List (List UInt8 × Int)) → (List (Int × (Int × (Int × Int)))) → (List zq0) → (List (Int × (Int × Int))) → Int → Int → (List UInt8) → Int → Int → (List UInt8) → Option β
def zqjg : View := ⟨0, [1, 2, 3, 7, 8], [(false, [.data (.int .i64)]), (false, [.data (.int .i64)]), (false, [.ptr 0 0]), (false, [.ptr 1 0]), (false, [.ptr 2 0])], [.cells 32 [.data (.slice (.prod .str (.int .i64))), .data (.slice (.prod (.int .i64) (.prod (.int .i64) (.prod (.int .i64) (.int .i64))))), .data (.slice zq1), .data (.slice (.prod (.int .i64) (.prod (.int .i64) (.int .i64))))], .cells 60 [.data (.int .i64), .data (.int .i64), .data .str], .cells 60 [.data (.int .i64), .data (.int .i64), .data .str]]⟩
def zqjh : List (AExit × View) := [(.ret, ⟨0, [6], [(false, [.rowh 0])], [.row 122 (.prod (.int .i64) (.prod (.int .i64) (.int .i64)))]⟩)]
@[reducible] def order_pair_p1_G (p : zqjf) {β : Type} (d : zqjg.den) (ks : Outs.K β zqjh) : Option β :=
  p (fun a0 => ks.1 (((), ()), (a0, ()))) d.1.1.1 d.1.2.1.1 d.2.1.1 d.2.1.2.1 d.2.1.2.2.1 d.2.1.2.2.2.1 d.2.2.1.1 d.2.2.1.2.1 d.2.2.1.2.2.1 d.2.2.2.1.1 d.2.2.2.1.2.1 d.2.2.2.1.2.2.1
section
variable (c_clock_Elapsed : zqfx)
@[reducible] def order_pair_X : Ctx := ⟨look tab, pick1 [(103, .spec (zqfy c_clock_Elapsed))], false, false, false, false⟩
def zqji {β : Type} (k1 : zqje β) (i_ : Int) (j : Int) (r_ : List (List UInt8 × Int)) (r_2 : List (Int × (Int × (Int × Int)))) (r_3 : List zq0) (r_4 : List (Int × (Int × Int))) (a : Int) (a2 : Int) (a3 : List UInt8) (b : Int) (b2 : Int) (b3 : List UInt8) : Option β :=
  cond (decide (0 ≤ a) && decide (a < (List.length r_ : Int)))
  (let e : (List UInt8 × Int) := List.getD r_ (Int.toNat a) (([] : List UInt8), (0 : Int));
  c_clock_Elapsed e.2 (IntKind.i64.wrap (b2 - a2)) (fun (rElapsed : Int) (rElapsed2 : Int) =>
  let l : List (Int × (Int × Int)) := ([((IntKind.i64.wrap (i_ + (1 : Int))), ((IntKind.i64.wrap (j + (1 : Int))), rElapsed2)), ((IntKind.i64.wrap (j + (1 : Int))), ((IntKind.i64.wrap (i_ + (1 : Int))), (IntKind.i64.wrap (0 - rElapsed))))] : List (Int × (Int × Int)));
  k1 l))
  none
def zqjj {β : Type} (k1 : zqje β) (i_ : Int) (j : Int) (r_ : List (List UInt8 × Int)) (r_2 : List (Int × (Int × (Int × Int)))) (r_3 : List zq0) (r_4 : List (Int × (Int × Int))) (a : Int) (a2 : Int) (a3 : List UInt8) (b : Int) (b2 : Int) (b3 : List UInt8) : Option β := zqji c_clock_Elapsed k1 i_ j r_ r_2 r_3 r_4 a a2 a3 b b2 b3
theorem zqjk (hΓ : ΓOk Tryz.prog (order_pair_X c_clock_Elapsed).Γ) : PieceOk Tryz.prog 60 0 order_pair_p1_code zqjg zqjh (order_pair_p1_G (zqjj c_clock_Elapsed)) :=
  piece_exec (X := (order_pair_X c_clock_Elapsed)) (p := 15) (Λ := pick1 []) mixed tab_ok hΓ (by kernel_rfl) CutsOk_nil (fun d ks r h => Eq.trans (b := order_pair_p1_G (zqjj c_clock_Elapsed) d ks) (by kernel_rfl) h)
def zqjl (p1 : zqjf) {β : Type} (r_ : zq2) (i_ : Int) (j : Int) (k : ((List (Int × (Int × Int))) → Option β)) : Option β :=
  cond (decide (0 ≤ i_) && decide (i_ < (List.length r_.2.2.1 : Int)))
  (let e : zq0 := List.getD r_.2.2.1 (Int.toNat i_) ((0 : Int), ((0 : Int), ([] : List UInt8)));
  cond (decide (0 ≤ j) && decide (j < (List.length r_.2.2.1 : Int)))
  (let e2 : zq0 := List.getD r_.2.2.1 (Int.toNat j) ((0 : Int), ((0 : Int), ([] : List UInt8)));
  cond (decide (e2.2.1 < e.2.1))
  (p1 (fun (t6 : List (Int × (Int × Int))) =>
  k t6) j i_ r_.1 r_.2.1 r_.2.2.1 r_.2.2.2 e2.1 e2.2.1 e2.2.2 e.1 e.2.1 e.2.2)
  (p1 (fun (t6 : List (Int × (Int × Int))) =>
  k t6) i_ j r_.1 r_.2.1 r_.2.2.1 r_.2.2.2 e.1 e.2.1 e.2.2 e2.1 e2.2.1 e2.2.2))
  none)
  none
theorem zqjm (hΓ : ΓOk Tryz.prog (order_pair_X c_clock_Elapsed).Γ) (p1 : zqjf) (hp1 : PieceOk Tryz.prog 60 0 order_pair_p1_code zqjg zqjh (order_pair_p1_G p1)) : SpecOk Tryz.prog 82 (zqjd (zqjl p1)) :=
  spec_exec (X := (order_pair_X c_clock_Elapsed)) (Λ := pick1 [(15, pieceCut zqjg zqjh (order_pair_p1_G p1))]) (rs := [.tmp 6]) (c := bodyOf Tryz.f82) mixed tab_ok hΓ Tryz.func82 (by kernel_rfl) (by kernel_rfl) (by kernel_rfl) (by kernel_rfl) (CutsOk_cons (q := 15) (c' := order_pair_p1_code) (by kernel_rfl) rfl hp1 CutsOk_nil) (fun x k r h => Eq.trans (b := (zqjd (zqjl p1)).run x k) (by kernel_rfl) h)
end
theorem zqjnΓ : ΓOk Tryz.prog (pick1 [(103, .spec (zqfy zqg2))]) := (ΓOk_cons zqg3 ΓOk_nil)
def zqjo : zqjf := zqjj zqg2
theorem zqjp : PieceOk Tryz.prog 60 0 order_pair_p1_code zqjg zqjh (order_pair_p1_G zqjo) := zqjk zqg2 zqjnΓ
def zqjq : zqjc := zqjl zqjo
theorem zqjr : SpecOk Tryz.prog 82 (zqjd zqjq) := zqjm zqg2 zqjnΓ zqjo zqjp

/-- pagewatch/clock.From -/
abbrev zqjs := {β : Type} → (List UInt8 × Int) → (Int × (Int × (Int × Int))) → Int → ((Int × Int) → Option β) → Option β
def zqjt (c : zqjs) : Spec :=
  ⟨[(true, [.data (.prod .str (.int .i64))]), (true, [.data (.prod (.int .i64) (.prod (.int .i64) (.prod (.int .i64) (.int .i64))))]), (false, [.data (.int .i64)])], [], [(true, [.data (.prod (.int .i64) (.int .i64))])], [], fun x k => c x.1.1.1 x.1.2.1.1 x.1.2.2.1.1 (fun r0 => k (((r0, ()), ()), ()))⟩
section
variable (c_clock_Elapsed : zqfx) (c_clock_compared : zqf8) (c_clock_in : zq43) (c_clock_instant : zq4a)
@[reducible] def clock_From_X : Ctx := ⟨look tab, pick1 [(103, .spec (zqfy c_clock_Elapsed)), (56, .spec (zqf9 c_clock_compared)), (55, .spec (zq44 c_clock_in)), (57, .spec (zq4b c_clock_instant))], false, false, false, false⟩
def zqju {β : Type} (h : (List UInt8 × Int)) (s : (Int × (Int × (Int × Int)))) (clock : Int) (k : ((Int × Int) → Option β)) : Option β :=
  c_clock_in h.2 (0 : Int) (500000 : Int) (fun (rin : Bool) =>
  cond (!rin)
  (k ((-1099511627776 : Int), (1099511627776 : Int)))
  (c_clock_compared s (fun (rcompared : Bool) =>
  cond (!rcompared)
  (k ((-1099511627776 : Int), (1099511627776 : Int)))
  (c_clock_instant clock (fun (rinstant : Bool) =>
  cond (!rinstant)
  (k ((-1099511627776 : Int), (1099511627776 : Int)))
  (cond (decide (s.2.1 ≤ clock))
  (c_clock_Elapsed h.2 (IntKind.i64.wrap (clock - s.2.1)) (fun (rElapsed : Int) (rElapsed2 : Int) =>
  k ((IntKind.i64.wrap (s.2.2.1 + rElapsed)), (IntKind.i64.wrap (s.2.2.2 + rElapsed2)))))
  (c_clock_Elapsed h.2 (IntKind.i64.wrap (s.2.1 - clock)) (fun (rElapsed : Int) (rElapsed2 : Int) =>
  k ((IntKind.i64.wrap (s.2.2.1 - rElapsed2)), (IntKind.i64.wrap (s.2.2.2 - rElapsed)))))))))))
theorem zqjv (hΓ : ΓOk Tryz.prog (clock_From_X c_clock_Elapsed c_clock_compared c_clock_in c_clock_instant).Γ) : SpecOk Tryz.prog 101 (zqjt (zqju c_clock_Elapsed c_clock_compared c_clock_in c_clock_instant)) :=
  spec_exec (X := (clock_From_X c_clock_Elapsed c_clock_compared c_clock_in c_clock_instant)) (Λ := pick1 []) (rs := [.cell 6 40]) (c := bodyOf Tryz.f101) mixed tab_ok hΓ Tryz.func101 (by kernel_rfl) (by kernel_rfl) (by kernel_rfl) (by kernel_rfl) CutsOk_nil (fun x k r h => Eq.trans (b := (zqjt (zqju c_clock_Elapsed c_clock_compared c_clock_in c_clock_instant)).run x k) (by kernel_rfl) h)
end
theorem zqjwΓ : ΓOk Tryz.prog (pick1 [(103, .spec (zqfy zqg2)), (56, .spec (zqf9 zqfd)), (55, .spec (zq44 zq48)), (57, .spec (zq4b zq4f))]) := (ΓOk_cons zqg3 (ΓOk_cons zqfe (ΓOk_cons zq49 (ΓOk_cons zq4g ΓOk_nil))))
def zqjx : zqjs := zqju zqg2 zqfd zq48 zq4f
theorem zqjy : SpecOk Tryz.prog 101 (zqjt zqjx) := zqjv zqg2 zqfd zq48 zq4f zqjwΓ

/-- pagewatch/pagewatchref40.closed -/
abbrev zqjz := {β : Type} → zq2 → ((List (List Int)) → Bool → Option β) → Option β
def zqk0 (c : zqjz) : Spec :=
  ⟨[(true, [.data zq3])], [], [(false, [.data (.slice (.slice (.int .i64)))]), (false, [.data .bool])], [], fun x k => c x.1.1.1 (fun r0 r1 => k (((r0, ()), (r1, ()), ()), ()))⟩
section
variable (c_ref39_Close : zqck) (c_ref40_Constraints : zqhn)
@[reducible] def ref40_closed_X : Ctx := ⟨look tab, pick1 [(54, .spec (zqcl c_ref39_Close)), (36, .spec (zqho c_ref40_Constraints))], false, false, false, false⟩
def zqk1 {β : Type} (r_ : zq2) (k : ((List (List Int)) → Bool → Option β)) : Option β :=
  c_ref40_Constraints r_ (fun (rConstraints : Bool) (lrConstraints : List (Int × (Int × Int))) =>
  cond (!rConstraints)
  (k ([] : List (List Int)) false)
  (c_ref39_Close (IntKind.i64.wrap ((List.length r_.2.2.1 : Int) + (1 : Int))) lrConstraints (fun (rClose : List (List Int)) (rClose2 : Bool) =>
  k rClose rClose2)))
theorem zqk2 (hΓ : ΓOk Tryz.prog (ref40_closed_X c_ref39_Close c_ref40_Constraints).Γ) : SpecOk Tryz.prog 30 (zqk0 (zqk1 c_ref39_Close c_ref40_Constraints)) :=
  spec_exec (X := (ref40_closed_X c_ref39_Close c_ref40_Constraints)) (Λ := pick1 []) (rs := [.tmp 2, .tmp 3]) (c := bodyOf Tryz.f30) mixed tab_ok hΓ Tryz.func30 (by kernel_rfl) (by kernel_rfl) (by kernel_rfl) (by kernel_rfl) CutsOk_nil (fun x k r h => Eq.trans (b := (zqk0 (zqk1 c_ref39_Close c_ref40_Constraints)).run x k) (by kernel_rfl) h)
end
theorem zqk3Γ : ΓOk Tryz.prog (pick1 [(54, .spec (zqcl zqf6)), (36, .spec (zqho zqja))]) := (ΓOk_cons zqf7 (ΓOk_cons zqjb ΓOk_nil))
def zqk4 : zqjz := zqk1 zqf6 zqja
theorem zqk5 : SpecOk Tryz.prog 30 (zqk0 zqk4) := zqk2 zqf6 zqja zqk3Γ
end
end Go.Lift
