/- Part8: Fn0, LBase, LDelMath, LDelivery, LDelRef, LDelFn, LDelRun, LDelRun2, LDice, LDice1, LDelMade, LDelBound, LDelRuns. -/
import Derived.Test.YtagpoimmbikajaaProg
import Derived.Test.YtagpoimmbikajaaPart7
namespace Go.Lift
open Go.Proofs
noncomputable section
set_option maxRecDepth 100000
set_option linter.unusedVariables false

abbrev zq0 := (Bool × (Int × (Int × Int)))
abbrev zq1 : Ty := (.prod .bool (.prod (.int .i64) (.prod (.int .i64) (.int .i64))))
abbrev zq2 := (Int × (Int × (Int × (Int × (Int × Int)))))
abbrev zq3 : Ty := (.prod (.int .i64) (.prod (.int .i64) (.prod (.int .i64) (.prod (.int .i64) (.prod (.int .i64) (.int .i64))))))

def tab : List (Nat × TI) := [
  (3, ⟨false, 1, 8, [.int .i64 (0 : Int)], [], none, none, (some (.int .i64)), (some .i64), false, false, none, none⟩),
  (4, ⟨false, 1, 1, [.bool false], [], none, none, (some .bool), none, true, false, none, none⟩),
  (22, ⟨false, 1, 24, [.nils], [], (some 3), none, (some (.slice (.int .i64))), none, false, false, none, none⟩),
  (27, ⟨false, 1, 24, [.nils], [], (some 36), none, (some (.slice (.prod (.int .i64) (.prod (.int .i64) (.prod (.int .i64) (.int .i64)))))), none, false, false, none, none⟩),
  (29, ⟨true, 2, 32, [.int .i64 (0 : Int), .nils], [(0, 1, false), (1, 1, false)], none, none, (some (.prod (.int .i64) (.slice (.prod (.int .i64) (.prod (.int .i64) (.prod (.int .i64) (.int .i64))))))), none, false, false, none, none⟩),
  (33, ⟨false, 1, 24, [.nils], [], (some 39), none, (some (.slice (.prod (.int .i64) (.prod (.int .i64) (.int .i64))))), none, false, false, none, none⟩),
  (36, ⟨true, 4, 32, [.int .i64 (0 : Int), .int .i64 (0 : Int), .int .i64 (0 : Int), .int .i64 (0 : Int)], [(0, 1, false), (1, 1, false), (2, 1, false), (3, 1, false)], none, none, (some (.prod (.int .i64) (.prod (.int .i64) (.prod (.int .i64) (.int .i64))))), none, false, false, (some [.i, .i, .i, .i]), none⟩),
  (39, ⟨true, 3, 24, [.int .i64 (0 : Int), .int .i64 (0 : Int), .int .i64 (0 : Int)], [(0, 1, false), (1, 1, false), (2, 1, false)], none, none, (some (.prod (.int .i64) (.prod (.int .i64) (.int .i64)))), none, false, false, (some [.i, .i, .i]), none⟩),
  (42, ⟨false, 1, 24, [.nils], [], (some 44), none, (some (.slice (.slice zq1))), none, false, false, none, none⟩),
  (44, ⟨false, 1, 24, [.nils], [], (some 75), none, (some (.slice zq1)), none, false, false, none, none⟩),
  (46, ⟨false, 1, 24, [.nils], [], (some 42), none, (some (.slice (.slice (.slice zq1)))), none, false, false, none, none⟩),
  (75, ⟨true, 4, 32, [.bool false, .int .i64 (0 : Int), .int .i64 (0 : Int), .int .i64 (0 : Int)], [(0, 1, false), (1, 1, false), (2, 1, false), (3, 1, false)], none, none, (some zq1), none, false, false, (some [.b, .i, .i, .i]), none⟩),
  (77, ⟨true, 2, 32, [.nils, .int .i64 (0 : Int)], [(0, 1, false), (1, 1, false)], none, none, (some (.prod (.slice (.int .i64)) (.int .i64))), none, false, false, none, none⟩)]

theorem tab_ok : TOk Try.prog (look tab) := TOk_of (by kernel_rfl)
theorem mixed : Try.prog.follows .mixedOrders = true := by kernel_rfl

/-- pagewatch/pagewatchmade.Light -/
abbrev zq4 := {β : Type} → (List Int) → (Bool → Option β) → Option β
def zq5 (c : zq4) : Spec :=
  ⟨[(false, [.data (.slice (.int .i64))])], [], [(false, [.data .bool])], [], fun x k => c x.1.1.1 (fun r0 => k (((r0, ()), ()), ()))⟩
section
@[reducible] def made_Light_X : Ctx := ⟨look tab, pick1 [], false, false, false, false⟩
def zq6 {β : Type} (l : List Int) (k : (Bool → Option β)) : Option β :=
  let t : Bool := (decide ((List.length l : Int) ≤ (500 : Int)));
  k t
theorem zq7 (hΓ : ΓOk Try.prog made_Light_X.Γ) : SpecOk Try.prog 9 (zq5 (zq6)) :=
  spec_exec (X := made_Light_X) (Λ := pick1 []) (rs := [.tmp 2]) (c := bodyOf Try.f9) mixed tab_ok hΓ Try.func9 (by kernel_rfl) (by kernel_rfl) (by kernel_rfl) (by kernel_rfl) CutsOk_nil (fun x k r h => Eq.trans (b := (zq5 (zq6)).run x k) (by kernel_rfl) h)
end
theorem zq8Γ : ΓOk Try.prog (pick1 []) := ΓOk_nil
def zq9 : zq4 := zq6
theorem zqa : SpecOk Try.prog 9 (zq5 zq9) := zq7 zq8Γ

/-- pagewatch/pagewatchmade.Roll -/
abbrev zqb := {β : Type} → (List Int) → ((List Int × Int) → Option β) → Option β
def zqc (c : zqb) : Spec :=
  ⟨[(false, [.data (.slice (.int .i64))])], [], [(false, [.ptr 0 0])], [.cells 77 [.data (.prod (.slice (.int .i64)) (.int .i64))]], fun x k => c x.1.1.1 (fun r0 => k (((), ()), ((r0, ()), ())))⟩
section
@[reducible] def made_Roll_X : Ctx := ⟨look tab, pick1 [], false, false, false, false⟩
def zqd {β : Type} (l : List Int) (k : ((List Int × Int) → Option β)) : Option β :=
  k (l, (0 : Int))
theorem zqe (hΓ : ΓOk Try.prog made_Roll_X.Γ) : SpecOk Try.prog 11 (zqc (zqd)) :=
  spec_exec (X := made_Roll_X) (Λ := pick1 []) (rs := [.tmp 2]) (c := bodyOf Try.f11) mixed tab_ok hΓ Try.func11 (by kernel_rfl) (by kernel_rfl) (by kernel_rfl) (by kernel_rfl) CutsOk_nil (fun x k r h => Eq.trans (b := (zqc (zqd)).run x k) (by kernel_rfl) h)
end
theorem zqfΓ : ΓOk Try.prog (pick1 []) := ΓOk_nil
def zqg : zqb := zqd
theorem zqh : SpecOk Try.prog 11 (zqc zqg) := zqe zqfΓ

/-- (*pagewatch/pagewatchmade.Dice).Next -/
abbrev zqi := {β : Type} → Int → (List Int × Int) → (Int → (List Int × Int) → Option β) → Option β
def zqj (c : zqi) : Spec :=
  ⟨[(false, [.ptr 0 0]), (false, [.data (.int .i64)])], [.cells 77 [.data (.prod (.slice (.int .i64)) (.int .i64))]], [(false, [.data (.int .i64)])], [.cells 77 [.data (.prod (.slice (.int .i64)) (.int .i64))]], fun x k => c x.1.2.1.1 x.2.1.1 (fun r0 r1 => k (((r0, ()), ()), ((r1, ()), ())))⟩
section
@[reducible] def made_Dice_Next_X : Ctx := ⟨look tab, pick1 [], false, false, false, false⟩
def zqk {β : Type} (n : Int) (d : (List Int × Int)) (k : (Int → (List Int × Int) → Option β)) : Option β :=
  cond (decide ((List.length d.1 : Int) ≤ d.2))
  (k (0 : Int) d)
  (cond (decide (n < (1 : Int)))
  (k (0 : Int) d)
  (cond (decide (0 ≤ d.2) && decide (d.2 < (List.length d.1 : Int)))
  (let e : Int := List.getD d.1 (Int.toNat d.2) (0 : Int);
  cond (!decide (n = 0))
  (cond (decide ((Int.tmod e n) < (0 : Int)))
  (let x : Int := (IntKind.i64.wrap ((Int.tmod e n) + n));
  k x (d.1, (IntKind.i64.wrap (d.2 + (1 : Int)))))
  (k (Int.tmod e n) (d.1, (IntKind.i64.wrap (d.2 + (1 : Int))))))
  none)
  none))
theorem zql (hΓ : ΓOk Try.prog made_Dice_Next_X.Γ) : SpecOk Try.prog 14 (zqj (zqk)) :=
  spec_exec (X := made_Dice_Next_X) (Λ := pick1 []) (rs := [.tmp 4]) (c := bodyOf Try.f14) mixed tab_ok hΓ Try.func14 (by kernel_rfl) (by kernel_rfl) (by kernel_rfl) (by kernel_rfl) CutsOk_nil (fun x k r h => Eq.trans (b := (zqj (zqk)).run x k) (by kernel_rfl) h)
end
theorem zqmΓ : ΓOk Try.prog (pick1 []) := ΓOk_nil
def zqn : zqi := zqk
theorem zqo : SpecOk Try.prog 14 (zqj zqn) := zql zqmΓ

/-- pagewatch/pagewatchref25.Same -/
abbrev zqp := {β : Type} → (List Int) → (List Int) → (Bool → Option β) → Option β
def zqq (c : zqp) : Spec :=
  ⟨[(false, [.data (.slice (.int .i64))]), (false, [.data (.slice (.int .i64))])], [], [(false, [.data .bool])], [], fun x k => c x.1.1.1 x.1.2.1.1 (fun r0 => k (((r0, ()), ()), ()))⟩
noncomputable def ref25_Same_p1_code : Code := codeAt 58 (bodyOf Try.f18)
abbrev zqr (β : Type) := Bool → Option β
abbrev zqs (β : Type) := Unit → Option β
abbrev zqt := {β : Type} → zqr β → zqs β → (List Int) → (List Int) → Int → Option β
def zqu : View := ⟨0, [0, 1, 5], [(false, [.data (.slice (.int .i64))]), (false, [.data (.slice (.int .i64))]), (false, [.data (.int .i64)])], []⟩
def zqv : List (AExit × View) := [(.ret, ⟨0, [4], [(false, [.data .bool])], []⟩), (.exit 0, ⟨0, [], [], []⟩)]
@[reducible] def ref25_Same_p1_G (p : zqt) {β : Type} (d : zqu.den) (ks : Outs.K β zqv) : Option β :=
  p (fun a0 => ks.1 (((a0, ()), ()), ())) (fun _ => ks.2.1 ((), ())) d.1.1.1 d.1.2.1.1 d.1.2.2.1.1
section
@[reducible] def ref25_Same_X : Ctx := ⟨look tab, pick1 [], false, false, false, false⟩
def zqw {β : Type} (rec : (List Int) → (List Int) → Int → Option β) (k1 : zqr β) (k2 : zqs β) (a : List Int) (b : List Int) (i_ : Int) : Option β :=
  cond (decide (i_ < (List.length a : Int)))
  (cond (decide (0 ≤ i_) && decide (i_ < (List.length a : Int)))
  (let e : Int := List.getD a (Int.toNat i_) (0 : Int);
  cond (decide (0 ≤ i_) && decide (i_ < (List.length b : Int)))
  (let e2 : Int := List.getD b (Int.toNat i_) (0 : Int);
  cond (!decide (e = e2))
  (k1 false)
  (let i_2 : Int := (IntKind.i64.wrap (i_ + (1 : Int)));
  rec a b i_2))
  none)
  none)
  (k2 ())
def zqx {β : Type} : Nat → zqr β → zqs β → (List Int) → (List Int) → Int → Option β
  | 0 => fun _ _ _ _ _ => none
  | i + 1 => fun k1 k2 a b i_ => zqw (zqx i k1 k2) k1 k2 a b i_
theorem zqy (hΓ : ΓOk Try.prog ref25_Same_X.Γ) (i : Nat) : PieceOk Try.prog 26 0 ref25_Same_p1_code zqu zqv (ref25_Same_p1_G (zqx i)) := by
  rw [show ref25_Same_p1_code = .loop (loopBody ref25_Same_p1_code) by kernel_rfl]
  exact piece_loop (X := ref25_Same_X) (p := 1) (Λ := pick1 []) (G := fun i => @fun β d ks => ref25_Same_p1_G (zqx i) d ks) mixed tab_ok hΓ rfl (by kernel_rfl) CutsOk_nil (fun _ _ => rfl) (fun i => @fun β d ks r h => Eq.trans (b := ref25_Same_p1_G (zqx (i + 1)) d ks) (by kernel_rfl) h) i
def zqz (p1 : zqt) {β : Type} (a : List Int) (b : List Int) (k : (Bool → Option β)) : Option β :=
  cond (!decide ((List.length a : Int) = (List.length b : Int)))
  (k false)
  (p1 (fun (t4 : Bool) =>
  k t4) (fun (_ : Unit) =>
  k true) a b (0 : Int))
theorem zq10 (hΓ : ΓOk Try.prog ref25_Same_X.Γ) (p1 : zqt) (hp1 : PieceOk Try.prog 26 0 ref25_Same_p1_code zqu zqv (ref25_Same_p1_G p1)) : SpecOk Try.prog 18 (zqq (zqz p1)) :=
  spec_exec (X := ref25_Same_X) (Λ := pick1 [(58, pieceCut zqu zqv (ref25_Same_p1_G p1))]) (rs := [.tmp 4]) (c := bodyOf Try.f18) mixed tab_ok hΓ Try.func18 (by kernel_rfl) (by kernel_rfl) (by kernel_rfl) (by kernel_rfl) (CutsOk_cons (q := 58) (c' := ref25_Same_p1_code) (by kernel_rfl) rfl hp1 CutsOk_nil) (fun x k r h => Eq.trans (b := (zqq (zqz p1)).run x k) (by kernel_rfl) h)
end
theorem zq11Γ : ΓOk Try.prog (pick1 []) := ΓOk_nil
def zq12 (m : Nat) : zqt := zqx m
theorem zq13 {β : Type} (i : Nat) (k1 k2 a b i_) : (zq12 (i + 1) k1 k2 a b i_ : Option β) = zqw (zq12 i k1 k2) k1 k2 a b i_ := rfl
def zq14 : zqt := zq12 fuel
theorem zq15 : PieceOk Try.prog 26 0 ref25_Same_p1_code zqu zqv (ref25_Same_p1_G zq14) := zqy zq11Γ fuel
def zq16 : zqp := zqz zq14
theorem zq17 : SpecOk Try.prog 18 (zqq zq16) := zq10 zq11Γ zq14 zq15

/-- (*pagewatch/pagewatchmade.Dice).One -/
abbrev zq18 := {β : Type} → (List Int) → (List Int × Int) → (Int → (List Int × Int) → Option β) → Option β
def zq19 (c : zq18) : Spec :=
  ⟨[(false, [.ptr 0 0]), (false, [.data (.slice (.int .i64))])], [.cells 77 [.data (.prod (.slice (.int .i64)) (.int .i64))]], [(false, [.data (.int .i64)])], [.cells 77 [.data (.prod (.slice (.int .i64)) (.int .i64))]], fun x k => c x.1.2.1.1 x.2.1.1 (fun r0 r1 => k (((r0, ()), ()), ((r1, ()), ())))⟩
section
variable (c_made_Dice_Next : zqi)
@[reducible] def made_Dice_One_X : Ctx := ⟨look tab, pick1 [(14, .spec (zqj c_made_Dice_Next))], false, false, false, false⟩
def zq1a {β : Type} (l : List Int) (d : (List Int × Int)) (k : (Int → (List Int × Int) → Option β)) : Option β :=
  c_made_Dice_Next (List.length l : Int) d (fun (rNext : Int) (mrNext : (List Int × Int)) =>
  cond (decide (0 ≤ rNext) && decide (rNext < (List.length l : Int)))
  (let e : Int := List.getD l (Int.toNat rNext) (0 : Int);
  k e mrNext)
  none)
theorem zq1b (hΓ : ΓOk Try.prog (made_Dice_One_X c_made_Dice_Next).Γ) : SpecOk Try.prog 28 (zq19 (zq1a c_made_Dice_Next)) :=
  spec_exec (X := (made_Dice_One_X c_made_Dice_Next)) (Λ := pick1 []) (rs := [.tmp 4]) (c := bodyOf Try.f28) mixed tab_ok hΓ Try.func28 (by kernel_rfl) (by kernel_rfl) (by kernel_rfl) (by kernel_rfl) CutsOk_nil (fun x k r h => Eq.trans (b := (zq19 (zq1a c_made_Dice_Next)).run x k) (by kernel_rfl) h)
end
theorem zq1cΓ : ΓOk Try.prog (pick1 [(14, .spec (zqj zqn))]) := (ΓOk_cons zqo ΓOk_nil)
def zq1d : zq18 := zq1a zqn
theorem zq1e : SpecOk Try.prog 28 (zq19 zq1d) := zq1b zqn zq1cΓ

/-- (*pagewatch/pagewatchmade.Dice).Channel -/
abbrev zq1f := {β : Type} → (List Int × Int) → ((Int × (Int × (Int × Int))) → (List Int × Int) → Option β) → Option β
def zq1g (c : zq1f) : Spec :=
  ⟨[(false, [.ptr 0 0])], [.cells 77 [.data (.prod (.slice (.int .i64)) (.int .i64))]], [(true, [.data (.prod (.int .i64) (.prod (.int .i64) (.prod (.int .i64) (.int .i64))))])], [.cells 77 [.data (.prod (.slice (.int .i64)) (.int .i64))]], fun x k => c x.2.1.1 (fun r0 r1 => k (((r0, ()), ()), ((r1, ()), ())))⟩
section
variable (c_made_Dice_Next : zqi) (c_made_Dice_One : zq18)
@[reducible] def made_Dice_Channel_X : Ctx := ⟨look tab, pick1 [(14, .spec (zqj c_made_Dice_Next)), (28, .spec (zq19 c_made_Dice_One))], false, false, false, false⟩
def zq1h {β : Type} (d : (List Int × Int)) (k : ((Int × (Int × (Int × Int))) → (List Int × Int) → Option β)) : Option β :=
  c_made_Dice_Next (3 : Int) d (fun (rNext : Int) (mrNext : (List Int × Int)) =>
  let l : List Int := ([(0 : Int), (30 : Int), (60 : Int), (3600 : Int)] : List Int);
  c_made_Dice_One l mrNext (fun (rOne : Int) (mrOne : (List Int × Int)) =>
  c_made_Dice_Next (4 : Int) mrOne (fun (rNext2 : Int) (mrNext2 : (List Int × Int)) =>
  let l2 : List Int := ([(1 : Int), (30 : Int), (60 : Int), (120 : Int)] : List Int);
  c_made_Dice_One l2 mrNext2 (fun (rOne2 : Int) (mrOne2 : (List Int × Int)) =>
  k (rNext, (rOne, ((IntKind.i64.wrap ((1 : Int) + rNext2)), rOne2))) mrOne2))))
theorem zq1i (hΓ : ΓOk Try.prog (made_Dice_Channel_X c_made_Dice_Next c_made_Dice_One).Γ) : SpecOk Try.prog 38 (zq1g (zq1h c_made_Dice_Next c_made_Dice_One)) :=
  spec_exec (X := (made_Dice_Channel_X c_made_Dice_Next c_made_Dice_One)) (Λ := pick1 []) (rs := [.cell 2 36]) (c := bodyOf Try.f38) mixed tab_ok hΓ Try.func38 (by kernel_rfl) (by kernel_rfl) (by kernel_rfl) (by kernel_rfl) CutsOk_nil (fun x k r h => Eq.trans (b := (zq1g (zq1h c_made_Dice_Next c_made_Dice_One)).run x k) (by kernel_rfl) h)
end
theorem zq1jΓ : ΓOk Try.prog (pick1 [(14, .spec (zqj zqn)), (28, .spec (zq19 zq1d))]) := (ΓOk_cons zqo (ΓOk_cons zq1e ΓOk_nil))
def zq1k : zq1f := zq1h zqn zq1d
theorem zq1l : SpecOk Try.prog 38 (zq1g zq1k) := zq1i zqn zq1d zq1jΓ

/-- pagewatch/delivery.in -/
abbrev zq1m := {β : Type} → Int → Int → Int → (Bool → Option β) → Option β
def zq1n (c : zq1m) : Spec :=
  ⟨[(false, [.data (.int .i64)]), (false, [.data (.int .i64)]), (false, [.data (.int .i64)])], [], [(false, [.data .bool])], [], fun x k => c x.1.1.1 x.1.2.1.1 x.1.2.2.1.1 (fun r0 => k (((r0, ()), ()), ()))⟩
section
@[reducible] def delivery_in_X : Ctx := ⟨look tab, pick1 [], false, false, false, false⟩
def zq1o {β : Type} (n : Int) (low : Int) (high : Int) (k : (Bool → Option β)) : Option β :=
  cond (decide (low ≤ n))
  (k (decide (n ≤ high)))
  (k false)
theorem zq1p (hΓ : ΓOk Try.prog delivery_in_X.Γ) : SpecOk Try.prog 39 (zq1n (zq1o)) :=
  spec_exec (X := delivery_in_X) (Λ := pick1 []) (rs := [.tmp 6]) (c := bodyOf Try.f39) mixed tab_ok hΓ Try.func39 (by kernel_rfl) (by kernel_rfl) (by kernel_rfl) (by kernel_rfl) CutsOk_nil (fun x k r h => Eq.trans (b := (zq1n (zq1o)).run x k) (by kernel_rfl) h)
end
theorem zq1qΓ : ΓOk Try.prog (pick1 []) := ΓOk_nil
def zq1r : zq1m := zq1o
theorem zq1s : SpecOk Try.prog 39 (zq1n zq1r) := zq1p zq1qΓ

/-- (*pagewatch/pagewatchmade.Dice).Fate -/
abbrev zq1t := {β : Type} → (List Int × Int) → (zq0 → (List Int × Int) → Option β) → Option β
def zq1u (c : zq1t) : Spec :=
  ⟨[(false, [.ptr 0 0])], [.cells 77 [.data (.prod (.slice (.int .i64)) (.int .i64))]], [(true, [.data zq1])], [.cells 77 [.data (.prod (.slice (.int .i64)) (.int .i64))]], fun x k => c x.2.1.1 (fun r0 r1 => k (((r0, ()), ()), ((r1, ()), ())))⟩
section
variable (c_made_Dice_Next : zqi) (c_made_Dice_One : zq18)
@[reducible] def made_Dice_Fate_X : Ctx := ⟨look tab, pick1 [(14, .spec (zqj c_made_Dice_Next)), (28, .spec (zq19 c_made_Dice_One))], false, false, false, false⟩
def zq1v {β : Type} (d : (List Int × Int)) (k : (zq0 → (List Int × Int) → Option β)) : Option β :=
  c_made_Dice_Next (3 : Int) d (fun (rNext : Int) (mrNext : (List Int × Int)) =>
  let l : List Int := ([(0 : Int), (5 : Int), (30 : Int), (31 : Int), (200 : Int), (86400 : Int), (86401 : Int)] : List Int);
  c_made_Dice_One l mrNext (fun (rOne : Int) (mrOne : (List Int × Int)) =>
  let l2 : List Int := ([(0 : Int), (0 : Int), (7 : Int), (100 : Int), (-1 : Int)] : List Int);
  c_made_Dice_One l2 mrOne (fun (rOne2 : Int) (mrOne2 : (List Int × Int)) =>
  let l3 : List Int := ([(-1 : Int), (0 : Int), (10 : Int), (90 : Int), (-2 : Int)] : List Int);
  c_made_Dice_One l3 mrOne2 (fun (rOne3 : Int) (mrOne3 : (List Int × Int)) =>
  k ((decide (rNext = (0 : Int))), (rOne, (rOne2, rOne3))) mrOne3))))
theorem zq1w (hΓ : ΓOk Try.prog (made_Dice_Fate_X c_made_Dice_Next c_made_Dice_One).Γ) : SpecOk Try.prog 43 (zq1u (zq1v c_made_Dice_Next c_made_Dice_One)) :=
  spec_exec (X := (made_Dice_Fate_X c_made_Dice_Next c_made_Dice_One)) (Λ := pick1 []) (rs := [.cell 2 75]) (c := bodyOf Try.f43) mixed tab_ok hΓ Try.func43 (by kernel_rfl) (by kernel_rfl) (by kernel_rfl) (by kernel_rfl) CutsOk_nil (fun x k r h => Eq.trans (b := (zq1u (zq1v c_made_Dice_Next c_made_Dice_One)).run x k) (by kernel_rfl) h)
end
theorem zq1xΓ : ΓOk Try.prog (pick1 [(14, .spec (zqj zqn)), (28, .spec (zq19 zq1d))]) := (ΓOk_cons zqo (ΓOk_cons zq1e ΓOk_nil))
def zq1y : zq1t := zq1v zqn zq1d
theorem zq1z : SpecOk Try.prog 43 (zq1u zq1y) := zq1w zqn zq1d zq1xΓ

/-- pagewatch/delivery.Run$1 -/
abbrev zq20 := {β : Type} → Int → (Int × (Int × Int)) → (Bool → (Int × (Int × Int)) → Option β) → Option β
def zq21 (c : zq20) : Spec :=
  ⟨[(false, [.data (.int .i64)]), (false, [.ptr 0 0])], [.cells 39 [.data (.prod (.int .i64) (.prod (.int .i64) (.int .i64)))]], [(false, [.data .bool])], [.cells 39 [.data (.prod (.int .i64) (.prod (.int .i64) (.int .i64)))]], fun x k => c x.1.1.1 x.2.1.1 (fun r0 r1 => k (((r0, ()), ()), ((r1, ()), ())))⟩
section
@[reducible] def delivery_Run_f1_X : Ctx := ⟨look tab, pick1 [], false, false, false, false⟩
def zq22 {β : Type} (t : Int) (t1 : (Int × (Int × Int))) (k : (Bool → (Int × (Int × Int)) → Option β)) : Option β :=
  k (decide (t ≤ t1.2.2)) t1
theorem zq23 (hΓ : ΓOk Try.prog delivery_Run_f1_X.Γ) : SpecOk Try.prog 45 (zq21 (zq22)) :=
  spec_exec (X := delivery_Run_f1_X) (Λ := pick1 []) (rs := [.tmp 3]) (c := bodyOf Try.f45) mixed tab_ok hΓ Try.func45 (by kernel_rfl) (by kernel_rfl) (by kernel_rfl) (by kernel_rfl) CutsOk_nil (fun x k r h => Eq.trans (b := (zq21 (zq22)).run x k) (by kernel_rfl) h)
end
theorem zq24Γ : ΓOk Try.prog (pick1 []) := ΓOk_nil
def zq25 : zq20 := zq22
theorem zq26 : SpecOk Try.prog 45 (zq21 zq25) := zq23 zq24Γ

/-- slices.Sort[[]int,int] -/
def zq27 : Shelf.Ren :=
      { 
      f := fun x =>
        match x with
        | 189 => 49
        | 125 => 66
        | 257 => 70
        | 128 => 81
        | 129 => 82
        | 294 => 83
        | 295 => 84
        | 296 => 85
        | 297 => 86
        | 298 => 87
        | 299 => 88
        | 216 => 89
        | 300 => 90
        | 301 => 91
        | 328 => 97
        | 329 => 93
        | 330 => 94
        | 331 => 98
        | 332 => 99
        | 215 => 100
        | 343 => 102
        | n => n,
      t := fun x =>
        match x with
        | 28 => 22
        | 3 => 3
        | 46 => 97
        | 0 => 0
        | 51 => 23
        | 53 => 111
        | 4 => 4
        | 183 => 104
        | 182 => 103
        | 131 => 66
        | 5 => 5
        | 9 => 9
        | 218 => 118
        | 222 => 122
        | 228 => 126
        | 229 => 127
        | n => n,
      g := fun x => x }
theorem zq28 : Go.Proofs.Lays.n189 Try.prog zq27 :=
  { mixed := by kernel_rfl,
    f125 := Eq.trans Try.func66 (congrArg some (by kernel_rfl)),
    f128 := Eq.trans Try.func81 (congrArg some (by kernel_rfl)),
    f129 := Eq.trans Try.func82 (congrArg some (by kernel_rfl)),
    f189 := Eq.trans Try.func49 (congrArg some (by kernel_rfl)),
    f215 := Eq.trans Try.func100 (congrArg some (by kernel_rfl)),
    f216 := Eq.trans Try.func89 (congrArg some (by kernel_rfl)),
    f257 := Eq.trans Try.func70 (congrArg some (by kernel_rfl)),
    f294 := Eq.trans Try.func83 (congrArg some (by kernel_rfl)),
    f295 := Eq.trans Try.func84 (congrArg some (by kernel_rfl)),
    f296 := Eq.trans Try.func85 (congrArg some (by kernel_rfl)),
    f297 := Eq.trans Try.func86 (congrArg some (by kernel_rfl)),
    f298 := Eq.trans Try.func87 (congrArg some (by kernel_rfl)),
    f299 := Eq.trans Try.func88 (congrArg some (by kernel_rfl)),
    f300 := Eq.trans Try.func90 (congrArg some (by kernel_rfl)),
    f301 := Eq.trans Try.func91 (congrArg some (by kernel_rfl)),
    f328 := Eq.trans Try.func97 (congrArg some (by kernel_rfl)),
    f329 := Eq.trans Try.func93 (congrArg some (by kernel_rfl)),
    f330 := Eq.trans Try.func94 (congrArg some (by kernel_rfl)),
    f331 := Eq.trans Try.func98 (congrArg some (by kernel_rfl)),
    f332 := Eq.trans Try.func99 (congrArg some (by kernel_rfl)),
    f343 := Eq.trans Try.func102 (congrArg some (by kernel_rfl)),
    t0 := Try.underlying0,
    a0 := Try.isAgg0,
    z0 := Try.sizeOf0,
    v0 := Try.zeroValue0,
    t3 := Try.underlying3,
    a3 := Try.isAgg3,
    z3 := Try.sizeOf3,
    v3 := Try.zeroValue3,
    t4 := Try.underlying4,
    a4 := Try.isAgg4,
    z4 := Try.sizeOf4,
    v4 := Try.zeroValue4,
    t5 := Try.underlying5,
    a5 := Try.isAgg5,
    z5 := Try.sizeOf5,
    v5 := Try.zeroValue5,
    t9 := Try.underlying9,
    a9 := Try.isAgg9,
    z9 := Try.sizeOf9,
    v9 := Try.zeroValue9,
    t28 := Try.underlying22,
    a28 := Try.isAgg22,
    z28 := Try.sizeOf22,
    v28 := Try.zeroValue22,
    t46 := Try.underlying97,
    a46 := Try.isAgg97,
    z46 := Try.sizeOf97,
    v46 := Try.zeroValue97,
    t51 := Try.underlying23,
    a51 := Try.isAgg23,
    z51 := Try.sizeOf23,
    v51 := Try.zeroValue23,
    t53 := Try.underlying111,
    a53 := Try.isAgg111,
    z53 := Try.sizeOf111,
    v53 := Try.zeroValue111,
    t131 := Try.underlying66,
    a131 := Try.isAgg66,
    z131 := Try.sizeOf66,
    v131 := Try.zeroValue66,
    t182 := Try.underlying103,
    a182 := Try.isAgg103,
    z182 := Try.sizeOf103,
    v182 := Try.zeroValue103,
    t183 := Try.underlying104,
    a183 := Try.isAgg104,
    z183 := Try.sizeOf104,
    v183 := Try.zeroValue104,
    t218 := Try.underlying118,
    a218 := Try.isAgg118,
    z218 := Try.sizeOf118,
    v218 := Try.zeroValue118,
    t222 := Try.underlying122,
    a222 := Try.isAgg122,
    z222 := Try.sizeOf122,
    v222 := Try.zeroValue122,
    t228 := Try.underlying126,
    a228 := Try.isAgg126,
    z228 := Try.sizeOf126,
    v228 := Try.zeroValue126,
    t229 := Try.underlying127,
    a229 := Try.isAgg127,
    z229 := Try.sizeOf127,
    v229 := Try.zeroValue127 }
def zq29 : RowF := sortF 3
theorem zq2a : RowOk Try.prog 49 zq29 :=
  sort_rowok zq28 rfl ⟨_, Try.func49, by kernel_rfl, by kernel_rfl⟩

/-- pagewatch/pagewatchref27.insert -/
abbrev zq2b := {β : Type} → (List Int) → Int → ((List Int) → Option β) → Option β
def zq2c (c : zq2b) : Spec :=
  ⟨[(false, [.data (.slice (.int .i64))]), (false, [.data (.int .i64)])], [], [(false, [.rowh 0])], [.row 3 (.int .i64)], fun x k => c x.1.1.1 x.1.2.1.1 (fun r0 => k (((), ()), (r0, ())))⟩
noncomputable def ref27_insert_p1_code : Code := codeAt 28 (bodyOf Try.f53)
abbrev zq2d (β : Type) := (List Int) → Int → Int → Option β
abbrev zq2e := {β : Type} → zq2d β → (List Int) → Int → Int → Option β
def zq2f : View := ⟨0, [0, 1, 5], [(false, [.data (.slice (.int .i64))]), (false, [.data (.int .i64)]), (false, [.data (.int .i64)])], []⟩
def zq2g : List (AExit × View) := [(.exit 0, ⟨0, [0, 1, 5], [(false, [.data (.slice (.int .i64))]), (false, [.data (.int .i64)]), (false, [.data (.int .i64)])], []⟩)]
@[reducible] def ref27_insert_p1_G (p : zq2e) {β : Type} (d : zq2f.den) (ks : Outs.K β zq2g) : Option β :=
  p (fun a0 a1 a2 => ks.1 (((a0, ()), (a1, ()), (a2, ()), ()), ())) d.1.1.1 d.1.2.1.1 d.1.2.2.1.1
section
@[reducible] def ref27_insert_X : Ctx := ⟨look tab, pick1 [], false, false, false, false⟩
def zq2h {β : Type} (rec : (List Int) → Int → Int → Option β) (k1 : zq2d β) (l : List Int) (x : Int) (k_ : Int) : Option β :=
  cond (decide ((0 : Int) < k_))
  (cond (decide (0 ≤ (IntKind.i64.wrap (k_ - (1 : Int)))) && decide ((IntKind.i64.wrap (k_ - (1 : Int))) < (List.length l : Int)))
  (let e : Int := List.getD l (Int.toNat (IntKind.i64.wrap (k_ - (1 : Int)))) (0 : Int);
  cond (decide (x < e))
  (let k_2 : Int := (IntKind.i64.wrap (k_ - (1 : Int)));
  rec l x k_2)
  (k1 l x k_))
  none)
  (k1 l x k_)
def zq2i {β : Type} : Nat → zq2d β → (List Int) → Int → Int → Option β
  | 0 => fun _ _ _ _ => none
  | i + 1 => fun k1 l x k_ => zq2h (zq2i i k1) k1 l x k_
theorem zq2j (hΓ : ΓOk Try.prog ref27_insert_X.Γ) (i : Nat) : PieceOk Try.prog 34 0 ref27_insert_p1_code zq2f zq2g (ref27_insert_p1_G (zq2i i)) := by
  rw [show ref27_insert_p1_code = .loop (loopBody ref27_insert_p1_code) by kernel_rfl]
  exact piece_loop (X := ref27_insert_X) (p := 1) (Λ := pick1 []) (G := fun i => @fun β d ks => ref27_insert_p1_G (zq2i i) d ks) mixed tab_ok hΓ rfl (by kernel_rfl) CutsOk_nil (fun _ _ => rfl) (fun i => @fun β d ks r h => Eq.trans (b := ref27_insert_p1_G (zq2i (i + 1)) d ks) (by kernel_rfl) h) i
def zq2k (p1 : zq2e) {β : Type} (l : List Int) (x : Int) (k : ((List Int) → Option β)) : Option β :=
  p1 (fun (l2 : List Int) (x2 : Int) (k_ : Int) =>
  cond (decide (0 ≤ (0 : Int)) && (decide ((0 : Int) ≤ k_) && decide (k_ ≤ (List.length l2 : Int))))
  (cond (decide (List.length (List.drop (Int.toNat (0 : Int)) (List.take (Int.toNat k_) l2)) * 8 ≤ roomMax))
  (let l3 : List Int := (List.drop (Int.toNat (0 : Int)) (List.take (Int.toNat k_) l2));
  let l4 : List Int := ([x2] : List Int);
  cond (decide ((List.length l3 + List.length l4) * 8 ≤ roomMax))
  (let l5 : List Int := (l3 ++ l4);
  cond (decide (0 ≤ k_) && (decide (k_ ≤ (List.length l2 : Int)) && decide ((List.length l2 : Int) ≤ (List.length l2 : Int))))
  (cond (decide ((List.length l5 + List.length (List.drop (Int.toNat k_) (List.take (Int.toNat (List.length l2 : Int)) l2))) * 8 ≤ roomMax))
  (let l6 : List Int := (l5 ++ (List.drop (Int.toNat k_) (List.take (Int.toNat (List.length l2 : Int)) l2)));
  k l6)
  none)
  none)
  none)
  none)
  none) l x (List.length l : Int)
theorem zq2l (hΓ : ΓOk Try.prog ref27_insert_X.Γ) (p1 : zq2e) (hp1 : PieceOk Try.prog 34 0 ref27_insert_p1_code zq2f zq2g (ref27_insert_p1_G p1)) : SpecOk Try.prog 53 (zq2c (zq2k p1)) :=
  spec_exec (X := ref27_insert_X) (Λ := pick1 [(28, pieceCut zq2f zq2g (ref27_insert_p1_G p1))]) (rs := [.tmp 4]) (c := bodyOf Try.f53) mixed tab_ok hΓ Try.func53 (by kernel_rfl) (by kernel_rfl) (by kernel_rfl) (by kernel_rfl) (CutsOk_cons (q := 28) (c' := ref27_insert_p1_code) (by kernel_rfl) rfl hp1 CutsOk_nil) (fun x k r h => Eq.trans (b := (zq2c (zq2k p1)).run x k) (by kernel_rfl) h)
end
theorem zq2mΓ : ΓOk Try.prog (pick1 []) := ΓOk_nil
def zq2n (m : Nat) : zq2e := zq2i m
theorem zq2o {β : Type} (i : Nat) (k1 l x k_) : (zq2n (i + 1) k1 l x k_ : Option β) = zq2h (zq2n i k1) k1 l x k_ := rfl
def zq2p : zq2e := zq2n fuel
theorem zq2q : PieceOk Try.prog 34 0 ref27_insert_p1_code zq2f zq2g (ref27_insert_p1_G zq2p) := zq2j zq2mΓ fuel
def zq2r : zq2b := zq2k zq2p
theorem zq2s : SpecOk Try.prog 53 (zq2c zq2r) := zq2l zq2mΓ zq2p zq2q

/-- pagewatch/pagewatchref25.In -/
abbrev zq2t := {β : Type} → Int → Int → Int → (Bool → Option β) → Option β
def zq2u (c : zq2t) : Spec :=
  ⟨[(false, [.data (.int .i64)]), (false, [.data (.int .i64)]), (false, [.data (.int .i64)])], [], [(false, [.data .bool])], [], fun x k => c x.1.1.1 x.1.2.1.1 x.1.2.2.1.1 (fun r0 => k (((r0, ()), ()), ()))⟩
section
@[reducible] def ref25_In_X : Ctx := ⟨look tab, pick1 [], false, false, false, false⟩
def zq2v {β : Type} (n : Int) (lo : Int) (hi : Int) (k : (Bool → Option β)) : Option β :=
  cond (decide (lo ≤ n))
  (k (decide (n ≤ hi)))
  (k false)
theorem zq2w (hΓ : ΓOk Try.prog ref25_In_X.Γ) : SpecOk Try.prog 56 (zq2u (zq2v)) :=
  spec_exec (X := ref25_In_X) (Λ := pick1 []) (rs := [.tmp 6]) (c := bodyOf Try.f56) mixed tab_ok hΓ Try.func56 (by kernel_rfl) (by kernel_rfl) (by kernel_rfl) (by kernel_rfl) CutsOk_nil (fun x k r h => Eq.trans (b := (zq2u (zq2v)).run x k) (by kernel_rfl) h)
end
theorem zq2xΓ : ΓOk Try.prog (pick1 []) := ΓOk_nil
def zq2y : zq2t := zq2v
theorem zq2z : SpecOk Try.prog 56 (zq2u zq2y) := zq2w zq2xΓ

/-- pagewatch/pagewatchref27.ahead -/
abbrev zq30 := {β : Type} → (Int × (Int × Int)) → (Int × (Int × Int)) → (Bool → Option β) → Option β
def zq31 (c : zq30) : Spec :=
  ⟨[(true, [.data (.prod (.int .i64) (.prod (.int .i64) (.int .i64)))]), (true, [.data (.prod (.int .i64) (.prod (.int .i64) (.int .i64)))])], [], [(false, [.data .bool])], [], fun x k => c x.1.1.1 x.1.2.1.1 (fun r0 => k (((r0, ()), ()), ()))⟩
section
@[reducible] def ref27_ahead_X : Ctx := ⟨look tab, pick1 [], false, false, false, false⟩
def zq32 {β : Type} (a : (Int × (Int × Int))) (b : (Int × (Int × Int))) (k : (Bool → Option β)) : Option β :=
  cond (!decide (a.2.2 = b.2.2))
  (k (decide (a.2.2 < b.2.2)))
  (cond (!decide (a.1 = b.1))
  (k (decide (a.1 < b.1)))
  (k (decide (a.2.1 < b.2.1))))
theorem zq33 (hΓ : ΓOk Try.prog ref27_ahead_X.Γ) : SpecOk Try.prog 57 (zq31 (zq32)) :=
  spec_exec (X := ref27_ahead_X) (Λ := pick1 []) (rs := [.tmp 4]) (c := bodyOf Try.f57) mixed tab_ok hΓ Try.func57 (by kernel_rfl) (by kernel_rfl) (by kernel_rfl) (by kernel_rfl) CutsOk_nil (fun x k r h => Eq.trans (b := (zq31 (zq32)).run x k) (by kernel_rfl) h)
end
theorem zq34Γ : ΓOk Try.prog (pick1 []) := ΓOk_nil
def zq35 : zq30 := zq32
theorem zq36 : SpecOk Try.prog 57 (zq31 zq35) := zq33 zq34Γ

/-- pagewatch/delivery.person -/
abbrev zq37 := {β : Type} → Int → (Bool → Option β) → Option β
def zq38 (c : zq37) : Spec :=
  ⟨[(false, [.data (.int .i64)])], [], [(false, [.data .bool])], [], fun x k => c x.1.1.1 (fun r0 => k (((r0, ()), ()), ()))⟩
section
variable (c_delivery_in : zq1m)
@[reducible] def delivery_person_X : Ctx := ⟨look tab, pick1 [(39, .spec (zq1n c_delivery_in))], false, false, false, false⟩
def zq39 {β : Type} (n : Int) (k : (Bool → Option β)) : Option β :=
  c_delivery_in n (0 : Int) (31 : Int) (fun (rin : Bool) =>
  k rin)
theorem zq3a (hΓ : ΓOk Try.prog (delivery_person_X c_delivery_in).Γ) : SpecOk Try.prog 60 (zq38 (zq39 c_delivery_in)) :=
  spec_exec (X := (delivery_person_X c_delivery_in)) (Λ := pick1 []) (rs := [.tmp 2]) (c := bodyOf Try.f60) mixed tab_ok hΓ Try.func60 (by kernel_rfl) (by kernel_rfl) (by kernel_rfl) (by kernel_rfl) CutsOk_nil (fun x k r h => Eq.trans (b := (zq38 (zq39 c_delivery_in)).run x k) (by kernel_rfl) h)
end
theorem zq3bΓ : ΓOk Try.prog (pick1 [(39, .spec (zq1n zq1r))]) := (ΓOk_cons zq1s ΓOk_nil)
def zq3c : zq37 := zq39 zq1r
theorem zq3d : SpecOk Try.prog 60 (zq38 zq3c) := zq3a zq1r zq3bΓ

/-- pagewatch/channel.in -/
abbrev zq3e := {β : Type} → Int → Int → Int → (Bool → Option β) → Option β
def zq3f (c : zq3e) : Spec :=
  ⟨[(false, [.data (.int .i64)]), (false, [.data (.int .i64)]), (false, [.data (.int .i64)])], [], [(false, [.data .bool])], [], fun x k => c x.1.1.1 x.1.2.1.1 x.1.2.2.1.1 (fun r0 => k (((r0, ()), ()), ()))⟩
section
@[reducible] def channel_in_X : Ctx := ⟨look tab, pick1 [], false, false, false, false⟩
def zq3g {β : Type} (n : Int) (low : Int) (high : Int) (k : (Bool → Option β)) : Option β :=
  cond (decide (low ≤ n))
  (k (decide (n ≤ high)))
  (k false)
theorem zq3h (hΓ : ΓOk Try.prog channel_in_X.Γ) : SpecOk Try.prog 68 (zq3f (zq3g)) :=
  spec_exec (X := channel_in_X) (Λ := pick1 []) (rs := [.tmp 6]) (c := bodyOf Try.f68) mixed tab_ok hΓ Try.func68 (by kernel_rfl) (by kernel_rfl) (by kernel_rfl) (by kernel_rfl) CutsOk_nil (fun x k r h => Eq.trans (b := (zq3f (zq3g)).run x k) (by kernel_rfl) h)
end
theorem zq3iΓ : ΓOk Try.prog (pick1 []) := ΓOk_nil
def zq3j : zq3e := zq3g
theorem zq3k : SpecOk Try.prog 68 (zq3f zq3j) := zq3h zq3iΓ

/-- pagewatch/channel.ValidFate -/
abbrev zq3l := {β : Type} → zq0 → (Bool → Option β) → Option β
def zq3m (c : zq3l) : Spec :=
  ⟨[(true, [.data zq1])], [], [(false, [.data .bool])], [], fun x k => c x.1.1.1 (fun r0 => k (((r0, ()), ()), ()))⟩
section
variable (c_channel_in : zq3e)
@[reducible] def channel_ValidFate_X : Ctx := ⟨look tab, pick1 [(68, .spec (zq3f c_channel_in))], false, false, false, false⟩
def zq3n {β : Type} (f : zq0) (k : (Bool → Option β)) : Option β :=
  c_channel_in f.2.1 (0 : Int) (86400 : Int) (fun (rin : Bool) =>
  cond rin
  (c_channel_in f.2.2.1 (0 : Int) (86400 : Int) (fun (rin2 : Bool) =>
  cond rin2
  (c_channel_in f.2.2.2 (-1 : Int) (86400 : Int) (fun (rin3 : Bool) =>
  k rin3))
  (k false)))
  (k false))
theorem zq3o (hΓ : ΓOk Try.prog (channel_ValidFate_X c_channel_in).Γ) : SpecOk Try.prog 69 (zq3m (zq3n c_channel_in)) :=
  spec_exec (X := (channel_ValidFate_X c_channel_in)) (Λ := pick1 []) (rs := [.tmp 2]) (c := bodyOf Try.f69) mixed tab_ok hΓ Try.func69 (by kernel_rfl) (by kernel_rfl) (by kernel_rfl) (by kernel_rfl) CutsOk_nil (fun x k r h => Eq.trans (b := (zq3m (zq3n c_channel_in)).run x k) (by kernel_rfl) h)
end
theorem zq3pΓ : ΓOk Try.prog (pick1 [(68, .spec (zq3f zq3j))]) := (ΓOk_cons zq3k ΓOk_nil)
def zq3q : zq3l := zq3n zq3j
theorem zq3r : SpecOk Try.prog 69 (zq3m zq3q) := zq3o zq3j zq3pΓ

/-- pagewatch/pagewatchref26.ValidFate -/
abbrev zq3s := {β : Type} → zq0 → (Bool → Option β) → Option β
def zq3t (c : zq3s) : Spec :=
  ⟨[(true, [.data zq1])], [], [(false, [.data .bool])], [], fun x k => c x.1.1.1 (fun r0 => k (((r0, ()), ()), ()))⟩
section
variable (c_ref25_In : zq2t)
@[reducible] def ref26_ValidFate_X : Ctx := ⟨look tab, pick1 [(56, .spec (zq2u c_ref25_In))], false, false, false, false⟩
def zq3u {β : Type} (f : zq0) (k : (Bool → Option β)) : Option β :=
  c_ref25_In f.2.1 (0 : Int) (86400 : Int) (fun (rIn : Bool) =>
  cond rIn
  (c_ref25_In f.2.2.1 (0 : Int) (86400 : Int) (fun (rIn2 : Bool) =>
  cond rIn2
  (c_ref25_In f.2.2.2 (-1 : Int) (86400 : Int) (fun (rIn3 : Bool) =>
  k rIn3))
  (k false)))
  (k false))
theorem zq3v (hΓ : ΓOk Try.prog (ref26_ValidFate_X c_ref25_In).Γ) : SpecOk Try.prog 71 (zq3t (zq3u c_ref25_In)) :=
  spec_exec (X := (ref26_ValidFate_X c_ref25_In)) (Λ := pick1 []) (rs := [.tmp 2]) (c := bodyOf Try.f71) mixed tab_ok hΓ Try.func71 (by kernel_rfl) (by kernel_rfl) (by kernel_rfl) (by kernel_rfl) CutsOk_nil (fun x k r h => Eq.trans (b := (zq3t (zq3u c_ref25_In)).run x k) (by kernel_rfl) h)
end
theorem zq3wΓ : ΓOk Try.prog (pick1 [(56, .spec (zq2u zq2y))]) := (ΓOk_cons zq2z ΓOk_nil)
def zq3x : zq3s := zq3u zq2y
theorem zq3y : SpecOk Try.prog 71 (zq3t zq3x) := zq3v zq2y zq3wΓ

/-- (*pagewatch/pagewatchmade.Dice).Person -/
abbrev zq3z := {β : Type} → Int → (List Int × Int) → ((Int × List (Int × (Int × (Int × Int)))) → (List Int × Int) → Option β) → Option β
def zq40 (c : zq3z) : Spec :=
  ⟨[(false, [.ptr 0 0]), (false, [.data (.int .i64)])], [.cells 77 [.data (.prod (.slice (.int .i64)) (.int .i64))]], [(true, [.data (.prod (.int .i64) (.slice (.prod (.int .i64) (.prod (.int .i64) (.prod (.int .i64) (.int .i64))))))])], [.cells 77 [.data (.prod (.slice (.int .i64)) (.int .i64))]], fun x k => c x.1.2.1.1 x.2.1.1 (fun r0 r1 => k (((r0, ()), ()), ((r1, ()), ())))⟩
noncomputable def made_Dice_Person_p1_code : Code := codeAt 58 (bodyOf Try.f12)
abbrev zq41 (β : Type) := (List Int) → Int → Int → Int → (List (Int × (Int × (Int × Int)))) → (List (Int × (Int × (Int × Int)))) → Option β
abbrev zq42 := {β : Type} → zq41 β → Int → (List Int) → Int → Int → Int → (List (Int × (Int × (Int × Int)))) → (List (Int × (Int × (Int × Int)))) → Option β
def zq43 : View := ⟨1, [0, 4, 5, 6], [(false, [.ptr 0 0]), (false, [.ptr 1 0]), (false, [.ptr 2 0]), (false, [.data (.int .i64)])], [.cells 77 [.data (.slice (.int .i64)), .data (.int .i64)], .cells 29 [.data (.int .i64), .rowh 3], .cells 29 [.data (.int .i64), .rowh 4], .row 36 (.prod (.int .i64) (.prod (.int .i64) (.prod (.int .i64) (.int .i64)))), .row 36 (.prod (.int .i64) (.prod (.int .i64) (.prod (.int .i64) (.int .i64))))]⟩
def zq44 : List (AExit × View) := [(.exit 0, ⟨1, [4, 5], [(false, [.ptr 1 0]), (false, [.ptr 2 0])], [.cells 77 [.data (.slice (.int .i64)), .data (.int .i64)], .cells 29 [.data (.int .i64), .rowh 3], .cells 29 [.data (.int .i64), .rowh 4], .row 36 (.prod (.int .i64) (.prod (.int .i64) (.prod (.int .i64) (.int .i64)))), .row 36 (.prod (.int .i64) (.prod (.int .i64) (.prod (.int .i64) (.int .i64))))]⟩)]
@[reducible] def made_Dice_Person_p1_G (p : zq42) {β : Type} (d : zq43.den) (ks : Outs.K β zq44) : Option β :=
  p (fun a0 a1 a2 a3 a4 a5 => ks.1 (((), (), ()), ((a0, a1, ()), (a2, ()), (a3, ()), a4, a5, ()))) d.1.2.2.2.1.1 d.2.1.1 d.2.1.2.1 d.2.2.1.1 d.2.2.2.1.1 d.2.2.2.2.1 d.2.2.2.2.2.1
section
variable (c_made_Dice_Channel : zq1f) (c_made_Dice_Next : zqi)
@[reducible] def made_Dice_Person_X : Ctx := ⟨look tab, pick1 [(38, .spec (zq1g c_made_Dice_Channel)), (14, .spec (zqj c_made_Dice_Next))], false, false, false, false⟩
def zq45 {β : Type} (rec : Int → (List Int) → Int → Int → Int → (List (Int × (Int × (Int × Int)))) → (List (Int × (Int × (Int × Int)))) → Option β) (k1 : zq41 β) (i_ : Int) (d : List Int) (d2 : Int) (t4 : Int) (p_ : Int) (b3_ : List (Int × (Int × (Int × Int)))) (b4_ : List (Int × (Int × (Int × Int)))) : Option β :=
  cond (decide ((0 : Int) < i_))
  (c_made_Dice_Channel (d, d2) (fun (rChannel : (Int × (Int × (Int × Int)))) (mrChannel : (List Int × Int)) =>
  let l : List (Int × (Int × (Int × Int))) := ([rChannel] : List (Int × (Int × (Int × Int))));
  cond (decide ((List.length b4_ + List.length l) * 32 ≤ roomMax))
  (let l2 : List (Int × (Int × (Int × Int))) := (b4_ ++ l);
  let i_2 : Int := (IntKind.i64.wrap (i_ - (1 : Int)));
  rec i_2 mrChannel.1 mrChannel.2 t4 p_ b3_ l2)
  none))
  (k1 d d2 t4 p_ b3_ b4_)
def zq46 {β : Type} : Nat → zq41 β → Int → (List Int) → Int → Int → Int → (List (Int × (Int × (Int × Int)))) → (List (Int × (Int × (Int × Int)))) → Option β
  | 0 => fun _ _ _ _ _ _ _ _ => none
  | i + 1 => fun k1 i_ d d2 t4 p_ b3_ b4_ => zq45 c_made_Dice_Channel (zq46 i k1) k1 i_ d d2 t4 p_ b3_ b4_
theorem zq47 (hΓ : ΓOk Try.prog (made_Dice_Person_X c_made_Dice_Channel c_made_Dice_Next).Γ) (i : Nat) : PieceOk Try.prog 23 1 made_Dice_Person_p1_code zq43 zq44 (made_Dice_Person_p1_G (zq46 c_made_Dice_Channel i)) := by
  rw [show made_Dice_Person_p1_code = .loop (loopBody made_Dice_Person_p1_code) by kernel_rfl]
  exact piece_loop (X := (made_Dice_Person_X c_made_Dice_Channel c_made_Dice_Next)) (p := 1) (Λ := pick1 []) (G := fun i => @fun β d ks => made_Dice_Person_p1_G (zq46 c_made_Dice_Channel i) d ks) mixed tab_ok hΓ rfl (by kernel_rfl) CutsOk_nil (fun _ _ => rfl) (fun i => @fun β d ks r h => Eq.trans (b := made_Dice_Person_p1_G (zq46 c_made_Dice_Channel (i + 1)) d ks) (by kernel_rfl) h) i
def zq48 (p1 : zq42) {β : Type} (person : Int) (d : (List Int × Int)) (k : ((Int × List (Int × (Int × (Int × Int)))) → (List Int × Int) → Option β)) : Option β :=
  c_made_Dice_Next (4 : Int) d (fun (rNext : Int) (mrNext : (List Int × Int)) =>
  p1 (fun (b0_ : List Int) (b0_2 : Int) (t4 : Int) (p_ : Int) (b3_ : List (Int × (Int × (Int × Int)))) (b4_ : List (Int × (Int × (Int × Int)))) =>
  k (p_, b4_) (b0_, b0_2)) rNext mrNext.1 mrNext.2 (0 : Int) person ([] : List (Int × (Int × (Int × Int)))) ([] : List (Int × (Int × (Int × Int)))))
theorem zq49 (hΓ : ΓOk Try.prog (made_Dice_Person_X c_made_Dice_Channel c_made_Dice_Next).Γ) (p1 : zq42) (hp1 : PieceOk Try.prog 23 1 made_Dice_Person_p1_code zq43 zq44 (made_Dice_Person_p1_G p1)) : SpecOk Try.prog 12 (zq40 (zq48 c_made_Dice_Next p1)) :=
  spec_exec (X := (made_Dice_Person_X c_made_Dice_Channel c_made_Dice_Next)) (Λ := pick1 [(58, pieceCut zq43 zq44 (made_Dice_Person_p1_G p1))]) (rs := [.cell 4 29]) (c := bodyOf Try.f12) mixed tab_ok hΓ Try.func12 (by kernel_rfl) (by kernel_rfl) (by kernel_rfl) (by kernel_rfl) (CutsOk_cons (q := 58) (c' := made_Dice_Person_p1_code) (by kernel_rfl) rfl hp1 CutsOk_nil) (fun x k r h => Eq.trans (b := (zq40 (zq48 c_made_Dice_Next p1)).run x k) (by kernel_rfl) h)
end
theorem zq4aΓ : ΓOk Try.prog (pick1 [(38, .spec (zq1g zq1k)), (14, .spec (zqj zqn))]) := (ΓOk_cons zq1l (ΓOk_cons zqo ΓOk_nil))
def zq4b (m : Nat) : zq42 := zq46 zq1k m
theorem zq4c {β : Type} (i : Nat) (k1 i_ d d2 t4 p_ b3_ b4_) : (zq4b (i + 1) k1 i_ d d2 t4 p_ b3_ b4_ : Option β) = zq45 zq1k (zq4b i k1) k1 i_ d d2 t4 p_ b3_ b4_ := rfl
def zq4d : zq42 := zq4b fuel
theorem zq4e : PieceOk Try.prog 23 1 made_Dice_Person_p1_code zq43 zq44 (made_Dice_Person_p1_G zq4d) := zq47 zq1k zqn zq4aΓ fuel
def zq4f : zq3z := zq48 zqn zq4d
theorem zq4g : SpecOk Try.prog 12 (zq40 zq4f) := zq49 zq1k zqn zq4aΓ zq4d zq4e

/-- (*pagewatch/pagewatchmade.Dice).Fates -/
abbrev zq4h := {β : Type} → (List Int × Int) → ((List Int × Int) → (List zq0) → Option β) → Option β
def zq4i (c : zq4h) : Spec :=
  ⟨[(false, [.ptr 0 0])], [.cells 77 [.data (.prod (.slice (.int .i64)) (.int .i64))]], [(false, [.rowh 1])], [.cells 77 [.data (.prod (.slice (.int .i64)) (.int .i64))], .row 75 zq1], fun x k => c x.2.1.1 (fun r0 r1 => k (((), ()), ((r0, ()), r1, ())))⟩
noncomputable def made_Dice_Fates_p1_code : Code := codeAt 58 (bodyOf Try.f15)
abbrev zq4j (β : Type) := (List Int) → Int → (List zq0) → Option β
abbrev zq4k := {β : Type} → zq4j β → Int → (List Int) → Int → (List zq0) → Option β
def zq4l : View := ⟨1, [0, 3, 4], [(false, [.ptr 0 0]), (false, [.rowh 1]), (false, [.data (.int .i64)])], [.cells 77 [.data (.slice (.int .i64)), .data (.int .i64)], .row 75 zq1]⟩
def zq4m : List (AExit × View) := [(.exit 0, ⟨1, [3], [(false, [.rowh 1])], [.cells 77 [.data (.slice (.int .i64)), .data (.int .i64)], .row 75 zq1]⟩)]
@[reducible] def made_Dice_Fates_p1_G (p : zq4k) {β : Type} (d : zq4l.den) (ks : Outs.K β zq4m) : Option β :=
  p (fun a0 a1 a2 => ks.1 (((), ()), ((a0, a1, ()), a2, ()))) d.1.2.2.1.1 d.2.1.1 d.2.1.2.1 d.2.2.1
section
variable (c_made_Dice_Fate : zq1t) (c_made_Dice_Next : zqi)
@[reducible] def made_Dice_Fates_X : Ctx := ⟨look tab, pick1 [(43, .spec (zq1u c_made_Dice_Fate)), (14, .spec (zqj c_made_Dice_Next))], false, false, false, false⟩
def zq4n {β : Type} (rec : Int → (List Int) → Int → (List zq0) → Option β) (k1 : zq4j β) (i_ : Int) (d : List Int) (d2 : Int) (out : List zq0) : Option β :=
  cond (decide ((0 : Int) < i_))
  (c_made_Dice_Fate (d, d2) (fun (rFate : zq0) (mrFate : (List Int × Int)) =>
  let l : List zq0 := ([rFate] : List zq0);
  cond (decide ((List.length out + List.length l) * 32 ≤ roomMax))
  (let l2 : List zq0 := (out ++ l);
  let i_2 : Int := (IntKind.i64.wrap (i_ - (1 : Int)));
  rec i_2 mrFate.1 mrFate.2 l2)
  none))
  (k1 d d2 out)
def zq4o {β : Type} : Nat → zq4j β → Int → (List Int) → Int → (List zq0) → Option β
  | 0 => fun _ _ _ _ _ => none
  | i + 1 => fun k1 i_ d d2 out => zq4n c_made_Dice_Fate (zq4o i k1) k1 i_ d d2 out
theorem zq4p (hΓ : ΓOk Try.prog (made_Dice_Fates_X c_made_Dice_Fate c_made_Dice_Next).Γ) (i : Nat) : PieceOk Try.prog 17 1 made_Dice_Fates_p1_code zq4l zq4m (made_Dice_Fates_p1_G (zq4o c_made_Dice_Fate i)) := by
  rw [show made_Dice_Fates_p1_code = .loop (loopBody made_Dice_Fates_p1_code) by kernel_rfl]
  exact piece_loop (X := (made_Dice_Fates_X c_made_Dice_Fate c_made_Dice_Next)) (p := 1) (Λ := pick1 []) (G := fun i => @fun β d ks => made_Dice_Fates_p1_G (zq4o c_made_Dice_Fate i) d ks) mixed tab_ok hΓ rfl (by kernel_rfl) CutsOk_nil (fun _ _ => rfl) (fun i => @fun β d ks r h => Eq.trans (b := made_Dice_Fates_p1_G (zq4o c_made_Dice_Fate (i + 1)) d ks) (by kernel_rfl) h) i
def zq4q (p1 : zq4k) {β : Type} (d : (List Int × Int)) (k : ((List Int × Int) → (List zq0) → Option β)) : Option β :=
  c_made_Dice_Next (5 : Int) d (fun (rNext : Int) (mrNext : (List Int × Int)) =>
  p1 (fun (b0_ : List Int) (b0_2 : Int) (out : List zq0) =>
  k (b0_, b0_2) out) rNext mrNext.1 mrNext.2 ([] : List zq0))
theorem zq4r (hΓ : ΓOk Try.prog (made_Dice_Fates_X c_made_Dice_Fate c_made_Dice_Next).Γ) (p1 : zq4k) (hp1 : PieceOk Try.prog 17 1 made_Dice_Fates_p1_code zq4l zq4m (made_Dice_Fates_p1_G p1)) : SpecOk Try.prog 15 (zq4i (zq4q c_made_Dice_Next p1)) :=
  spec_exec (X := (made_Dice_Fates_X c_made_Dice_Fate c_made_Dice_Next)) (Λ := pick1 [(58, pieceCut zq4l zq4m (made_Dice_Fates_p1_G p1))]) (rs := [.tmp 2]) (c := bodyOf Try.f15) mixed tab_ok hΓ Try.func15 (by kernel_rfl) (by kernel_rfl) (by kernel_rfl) (by kernel_rfl) (CutsOk_cons (q := 58) (c' := made_Dice_Fates_p1_code) (by kernel_rfl) rfl hp1 CutsOk_nil) (fun x k r h => Eq.trans (b := (zq4i (zq4q c_made_Dice_Next p1)).run x k) (by kernel_rfl) h)
end
theorem zq4sΓ : ΓOk Try.prog (pick1 [(43, .spec (zq1u zq1y)), (14, .spec (zqj zqn))]) := (ΓOk_cons zq1z (ΓOk_cons zqo ΓOk_nil))
def zq4t (m : Nat) : zq4k := zq4o zq1y m
theorem zq4u {β : Type} (i : Nat) (k1 i_ d d2 out) : (zq4t (i + 1) k1 i_ d d2 out : Option β) = zq4n zq1y (zq4t i k1) k1 i_ d d2 out := rfl
def zq4v : zq4k := zq4t fuel
theorem zq4w : PieceOk Try.prog 17 1 made_Dice_Fates_p1_code zq4l zq4m (made_Dice_Fates_p1_G zq4v) := zq4p zq1y zqn zq4sΓ fuel
def zq4x : zq4h := zq4q zqn zq4v
theorem zq4y : SpecOk Try.prog 15 (zq4i zq4x) := zq4r zq1y zqn zq4sΓ zq4v zq4w

/-- pagewatch/channel.Fates -/
abbrev zq4z := {β : Type} → (List zq0) → Int → (zq0 → Option β) → Option β
def zq50 (c : zq4z) : Spec :=
  ⟨[(false, [.data (.slice zq1)]), (false, [.data (.int .i64)])], [], [(true, [.data zq1])], [], fun x k => c x.1.1.1 x.1.2.1.1 (fun r0 => k (((r0, ()), ()), ()))⟩
section
variable (c_channel_ValidFate : zq3l) (c_channel_in : zq3e)
@[reducible] def channel_Fates_X : Ctx := ⟨look tab, pick1 [(69, .spec (zq3m c_channel_ValidFate)), (68, .spec (zq3f c_channel_in))], false, false, false, false⟩
def zq51 {β : Type} (l : List zq0) (k_ : Int) (k : (zq0 → Option β)) : Option β :=
  c_channel_in k_ (0 : Int) (IntKind.i64.wrap ((List.length l : Int) - (1 : Int))) (fun (rin : Bool) =>
  cond rin
  (cond (decide (0 ≤ k_) && decide (k_ < (List.length l : Int)))
  (let e : zq0 := List.getD l (Int.toNat k_) (false, ((0 : Int), ((0 : Int), (0 : Int))));
  c_channel_ValidFate e (fun (rValidFate : Bool) =>
  cond rValidFate
  (cond (decide (0 ≤ k_) && decide (k_ < (List.length l : Int)))
  (let e2 : zq0 := List.getD l (Int.toNat k_) (false, ((0 : Int), ((0 : Int), (0 : Int))));
  k e2)
  none)
  (k (true, ((0 : Int), ((0 : Int), (0 : Int)))))))
  none)
  (k (true, ((0 : Int), ((0 : Int), (0 : Int))))))
theorem zq52 (hΓ : ΓOk Try.prog (channel_Fates_X c_channel_ValidFate c_channel_in).Γ) : SpecOk Try.prog 46 (zq50 (zq51 c_channel_ValidFate c_channel_in)) :=
  spec_exec (X := (channel_Fates_X c_channel_ValidFate c_channel_in)) (Λ := pick1 []) (rs := [.cell 4 75]) (c := bodyOf Try.f46) mixed tab_ok hΓ Try.func46 (by kernel_rfl) (by kernel_rfl) (by kernel_rfl) (by kernel_rfl) CutsOk_nil (fun x k r h => Eq.trans (b := (zq50 (zq51 c_channel_ValidFate c_channel_in)).run x k) (by kernel_rfl) h)
end
theorem zq53Γ : ΓOk Try.prog (pick1 [(69, .spec (zq3m zq3q)), (68, .spec (zq3f zq3j))]) := (ΓOk_cons zq3r (ΓOk_cons zq3k ΓOk_nil))
def zq54 : zq4z := zq51 zq3q zq3j
theorem zq55 : SpecOk Try.prog 46 (zq50 zq54) := zq52 zq3q zq3j zq53Γ

/-- pagewatch/channel.Arrivals -/
abbrev zq56 := {β : Type} → Int → zq0 → ((List Int) → Option β) → Option β
def zq57 (c : zq56) : Spec :=
  ⟨[(false, [.data (.int .i64)]), (true, [.data zq1])], [], [(false, [.rowh 0])], [.row 3 (.int .i64)], fun x k => c x.1.1.1 x.1.2.1.1 (fun r0 => k (((), ()), (r0, ())))⟩
section
variable (c_channel_ValidFate : zq3l) (c_channel_in : zq3e)
@[reducible] def channel_Arrivals_X : Ctx := ⟨look tab, pick1 [(69, .spec (zq3m c_channel_ValidFate)), (68, .spec (zq3f c_channel_in))], false, false, false, false⟩
def zq58 {β : Type} (at_ : Int) (f : zq0) (k : ((List Int) → Option β)) : Option β :=
  c_channel_in at_ (0 : Int) (8589956192 : Int) (fun (rin : Bool) =>
  cond (!rin)
  (k ([] : List Int))
  (c_channel_ValidFate f (fun (rValidFate : Bool) =>
  cond (!rValidFate)
  (k ([] : List Int))
  (cond f.1
  (k ([] : List Int))
  (let l : List Int := ([(IntKind.i64.wrap (at_ + f.2.1))] : List Int);
  cond (!decide (f.2.2.1 = (0 : Int)))
  (let l2 : List Int := ([(IntKind.i64.wrap ((IntKind.i64.wrap (at_ + f.2.1)) + f.2.2.1))] : List Int);
  cond (decide ((List.length l + List.length l2) * 8 ≤ roomMax))
  (let l3 : List Int := (l ++ l2);
  k l3)
  none)
  (k l))))))
theorem zq59 (hΓ : ΓOk Try.prog (channel_Arrivals_X c_channel_ValidFate c_channel_in).Γ) : SpecOk Try.prog 47 (zq57 (zq58 c_channel_ValidFate c_channel_in)) :=
  spec_exec (X := (channel_Arrivals_X c_channel_ValidFate c_channel_in)) (Λ := pick1 []) (rs := [.tmp 4]) (c := bodyOf Try.f47) mixed tab_ok hΓ Try.func47 (by kernel_rfl) (by kernel_rfl) (by kernel_rfl) (by kernel_rfl) CutsOk_nil (fun x k r h => Eq.trans (b := (zq57 (zq58 c_channel_ValidFate c_channel_in)).run x k) (by kernel_rfl) h)
end
theorem zq5aΓ : ΓOk Try.prog (pick1 [(69, .spec (zq3m zq3q)), (68, .spec (zq3f zq3j))]) := (ΓOk_cons zq3r (ΓOk_cons zq3k ΓOk_nil))
def zq5b : zq56 := zq58 zq3q zq3j
theorem zq5c : SpecOk Try.prog 47 (zq57 zq5b) := zq59 zq3q zq3j zq5aΓ

/-- pagewatch/channel.Receipts -/
abbrev zq5d := {β : Type} → Int → zq0 → ((List Int) → Option β) → Option β
def zq5e (c : zq5d) : Spec :=
  ⟨[(false, [.data (.int .i64)]), (true, [.data zq1])], [], [(false, [.rowh 0])], [.row 3 (.int .i64)], fun x k => c x.1.1.1 x.1.2.1.1 (fun r0 => k (((), ()), (r0, ())))⟩
noncomputable def channel_Receipts_p1_code : Code := codeAt 122 (bodyOf Try.f48)
abbrev zq5f (β : Type) := (List Int) → Option β
abbrev zq5g := {β : Type} → zq5f β → Int → Int → Bool → Int → Int → Int → (List Int) → Option β
def zq5h : View := ⟨0, [3, 5, 14, 15], [(false, [.ptr 0 0]), (false, [.rowh 1]), (false, [.data (.int .i64)]), (false, [.data (.int .i64)])], [.cells 75 [.data .bool, .data (.int .i64), .data (.int .i64), .data (.int .i64)], .row 3 (.int .i64)]⟩
def zq5i : List (AExit × View) := [(.exit 0, ⟨0, [5], [(false, [.rowh 0])], [.row 3 (.int .i64)]⟩)]
@[reducible] def channel_Receipts_p1_G (p : zq5g) {β : Type} (d : zq5h.den) (ks : Outs.K β zq5i) : Option β :=
  p (fun a0 => ks.1 (((), ()), (a0, ()))) d.1.2.2.1.1 d.1.2.2.2.1.1 d.2.1.1 d.2.1.2.1 d.2.1.2.2.1 d.2.1.2.2.2.1 d.2.2.1
section
variable (c_channel_Arrivals : zq56)
@[reducible] def channel_Receipts_X : Ctx := ⟨look tab, pick1 [(47, .spec (zq57 c_channel_Arrivals))], false, false, false, false⟩
def zq5j {β : Type} (rec : Int → Int → Bool → Int → Int → Int → (List Int) → Option β) (k1 : zq5f β) (t14 : Int) (t15 : Int) (f : Bool) (f2 : Int) (f3 : Int) (f4 : Int) (out : List Int) : Option β :=
  cond (decide (t15 < t14))
  (cond (decide (0 ≤ t15) && decide (t15 < (List.length out : Int)))
  (cond (decide (0 ≤ t15) && decide (t15 < (List.length out : Int)))
  (let l : List Int := (List.set out (Int.toNat t15) (IntKind.i64.wrap ((List.getD out (Int.toNat t15) (0 : Int)) + f4)));
  rec t14 (IntKind.i64.wrap (t15 + (1 : Int))) f f2 f3 f4 l)
  none)
  none)
  (k1 out)
def zq5k {β : Type} : Nat → zq5f β → Int → Int → Bool → Int → Int → Int → (List Int) → Option β
  | 0 => fun _ _ _ _ _ _ _ _ => none
  | i + 1 => fun k1 t14 t15 f f2 f3 f4 out => zq5j (zq5k i k1) k1 t14 t15 f f2 f3 f4 out
theorem zq5l (hΓ : ΓOk Try.prog (channel_Receipts_X c_channel_Arrivals).Γ) (i : Nat) : PieceOk Try.prog 28 0 channel_Receipts_p1_code zq5h zq5i (channel_Receipts_p1_G (zq5k i)) := by
  rw [show channel_Receipts_p1_code = .loop (loopBody channel_Receipts_p1_code) by kernel_rfl]
  exact piece_loop (X := (channel_Receipts_X c_channel_Arrivals)) (p := 1) (Λ := pick1 []) (G := fun i => @fun β d ks => channel_Receipts_p1_G (zq5k i) d ks) mixed tab_ok hΓ rfl (by kernel_rfl) CutsOk_nil (fun _ _ => rfl) (fun i => @fun β d ks r h => Eq.trans (b := channel_Receipts_p1_G (zq5k (i + 1)) d ks) (by kernel_rfl) h) i
def zq5m (p1 : zq5g) {β : Type} (at_ : Int) (f : zq0) (k : ((List Int) → Option β)) : Option β :=
  c_channel_Arrivals at_ f (fun (lrArrivals : List Int) =>
  cond (decide (f.2.2.2 = (-1 : Int)))
  (k ([] : List Int))
  (p1 (fun (out : List Int) =>
  k out) (List.length lrArrivals : Int) (0 : Int) f.1 f.2.1 f.2.2.1 f.2.2.2 lrArrivals))
theorem zq5n (hΓ : ΓOk Try.prog (channel_Receipts_X c_channel_Arrivals).Γ) (p1 : zq5g) (hp1 : PieceOk Try.prog 28 0 channel_Receipts_p1_code zq5h zq5i (channel_Receipts_p1_G p1)) : SpecOk Try.prog 48 (zq5e (zq5m c_channel_Arrivals p1)) :=
  spec_exec (X := (channel_Receipts_X c_channel_Arrivals)) (Λ := pick1 [(122, pieceCut zq5h zq5i (channel_Receipts_p1_G p1))]) (rs := [.tmp 4]) (c := bodyOf Try.f48) mixed tab_ok hΓ Try.func48 (by kernel_rfl) (by kernel_rfl) (by kernel_rfl) (by kernel_rfl) (CutsOk_cons (q := 122) (c' := channel_Receipts_p1_code) (by kernel_rfl) rfl hp1 CutsOk_nil) (fun x k r h => Eq.trans (b := (zq5e (zq5m c_channel_Arrivals p1)).run x k) (by kernel_rfl) h)
end
theorem zq5oΓ : ΓOk Try.prog (pick1 [(47, .spec (zq57 zq5b))]) := (ΓOk_cons zq5c ΓOk_nil)
def zq5p (m : Nat) : zq5g := zq5k m
theorem zq5q {β : Type} (i : Nat) (k1 t14 t15 f f2 f3 f4 out) : (zq5p (i + 1) k1 t14 t15 f f2 f3 f4 out : Option β) = zq5j (zq5p i k1) k1 t14 t15 f f2 f3 f4 out := rfl
def zq5r : zq5g := zq5p fuel
theorem zq5s : PieceOk Try.prog 28 0 channel_Receipts_p1_code zq5h zq5i (channel_Receipts_p1_G zq5r) := zq5l zq5b zq5oΓ fuel
def zq5t : zq5d := zq5m zq5b zq5r
theorem zq5u : SpecOk Try.prog 48 (zq5e zq5t) := zq5n zq5b zq5oΓ zq5r zq5s

/-- pagewatch/pagewatchref26.Fates -/
abbrev zq5v := {β : Type} → (List zq0) → Int → (zq0 → Option β) → Option β
def zq5w (c : zq5v) : Spec :=
  ⟨[(false, [.data (.slice zq1)]), (false, [.data (.int .i64)])], [], [(true, [.data zq1])], [], fun x k => c x.1.1.1 x.1.2.1.1 (fun r0 => k (((r0, ()), ()), ()))⟩
section
variable (c_ref26_ValidFate : zq3s)
@[reducible] def ref26_Fates_X : Ctx := ⟨look tab, pick1 [(71, .spec (zq3t c_ref26_ValidFate))], false, false, false, false⟩
def zq5x {β : Type} (l : List zq0) (k_ : Int) (k : (zq0 → Option β)) : Option β :=
  cond (decide (k_ < (0 : Int)))
  (k (true, ((0 : Int), ((0 : Int), (0 : Int)))))
  (cond (decide ((List.length l : Int) ≤ k_))
  (k (true, ((0 : Int), ((0 : Int), (0 : Int)))))
  (cond (decide (0 ≤ k_) && decide (k_ < (List.length l : Int)))
  (let e : zq0 := List.getD l (Int.toNat k_) (false, ((0 : Int), ((0 : Int), (0 : Int))));
  c_ref26_ValidFate e (fun (rValidFate : Bool) =>
  cond (!rValidFate)
  (k (true, ((0 : Int), ((0 : Int), (0 : Int)))))
  (cond (decide (0 ≤ k_) && decide (k_ < (List.length l : Int)))
  (let e2 : zq0 := List.getD l (Int.toNat k_) (false, ((0 : Int), ((0 : Int), (0 : Int))));
  k e2)
  none)))
  none))
theorem zq5y (hΓ : ΓOk Try.prog (ref26_Fates_X c_ref26_ValidFate).Γ) : SpecOk Try.prog 50 (zq5w (zq5x c_ref26_ValidFate)) :=
  spec_exec (X := (ref26_Fates_X c_ref26_ValidFate)) (Λ := pick1 []) (rs := [.cell 4 75]) (c := bodyOf Try.f50) mixed tab_ok hΓ Try.func50 (by kernel_rfl) (by kernel_rfl) (by kernel_rfl) (by kernel_rfl) CutsOk_nil (fun x k r h => Eq.trans (b := (zq5w (zq5x c_ref26_ValidFate)).run x k) (by kernel_rfl) h)
end
theorem zq5zΓ : ΓOk Try.prog (pick1 [(71, .spec (zq3t zq3x))]) := (ΓOk_cons zq3y ΓOk_nil)
def zq60 : zq5v := zq5x zq3x
theorem zq61 : SpecOk Try.prog 50 (zq5w zq60) := zq5y zq3x zq5zΓ

/-- pagewatch/pagewatchref26.Arrivals -/
abbrev zq62 := {β : Type} → Int → zq0 → ((List Int) → Option β) → Option β
def zq63 (c : zq62) : Spec :=
  ⟨[(false, [.data (.int .i64)]), (true, [.data zq1])], [], [(false, [.rowh 0])], [.row 3 (.int .i64)], fun x k => c x.1.1.1 x.1.2.1.1 (fun r0 => k (((), ()), (r0, ())))⟩
section
variable (c_ref25_In : zq2t) (c_ref26_ValidFate : zq3s)
@[reducible] def ref26_Arrivals_X : Ctx := ⟨look tab, pick1 [(56, .spec (zq2u c_ref25_In)), (71, .spec (zq3t c_ref26_ValidFate))], false, false, false, false⟩
def zq64 {β : Type} (at_ : Int) (f : zq0) (k : ((List Int) → Option β)) : Option β :=
  c_ref25_In at_ (0 : Int) (8589956192 : Int) (fun (rIn : Bool) =>
  cond (!rIn)
  (k ([] : List Int))
  (c_ref26_ValidFate f (fun (rValidFate : Bool) =>
  cond (!rValidFate)
  (k ([] : List Int))
  (cond f.1
  (k ([] : List Int))
  (let l : List Int := ([(IntKind.i64.wrap (at_ + f.2.1))] : List Int);
  cond (!decide (f.2.2.1 = (0 : Int)))
  (let l2 : List Int := ([(IntKind.i64.wrap ((IntKind.i64.wrap (at_ + f.2.1)) + f.2.2.1))] : List Int);
  cond (decide ((List.length l + List.length l2) * 8 ≤ roomMax))
  (let l3 : List Int := (l ++ l2);
  k l3)
  none)
  (k l))))))
theorem zq65 (hΓ : ΓOk Try.prog (ref26_Arrivals_X c_ref25_In c_ref26_ValidFate).Γ) : SpecOk Try.prog 51 (zq63 (zq64 c_ref25_In c_ref26_ValidFate)) :=
  spec_exec (X := (ref26_Arrivals_X c_ref25_In c_ref26_ValidFate)) (Λ := pick1 []) (rs := [.tmp 4]) (c := bodyOf Try.f51) mixed tab_ok hΓ Try.func51 (by kernel_rfl) (by kernel_rfl) (by kernel_rfl) (by kernel_rfl) CutsOk_nil (fun x k r h => Eq.trans (b := (zq63 (zq64 c_ref25_In c_ref26_ValidFate)).run x k) (by kernel_rfl) h)
end
theorem zq66Γ : ΓOk Try.prog (pick1 [(56, .spec (zq2u zq2y)), (71, .spec (zq3t zq3x))]) := (ΓOk_cons zq2z (ΓOk_cons zq3y ΓOk_nil))
def zq67 : zq62 := zq64 zq2y zq3x
theorem zq68 : SpecOk Try.prog 51 (zq63 zq67) := zq65 zq2y zq3x zq66Γ

/-- pagewatch/pagewatchref26.Receipts -/
abbrev zq69 := {β : Type} → Int → zq0 → ((List Int) → Option β) → Option β
def zq6a (c : zq69) : Spec :=
  ⟨[(false, [.data (.int .i64)]), (true, [.data zq1])], [], [(false, [.rowh 0])], [.row 3 (.int .i64)], fun x k => c x.1.1.1 x.1.2.1.1 (fun r0 => k (((), ()), (r0, ())))⟩
noncomputable def ref26_Receipts_p1_code : Code := codeAt 122 (bodyOf Try.f52)
abbrev zq6b (β : Type) := (List Int) → Option β
abbrev zq6c := {β : Type} → zq6b β → Int → Bool → Int → Int → Int → (List Int) → (List Int) → Option β
def zq6d : View := ⟨0, [3, 5, 6, 7], [(false, [.ptr 0 0]), (false, [.rowh 1]), (false, [.rowh 2]), (false, [.data (.int .i64)])], [.cells 75 [.data .bool, .data (.int .i64), .data (.int .i64), .data (.int .i64)], .row 3 (.int .i64), .row 3 (.int .i64)]⟩
def zq6e : List (AExit × View) := [(.exit 0, ⟨0, [5], [(false, [.rowh 0])], [.row 3 (.int .i64)]⟩)]
@[reducible] def ref26_Receipts_p1_G (p : zq6c) {β : Type} (d : zq6d.den) (ks : Outs.K β zq6e) : Option β :=
  p (fun a0 => ks.1 (((), ()), (a0, ()))) d.1.2.2.2.1.1 d.2.1.1 d.2.1.2.1 d.2.1.2.2.1 d.2.1.2.2.2.1 d.2.2.1 d.2.2.2.1
section
variable (c_ref26_Arrivals : zq62)
@[reducible] def ref26_Receipts_X : Ctx := ⟨look tab, pick1 [(51, .spec (zq63 c_ref26_Arrivals))], false, false, false, false⟩
def zq6f {β : Type} (rec : Int → Bool → Int → Int → Int → (List Int) → (List Int) → Option β) (k1 : zq6b β) (i_ : Int) (f : Bool) (f2 : Int) (f3 : Int) (f4 : Int) (out : List Int) (l : List Int) : Option β :=
  cond (decide (i_ < (List.length l : Int)))
  (cond (decide ((0 : Int) ≤ f4))
  (cond (decide (0 ≤ i_) && decide (i_ < (List.length l : Int)))
  (let l2 : List Int := ([(IntKind.i64.wrap ((List.getD l (Int.toNat i_) (0 : Int)) + f4))] : List Int);
  cond (decide ((List.length out + List.length l2) * 8 ≤ roomMax))
  (let l3 : List Int := (out ++ l2);
  let i_2 : Int := (IntKind.i64.wrap (i_ + (1 : Int)));
  rec i_2 f f2 f3 f4 l3 l)
  none)
  none)
  (k1 out))
  (k1 out)
def zq6g {β : Type} : Nat → zq6b β → Int → Bool → Int → Int → Int → (List Int) → (List Int) → Option β
  | 0 => fun _ _ _ _ _ _ _ _ => none
  | i + 1 => fun k1 i_ f f2 f3 f4 out l => zq6f (zq6g i k1) k1 i_ f f2 f3 f4 out l
theorem zq6h (hΓ : ΓOk Try.prog (ref26_Receipts_X c_ref26_Arrivals).Γ) (i : Nat) : PieceOk Try.prog 33 0 ref26_Receipts_p1_code zq6d zq6e (ref26_Receipts_p1_G (zq6g i)) := by
  rw [show ref26_Receipts_p1_code = .loop (loopBody ref26_Receipts_p1_code) by kernel_rfl]
  exact piece_loop (X := (ref26_Receipts_X c_ref26_Arrivals)) (p := 1) (Λ := pick1 []) (G := fun i => @fun β d ks => ref26_Receipts_p1_G (zq6g i) d ks) mixed tab_ok hΓ rfl (by kernel_rfl) CutsOk_nil (fun _ _ => rfl) (fun i => @fun β d ks r h => Eq.trans (b := ref26_Receipts_p1_G (zq6g (i + 1)) d ks) (by kernel_rfl) h) i
def zq6i (p1 : zq6c) {β : Type} (at_ : Int) (f : zq0) (k : ((List Int) → Option β)) : Option β :=
  c_ref26_Arrivals at_ f (fun (lrArrivals : List Int) =>
  p1 (fun (out : List Int) =>
  k out) (0 : Int) f.1 f.2.1 f.2.2.1 f.2.2.2 ([] : List Int) lrArrivals)
theorem zq6j (hΓ : ΓOk Try.prog (ref26_Receipts_X c_ref26_Arrivals).Γ) (p1 : zq6c) (hp1 : PieceOk Try.prog 33 0 ref26_Receipts_p1_code zq6d zq6e (ref26_Receipts_p1_G p1)) : SpecOk Try.prog 52 (zq6a (zq6i c_ref26_Arrivals p1)) :=
  spec_exec (X := (ref26_Receipts_X c_ref26_Arrivals)) (Λ := pick1 [(122, pieceCut zq6d zq6e (ref26_Receipts_p1_G p1))]) (rs := [.tmp 4]) (c := bodyOf Try.f52) mixed tab_ok hΓ Try.func52 (by kernel_rfl) (by kernel_rfl) (by kernel_rfl) (by kernel_rfl) (CutsOk_cons (q := 122) (c' := ref26_Receipts_p1_code) (by kernel_rfl) rfl hp1 CutsOk_nil) (fun x k r h => Eq.trans (b := (zq6a (zq6i c_ref26_Arrivals p1)).run x k) (by kernel_rfl) h)
end
theorem zq6kΓ : ΓOk Try.prog (pick1 [(51, .spec (zq63 zq67))]) := (ΓOk_cons zq68 ΓOk_nil)
def zq6l (m : Nat) : zq6c := zq6g m
theorem zq6m {β : Type} (i : Nat) (k1 i_ f f2 f3 f4 out l) : (zq6l (i + 1) k1 i_ f f2 f3 f4 out l : Option β) = zq6f (zq6l i k1) k1 i_ f f2 f3 f4 out l := rfl
def zq6n : zq6c := zq6l fuel
theorem zq6o : PieceOk Try.prog 33 0 ref26_Receipts_p1_code zq6d zq6e (ref26_Receipts_p1_G zq6n) := zq6h zq67 zq6kΓ fuel
def zq6p : zq69 := zq6i zq67 zq6n
theorem zq6q : SpecOk Try.prog 52 (zq6a zq6p) := zq6j zq67 zq6kΓ zq6n zq6o

/-- pagewatch/pagewatchref26.Valid -/
abbrev zq6r := {β : Type} → (Int × (Int × (Int × Int))) → (Bool → Option β) → Option β
def zq6s (c : zq6r) : Spec :=
  ⟨[(true, [.data (.prod (.int .i64) (.prod (.int .i64) (.prod (.int .i64) (.int .i64))))])], [], [(false, [.data .bool])], [], fun x k => c x.1.1.1 (fun r0 => k (((r0, ()), ()), ()))⟩
section
variable (c_ref25_In : zq2t)
@[reducible] def ref26_Valid_X : Ctx := ⟨look tab, pick1 [(56, .spec (zq2u c_ref25_In))], false, false, false, false⟩
def zq6t {β : Type} (ch : (Int × (Int × (Int × Int)))) (k : (Bool → Option β)) : Option β :=
  c_ref25_In ch.1 (0 : Int) (2 : Int) (fun (rIn : Bool) =>
  cond rIn
  (c_ref25_In ch.2.1 (0 : Int) (3600 : Int) (fun (rIn2 : Bool) =>
  cond rIn2
  (c_ref25_In ch.2.2.1 (1 : Int) (6 : Int) (fun (rIn3 : Bool) =>
  cond rIn3
  (c_ref25_In ch.2.2.2 (1 : Int) (3600 : Int) (fun (rIn4 : Bool) =>
  k rIn4))
  (k false)))
  (k false)))
  (k false))
theorem zq6u (hΓ : ΓOk Try.prog (ref26_Valid_X c_ref25_In).Γ) : SpecOk Try.prog 54 (zq6s (zq6t c_ref25_In)) :=
  spec_exec (X := (ref26_Valid_X c_ref25_In)) (Λ := pick1 []) (rs := [.tmp 2]) (c := bodyOf Try.f54) mixed tab_ok hΓ Try.func54 (by kernel_rfl) (by kernel_rfl) (by kernel_rfl) (by kernel_rfl) CutsOk_nil (fun x k r h => Eq.trans (b := (zq6s (zq6t c_ref25_In)).run x k) (by kernel_rfl) h)
end
theorem zq6vΓ : ΓOk Try.prog (pick1 [(56, .spec (zq2u zq2y))]) := (ΓOk_cons zq2z ΓOk_nil)
def zq6w : zq6r := zq6t zq2y
theorem zq6x : SpecOk Try.prog 54 (zq6s zq6w) := zq6u zq2y zq6vΓ

/-- pagewatch/channel.Valid -/
abbrev zq6y := {β : Type} → (Int × (Int × (Int × Int))) → (Bool → Option β) → Option β
def zq6z (c : zq6y) : Spec :=
  ⟨[(true, [.data (.prod (.int .i64) (.prod (.int .i64) (.prod (.int .i64) (.int .i64))))])], [], [(false, [.data .bool])], [], fun x k => c x.1.1.1 (fun r0 => k (((r0, ()), ()), ()))⟩
section
variable (c_channel_in : zq3e)
@[reducible] def channel_Valid_X : Ctx := ⟨look tab, pick1 [(68, .spec (zq3f c_channel_in))], false, false, false, false⟩
def zq70 {β : Type} (ch : (Int × (Int × (Int × Int)))) (k : (Bool → Option β)) : Option β :=
  c_channel_in ch.1 (0 : Int) (2 : Int) (fun (rin : Bool) =>
  cond rin
  (c_channel_in ch.2.1 (0 : Int) (3600 : Int) (fun (rin2 : Bool) =>
  cond rin2
  (c_channel_in ch.2.2.1 (1 : Int) (6 : Int) (fun (rin3 : Bool) =>
  cond rin3
  (c_channel_in ch.2.2.2 (1 : Int) (3600 : Int) (fun (rin4 : Bool) =>
  k rin4))
  (k false)))
  (k false)))
  (k false))
theorem zq71 (hΓ : ΓOk Try.prog (channel_Valid_X c_channel_in).Γ) : SpecOk Try.prog 63 (zq6z (zq70 c_channel_in)) :=
  spec_exec (X := (channel_Valid_X c_channel_in)) (Λ := pick1 []) (rs := [.tmp 2]) (c := bodyOf Try.f63) mixed tab_ok hΓ Try.func63 (by kernel_rfl) (by kernel_rfl) (by kernel_rfl) (by kernel_rfl) CutsOk_nil (fun x k r h => Eq.trans (b := (zq6z (zq70 c_channel_in)).run x k) (by kernel_rfl) h)
end
theorem zq72Γ : ΓOk Try.prog (pick1 [(68, .spec (zq3f zq3j))]) := (ΓOk_cons zq3k ΓOk_nil)
def zq73 : zq6y := zq70 zq3j
theorem zq74 : SpecOk Try.prog 63 (zq6z zq73) := zq71 zq3j zq72Γ

/-- pagewatch/pagewatchref27.Valid -/
abbrev zq75 := {β : Type} → (Int × List (Int × (Int × (Int × Int)))) → (Bool → Option β) → Option β
def zq76 (c : zq75) : Spec :=
  ⟨[(true, [.data (.prod (.int .i64) (.slice (.prod (.int .i64) (.prod (.int .i64) (.prod (.int .i64) (.int .i64))))))])], [], [(false, [.data .bool])], [], fun x k => c x.1.1.1 (fun r0 => k (((r0, ()), ()), ()))⟩
noncomputable def ref27_Valid_p1_code : Code := codeAt 58 (bodyOf Try.f32)
abbrev zq77 (β : Type) := Bool → Option β
abbrev zq78 (β : Type) := Unit → Option β
abbrev zq79 := {β : Type} → zq77 β → zq78 β → Int → Int → (List (Int × (Int × (Int × Int)))) → Option β
def zq7a : View := ⟨0, [1, 3], [(false, [.ptr 0 0]), (false, [.data (.int .i64)])], [.cells 29 [.data (.int .i64), .data (.slice (.prod (.int .i64) (.prod (.int .i64) (.prod (.int .i64) (.int .i64)))))]]⟩
def zq7b : List (AExit × View) := [(.ret, ⟨0, [2], [(false, [.data .bool])], []⟩), (.exit 0, ⟨0, [], [], []⟩)]
@[reducible] def ref27_Valid_p1_G (p : zq79) {β : Type} (d : zq7a.den) (ks : Outs.K β zq7b) : Option β :=
  p (fun a0 => ks.1 (((a0, ()), ()), ())) (fun _ => ks.2.1 ((), ())) d.1.2.1.1 d.2.1.1 d.2.1.2.1
section
variable (c_ref25_In : zq2t) (c_ref26_Valid : zq6r)
@[reducible] def ref27_Valid_X : Ctx := ⟨look tab, pick1 [(56, .spec (zq2u c_ref25_In)), (54, .spec (zq6s c_ref26_Valid))], false, false, false, false⟩
def zq7c {β : Type} (rec : Int → Int → (List (Int × (Int × (Int × Int)))) → Option β) (k1 : zq77 β) (k2 : zq78 β) (i_ : Int) (p_ : Int) (p_2 : List (Int × (Int × (Int × Int)))) : Option β :=
  cond (decide (i_ < (List.length p_2 : Int)))
  (cond (decide (0 ≤ i_) && decide (i_ < (List.length p_2 : Int)))
  (let e : (Int × (Int × (Int × Int))) := List.getD p_2 (Int.toNat i_) ((0 : Int), ((0 : Int), ((0 : Int), (0 : Int))));
  c_ref26_Valid e (fun (rValid : Bool) =>
  cond (!rValid)
  (k1 false)
  (let i_2 : Int := (IntKind.i64.wrap (i_ + (1 : Int)));
  rec i_2 p_ p_2)))
  none)
  (k2 ())
def zq7d {β : Type} : Nat → zq77 β → zq78 β → Int → Int → (List (Int × (Int × (Int × Int)))) → Option β
  | 0 => fun _ _ _ _ _ => none
  | i + 1 => fun k1 k2 i_ p_ p_2 => zq7c c_ref26_Valid (zq7d i k1 k2) k1 k2 i_ p_ p_2
theorem zq7e (hΓ : ΓOk Try.prog (ref27_Valid_X c_ref25_In c_ref26_Valid).Γ) (i : Nat) : PieceOk Try.prog 28 0 ref27_Valid_p1_code zq7a zq7b (ref27_Valid_p1_G (zq7d c_ref26_Valid i)) := by
  rw [show ref27_Valid_p1_code = .loop (loopBody ref27_Valid_p1_code) by kernel_rfl]
  exact piece_loop (X := (ref27_Valid_X c_ref25_In c_ref26_Valid)) (p := 1) (Λ := pick1 []) (G := fun i => @fun β d ks => ref27_Valid_p1_G (zq7d c_ref26_Valid i) d ks) mixed tab_ok hΓ rfl (by kernel_rfl) CutsOk_nil (fun _ _ => rfl) (fun i => @fun β d ks r h => Eq.trans (b := ref27_Valid_p1_G (zq7d c_ref26_Valid (i + 1)) d ks) (by kernel_rfl) h) i
def zq7f (p1 : zq79) {β : Type} (p_ : (Int × List (Int × (Int × (Int × Int))))) (k : (Bool → Option β)) : Option β :=
  c_ref25_In p_.1 (0 : Int) (31 : Int) (fun (rIn : Bool) =>
  cond (!rIn)
  (k false)
  (cond (decide ((4 : Int) < (List.length p_.2 : Int)))
  (k false)
  (p1 (fun (t2 : Bool) =>
  k t2) (fun (_ : Unit) =>
  k true) (0 : Int) p_.1 p_.2)))
theorem zq7g (hΓ : ΓOk Try.prog (ref27_Valid_X c_ref25_In c_ref26_Valid).Γ) (p1 : zq79) (hp1 : PieceOk Try.prog 28 0 ref27_Valid_p1_code zq7a zq7b (ref27_Valid_p1_G p1)) : SpecOk Try.prog 32 (zq76 (zq7f c_ref25_In p1)) :=
  spec_exec (X := (ref27_Valid_X c_ref25_In c_ref26_Valid)) (Λ := pick1 [(58, pieceCut zq7a zq7b (ref27_Valid_p1_G p1))]) (rs := [.tmp 2]) (c := bodyOf Try.f32) mixed tab_ok hΓ Try.func32 (by kernel_rfl) (by kernel_rfl) (by kernel_rfl) (by kernel_rfl) (CutsOk_cons (q := 58) (c' := ref27_Valid_p1_code) (by kernel_rfl) rfl hp1 CutsOk_nil) (fun x k r h => Eq.trans (b := (zq76 (zq7f c_ref25_In p1)).run x k) (by kernel_rfl) h)
end
theorem zq7hΓ : ΓOk Try.prog (pick1 [(56, .spec (zq2u zq2y)), (54, .spec (zq6s zq6w))]) := (ΓOk_cons zq2z (ΓOk_cons zq6x ΓOk_nil))
def zq7i (m : Nat) : zq79 := zq7d zq6w m
theorem zq7j {β : Type} (i : Nat) (k1 k2 i_ p_ p_2) : (zq7i (i + 1) k1 k2 i_ p_ p_2 : Option β) = zq7c zq6w (zq7i i k1 k2) k1 k2 i_ p_ p_2 := rfl
def zq7k : zq79 := zq7i fuel
theorem zq7l : PieceOk Try.prog 28 0 ref27_Valid_p1_code zq7a zq7b (ref27_Valid_p1_G zq7k) := zq7e zq2y zq6w zq7hΓ fuel
def zq7m : zq75 := zq7f zq2y zq7k
theorem zq7n : SpecOk Try.prog 32 (zq76 zq7m) := zq7g zq2y zq6w zq7hΓ zq7k zq7l

/-- pagewatch/delivery.Valid$1 -/
abbrev zq7o := {β : Type} → (Int × (Int × (Int × Int))) → (Bool → Option β) → Option β
def zq7p (c : zq7o) : Spec :=
  ⟨[(true, [.data (.prod (.int .i64) (.prod (.int .i64) (.prod (.int .i64) (.int .i64))))])], [], [(false, [.data .bool])], [], fun x k => c x.1.1.1 (fun r0 => k (((r0, ()), ()), ()))⟩
section
variable (c_channel_Valid : zq6y)
@[reducible] def delivery_Valid_f1_X : Ctx := ⟨look tab, pick1 [(63, .spec (zq6z c_channel_Valid))], false, false, false, false⟩
def zq7q {β : Type} (ch : (Int × (Int × (Int × Int)))) (k : (Bool → Option β)) : Option β :=
  c_channel_Valid ch (fun (rValid : Bool) =>
  k (!rValid))
theorem zq7r (hΓ : ΓOk Try.prog (delivery_Valid_f1_X c_channel_Valid).Γ) : SpecOk Try.prog 62 (zq7p (zq7q c_channel_Valid)) :=
  spec_exec (X := (delivery_Valid_f1_X c_channel_Valid)) (Λ := pick1 []) (rs := [.tmp 2]) (c := bodyOf Try.f62) mixed tab_ok hΓ Try.func62 (by kernel_rfl) (by kernel_rfl) (by kernel_rfl) (by kernel_rfl) CutsOk_nil (fun x k r h => Eq.trans (b := (zq7p (zq7q c_channel_Valid)).run x k) (by kernel_rfl) h)
end
theorem zq7sΓ : ΓOk Try.prog (pick1 [(63, .spec (zq6z zq73))]) := (ΓOk_cons zq74 ΓOk_nil)
def zq7t : zq7o := zq7q zq73
theorem zq7u : SpecOk Try.prog 62 (zq7p zq7t) := zq7r zq73 zq7sΓ

/-- pagewatch/pagewatchref27.Plan -/
abbrev zq7v := {β : Type} → (Int × List (Int × (Int × (Int × Int)))) → Int → ((List (Int × (Int × Int))) → Option β) → Option β
def zq7w (c : zq7v) : Spec :=
  ⟨[(true, [.data (.prod (.int .i64) (.slice (.prod (.int .i64) (.prod (.int .i64) (.prod (.int .i64) (.int .i64))))))]), (false, [.data (.int .i64)])], [], [(false, [.rowh 0])], [.row 39 (.prod (.int .i64) (.prod (.int .i64) (.int .i64)))], fun x k => c x.1.1.1 x.1.2.1.1 (fun r0 => k (((), ()), (r0, ())))⟩
noncomputable def ref27_Plan_p3_code : Code := codeAt 122 (bodyOf Try.f21)
noncomputable def ref27_Plan_p2_code : Code := codeAt 50 (loopBody ref27_Plan_p3_code)
noncomputable def ref27_Plan_p1_code : Code := codeAt 204 (loopBody ref27_Plan_p2_code)
abbrev zq7x (β : Type) := Int → Int → Int → Int → Int → (List (Int × (Int × (Int × Int)))) → (List (Int × (Int × Int))) → Int → Int → Int → Option β
abbrev zq7y := {β : Type} → zq7x β → Int → Int → Int → Int → Int → (List (Int × (Int × (Int × Int)))) → (List (Int × (Int × Int))) → Int → Int → Int → Option β
def zq7z : View := ⟨0, [1, 2, 5, 6, 7, 8, 9], [(false, [.data (.int .i64)]), (false, [.ptr 0 0]), (false, [.rowh 1]), (false, [.data (.int .i64)]), (false, [.data (.int .i64)]), (false, [.ptr 2 0]), (false, [.data (.int .i64)])], [.cells 29 [.data (.int .i64), .data (.slice (.prod (.int .i64) (.prod (.int .i64) (.prod (.int .i64) (.int .i64)))))], .row 39 (.prod (.int .i64) (.prod (.int .i64) (.int .i64))), .cells 39 [.data (.int .i64), .data (.int .i64), .data (.int .i64)]]⟩
def zq80 : List (AExit × View) := [(.exit 4, ⟨0, [1, 2, 5, 6, 7, 8, 9], [(false, [.data (.int .i64)]), (false, [.ptr 0 0]), (false, [.rowh 1]), (false, [.data (.int .i64)]), (false, [.data (.int .i64)]), (false, [.ptr 2 0]), (false, [.data (.int .i64)])], [.cells 29 [.data (.int .i64), .data (.slice (.prod (.int .i64) (.prod (.int .i64) (.prod (.int .i64) (.int .i64)))))], .row 39 (.prod (.int .i64) (.prod (.int .i64) (.int .i64))), .cells 39 [.data (.int .i64), .data (.int .i64), .data (.int .i64)]]⟩)]
@[reducible] def ref27_Plan_p1_G (p : zq7y) {β : Type} (d : zq7z.den) (ks : Outs.K β zq80) : Option β :=
  p (fun a0 a1 a2 a3 a4 a5 a6 a7 a8 a9 => ks.1 (((a0, ()), (), (), (a1, ()), (a2, ()), (), (a3, ()), ()), ((a4, a5, ()), a6, (a7, a8, a9, ()), ()))) d.1.1.1 d.1.2.2.2.1.1 d.1.2.2.2.2.1.1 d.1.2.2.2.2.2.2.1.1 d.2.1.1 d.2.1.2.1 d.2.2.1 d.2.2.2.1.1 d.2.2.2.1.2.1 d.2.2.2.1.2.2.1
abbrev zq81 (β : Type) := Int → Int → Int → (List (Int × (Int × (Int × Int)))) → (List (Int × (Int × Int))) → Option β
abbrev zq82 := {β : Type} → zq81 β → Int → Int → Int → Int → (List (Int × (Int × (Int × Int)))) → (List (Int × (Int × Int))) → Option β
def zq83 : View := ⟨0, [1, 2, 5, 6, 7], [(false, [.data (.int .i64)]), (false, [.ptr 0 0]), (false, [.rowh 1]), (false, [.data (.int .i64)]), (false, [.data (.int .i64)])], [.cells 29 [.data (.int .i64), .data (.slice (.prod (.int .i64) (.prod (.int .i64) (.prod (.int .i64) (.int .i64)))))], .row 39 (.prod (.int .i64) (.prod (.int .i64) (.int .i64)))]⟩
def zq84 : List (AExit × View) := [(.exit 2, ⟨0, [1, 2, 5, 6], [(false, [.data (.int .i64)]), (false, [.ptr 0 0]), (false, [.rowh 1]), (false, [.data (.int .i64)])], [.cells 29 [.data (.int .i64), .data (.slice (.prod (.int .i64) (.prod (.int .i64) (.prod (.int .i64) (.int .i64)))))], .row 39 (.prod (.int .i64) (.prod (.int .i64) (.int .i64)))]⟩)]
@[reducible] def ref27_Plan_p2_G (p : zq82) {β : Type} (d : zq83.den) (ks : Outs.K β zq84) : Option β :=
  p (fun a0 a1 a2 a3 a4 => ks.1 (((a0, ()), (), (), (a1, ()), ()), ((a2, a3, ()), a4, ()))) d.1.1.1 d.1.2.2.2.1.1 d.1.2.2.2.2.1.1 d.2.1.1 d.2.1.2.1 d.2.2.1
abbrev zq85 (β : Type) := (List (Int × (Int × Int))) → Option β
abbrev zq86 := {β : Type} → zq85 β → Int → Int → Int → (List (Int × (Int × (Int × Int)))) → (List (Int × (Int × Int))) → Option β
def zq87 : View := ⟨0, [1, 2, 5, 6], [(false, [.data (.int .i64)]), (false, [.ptr 0 0]), (false, [.rowh 1]), (false, [.data (.int .i64)])], [.cells 29 [.data (.int .i64), .data (.slice (.prod (.int .i64) (.prod (.int .i64) (.prod (.int .i64) (.int .i64)))))], .row 39 (.prod (.int .i64) (.prod (.int .i64) (.int .i64)))]⟩
def zq88 : List (AExit × View) := [(.exit 0, ⟨0, [5], [(false, [.rowh 0])], [.row 39 (.prod (.int .i64) (.prod (.int .i64) (.int .i64)))]⟩)]
@[reducible] def ref27_Plan_p3_G (p : zq86) {β : Type} (d : zq87.den) (ks : Outs.K β zq88) : Option β :=
  p (fun a0 => ks.1 (((), ()), (a0, ()))) d.1.1.1 d.1.2.2.2.1.1 d.2.1.1 d.2.1.2.1 d.2.2.1
section
variable (c_ref25_In : zq2t) (c_ref27_Valid : zq75) (c_ref27_ahead : zq30)
@[reducible] def ref27_Plan_X : Ctx := ⟨look tab, pick1 [(56, .spec (zq2u c_ref25_In)), (32, .spec (zq76 c_ref27_Valid)), (57, .spec (zq31 c_ref27_ahead))], false, false, false, false⟩
def zq89 {β : Type} (rec : Int → Int → Int → Int → Int → (List (Int × (Int × (Int × Int)))) → (List (Int × (Int × Int))) → Int → Int → Int → Option β) (k1 : zq7x β) (start : Int) (c : Int) (i_ : Int) (k_ : Int) (p_ : Int) (p_2 : List (Int × (Int × (Int × Int)))) (out : List (Int × (Int × Int))) (x : Int) (x2 : Int) (x3 : Int) : Option β :=
  cond (decide ((0 : Int) < k_))
  (cond (decide (0 ≤ (IntKind.i64.wrap (k_ - (1 : Int)))) && decide ((IntKind.i64.wrap (k_ - (1 : Int))) < (List.length out : Int)))
  (c_ref27_ahead (x, (x2, x3)) ((List.getD out (Int.toNat (IntKind.i64.wrap (k_ - (1 : Int)))) ((0 : Int), ((0 : Int), (0 : Int)))).1, ((List.getD out (Int.toNat (IntKind.i64.wrap (k_ - (1 : Int)))) ((0 : Int), ((0 : Int), (0 : Int)))).2)) (fun (rahead : Bool) =>
  cond rahead
  (let k_2 : Int := (IntKind.i64.wrap (k_ - (1 : Int)));
  rec start c i_ k_2 p_ p_2 out x x2 x3)
  (k1 start c i_ k_ p_ p_2 out x x2 x3)))
  none)
  (k1 start c i_ k_ p_ p_2 out x x2 x3)
def zq8a {β : Type} : Nat → zq7x β → Int → Int → Int → Int → Int → (List (Int × (Int × (Int × Int)))) → (List (Int × (Int × Int))) → Int → Int → Int → Option β
  | 0 => fun _ _ _ _ _ _ _ _ _ _ _ => none
  | i + 1 => fun k1 start c i_ k_ p_ p_2 out x x2 x3 => zq89 c_ref27_ahead (zq8a i k1) k1 start c i_ k_ p_ p_2 out x x2 x3
theorem zq8b (hΓ : ΓOk Try.prog (ref27_Plan_X c_ref25_In c_ref27_Valid c_ref27_ahead).Γ) (i : Nat) : PieceOk Try.prog 80 0 ref27_Plan_p1_code zq7z zq80 (ref27_Plan_p1_G (zq8a c_ref27_ahead i)) := by
  rw [show ref27_Plan_p1_code = .loop (loopBody ref27_Plan_p1_code) by kernel_rfl]
  exact piece_loop (X := (ref27_Plan_X c_ref25_In c_ref27_Valid c_ref27_ahead)) (p := 1) (Λ := pick1 []) (G := fun i => @fun β d ks => ref27_Plan_p1_G (zq8a c_ref27_ahead i) d ks) mixed tab_ok hΓ rfl (by kernel_rfl) CutsOk_nil (fun _ _ => rfl) (fun i => @fun β d ks r h => Eq.trans (b := ref27_Plan_p1_G (zq8a c_ref27_ahead (i + 1)) d ks) (by kernel_rfl) h) i
def zq8c (p1 : zq7y) {β : Type} (rec : Int → Int → Int → Int → (List (Int × (Int × (Int × Int)))) → (List (Int × (Int × Int))) → Option β) (k1 : zq81 β) (start : Int) (c : Int) (i_ : Int) (p_ : Int) (p_2 : List (Int × (Int × (Int × Int)))) (out : List (Int × (Int × Int))) : Option β :=
  cond (decide (0 ≤ c) && decide (c < (List.length p_2 : Int)))
  (let e : (Int × (Int × (Int × Int))) := List.getD p_2 (Int.toNat c) ((0 : Int), ((0 : Int), ((0 : Int), (0 : Int))));
  cond (decide (i_ < e.2.2.1))
  (cond (decide (0 ≤ c) && decide (c < (List.length p_2 : Int)))
  (let e2 : (Int × (Int × (Int × Int))) := List.getD p_2 (Int.toNat c) ((0 : Int), ((0 : Int), ((0 : Int), (0 : Int))));
  p1 (fun (start2 : Int) (c2 : Int) (i_2 : Int) (k_ : Int) (p_3 : Int) (p_4 : List (Int × (Int × (Int × Int)))) (out2 : List (Int × (Int × Int))) (x : Int) (x2 : Int) (x3 : Int) =>
  let l : List (Int × (Int × Int)) := ([(x, (x2, x3))] : List (Int × (Int × Int)));
  cond (decide ((List.length out2 + List.length l) * 24 ≤ roomMax))
  (let l2 : List (Int × (Int × Int)) := (out2 ++ l);
  cond (decide (0 ≤ (IntKind.i64.wrap (k_ + (1 : Int)))) && (decide ((IntKind.i64.wrap (k_ + (1 : Int))) ≤ (List.length l2 : Int)) && decide ((List.length l2 : Int) ≤ (List.length l2 : Int))))
  (cond (decide (0 ≤ k_) && (decide (k_ ≤ (List.length l2 : Int)) && decide ((List.length l2 : Int) ≤ (List.length l2 : Int))))
  (let l3 : List (Int × (Int × Int)) := (List.take (Int.toNat (IntKind.i64.wrap (k_ + (1 : Int)))) l2 ++ (List.take ((List.length l2) - (Int.toNat (IntKind.i64.wrap (k_ + (1 : Int))))) (List.drop (Int.toNat k_) (List.take (List.length l2) l2)) ++ List.drop ((Int.toNat (IntKind.i64.wrap (k_ + (1 : Int)))) + (Nat.min (List.length (List.drop (Int.toNat k_) (List.take (List.length l2) l2))) ((List.length l2) - (Int.toNat (IntKind.i64.wrap (k_ + (1 : Int))))))) l2));
  cond (decide (0 ≤ k_) && decide (k_ < (List.length l3 : Int)))
  (let l4 : List (Int × (Int × Int)) := (List.set l3 (Int.toNat k_) (x, (x2, x3)));
  let i_3 : Int := (IntKind.i64.wrap (i_2 + (1 : Int)));
  rec start2 c2 i_3 p_3 p_4 l4)
  none)
  none)
  none)
  none) start c i_ (List.length out : Int) p_ p_2 out c i_ (IntKind.i64.wrap (start + (IntKind.i64.wrap (i_ * e2.2.2.2)))))
  none)
  (k1 start c p_ p_2 out))
  none
def zq8d (p1 : zq7y) {β : Type} : Nat → zq81 β → Int → Int → Int → Int → (List (Int × (Int × (Int × Int)))) → (List (Int × (Int × Int))) → Option β
  | 0 => fun _ _ _ _ _ _ _ => none
  | i + 1 => fun k1 start c i_ p_ p_2 out => zq8c p1 (zq8d p1 i k1) k1 start c i_ p_ p_2 out
theorem zq8e (hΓ : ΓOk Try.prog (ref27_Plan_X c_ref25_In c_ref27_Valid c_ref27_ahead).Γ) (p1 : zq7y) (hp1 : PieceOk Try.prog 80 0 ref27_Plan_p1_code zq7z zq80 (ref27_Plan_p1_G p1)) (i : Nat) : PieceOk Try.prog 80 0 ref27_Plan_p2_code zq83 zq84 (ref27_Plan_p2_G (zq8d p1 i)) := by
  rw [show ref27_Plan_p2_code = .loop (loopBody ref27_Plan_p2_code) by kernel_rfl]
  exact piece_loop (X := (ref27_Plan_X c_ref25_In c_ref27_Valid c_ref27_ahead)) (p := 1) (Λ := pick1 [(204, pieceCut zq7z zq80 (ref27_Plan_p1_G p1))]) (G := fun i => @fun β d ks => ref27_Plan_p2_G (zq8d p1 i) d ks) mixed tab_ok hΓ rfl (by kernel_rfl) (CutsOk_cons (q := 204) (c' := ref27_Plan_p1_code) (by kernel_rfl) rfl hp1 CutsOk_nil) (fun _ _ => rfl) (fun i => @fun β d ks r h => Eq.trans (b := ref27_Plan_p2_G (zq8d p1 (i + 1)) d ks) (by kernel_rfl) h) i
def zq8f (p2 : zq82) {β : Type} (rec : Int → Int → Int → (List (Int × (Int × (Int × Int)))) → (List (Int × (Int × Int))) → Option β) (k1 : zq85 β) (start : Int) (c : Int) (p_ : Int) (p_2 : List (Int × (Int × (Int × Int)))) (out : List (Int × (Int × Int))) : Option β :=
  cond (decide (c < (List.length p_2 : Int)))
  (p2 (fun (start2 : Int) (c2 : Int) (p_3 : Int) (p_4 : List (Int × (Int × (Int × Int)))) (out2 : List (Int × (Int × Int))) =>
  let c3 : Int := (IntKind.i64.wrap (c2 + (1 : Int)));
  rec start2 c3 p_3 p_4 out2) start c (0 : Int) p_ p_2 out)
  (k1 out)
def zq8g (p2 : zq82) {β : Type} : Nat → zq85 β → Int → Int → Int → (List (Int × (Int × (Int × Int)))) → (List (Int × (Int × Int))) → Option β
  | 0 => fun _ _ _ _ _ _ => none
  | i + 1 => fun k1 start c p_ p_2 out => zq8f p2 (zq8g p2 i k1) k1 start c p_ p_2 out
theorem zq8h (hΓ : ΓOk Try.prog (ref27_Plan_X c_ref25_In c_ref27_Valid c_ref27_ahead).Γ) (p2 : zq82) (hp2 : PieceOk Try.prog 80 0 ref27_Plan_p2_code zq83 zq84 (ref27_Plan_p2_G p2)) (i : Nat) : PieceOk Try.prog 80 0 ref27_Plan_p3_code zq87 zq88 (ref27_Plan_p3_G (zq8g p2 i)) := by
  rw [show ref27_Plan_p3_code = .loop (loopBody ref27_Plan_p3_code) by kernel_rfl]
  exact piece_loop (X := (ref27_Plan_X c_ref25_In c_ref27_Valid c_ref27_ahead)) (p := 1) (Λ := pick1 [(50, pieceCut zq83 zq84 (ref27_Plan_p2_G p2))]) (G := fun i => @fun β d ks => ref27_Plan_p3_G (zq8g p2 i) d ks) mixed tab_ok hΓ rfl (by kernel_rfl) (CutsOk_cons (q := 50) (c' := ref27_Plan_p2_code) (by kernel_rfl) rfl hp2 CutsOk_nil) (fun _ _ => rfl) (fun i => @fun β d ks r h => Eq.trans (b := ref27_Plan_p3_G (zq8g p2 (i + 1)) d ks) (by kernel_rfl) h) i
def zq8i (p3 : zq86) {β : Type} (p_ : (Int × List (Int × (Int × (Int × Int))))) (start : Int) (k : ((List (Int × (Int × Int))) → Option β)) : Option β :=
  c_ref27_Valid p_ (fun (rValid : Bool) =>
  cond (!rValid)
  (k ([] : List (Int × (Int × Int))))
  (c_ref25_In start (0 : Int) (8589934592 : Int) (fun (rIn : Bool) =>
  cond (!rIn)
  (k ([] : List (Int × (Int × Int))))
  (p3 (fun (out : List (Int × (Int × Int))) =>
  k out) start (0 : Int) p_.1 p_.2 ([] : List (Int × (Int × Int)))))))
theorem zq8j (hΓ : ΓOk Try.prog (ref27_Plan_X c_ref25_In c_ref27_Valid c_ref27_ahead).Γ) (p3 : zq86) (hp3 : PieceOk Try.prog 80 0 ref27_Plan_p3_code zq87 zq88 (ref27_Plan_p3_G p3)) : SpecOk Try.prog 21 (zq7w (zq8i c_ref25_In c_ref27_Valid p3)) :=
  spec_exec (X := (ref27_Plan_X c_ref25_In c_ref27_Valid c_ref27_ahead)) (Λ := pick1 [(122, pieceCut zq87 zq88 (ref27_Plan_p3_G p3))]) (rs := [.tmp 4]) (c := bodyOf Try.f21) mixed tab_ok hΓ Try.func21 (by kernel_rfl) (by kernel_rfl) (by kernel_rfl) (by kernel_rfl) (CutsOk_cons (q := 122) (c' := ref27_Plan_p3_code) (by kernel_rfl) rfl hp3 CutsOk_nil) (fun x k r h => Eq.trans (b := (zq7w (zq8i c_ref25_In c_ref27_Valid p3)).run x k) (by kernel_rfl) h)
end
theorem zq8kΓ : ΓOk Try.prog (pick1 [(56, .spec (zq2u zq2y)), (32, .spec (zq76 zq7m)), (57, .spec (zq31 zq35))]) := (ΓOk_cons zq2z (ΓOk_cons zq7n (ΓOk_cons zq36 ΓOk_nil)))
def zq8l (m : Nat) : zq7y := zq8a zq35 m
theorem zq8m {β : Type} (i : Nat) (k1 start c i_ k_ p_ p_2 out x x2 x3) : (zq8l (i + 1) k1 start c i_ k_ p_ p_2 out x x2 x3 : Option β) = zq89 zq35 (zq8l i k1) k1 start c i_ k_ p_ p_2 out x x2 x3 := rfl
def zq8n : zq7y := zq8l fuel
theorem zq8o : PieceOk Try.prog 80 0 ref27_Plan_p1_code zq7z zq80 (ref27_Plan_p1_G zq8n) := zq8b zq2y zq7m zq35 zq8kΓ fuel
def zq8p (m : Nat) : zq82 := zq8d zq8n m
theorem zq8q {β : Type} (i : Nat) (k1 start c i_ p_ p_2 out) : (zq8p (i + 1) k1 start c i_ p_ p_2 out : Option β) = zq8c zq8n (zq8p i k1) k1 start c i_ p_ p_2 out := rfl
def zq8r : zq82 := zq8p fuel
theorem zq8s : PieceOk Try.prog 80 0 ref27_Plan_p2_code zq83 zq84 (ref27_Plan_p2_G zq8r) := zq8e zq2y zq7m zq35 zq8kΓ zq8n zq8o fuel
def zq8t (m : Nat) : zq86 := zq8g zq8r m
theorem zq8u {β : Type} (i : Nat) (k1 start c p_ p_2 out) : (zq8t (i + 1) k1 start c p_ p_2 out : Option β) = zq8f zq8r (zq8t i k1) k1 start c p_ p_2 out := rfl
def zq8v : zq86 := zq8t fuel
theorem zq8w : PieceOk Try.prog 80 0 ref27_Plan_p3_code zq87 zq88 (ref27_Plan_p3_G zq8v) := zq8h zq2y zq7m zq35 zq8kΓ zq8r zq8s fuel
def zq8x : zq7v := zq8i zq2y zq7m zq8v
theorem zq8y : SpecOk Try.prog 21 (zq7w zq8x) := zq8j zq2y zq7m zq35 zq8kΓ zq8v zq8w

/-- slices.IndexFunc[[]pagewatch/api.Channel,pagewatch/api.Channel] -/
abbrev zq8z := {β : Type} → (List (Int × (Int × (Int × Int)))) → (Int → Option β) → Option β
def zq90 (c : zq8z) : Spec :=
  ⟨[(false, [.data (.slice (.prod (.int .i64) (.prod (.int .i64) (.prod (.int .i64) (.int .i64)))))]), (false, [.fn 62 []])], [], [(false, [.data (.int .i64)])], [], fun x k => c x.1.1.1 (fun r0 => k (((r0, ()), ()), ()))⟩
noncomputable def slices_IndexFunc_api_Channel_api_Channel_vdelivery_Valid_f1_p1_code : Code := codeAt 26 (bodyOf Try.f72)
abbrev zq91 (β : Type) := Int → Option β
abbrev zq92 (β : Type) := Unit → Option β
abbrev zq93 := {β : Type} → zq91 β → zq92 β → (List (Int × (Int × (Int × Int)))) → Int → Int → Option β
def zq94 : View := ⟨0, [0, 1, 7, 8], [(false, [.data (.slice (.prod (.int .i64) (.prod (.int .i64) (.prod (.int .i64) (.int .i64)))))]), (false, [.fn 62 []]), (false, [.data (.int .i64)]), (false, [.data (.int .i64)])], []⟩
def zq95 : List (AExit × View) := [(.ret, ⟨0, [4], [(false, [.data (.int .i64)])], []⟩), (.exit 0, ⟨0, [], [], []⟩)]
@[reducible] def slices_IndexFunc_api_Channel_api_Channel_vdelivery_Valid_f1_p1_G (p : zq93) {β : Type} (d : zq94.den) (ks : Outs.K β zq95) : Option β :=
  p (fun a0 => ks.1 (((a0, ()), ()), ())) (fun _ => ks.2.1 ((), ())) d.1.1.1 d.1.2.2.1.1 d.1.2.2.2.1.1
section
variable (c_delivery_Valid_f1 : zq7o)
@[reducible] def slices_IndexFunc_api_Channel_api_Channel_vdelivery_Valid_f1_X : Ctx := ⟨look tab, pick1 [(62, .spec (zq7p c_delivery_Valid_f1))], false, false, false, false⟩
def zq96 {β : Type} (rec : (List (Int × (Int × (Int × Int)))) → Int → Int → Option β) (k1 : zq91 β) (k2 : zq92 β) (s : List (Int × (Int × (Int × Int)))) (t7 : Int) (t8 : Int) : Option β :=
  cond (decide (t8 < t7))
  (cond (decide (0 ≤ t8) && decide (t8 < (List.length s : Int)))
  (let e : (Int × (Int × (Int × Int))) := List.getD s (Int.toNat t8) ((0 : Int), ((0 : Int), ((0 : Int), (0 : Int))));
  c_delivery_Valid_f1 e (fun (rValid1 : Bool) =>
  cond rValid1
  (k1 t8)
  (rec s t7 (IntKind.i64.wrap (t8 + (1 : Int))))))
  none)
  (k2 ())
def zq97 {β : Type} : Nat → zq91 β → zq92 β → (List (Int × (Int × (Int × Int)))) → Int → Int → Option β
  | 0 => fun _ _ _ _ _ => none
  | i + 1 => fun k1 k2 s t7 t8 => zq96 c_delivery_Valid_f1 (zq97 i k1 k2) k1 k2 s t7 t8
theorem zq98 (hΓ : ΓOk Try.prog (slices_IndexFunc_api_Channel_api_Channel_vdelivery_Valid_f1_X c_delivery_Valid_f1).Γ) (i : Nat) : PieceOk Try.prog 19 0 slices_IndexFunc_api_Channel_api_Channel_vdelivery_Valid_f1_p1_code zq94 zq95 (slices_IndexFunc_api_Channel_api_Channel_vdelivery_Valid_f1_p1_G (zq97 c_delivery_Valid_f1 i)) := by
  rw [show slices_IndexFunc_api_Channel_api_Channel_vdelivery_Valid_f1_p1_code = .loop (loopBody slices_IndexFunc_api_Channel_api_Channel_vdelivery_Valid_f1_p1_code) by kernel_rfl]
  exact piece_loop (X := (slices_IndexFunc_api_Channel_api_Channel_vdelivery_Valid_f1_X c_delivery_Valid_f1)) (p := 1) (Λ := pick1 []) (G := fun i => @fun β d ks => slices_IndexFunc_api_Channel_api_Channel_vdelivery_Valid_f1_p1_G (zq97 c_delivery_Valid_f1 i) d ks) mixed tab_ok hΓ rfl (by kernel_rfl) CutsOk_nil (fun _ _ => rfl) (fun i => @fun β d ks r h => Eq.trans (b := slices_IndexFunc_api_Channel_api_Channel_vdelivery_Valid_f1_p1_G (zq97 c_delivery_Valid_f1 (i + 1)) d ks) (by kernel_rfl) h) i
def zq99 (p1 : zq93) {β : Type} (s : List (Int × (Int × (Int × Int)))) (k : (Int → Option β)) : Option β :=
  p1 (fun (t4 : Int) =>
  k t4) (fun (_ : Unit) =>
  k (-1 : Int)) s (List.length s : Int) (0 : Int)
theorem zq9a (hΓ : ΓOk Try.prog (slices_IndexFunc_api_Channel_api_Channel_vdelivery_Valid_f1_X c_delivery_Valid_f1).Γ) (p1 : zq93) (hp1 : PieceOk Try.prog 19 0 slices_IndexFunc_api_Channel_api_Channel_vdelivery_Valid_f1_p1_code zq94 zq95 (slices_IndexFunc_api_Channel_api_Channel_vdelivery_Valid_f1_p1_G p1)) : SpecOk Try.prog 72 (zq90 (zq99 p1)) :=
  spec_exec (X := (slices_IndexFunc_api_Channel_api_Channel_vdelivery_Valid_f1_X c_delivery_Valid_f1)) (Λ := pick1 [(26, pieceCut zq94 zq95 (slices_IndexFunc_api_Channel_api_Channel_vdelivery_Valid_f1_p1_G p1))]) (rs := [.tmp 4]) (c := bodyOf Try.f72) mixed tab_ok hΓ Try.func72 (by kernel_rfl) (by kernel_rfl) (by kernel_rfl) (by kernel_rfl) (CutsOk_cons (q := 26) (c' := slices_IndexFunc_api_Channel_api_Channel_vdelivery_Valid_f1_p1_code) (by kernel_rfl) rfl hp1 CutsOk_nil) (fun x k r h => Eq.trans (b := (zq90 (zq99 p1)).run x k) (by kernel_rfl) h)
end
theorem zq9bΓ : ΓOk Try.prog (pick1 [(62, .spec (zq7p zq7t))]) := (ΓOk_cons zq7u ΓOk_nil)
def zq9c (m : Nat) : zq93 := zq97 zq7t m
theorem zq9d {β : Type} (i : Nat) (k1 k2 s t7 t8) : (zq9c (i + 1) k1 k2 s t7 t8 : Option β) = zq96 zq7t (zq9c i k1 k2) k1 k2 s t7 t8 := rfl
def zq9e : zq93 := zq9c fuel
theorem zq9f : PieceOk Try.prog 19 0 slices_IndexFunc_api_Channel_api_Channel_vdelivery_Valid_f1_p1_code zq94 zq95 (slices_IndexFunc_api_Channel_api_Channel_vdelivery_Valid_f1_p1_G zq9e) := zq98 zq7t zq9bΓ fuel
def zq9g : zq8z := zq99 zq9e
theorem zq9h : SpecOk Try.prog 72 (zq90 zq9g) := zq9a zq7t zq9bΓ zq9e zq9f

/-- pagewatch/pagewatchref27.Run -/
abbrev zq9i := {β : Type} → (Int × List (Int × (Int × (Int × Int)))) → Int → (List (List zq0)) → (Int → (List Int) → (List Int) → Option β) → Option β
def zq9j (c : zq9i) : Spec :=
  ⟨[(true, [.data (.prod (.int .i64) (.slice (.prod (.int .i64) (.prod (.int .i64) (.prod (.int .i64) (.int .i64))))))]), (false, [.data (.int .i64)]), (false, [.data (.slice (.slice zq1))])], [], [(false, [.rowh 0]), (false, [.rowh 1]), (false, [.data (.int .i64)])], [.row 3 (.int .i64), .row 3 (.int .i64)], fun x k => c x.1.1.1 x.1.2.1.1 x.1.2.2.1.1 (fun r0 r1 r2 => k (((), (), (r0, ()), ()), (r1, r2, ())))⟩
noncomputable def ref27_Run_p5_code : Code := codeAt 58 (bodyOf Try.f17)
noncomputable def ref27_Run_p1_code : Code := codeAt 3322 (loopBody ref27_Run_p5_code)
noncomputable def ref27_Run_p2_code : Code := codeAt 6650 (loopBody ref27_Run_p5_code)
noncomputable def ref27_Run_p3_code : Code := codeAt 103 (loopBody ref27_Run_p5_code)
noncomputable def ref27_Run_p4_code : Code := codeAt 25 (loopBody ref27_Run_p5_code)
abbrev zq9k (β : Type) := (List (List zq0)) → Int → Int → (List Int) → (List Int) → (List (Int × (Int × Int))) → (List Int) → Option β
abbrev zq9l := {β : Type} → zq9k β → (List (List zq0)) → Int → Int → Int → (List Int) → (List Int) → (List (Int × (Int × Int))) → (List Int) → (List Int) → Option β
def zq9m : View := ⟨0, [2, 6, 7, 8, 9, 10, 13, 14, 15], [(false, [.data (.slice (.slice zq1))]), (false, [.rowh 0]), (false, [.rowh 1]), (false, [.data (.int .i64)]), (false, [.rowh 2]), (false, [.data (.int .i64)]), (false, [.rowh 3]), (false, [.rowh 4]), (false, [.data (.int .i64)])], [.row 3 (.int .i64), .row 3 (.int .i64), .row 39 (.prod (.int .i64) (.prod (.int .i64) (.int .i64))), .row 3 (.int .i64), .row 3 (.int .i64)]⟩
def zq9n : List (AExit × View) := [(.exit 2, ⟨0, [2, 6, 7, 8, 9, 10, 14], [(false, [.data (.slice (.slice zq1))]), (false, [.rowh 0]), (false, [.rowh 1]), (false, [.data (.int .i64)]), (false, [.rowh 2]), (false, [.data (.int .i64)]), (false, [.rowh 3])], [.row 3 (.int .i64), .row 3 (.int .i64), .row 39 (.prod (.int .i64) (.prod (.int .i64) (.int .i64))), .row 3 (.int .i64)]⟩)]
@[reducible] def ref27_Run_p1_G (p : zq9l) {β : Type} (d : zq9m.den) (ks : Outs.K β zq9n) : Option β :=
  p (fun a0 a1 a2 a3 a4 a5 a6 => ks.1 (((a0, ()), (), (), (a1, ()), (), (a2, ()), (), ()), (a3, a4, a5, a6, ()))) d.1.1.1 d.1.2.2.2.1.1 d.1.2.2.2.2.2.1.1 d.1.2.2.2.2.2.2.2.2.1.1 d.2.1 d.2.2.1 d.2.2.2.1 d.2.2.2.2.1 d.2.2.2.2.2.1
abbrev zq9o (β : Type) := (List (List zq0)) → Int → Int → (List Int) → (List Int) → (List (Int × (Int × Int))) → Option β
abbrev zq9p := {β : Type} → zq9o β → (List (List zq0)) → Int → Int → Int → (List Int) → (List Int) → (List (Int × (Int × Int))) → (List Int) → Option β
def zq9q : View := ⟨0, [2, 6, 7, 8, 9, 10, 14, 16], [(false, [.data (.slice (.slice zq1))]), (false, [.rowh 0]), (false, [.rowh 1]), (false, [.data (.int .i64)]), (false, [.rowh 2]), (false, [.data (.int .i64)]), (false, [.rowh 3]), (false, [.data (.int .i64)])], [.row 3 (.int .i64), .row 3 (.int .i64), .row 39 (.prod (.int .i64) (.prod (.int .i64) (.int .i64))), .row 3 (.int .i64)]⟩
def zq9r : List (AExit × View) := [(.exit 4, ⟨0, [2, 6, 7, 8, 9, 10], [(false, [.data (.slice (.slice zq1))]), (false, [.rowh 0]), (false, [.rowh 1]), (false, [.data (.int .i64)]), (false, [.rowh 2]), (false, [.data (.int .i64)])], [.row 3 (.int .i64), .row 3 (.int .i64), .row 39 (.prod (.int .i64) (.prod (.int .i64) (.int .i64)))]⟩)]
@[reducible] def ref27_Run_p2_G (p : zq9p) {β : Type} (d : zq9q.den) (ks : Outs.K β zq9r) : Option β :=
  p (fun a0 a1 a2 a3 a4 a5 => ks.1 (((a0, ()), (), (), (a1, ()), (), (a2, ()), ()), (a3, a4, a5, ()))) d.1.1.1 d.1.2.2.2.1.1 d.1.2.2.2.2.2.1.1 d.1.2.2.2.2.2.2.2.1.1 d.2.1 d.2.2.1 d.2.2.2.1 d.2.2.2.2.1
abbrev zq9s (β : Type) := (List (List zq0)) → Int → Int → (List Int) → (List Int) → (List (Int × (Int × Int))) → Option β
abbrev zq9t := {β : Type} → zq9s β → (List (List zq0)) → Int → Int → (List zq0) → (List Int) → (List Int) → (List (Int × (Int × Int))) → Option β
def zq9u : View := ⟨0, [2, 6, 7, 8, 9, 10, 11], [(false, [.data (.slice (.slice zq1))]), (false, [.rowh 0]), (false, [.rowh 1]), (false, [.data (.int .i64)]), (false, [.rowh 2]), (false, [.data (.int .i64)]), (false, [.data (.slice zq1)])], [.row 3 (.int .i64), .row 3 (.int .i64), .row 39 (.prod (.int .i64) (.prod (.int .i64) (.int .i64)))]⟩
def zq9v : List (AExit × View) := [(.normal, ⟨0, [2, 6, 7, 8, 9, 10], [(false, [.data (.slice (.slice zq1))]), (false, [.rowh 0]), (false, [.rowh 1]), (false, [.data (.int .i64)]), (false, [.rowh 2]), (false, [.data (.int .i64)])], [.row 3 (.int .i64), .row 3 (.int .i64), .row 39 (.prod (.int .i64) (.prod (.int .i64) (.int .i64)))]⟩)]
@[reducible] def ref27_Run_p3_G (p : zq9t) {β : Type} (d : zq9u.den) (ks : Outs.K β zq9v) : Option β :=
  p (fun a0 a1 a2 a3 a4 a5 => ks.1 (((a0, ()), (), (), (a1, ()), (), (a2, ()), ()), (a3, a4, a5, ()))) d.1.1.1 d.1.2.2.2.1.1 d.1.2.2.2.2.2.1.1 d.1.2.2.2.2.2.2.1.1 d.2.1 d.2.2.1 d.2.2.2.1
abbrev zq9w (β : Type) := (List (List zq0)) → Int → Int → (List Int) → (List Int) → (List (Int × (Int × Int))) → Option β
abbrev zq9x := {β : Type} → zq9w β → (List (List zq0)) → Int → Int → (List Int) → (List Int) → (List (Int × (Int × Int))) → Option β
def zq9y : View := ⟨0, [2, 6, 7, 8, 9, 10], [(false, [.data (.slice (.slice zq1))]), (false, [.rowh 0]), (false, [.rowh 1]), (false, [.data (.int .i64)]), (false, [.rowh 2]), (false, [.data (.int .i64)])], [.row 3 (.int .i64), .row 3 (.int .i64), .row 39 (.prod (.int .i64) (.prod (.int .i64) (.int .i64)))]⟩
def zq9z : List (AExit × View) := [(.normal, ⟨0, [2, 6, 7, 8, 9, 10], [(false, [.data (.slice (.slice zq1))]), (false, [.rowh 0]), (false, [.rowh 1]), (false, [.data (.int .i64)]), (false, [.rowh 2]), (false, [.data (.int .i64)])], [.row 3 (.int .i64), .row 3 (.int .i64), .row 39 (.prod (.int .i64) (.prod (.int .i64) (.int .i64)))]⟩)]
@[reducible] def ref27_Run_p4_G (p : zq9x) {β : Type} (d : zq9y.den) (ks : Outs.K β zq9z) : Option β :=
  p (fun a0 a1 a2 a3 a4 a5 => ks.1 (((a0, ()), (), (), (a1, ()), (), (a2, ()), ()), (a3, a4, a5, ()))) d.1.1.1 d.1.2.2.2.1.1 d.1.2.2.2.2.2.1.1 d.2.1 d.2.2.1 d.2.2.2.1
abbrev zqa0 (β : Type) := Int → (List Int) → (List Int) → Option β
abbrev zqa1 := {β : Type} → zqa0 β → (List (List zq0)) → Int → Int → (List Int) → (List Int) → (List (Int × (Int × Int))) → Option β
def zqa2 : View := ⟨0, [2, 6, 7, 8, 9, 10], [(false, [.data (.slice (.slice zq1))]), (false, [.rowh 0]), (false, [.rowh 1]), (false, [.data (.int .i64)]), (false, [.rowh 2]), (false, [.data (.int .i64)])], [.row 3 (.int .i64), .row 3 (.int .i64), .row 39 (.prod (.int .i64) (.prod (.int .i64) (.int .i64)))]⟩
def zqa3 : List (AExit × View) := [(.exit 0, ⟨0, [6, 7, 8], [(false, [.rowh 0]), (false, [.rowh 1]), (false, [.data (.int .i64)])], [.row 3 (.int .i64), .row 3 (.int .i64)]⟩)]
@[reducible] def ref27_Run_p5_G (p : zqa1) {β : Type} (d : zqa2.den) (ks : Outs.K β zqa3) : Option β :=
  p (fun a0 a1 a2 => ks.1 (((), (), (a0, ()), ()), (a1, a2, ()))) d.1.1.1 d.1.2.2.2.1.1 d.1.2.2.2.2.2.1.1 d.2.1 d.2.2.1 d.2.2.2.1
section
variable (c_ref26_Arrivals : zq62) (c_ref26_Fates : zq5v) (c_ref26_Receipts : zq69) (c_ref27_Plan : zq7v) (c_ref27_insert : zq2b)
@[reducible] def ref27_Run_X : Ctx := ⟨look tab, pick1 [(51, .spec (zq63 c_ref26_Arrivals)), (50, .spec (zq5w c_ref26_Fates)), (52, .spec (zq6a c_ref26_Receipts)), (21, .spec (zq7w c_ref27_Plan)), (53, .spec (zq2c c_ref27_insert))], false, false, false, false⟩
def zqa4 {β : Type} (rec : (List (List zq0)) → Int → Int → Int → (List Int) → (List Int) → (List (Int × (Int × Int))) → (List Int) → (List Int) → Option β) (k1 : zq9k β) (fates : List (List zq0)) (sent : Int) (i_ : Int) (k_ : Int) (arrivals : List Int) (receipts : List Int) (l : List (Int × (Int × Int))) (a : List Int) (r_ : List Int) : Option β :=
  cond (decide (k_ < (List.length a : Int)))
  (cond (decide (0 ≤ k_) && decide (k_ < (List.length a : Int)))
  (c_ref27_insert arrivals (List.getD a (Int.toNat k_) (0 : Int)) (fun (lrinsert : List Int) =>
  let k_2 : Int := (IntKind.i64.wrap (k_ + (1 : Int)));
  rec fates sent i_ k_2 lrinsert receipts l a r_))
  none)
  (k1 fates sent i_ arrivals receipts l r_)
def zqa5 {β : Type} : Nat → zq9k β → (List (List zq0)) → Int → Int → Int → (List Int) → (List Int) → (List (Int × (Int × Int))) → (List Int) → (List Int) → Option β
  | 0 => fun _ _ _ _ _ _ _ _ _ _ => none
  | i + 1 => fun k1 fates sent i_ k_ arrivals receipts l a r_ => zqa4 c_ref27_insert (zqa5 i k1) k1 fates sent i_ k_ arrivals receipts l a r_
theorem zqa6 (hΓ : ΓOk Try.prog (ref27_Run_X c_ref26_Arrivals c_ref26_Fates c_ref26_Receipts c_ref27_Plan c_ref27_insert).Γ) (i : Nat) : PieceOk Try.prog 124 0 ref27_Run_p1_code zq9m zq9n (ref27_Run_p1_G (zqa5 c_ref27_insert i)) := by
  rw [show ref27_Run_p1_code = .loop (loopBody ref27_Run_p1_code) by kernel_rfl]
  exact piece_loop (X := (ref27_Run_X c_ref26_Arrivals c_ref26_Fates c_ref26_Receipts c_ref27_Plan c_ref27_insert)) (p := 1) (Λ := pick1 []) (G := fun i => @fun β d ks => ref27_Run_p1_G (zqa5 c_ref27_insert i) d ks) mixed tab_ok hΓ rfl (by kernel_rfl) CutsOk_nil (fun _ _ => rfl) (fun i => @fun β d ks r h => Eq.trans (b := ref27_Run_p1_G (zqa5 c_ref27_insert (i + 1)) d ks) (by kernel_rfl) h) i
def zqa7 {β : Type} (rec : (List (List zq0)) → Int → Int → Int → (List Int) → (List Int) → (List (Int × (Int × Int))) → (List Int) → Option β) (k1 : zq9o β) (fates : List (List zq0)) (sent : Int) (i_ : Int) (k_ : Int) (arrivals : List Int) (receipts : List Int) (l : List (Int × (Int × Int))) (r_ : List Int) : Option β :=
  cond (decide (k_ < (List.length r_ : Int)))
  (cond (decide (0 ≤ k_) && decide (k_ < (List.length r_ : Int)))
  (c_ref27_insert receipts (List.getD r_ (Int.toNat k_) (0 : Int)) (fun (lrinsert : List Int) =>
  let k_2 : Int := (IntKind.i64.wrap (k_ + (1 : Int)));
  rec fates sent i_ k_2 arrivals lrinsert l r_))
  none)
  (k1 fates sent i_ arrivals receipts l)
def zqa8 {β : Type} : Nat → zq9o β → (List (List zq0)) → Int → Int → Int → (List Int) → (List Int) → (List (Int × (Int × Int))) → (List Int) → Option β
  | 0 => fun _ _ _ _ _ _ _ _ _ => none
  | i + 1 => fun k1 fates sent i_ k_ arrivals receipts l r_ => zqa7 c_ref27_insert (zqa8 i k1) k1 fates sent i_ k_ arrivals receipts l r_
theorem zqa9 (hΓ : ΓOk Try.prog (ref27_Run_X c_ref26_Arrivals c_ref26_Fates c_ref26_Receipts c_ref27_Plan c_ref27_insert).Γ) (i : Nat) : PieceOk Try.prog 124 0 ref27_Run_p2_code zq9q zq9r (ref27_Run_p2_G (zqa8 c_ref27_insert i)) := by
  rw [show ref27_Run_p2_code = .loop (loopBody ref27_Run_p2_code) by kernel_rfl]
  exact piece_loop (X := (ref27_Run_X c_ref26_Arrivals c_ref26_Fates c_ref26_Receipts c_ref27_Plan c_ref27_insert)) (p := 1) (Λ := pick1 []) (G := fun i => @fun β d ks => ref27_Run_p2_G (zqa8 c_ref27_insert i) d ks) mixed tab_ok hΓ rfl (by kernel_rfl) CutsOk_nil (fun _ _ => rfl) (fun i => @fun β d ks r h => Eq.trans (b := ref27_Run_p2_G (zqa8 c_ref27_insert (i + 1)) d ks) (by kernel_rfl) h) i
def zqaa (p1 : zq9l) (p2 : zq9p) {β : Type} (k1 : zq9s β) (fates : List (List zq0)) (sent : Int) (i_ : Int) (own : List zq0) (arrivals : List Int) (receipts : List Int) (l : List (Int × (Int × Int))) : Option β :=
  cond (decide (0 ≤ i_) && decide (i_ < (List.length l : Int)))
  (c_ref26_Fates own (((List.getD l (Int.toNat i_) ((0 : Int), ((0 : Int), (0 : Int)))).2).1) (fun (rFates : zq0) =>
  cond (decide (0 ≤ i_) && decide (i_ < (List.length l : Int)))
  (c_ref26_Arrivals (((List.getD l (Int.toNat i_) ((0 : Int), ((0 : Int), (0 : Int)))).2).2) rFates (fun (lrArrivals : List Int) =>
  cond (decide (0 ≤ i_) && decide (i_ < (List.length l : Int)))
  (c_ref26_Receipts (((List.getD l (Int.toNat i_) ((0 : Int), ((0 : Int), (0 : Int)))).2).2) rFates (fun (lrReceipts : List Int) =>
  p1 (fun (fates2 : List (List zq0)) (sent2 : Int) (i_2 : Int) (arrivals2 : List Int) (receipts2 : List Int) (l2 : List (Int × (Int × Int))) (r_ : List Int) =>
  p2 (fun (fates3 : List (List zq0)) (sent3 : Int) (i_3 : Int) (arrivals3 : List Int) (receipts3 : List Int) (l3 : List (Int × (Int × Int))) =>
  let sent4 : Int := (IntKind.i64.wrap (sent3 + (1 : Int)));
  k1 fates3 sent4 i_3 arrivals3 receipts3 l3) fates2 sent2 i_2 (0 : Int) arrivals2 receipts2 l2 r_) fates sent i_ (0 : Int) arrivals receipts l lrArrivals lrReceipts))
  none))
  none))
  none
def zqab (p1 : zq9l) (p2 : zq9p) {β : Type} (k1 : zq9s β) (fates : List (List zq0)) (sent : Int) (i_ : Int) (own : List zq0) (arrivals : List Int) (receipts : List Int) (l : List (Int × (Int × Int))) : Option β := zqaa c_ref26_Arrivals c_ref26_Fates c_ref26_Receipts p1 p2 k1 fates sent i_ own arrivals receipts l
theorem zqac (hΓ : ΓOk Try.prog (ref27_Run_X c_ref26_Arrivals c_ref26_Fates c_ref26_Receipts c_ref27_Plan c_ref27_insert).Γ) (p1 : zq9l) (p2 : zq9p) (hp1 : PieceOk Try.prog 124 0 ref27_Run_p1_code zq9m zq9n (ref27_Run_p1_G p1)) (hp2 : PieceOk Try.prog 124 0 ref27_Run_p2_code zq9q zq9r (ref27_Run_p2_G p2)) : PieceOk Try.prog 124 0 ref27_Run_p3_code zq9u zq9v (ref27_Run_p3_G (zqab c_ref26_Arrivals c_ref26_Fates c_ref26_Receipts p1 p2)) :=
  piece_exec (X := (ref27_Run_X c_ref26_Arrivals c_ref26_Fates c_ref26_Receipts c_ref27_Plan c_ref27_insert)) (p := 103) (Λ := pick1 [(3322, pieceCut zq9m zq9n (ref27_Run_p1_G p1)), (6650, pieceCut zq9q zq9r (ref27_Run_p2_G p2))]) mixed tab_ok hΓ (by kernel_rfl) (CutsOk_cons (q := 3322) (c' := ref27_Run_p1_code) (by kernel_rfl) rfl hp1 (CutsOk_cons (q := 6650) (c' := ref27_Run_p2_code) (by kernel_rfl) rfl hp2 CutsOk_nil)) (fun d ks r h => Eq.trans (b := ref27_Run_p3_G (zqab c_ref26_Arrivals c_ref26_Fates c_ref26_Receipts p1 p2) d ks) (by kernel_rfl) h)
def zqad (p3 : zq9t) {β : Type} (k1 : zq9w β) (fates : List (List zq0)) (sent : Int) (i_ : Int) (arrivals : List Int) (receipts : List Int) (l : List (Int × (Int × Int))) : Option β :=
  cond (decide (0 ≤ i_) && decide (i_ < (List.length l : Int)))
  (cond (decide (((List.getD l (Int.toNat i_) ((0 : Int), ((0 : Int), (0 : Int)))).1) < (List.length fates : Int)))
  (cond (decide (0 ≤ i_) && decide (i_ < (List.length l : Int)))
  (cond (decide (0 ≤ (List.getD l (Int.toNat i_) ((0 : Int), ((0 : Int), (0 : Int)))).1) && decide ((List.getD l (Int.toNat i_) ((0 : Int), ((0 : Int), (0 : Int)))).1 < (List.length fates : Int)))
  (let e : List zq0 := List.getD fates (Int.toNat ((List.getD l (Int.toNat i_) ((0 : Int), ((0 : Int), (0 : Int)))).1)) ([] : List zq0);
  p3 (fun (fates2 : List (List zq0)) (sent2 : Int) (i_2 : Int) (arrivals2 : List Int) (receipts2 : List Int) (l2 : List (Int × (Int × Int))) =>
  k1 fates2 sent2 i_2 arrivals2 receipts2 l2) fates sent i_ e arrivals receipts l)
  none)
  none)
  (p3 (fun (fates2 : List (List zq0)) (sent2 : Int) (i_2 : Int) (arrivals2 : List Int) (receipts2 : List Int) (l2 : List (Int × (Int × Int))) =>
  k1 fates2 sent2 i_2 arrivals2 receipts2 l2) fates sent i_ ([] : List zq0) arrivals receipts l))
  none
def zqae (p3 : zq9t) {β : Type} (k1 : zq9w β) (fates : List (List zq0)) (sent : Int) (i_ : Int) (arrivals : List Int) (receipts : List Int) (l : List (Int × (Int × Int))) : Option β := zqad p3 k1 fates sent i_ arrivals receipts l
theorem zqaf (hΓ : ΓOk Try.prog (ref27_Run_X c_ref26_Arrivals c_ref26_Fates c_ref26_Receipts c_ref27_Plan c_ref27_insert).Γ) (p3 : zq9t) (hp3 : PieceOk Try.prog 124 0 ref27_Run_p3_code zq9u zq9v (ref27_Run_p3_G p3)) : PieceOk Try.prog 124 0 ref27_Run_p4_code zq9y zq9z (ref27_Run_p4_G (zqae p3)) :=
  piece_exec (X := (ref27_Run_X c_ref26_Arrivals c_ref26_Fates c_ref26_Receipts c_ref27_Plan c_ref27_insert)) (p := 25) (Λ := pick1 [(103, pieceCut zq9u zq9v (ref27_Run_p3_G p3))]) mixed tab_ok hΓ (by kernel_rfl) (CutsOk_cons (q := 103) (c' := ref27_Run_p3_code) (by kernel_rfl) rfl hp3 CutsOk_nil) (fun d ks r h => Eq.trans (b := ref27_Run_p4_G (zqae p3) d ks) (by kernel_rfl) h)
def zqag (p4 : zq9x) {β : Type} (rec : (List (List zq0)) → Int → Int → (List Int) → (List Int) → (List (Int × (Int × Int))) → Option β) (k1 : zqa0 β) (fates : List (List zq0)) (sent : Int) (i_ : Int) (arrivals : List Int) (receipts : List Int) (l : List (Int × (Int × Int))) : Option β :=
  cond (decide (i_ < (List.length l : Int)))
  (cond (decide (i_ = (0 : Int)))
  (cond (decide ((0 : Int) < (List.length receipts : Int)))
  (cond (decide (0 ≤ (0 : Int)) && decide ((0 : Int) < (List.length receipts : Int)))
  (cond (decide (0 ≤ i_) && decide (i_ < (List.length l : Int)))
  (cond (decide ((List.getD receipts (Int.toNat (0 : Int)) (0 : Int)) ≤ (((List.getD l (Int.toNat i_) ((0 : Int), ((0 : Int), (0 : Int)))).2).2)))
  (k1 sent arrivals receipts)
  (p4 (fun (fates2 : List (List zq0)) (sent2 : Int) (i_2 : Int) (arrivals2 : List Int) (receipts2 : List Int) (l2 : List (Int × (Int × Int))) =>
  let i_3 : Int := (IntKind.i64.wrap (i_2 + (1 : Int)));
  rec fates2 sent2 i_3 arrivals2 receipts2 l2) fates sent i_ arrivals receipts l))
  none)
  none)
  (p4 (fun (fates2 : List (List zq0)) (sent2 : Int) (i_2 : Int) (arrivals2 : List Int) (receipts2 : List Int) (l2 : List (Int × (Int × Int))) =>
  let i_3 : Int := (IntKind.i64.wrap (i_2 + (1 : Int)));
  rec fates2 sent2 i_3 arrivals2 receipts2 l2) fates sent i_ arrivals receipts l))
  (cond (decide (0 ≤ (IntKind.i64.wrap (i_ - (1 : Int)))) && decide ((IntKind.i64.wrap (i_ - (1 : Int))) < (List.length l : Int)))
  (cond (decide (0 ≤ i_) && decide (i_ < (List.length l : Int)))
  (cond (decide ((((List.getD l (Int.toNat (IntKind.i64.wrap (i_ - (1 : Int)))) ((0 : Int), ((0 : Int), (0 : Int)))).2).2) < (((List.getD l (Int.toNat i_) ((0 : Int), ((0 : Int), (0 : Int)))).2).2)))
  (cond (decide ((0 : Int) < (List.length receipts : Int)))
  (cond (decide (0 ≤ (0 : Int)) && decide ((0 : Int) < (List.length receipts : Int)))
  (cond (decide (0 ≤ i_) && decide (i_ < (List.length l : Int)))
  (cond (decide ((List.getD receipts (Int.toNat (0 : Int)) (0 : Int)) ≤ (((List.getD l (Int.toNat i_) ((0 : Int), ((0 : Int), (0 : Int)))).2).2)))
  (k1 sent arrivals receipts)
  (p4 (fun (fates2 : List (List zq0)) (sent2 : Int) (i_2 : Int) (arrivals2 : List Int) (receipts2 : List Int) (l2 : List (Int × (Int × Int))) =>
  let i_3 : Int := (IntKind.i64.wrap (i_2 + (1 : Int)));
  rec fates2 sent2 i_3 arrivals2 receipts2 l2) fates sent i_ arrivals receipts l))
  none)
  none)
  (p4 (fun (fates2 : List (List zq0)) (sent2 : Int) (i_2 : Int) (arrivals2 : List Int) (receipts2 : List Int) (l2 : List (Int × (Int × Int))) =>
  let i_3 : Int := (IntKind.i64.wrap (i_2 + (1 : Int)));
  rec fates2 sent2 i_3 arrivals2 receipts2 l2) fates sent i_ arrivals receipts l))
  (p4 (fun (fates2 : List (List zq0)) (sent2 : Int) (i_2 : Int) (arrivals2 : List Int) (receipts2 : List Int) (l2 : List (Int × (Int × Int))) =>
  let i_3 : Int := (IntKind.i64.wrap (i_2 + (1 : Int)));
  rec fates2 sent2 i_3 arrivals2 receipts2 l2) fates sent i_ arrivals receipts l))
  none)
  none))
  (k1 sent arrivals receipts)
def zqah (p4 : zq9x) {β : Type} : Nat → zqa0 β → (List (List zq0)) → Int → Int → (List Int) → (List Int) → (List (Int × (Int × Int))) → Option β
  | 0 => fun _ _ _ _ _ _ _ => none
  | i + 1 => fun k1 fates sent i_ arrivals receipts l => zqag p4 (zqah p4 i k1) k1 fates sent i_ arrivals receipts l
theorem zqai (hΓ : ΓOk Try.prog (ref27_Run_X c_ref26_Arrivals c_ref26_Fates c_ref26_Receipts c_ref27_Plan c_ref27_insert).Γ) (p4 : zq9x) (hp4 : PieceOk Try.prog 124 0 ref27_Run_p4_code zq9y zq9z (ref27_Run_p4_G p4)) (i : Nat) : PieceOk Try.prog 124 0 ref27_Run_p5_code zqa2 zqa3 (ref27_Run_p5_G (zqah p4 i)) := by
  rw [show ref27_Run_p5_code = .loop (loopBody ref27_Run_p5_code) by kernel_rfl]
  exact piece_loop (X := (ref27_Run_X c_ref26_Arrivals c_ref26_Fates c_ref26_Receipts c_ref27_Plan c_ref27_insert)) (p := 1) (Λ := pick1 [(25, pieceCut zq9y zq9z (ref27_Run_p4_G p4))]) (G := fun i => @fun β d ks => ref27_Run_p5_G (zqah p4 i) d ks) mixed tab_ok hΓ rfl (by kernel_rfl) (CutsOk_cons (q := 25) (c' := ref27_Run_p4_code) (by kernel_rfl) rfl hp4 CutsOk_nil) (fun _ _ => rfl) (fun i => @fun β d ks r h => Eq.trans (b := ref27_Run_p5_G (zqah p4 (i + 1)) d ks) (by kernel_rfl) h) i
def zqaj (p5 : zqa1) {β : Type} (p_ : (Int × List (Int × (Int × (Int × Int))))) (start : Int) (fates : List (List zq0)) (k : (Int → (List Int) → (List Int) → Option β)) : Option β :=
  c_ref27_Plan p_ start (fun (lrPlan : List (Int × (Int × Int))) =>
  p5 (fun (sent : Int) (arrivals : List Int) (receipts : List Int) =>
  k sent arrivals receipts) fates (0 : Int) (0 : Int) ([] : List Int) ([] : List Int) lrPlan)
theorem zqak (hΓ : ΓOk Try.prog (ref27_Run_X c_ref26_Arrivals c_ref26_Fates c_ref26_Receipts c_ref27_Plan c_ref27_insert).Γ) (p5 : zqa1) (hp5 : PieceOk Try.prog 124 0 ref27_Run_p5_code zqa2 zqa3 (ref27_Run_p5_G p5)) : SpecOk Try.prog 17 (zq9j (zqaj c_ref27_Plan p5)) :=
  spec_exec (X := (ref27_Run_X c_ref26_Arrivals c_ref26_Fates c_ref26_Receipts c_ref27_Plan c_ref27_insert)) (Λ := pick1 [(58, pieceCut zqa2 zqa3 (ref27_Run_p5_G p5))]) (rs := [.tmp 6, .tmp 7, .tmp 8]) (c := bodyOf Try.f17) mixed tab_ok hΓ Try.func17 (by kernel_rfl) (by kernel_rfl) (by kernel_rfl) (by kernel_rfl) (CutsOk_cons (q := 58) (c' := ref27_Run_p5_code) (by kernel_rfl) rfl hp5 CutsOk_nil) (fun x k r h => Eq.trans (b := (zq9j (zqaj c_ref27_Plan p5)).run x k) (by kernel_rfl) h)
end
theorem zqalΓ : ΓOk Try.prog (pick1 [(51, .spec (zq63 zq67)), (50, .spec (zq5w zq60)), (52, .spec (zq6a zq6p)), (21, .spec (zq7w zq8x)), (53, .spec (zq2c zq2r))]) := (ΓOk_cons zq68 (ΓOk_cons zq61 (ΓOk_cons zq6q (ΓOk_cons zq8y (ΓOk_cons zq2s ΓOk_nil)))))
def zqam (m : Nat) : zq9l := zqa5 zq2r m
theorem zqan {β : Type} (i : Nat) (k1 fates sent i_ k_ arrivals receipts l a r_) : (zqam (i + 1) k1 fates sent i_ k_ arrivals receipts l a r_ : Option β) = zqa4 zq2r (zqam i k1) k1 fates sent i_ k_ arrivals receipts l a r_ := rfl
def zqao : zq9l := zqam fuel
theorem zqap : PieceOk Try.prog 124 0 ref27_Run_p1_code zq9m zq9n (ref27_Run_p1_G zqao) := zqa6 zq67 zq60 zq6p zq8x zq2r zqalΓ fuel
def zqaq (m : Nat) : zq9p := zqa8 zq2r m
theorem zqar {β : Type} (i : Nat) (k1 fates sent i_ k_ arrivals receipts l r_) : (zqaq (i + 1) k1 fates sent i_ k_ arrivals receipts l r_ : Option β) = zqa7 zq2r (zqaq i k1) k1 fates sent i_ k_ arrivals receipts l r_ := rfl
def zqas : zq9p := zqaq fuel
theorem zqat : PieceOk Try.prog 124 0 ref27_Run_p2_code zq9q zq9r (ref27_Run_p2_G zqas) := zqa9 zq67 zq60 zq6p zq8x zq2r zqalΓ fuel
def zqau : zq9t := zqab zq67 zq60 zq6p zqao zqas
theorem zqav : PieceOk Try.prog 124 0 ref27_Run_p3_code zq9u zq9v (ref27_Run_p3_G zqau) := zqac zq67 zq60 zq6p zq8x zq2r zqalΓ zqao zqas zqap zqat
def zqaw : zq9x := zqae zqau
theorem zqax : PieceOk Try.prog 124 0 ref27_Run_p4_code zq9y zq9z (ref27_Run_p4_G zqaw) := zqaf zq67 zq60 zq6p zq8x zq2r zqalΓ zqau zqav
def zqay (m : Nat) : zqa1 := zqah zqaw m
theorem zqaz {β : Type} (i : Nat) (k1 fates sent i_ arrivals receipts l) : (zqay (i + 1) k1 fates sent i_ arrivals receipts l : Option β) = zqag zqaw (zqay i k1) k1 fates sent i_ arrivals receipts l := rfl
def zqb0 : zqa1 := zqay fuel
theorem zqb1 : PieceOk Try.prog 124 0 ref27_Run_p5_code zqa2 zqa3 (ref27_Run_p5_G zqb0) := zqai zq67 zq60 zq6p zq8x zq2r zqalΓ zqaw zqax fuel
def zqb2 : zq9i := zqaj zq8x zqb0
theorem zqb3 : SpecOk Try.prog 17 (zq9j zqb2) := zqak zq67 zq60 zq6p zq8x zq2r zqalΓ zqb0 zqb1

/-- slices.ContainsFunc[[]pagewatch/api.Channel,pagewatch/api.Channel] -/
abbrev zqb4 := {β : Type} → (List (Int × (Int × (Int × Int)))) → (Bool → Option β) → Option β
def zqb5 (c : zqb4) : Spec :=
  ⟨[(false, [.data (.slice (.prod (.int .i64) (.prod (.int .i64) (.prod (.int .i64) (.int .i64)))))]), (false, [.fn 62 []])], [], [(false, [.data .bool])], [], fun x k => c x.1.1.1 (fun r0 => k (((r0, ()), ()), ()))⟩
section
variable (c_slices_IndexFunc_api_Channel_api_Channel_vdelivery_Valid_f1 : zq8z)
@[reducible] def slices_ContainsFunc_api_Channel_api_Channel_vdelivery_Valid_f1_X : Ctx := ⟨look tab, pick1 [(72, .spec (zq90 c_slices_IndexFunc_api_Channel_api_Channel_vdelivery_Valid_f1))], false, false, false, false⟩
def zqb6 {β : Type} (s : List (Int × (Int × (Int × Int)))) (k : (Bool → Option β)) : Option β :=
  c_slices_IndexFunc_api_Channel_api_Channel_vdelivery_Valid_f1 s (fun (rChannel : Int) =>
  let t : Bool := (decide ((0 : Int) ≤ rChannel));
  k t)
theorem zqb7 (hΓ : ΓOk Try.prog (slices_ContainsFunc_api_Channel_api_Channel_vdelivery_Valid_f1_X c_slices_IndexFunc_api_Channel_api_Channel_vdelivery_Valid_f1).Γ) : SpecOk Try.prog 61 (zqb5 (zqb6 c_slices_IndexFunc_api_Channel_api_Channel_vdelivery_Valid_f1)) :=
  spec_exec (X := (slices_ContainsFunc_api_Channel_api_Channel_vdelivery_Valid_f1_X c_slices_IndexFunc_api_Channel_api_Channel_vdelivery_Valid_f1)) (Λ := pick1 []) (rs := [.tmp 4]) (c := bodyOf Try.f61) mixed tab_ok hΓ Try.func61 (by kernel_rfl) (by kernel_rfl) (by kernel_rfl) (by kernel_rfl) CutsOk_nil (fun x k r h => Eq.trans (b := (zqb5 (zqb6 c_slices_IndexFunc_api_Channel_api_Channel_vdelivery_Valid_f1)).run x k) (by kernel_rfl) h)
end
theorem zqb8Γ : ΓOk Try.prog (pick1 [(72, .spec (zq90 zq9g))]) := (ΓOk_cons zq9h ΓOk_nil)
def zqb9 : zqb4 := zqb6 zq9g
theorem zqba : SpecOk Try.prog 61 (zqb5 zqb9) := zqb7 zq9g zqb8Γ

/-- pagewatch/delivery.Valid -/
abbrev zqbb := {β : Type} → (Int × List (Int × (Int × (Int × Int)))) → (Bool → Option β) → Option β
def zqbc (c : zqbb) : Spec :=
  ⟨[(true, [.data (.prod (.int .i64) (.slice (.prod (.int .i64) (.prod (.int .i64) (.prod (.int .i64) (.int .i64))))))])], [], [(false, [.data .bool])], [], fun x k => c x.1.1.1 (fun r0 => k (((r0, ()), ()), ()))⟩
section
variable (c_delivery_person : zq37) (c_slices_ContainsFunc_api_Channel_api_Channel_vdelivery_Valid_f1 : zqb4)
@[reducible] def delivery_Valid_X : Ctx := ⟨look tab, pick1 [(60, .spec (zq38 c_delivery_person)), (61, .spec (zqb5 c_slices_ContainsFunc_api_Channel_api_Channel_vdelivery_Valid_f1))], false, false, false, false⟩
def zqbd {β : Type} (p_ : (Int × List (Int × (Int × (Int × Int))))) (k : (Bool → Option β)) : Option β :=
  c_delivery_person p_.1 (fun (rperson : Bool) =>
  cond rperson
  (cond (decide ((List.length p_.2 : Int) ≤ (4 : Int)))
  (c_slices_ContainsFunc_api_Channel_api_Channel_vdelivery_Valid_f1 p_.2 (fun (rChannel : Bool) =>
  k (!rChannel)))
  (k false))
  (k false))
theorem zqbe (hΓ : ΓOk Try.prog (delivery_Valid_X c_delivery_person c_slices_ContainsFunc_api_Channel_api_Channel_vdelivery_Valid_f1).Γ) : SpecOk Try.prog 31 (zqbc (zqbd c_delivery_person c_slices_ContainsFunc_api_Channel_api_Channel_vdelivery_Valid_f1)) :=
  spec_exec (X := (delivery_Valid_X c_delivery_person c_slices_ContainsFunc_api_Channel_api_Channel_vdelivery_Valid_f1)) (Λ := pick1 []) (rs := [.tmp 2]) (c := bodyOf Try.f31) mixed tab_ok hΓ Try.func31 (by kernel_rfl) (by kernel_rfl) (by kernel_rfl) (by kernel_rfl) CutsOk_nil (fun x k r h => Eq.trans (b := (zqbc (zqbd c_delivery_person c_slices_ContainsFunc_api_Channel_api_Channel_vdelivery_Valid_f1)).run x k) (by kernel_rfl) h)
end
theorem zqbfΓ : ΓOk Try.prog (pick1 [(60, .spec (zq38 zq3c)), (61, .spec (zqb5 zqb9))]) := (ΓOk_cons zq3d (ΓOk_cons zqba ΓOk_nil))
def zqbg : zqbb := zqbd zq3c zqb9
theorem zqbh : SpecOk Try.prog 31 (zqbc zqbg) := zqbe zq3c zqb9 zqbfΓ

/-- slices.SortFunc[[]pagewatch/api.Attempt,pagewatch/api.Attempt] with pagewatch/delivery.Plan$1 -/
def zqbi : Shelf.Ren :=
      { 
      f := fun x =>
        match x with
        | 6 => 40
        | 15 => 66
        | 14 => 65
        | 28 => 81
        | 29 => 82
        | 20 => 73
        | 21 => 74
        | 22 => 75
        | 23 => 76
        | 24 => 77
        | 25 => 78
        | 26 => 79
        | 27 => 80
        | 46 => 92
        | 47 => 93
        | 48 => 94
        | 49 => 95
        | 50 => 96
        | 57 => 101
        | n => n,
      t := fun x =>
        match x with
        | 22 => 33
        | 24 => 39
        | 25 => 81
        | 3 => 3
        | 39 => 97
        | 0 => 0
        | 53 => 23
        | 55 => 111
        | 4 => 4
        | 46 => 104
        | 45 => 103
        | 50 => 66
        | 5 => 5
        | 9 => 9
        | 66 => 118
        | 70 => 122
        | 76 => 126
        | 77 => 127
        | n => n,
      g := fun x => x }
theorem zqbj : Go.Proofs.SlLaysF0.n6 Try.prog zqbi :=
  { mixed := by kernel_rfl,
    f6 := Exists.intro "slices.SortFunc[[]pagewatch/api.Attempt,pagewatch/api.Attempt]" ⟨of_decide_eq_true (by kernel_rfl), Eq.trans Try.func40 (congrArg some (by kernel_rfl))⟩,
    f14 := Exists.intro "slices.pdqsortCmpFunc[pagewatch/api.Attempt]" ⟨of_decide_eq_true (by kernel_rfl), Eq.trans Try.func65 (congrArg some (by kernel_rfl))⟩,
    f15 := Eq.trans Try.func66 (congrArg some (by kernel_rfl)),
    f20 := Exists.intro "slices.insertionSortCmpFunc[pagewatch/api.Attempt]" ⟨of_decide_eq_true (by kernel_rfl), Eq.trans Try.func73 (congrArg some (by kernel_rfl))⟩,
    f21 := Exists.intro "slices.heapSortCmpFunc[pagewatch/api.Attempt]" ⟨of_decide_eq_true (by kernel_rfl), Eq.trans Try.func74 (congrArg some (by kernel_rfl))⟩,
    f22 := Exists.intro "slices.breakPatternsCmpFunc[pagewatch/api.Attempt]" ⟨of_decide_eq_true (by kernel_rfl), Eq.trans Try.func75 (congrArg some (by kernel_rfl))⟩,
    f23 := Exists.intro "slices.choosePivotCmpFunc[pagewatch/api.Attempt]" ⟨of_decide_eq_true (by kernel_rfl), Eq.trans Try.func76 (congrArg some (by kernel_rfl))⟩,
    f24 := Exists.intro "slices.reverseRangeCmpFunc[pagewatch/api.Attempt]" ⟨of_decide_eq_true (by kernel_rfl), Eq.trans Try.func77 (congrArg some (by kernel_rfl))⟩,
    f25 := Exists.intro "slices.partialInsertionSortCmpFunc[pagewatch/api.Attempt]" ⟨of_decide_eq_true (by kernel_rfl), Eq.trans Try.func78 (congrArg some (by kernel_rfl))⟩,
    f26 := Exists.intro "slices.partitionEqualCmpFunc[pagewatch/api.Attempt]" ⟨of_decide_eq_true (by kernel_rfl), Eq.trans Try.func79 (congrArg some (by kernel_rfl))⟩,
    f27 := Exists.intro "slices.partitionCmpFunc[pagewatch/api.Attempt]" ⟨of_decide_eq_true (by kernel_rfl), Eq.trans Try.func80 (congrArg some (by kernel_rfl))⟩,
    f28 := Eq.trans Try.func81 (congrArg some (by kernel_rfl)),
    f29 := Eq.trans Try.func82 (congrArg some (by kernel_rfl)),
    f46 := Exists.intro "slices.siftDownCmpFunc[pagewatch/api.Attempt]" ⟨of_decide_eq_true (by kernel_rfl), Eq.trans Try.func92 (congrArg some (by kernel_rfl))⟩,
    f47 := Eq.trans Try.func93 (congrArg some (by kernel_rfl)),
    f48 := Eq.trans Try.func94 (congrArg some (by kernel_rfl)),
    f49 := Exists.intro "slices.medianAdjacentCmpFunc[pagewatch/api.Attempt]" ⟨of_decide_eq_true (by kernel_rfl), Eq.trans Try.func95 (congrArg some (by kernel_rfl))⟩,
    f50 := Exists.intro "slices.medianCmpFunc[pagewatch/api.Attempt]" ⟨of_decide_eq_true (by kernel_rfl), Eq.trans Try.func96 (congrArg some (by kernel_rfl))⟩,
    f57 := Exists.intro "slices.order2CmpFunc[pagewatch/api.Attempt]" ⟨of_decide_eq_true (by kernel_rfl), Eq.trans Try.func101 (congrArg some (by kernel_rfl))⟩,
    t0 := Try.underlying0,
    a0 := Try.isAgg0,
    z0 := Try.sizeOf0,
    v0 := Try.zeroValue0,
    t3 := Try.underlying3,
    a3 := Try.isAgg3,
    z3 := Try.sizeOf3,
    v3 := Try.zeroValue3,
    t4 := Try.underlying4,
    a4 := Try.isAgg4,
    z4 := Try.sizeOf4,
    v4 := Try.zeroValue4,
    t5 := Try.underlying5,
    a5 := Try.isAgg5,
    z5 := Try.sizeOf5,
    v5 := Try.zeroValue5,
    t9 := Try.underlying9,
    a9 := Try.isAgg9,
    z9 := Try.sizeOf9,
    v9 := Try.zeroValue9,
    t22 := Try.underlying33,
    a22 := Try.isAgg33,
    z22 := Try.sizeOf33,
    v22 := Try.zeroValue33,
    t25 := Try.underlying81,
    a25 := Try.isAgg81,
    z25 := Try.sizeOf81,
    v25 := Try.zeroValue81,
    t39 := Try.underlying97,
    a39 := Try.isAgg97,
    z39 := Try.sizeOf97,
    v39 := Try.zeroValue97,
    t45 := Try.underlying103,
    a45 := Try.isAgg103,
    z45 := Try.sizeOf103,
    v45 := Try.zeroValue103,
    t46 := Try.underlying104,
    a46 := Try.isAgg104,
    z46 := Try.sizeOf104,
    v46 := Try.zeroValue104,
    t50 := Try.underlying66,
    a50 := Try.isAgg66,
    z50 := Try.sizeOf66,
    v50 := Try.zeroValue66,
    t53 := Try.underlying23,
    a53 := Try.isAgg23,
    z53 := Try.sizeOf23,
    v53 := Try.zeroValue23,
    t55 := Try.underlying111,
    a55 := Try.isAgg111,
    z55 := Try.sizeOf111,
    v55 := Try.zeroValue111,
    t66 := Try.underlying118,
    a66 := Try.isAgg118,
    z66 := Try.sizeOf118,
    v66 := Try.zeroValue118,
    t70 := Try.underlying122,
    a70 := Try.isAgg122,
    z70 := Try.sizeOf122,
    v70 := Try.zeroValue122,
    t76 := Try.underlying126,
    a76 := Try.isAgg126,
    z76 := Try.sizeOf126,
    v76 := Try.zeroValue126,
    t77 := Try.underlying127,
    a77 := Try.isAgg127,
    z77 := Try.sizeOf127,
    v77 := Try.zeroValue127 }
def zqbk (x y z : Int) : Int := if x ≠ 0 then x else if y ≠ 0 then y else z
def zqbl : (Int × Int × Int) → Bool := fun x => (decide (0 ≤ x.1) && decide (x.1 ≤ 4611686018427387904)) && (decide (0 ≤ x.2.1) && decide (x.2.1 ≤ 4611686018427387904)) && (decide (0 ≤ x.2.2) && decide (x.2.2 ≤ 4611686018427387904))
def zqbm : (Int × Int × Int) → (Int × Int × Int) → Int := fun x y => zqbk (x.2.2 - y.2.2) (x.1 - y.1) (x.2.1 - y.2.1)
def zqbn : List (Int × Int × Int) → List (Int × Int × Int) := sortRun zqbl ((0, 0, 0) : Int × Int × Int) rfl zqbm

set_option maxHeartbeats 1000000 in
theorem zqbo (b cap : Nat) (x y z : Int) (w : World) (hx : w.cell? ⟨b, 0, none⟩ = some (.int .i64 x)) (hy : w.cell? ⟨b, 1, none⟩ = some (.int .i64 y)) (hz : w.cell? ⟨b, 2, none⟩ = some (.int .i64 z)) :
    Calls Try.prog 42 #[.slice (some ⟨b, 0, none⟩) 3 cap] w fun e w' => e = .returned (.int .i64 (zqbk x y z)) ∧ w' = w := by
  go_enter Try.func42, Try.ntmps42
  go_wp2
  go_loop [8] (fun i => (i = .int .i64 0 ∨ (i = .int .i64 1 ∧ x = 0) ∨ (i = .int .i64 2 ∧ x = 0 ∧ y = 0) ∨ (i = .int .i64 3 ∧ x = 0 ∧ y = 0 ∧ z = 0))) (fun i => match i with | .int _ n => 3 - n.toNat | _ => 0)
  case atStart => exact .inl rfl
  case round =>
    rcases hrel with rfl | ⟨rfl, rfl⟩ | ⟨rfl, rfl, rfl⟩ | ⟨rfl, rfl, rfl, rfl⟩
    · go_wp2
      · rename_i hne _
        have hn : x ≠ 0 := by simpa using hne
        have e : zqbk x y z = x := by unfold zqbk; rw [if_pos hn]
        rw [e]
        go_ret
        exact ⟨rfl, rfl⟩
      · rename_i he
        have hn : x = 0 := by simpa using he
        exact ⟨.inr (.inl ⟨rfl, hn⟩), by decide⟩
    · go_wp2
      · rename_i hne _
        have hn : y ≠ 0 := by simpa using hne
        have e : zqbk 0 y z = y := by unfold zqbk; rw [if_neg (by simp), if_pos hn]
        rw [e]
        go_ret
        exact ⟨rfl, rfl⟩
      · rename_i he
        have hn : y = 0 := by simpa using he
        exact ⟨.inr (.inr (.inl ⟨rfl, trivial, hn⟩)), by decide⟩
    · go_wp2
      · rename_i hne _
        have hn : z ≠ 0 := by simpa using hne
        have e : zqbk 0 0 z = z := by unfold zqbk; rw [if_neg (by simp), if_neg (by simp)]
        rw [e]
        go_ret
        exact ⟨rfl, rfl⟩
      · rename_i he
        have hn : z = 0 := by simpa using he
        exact ⟨.inr (.inr (.inr ⟨rfl, trivial, trivial, hn⟩)), by decide⟩
    · go_wp2
      go_ret
      exact ⟨rfl, rfl⟩

set_option maxHeartbeats 1000000 in
theorem zqbp (a0 a1 a2 b0 b1 b2 : Int) (W : World) (h1 : Go.RowKit.wrap64 (a2 - b2) = a2 - b2) (h2 : Go.RowKit.wrap64 (a0 - b0) = a0 - b0) (h3 : Go.RowKit.wrap64 (a1 - b1) = a1 - b1) :
    Calls Try.prog 41 #[.agg #[.int .i64 a0, .int .i64 a1, .int .i64 a2], .agg #[.int .i64 b0, .int .i64 b1, .int .i64 b2]] W fun e w' => e = .returned (.int .i64 (zqbk (a2 - b2) (a0 - b0) (a1 - b1))) ∧ ∃ q os', w' = Go.Sort.grow (W.drewN q) os' := by
  go_enter Try.func41, Try.ntmps41
  have hcall : ∀ (o1 o2 : Obj), Calls Try.prog 42 #[.slice (some ⟨W.heap.size + 1 + 1, 0, none⟩) 3 3] (((W.alloc o1).alloc o2).alloc (.cells #[.int .i64 (a2 - b2), .int .i64 (a0 - b0), .int .i64 (a1 - b1)] 3)) fun e w' => e = .returned (.int .i64 (zqbk (a2 - b2) (a0 - b0) (a1 - b1))) ∧ w' = (((W.alloc o1).alloc o2).alloc (.cells #[.int .i64 (a2 - b2), .int .i64 (a0 - b0), .int .i64 (a1 - b1)] 3)) := fun o1 o2 =>
    zqbo _ _ _ _ _ _ (by go_simp) (by go_simp) (by go_simp)
  go_wp2_with (refine (hcall _ _).mono ?_; rintro e w' ⟨rfl, rfl⟩)
  go_ret
  exact ⟨rfl, 0, _, by rw [Go.Sort.alloc_eq_grow, Go.Sort.alloc_eq_grow, Go.Sort.alloc_eq_grow, Go.Sort.grow_grow, Go.Sort.grow_grow]; rfl⟩
theorem zqbq (x y : Int × Int × Int) (hx : zqbl x = true) (hy : zqbl y = true) (W : World) : Calls Try.prog 41 #[.agg (encT (.prod (.int .i64) (.prod (.int .i64) (.int .i64))) x).toArray, .agg (encT (.prod (.int .i64) (.prod (.int .i64) (.int .i64))) y).toArray] W fun e w' => e = .returned (.int .i64 (zqbm x y)) ∧ ∃ q os', w' = Go.Sort.grow (W.drewN q) os' := by
  obtain ⟨a0, a1, a2⟩ := x
  obtain ⟨b0, b1, b2⟩ := y
  simp only [zqbl, Bool.and_eq_true, decide_eq_true_eq] at hx hy
  obtain ⟨⟨⟨p1, p2⟩, p3, p4⟩, p5, p6⟩ := hx
  obtain ⟨⟨⟨q1, q2⟩, q3, q4⟩, q5, q6⟩ := hy
  exact zqbp a0 a1 a2 b0 b1 b2 W (by unfold Go.RowKit.wrap64; omega) (by unfold Go.RowKit.wrap64; omega) (by unfold Go.RowKit.wrap64; omega)
theorem zqbr : Go.Sort.SWO (Go.Proofs.ltOf fun (x y : {x : Int × Int × Int // zqbl x = true}) => zqbm x.1 y.1) := by
  have key : ∀ a b : Int × Int × Int, zqbm a b < 0 ↔ (a.2.2 < b.2.2 ∨ (a.2.2 = b.2.2 ∧ (a.1 < b.1 ∨ (a.1 = b.1 ∧ a.2.1 < b.2.1)))) := by
    intro a b
    unfold zqbm zqbk
    split
    · omega
    · split <;> omega
  constructor
  · intro x
    refine decide_eq_false ?_
    rw [key]
    omega
  · intro x y z h1 h2
    have h1 := of_decide_eq_true h1
    have h2 := of_decide_eq_true h2
    rw [key] at h1 h2
    refine decide_eq_true ?_
    rw [key]
    omega
  · intro x y z h1 h2
    have h1 := of_decide_eq_false h1
    have h2 := of_decide_eq_false h2
    rw [key] at h1 h2
    refine decide_eq_false ?_
    rw [key]
    omega
def zqbs : RowF := ⟨39, (.prod (.int .i64) (.prod (.int .i64) (.int .i64))), false, fun l => List.all l zqbl && decide (List.length l < 4611686018427387904), zqbn, some 41⟩
theorem zqbt : RowOk Try.prog 40 zqbs :=
  sortFunc_rowok (t := 39) (e := (.prod (.int .i64) (.prod (.int .i64) (.int .i64)))) (good := zqbl) (d0 := ((0, 0, 0) : Int × Int × Int)) (h0 := rfl) (cf := zqbm) (g := 41) rfl (by decide) zqbj rfl Try.isAgg39 Try.sizeOf39 zqbr (Go.Proofs.enters_of Try.func41 (by kernel_rfl) rfl) zqbq ⟨_, Try.func40, by kernel_rfl, by kernel_rfl⟩

/-- pagewatch/delivery.Plan -/
abbrev zqbu := {β : Type} → (Int × List (Int × (Int × (Int × Int)))) → Int → ((List (Int × (Int × Int))) → Option β) → Option β
def zqbv (c : zqbu) : Spec :=
  ⟨[(true, [.data (.prod (.int .i64) (.slice (.prod (.int .i64) (.prod (.int .i64) (.prod (.int .i64) (.int .i64))))))]), (false, [.data (.int .i64)])], [], [(false, [.rowh 0])], [.row 39 (.prod (.int .i64) (.prod (.int .i64) (.int .i64)))], fun x k => c x.1.1.1 x.1.2.1.1 (fun r0 => k (((), ()), (r0, ())))⟩
noncomputable def delivery_Plan_p2_code : Code := codeAt 122 (bodyOf Try.f13)
noncomputable def delivery_Plan_p1_code : Code := codeAt 230 (loopBody delivery_Plan_p2_code)
abbrev zqbw (β : Type) := Int → (List (Int × (Int × (Int × Int)))) → Int → Int → (List (Int × (Int × Int))) → Option β
abbrev zqbx := {β : Type} → zqbw β → Int → Int → (List (Int × (Int × (Int × Int)))) → Int → Int → Int → Int → (List (Int × (Int × Int))) → Int → Int → Int → Int → Option β
def zqby : View := ⟨0, [1, 5, 6, 7, 18, 19, 20, 26, 27], [(false, [.data (.int .i64)]), (false, [.rowh 0]), (false, [.data (.int .i64)]), (false, [.ptr 1 0]), (false, [.data (.slice (.prod (.int .i64) (.prod (.int .i64) (.prod (.int .i64) (.int .i64)))))]), (false, [.data (.int .i64)]), (false, [.data (.int .i64)]), (false, [.data (.int .i64)]), (false, [.data (.int .i64)])], [.row 39 (.prod (.int .i64) (.prod (.int .i64) (.int .i64))), .cells 36 [.data (.int .i64), .data (.int .i64), .data (.int .i64), .data (.int .i64)]]⟩
def zqbz : List (AExit × View) := [(.exit 2, ⟨0, [1, 5, 18, 19, 20], [(false, [.data (.int .i64)]), (false, [.rowh 0]), (false, [.data (.slice (.prod (.int .i64) (.prod (.int .i64) (.prod (.int .i64) (.int .i64)))))]), (false, [.data (.int .i64)]), (false, [.data (.int .i64)])], [.row 39 (.prod (.int .i64) (.prod (.int .i64) (.int .i64)))]⟩)]
@[reducible] def delivery_Plan_p1_G (p : zqbx) {β : Type} (d : zqby.den) (ks : Outs.K β zqbz) : Option β :=
  p (fun a0 a1 a2 a3 a4 => ks.1 (((a0, ()), (), (a1, ()), (a2, ()), (a3, ()), ()), (a4, ()))) d.1.1.1 d.1.2.2.1.1 d.1.2.2.2.2.1.1 d.1.2.2.2.2.2.1.1 d.1.2.2.2.2.2.2.1.1 d.1.2.2.2.2.2.2.2.1.1 d.1.2.2.2.2.2.2.2.2.1.1 d.2.1 d.2.2.1.1 d.2.2.1.2.1 d.2.2.1.2.2.1 d.2.2.1.2.2.2.1
abbrev zqc0 (β : Type) := (List (Int × (Int × Int))) → Option β
abbrev zqc1 := {β : Type} → zqc0 β → Int → (List (Int × (Int × (Int × Int)))) → Int → Int → (List (Int × (Int × Int))) → Option β
def zqc2 : View := ⟨0, [1, 5, 18, 19, 20], [(false, [.data (.int .i64)]), (false, [.rowh 0]), (false, [.data (.slice (.prod (.int .i64) (.prod (.int .i64) (.prod (.int .i64) (.int .i64)))))]), (false, [.data (.int .i64)]), (false, [.data (.int .i64)])], [.row 39 (.prod (.int .i64) (.prod (.int .i64) (.int .i64)))]⟩
def zqc3 : List (AExit × View) := [(.exit 0, ⟨0, [5], [(false, [.rowh 0])], [.row 39 (.prod (.int .i64) (.prod (.int .i64) (.int .i64)))]⟩)]
@[reducible] def delivery_Plan_p2_G (p : zqc1) {β : Type} (d : zqc2.den) (ks : Outs.K β zqc3) : Option β :=
  p (fun a0 => ks.1 (((), ()), (a0, ()))) d.1.1.1 d.1.2.2.1.1 d.1.2.2.2.1.1 d.1.2.2.2.2.1.1 d.2.1
section
variable (c_delivery_Valid : zqbb) (c_delivery_in : zq1m)
@[reducible] def delivery_Plan_X : Ctx := ⟨look tab, pick1 [(31, .spec (zqbc c_delivery_Valid)), (39, .spec (zq1n c_delivery_in)), (40, .rows zqbs)], false, false, false, false⟩
def zqc4 {β : Type} (rec : Int → Int → (List (Int × (Int × (Int × Int)))) → Int → Int → Int → Int → (List (Int × (Int × Int))) → Int → Int → Int → Int → Option β) (k1 : zqbw β) (start : Int) (c : Int) (t18 : List (Int × (Int × (Int × Int)))) (t19 : Int) (t20 : Int) (t26 : Int) (t27 : Int) (out : List (Int × (Int × Int))) (ch : Int) (ch2 : Int) (ch3 : Int) (ch4 : Int) : Option β :=
  cond (decide (t27 < t26))
  (let l : List (Int × (Int × Int)) := ([(c, (t27, (IntKind.i64.wrap (start + (IntKind.i64.wrap (t27 * ch4))))))] : List (Int × (Int × Int)));
  cond (decide ((List.length out + List.length l) * 24 ≤ roomMax))
  (let l2 : List (Int × (Int × Int)) := (out ++ l);
  rec start c t18 t19 t20 t26 (IntKind.i64.wrap (t27 + (1 : Int))) l2 ch ch2 ch3 ch4)
  none)
  (k1 start t18 t19 t20 out)
def zqc5 {β : Type} : Nat → zqbw β → Int → Int → (List (Int × (Int × (Int × Int)))) → Int → Int → Int → Int → (List (Int × (Int × Int))) → Int → Int → Int → Int → Option β
  | 0 => fun _ _ _ _ _ _ _ _ _ _ _ _ _ => none
  | i + 1 => fun k1 start c t18 t19 t20 t26 t27 out ch ch2 ch3 ch4 => zqc4 (zqc5 i k1) k1 start c t18 t19 t20 t26 t27 out ch ch2 ch3 ch4
theorem zqc6 (hΓ : ΓOk Try.prog (delivery_Plan_X c_delivery_Valid c_delivery_in).Γ) (i : Nat) : PieceOk Try.prog 47 0 delivery_Plan_p1_code zqby zqbz (delivery_Plan_p1_G (zqc5 i)) := by
  rw [show delivery_Plan_p1_code = .loop (loopBody delivery_Plan_p1_code) by kernel_rfl]
  exact piece_loop (X := (delivery_Plan_X c_delivery_Valid c_delivery_in)) (p := 1) (Λ := pick1 []) (G := fun i => @fun β d ks => delivery_Plan_p1_G (zqc5 i) d ks) mixed tab_ok hΓ rfl (by kernel_rfl) CutsOk_nil (fun _ _ => rfl) (fun i => @fun β d ks r h => Eq.trans (b := delivery_Plan_p1_G (zqc5 (i + 1)) d ks) (by kernel_rfl) h) i
def zqc7 (p1 : zqbx) {β : Type} (rec : Int → (List (Int × (Int × (Int × Int)))) → Int → Int → (List (Int × (Int × Int))) → Option β) (k1 : zqc0 β) (start : Int) (t18 : List (Int × (Int × (Int × Int)))) (t19 : Int) (t20 : Int) (out : List (Int × (Int × Int))) : Option β :=
  cond (decide (t20 < t19))
  (cond (decide (0 ≤ t20) && decide (t20 < (List.length t18 : Int)))
  (let e : (Int × (Int × (Int × Int))) := List.getD t18 (Int.toNat t20) ((0 : Int), ((0 : Int), ((0 : Int), (0 : Int))));
  p1 (fun (start2 : Int) (t182 : List (Int × (Int × (Int × Int)))) (t192 : Int) (t202 : Int) (out2 : List (Int × (Int × Int))) =>
  rec start2 t182 t192 (IntKind.i64.wrap (t202 + (1 : Int))) out2) start t20 t18 t19 t20 e.2.2.1 (0 : Int) out e.1 e.2.1 e.2.2.1 e.2.2.2)
  none)
  (k1 out)
def zqc8 (p1 : zqbx) {β : Type} : Nat → zqc0 β → Int → (List (Int × (Int × (Int × Int)))) → Int → Int → (List (Int × (Int × Int))) → Option β
  | 0 => fun _ _ _ _ _ _ => none
  | i + 1 => fun k1 start t18 t19 t20 out => zqc7 p1 (zqc8 p1 i k1) k1 start t18 t19 t20 out
theorem zqc9 (hΓ : ΓOk Try.prog (delivery_Plan_X c_delivery_Valid c_delivery_in).Γ) (p1 : zqbx) (hp1 : PieceOk Try.prog 47 0 delivery_Plan_p1_code zqby zqbz (delivery_Plan_p1_G p1)) (i : Nat) : PieceOk Try.prog 47 0 delivery_Plan_p2_code zqc2 zqc3 (delivery_Plan_p2_G (zqc8 p1 i)) := by
  rw [show delivery_Plan_p2_code = .loop (loopBody delivery_Plan_p2_code) by kernel_rfl]
  exact piece_loop (X := (delivery_Plan_X c_delivery_Valid c_delivery_in)) (p := 1) (Λ := pick1 [(230, pieceCut zqby zqbz (delivery_Plan_p1_G p1))]) (G := fun i => @fun β d ks => delivery_Plan_p2_G (zqc8 p1 i) d ks) mixed tab_ok hΓ rfl (by kernel_rfl) (CutsOk_cons (q := 230) (c' := delivery_Plan_p1_code) (by kernel_rfl) rfl hp1 CutsOk_nil) (fun _ _ => rfl) (fun i => @fun β d ks r h => Eq.trans (b := delivery_Plan_p2_G (zqc8 p1 (i + 1)) d ks) (by kernel_rfl) h) i
def zqca (p2 : zqc1) {β : Type} (p_ : (Int × List (Int × (Int × (Int × Int))))) (start : Int) (k : ((List (Int × (Int × Int))) → Option β)) : Option β :=
  c_delivery_Valid p_ (fun (rValid : Bool) =>
  cond (!rValid)
  (k ([] : List (Int × (Int × Int))))
  (c_delivery_in start (0 : Int) (8589934592 : Int) (fun (rin : Bool) =>
  cond (!rin)
  (k ([] : List (Int × (Int × Int))))
  (p2 (fun (out : List (Int × (Int × Int))) =>
  cond ((List.all out zqbl) && decide (List.length out < 4611686018427387904))
  (let l : List (Int × (Int × Int)) := (zqbn out);
  k l)
  none) start p_.2 (List.length p_.2 : Int) (0 : Int) ([] : List (Int × (Int × Int)))))))
theorem zqcb (hΓ : ΓOk Try.prog (delivery_Plan_X c_delivery_Valid c_delivery_in).Γ) (p2 : zqc1) (hp2 : PieceOk Try.prog 47 0 delivery_Plan_p2_code zqc2 zqc3 (delivery_Plan_p2_G p2)) : SpecOk Try.prog 13 (zqbv (zqca c_delivery_Valid c_delivery_in p2)) :=
  spec_exec (X := (delivery_Plan_X c_delivery_Valid c_delivery_in)) (Λ := pick1 [(122, pieceCut zqc2 zqc3 (delivery_Plan_p2_G p2))]) (rs := [.tmp 4]) (c := bodyOf Try.f13) mixed tab_ok hΓ Try.func13 (by kernel_rfl) (by kernel_rfl) (by kernel_rfl) (by kernel_rfl) (CutsOk_cons (q := 122) (c' := delivery_Plan_p2_code) (by kernel_rfl) rfl hp2 CutsOk_nil) (fun x k r h => Eq.trans (b := (zqbv (zqca c_delivery_Valid c_delivery_in p2)).run x k) (by kernel_rfl) h)
end
theorem zqccΓ : ΓOk Try.prog (pick1 [(31, .spec (zqbc zqbg)), (39, .spec (zq1n zq1r)), (40, .rows zqbs)]) := (ΓOk_cons zqbh (ΓOk_cons zq1s (ΓOk_row zqbt ΓOk_nil)))
def zqcd (m : Nat) : zqbx := zqc5 m
theorem zqce {β : Type} (i : Nat) (k1 start c t18 t19 t20 t26 t27 out ch ch2 ch3 ch4) : (zqcd (i + 1) k1 start c t18 t19 t20 t26 t27 out ch ch2 ch3 ch4 : Option β) = zqc4 (zqcd i k1) k1 start c t18 t19 t20 t26 t27 out ch ch2 ch3 ch4 := rfl
def zqcf : zqbx := zqcd fuel
theorem zqcg : PieceOk Try.prog 47 0 delivery_Plan_p1_code zqby zqbz (delivery_Plan_p1_G zqcf) := zqc6 zqbg zq1r zqccΓ fuel
def zqch (m : Nat) : zqc1 := zqc8 zqcf m
theorem zqci {β : Type} (i : Nat) (k1 start t18 t19 t20 out) : (zqch (i + 1) k1 start t18 t19 t20 out : Option β) = zqc7 zqcf (zqch i k1) k1 start t18 t19 t20 out := rfl
def zqcj : zqc1 := zqch fuel
theorem zqck : PieceOk Try.prog 47 0 delivery_Plan_p2_code zqc2 zqc3 (delivery_Plan_p2_G zqcj) := zqc9 zqbg zq1r zqccΓ zqcf zqcg fuel
def zqcl : zqbu := zqca zqbg zq1r zqcj
theorem zqcm : SpecOk Try.prog 13 (zqbv zqcl) := zqcb zqbg zq1r zqccΓ zqcj zqck

/-- slices.IndexFunc[[]int,int] -/
abbrev zqcn := {β : Type} → (List Int) → (Int × (Int × Int)) → (Int → (Int × (Int × Int)) → Option β) → Option β
def zqco (c : zqcn) : Spec :=
  ⟨[(false, [.data (.slice (.int .i64))]), (false, [.fn 45 [0]])], [.cells 39 [.data (.prod (.int .i64) (.prod (.int .i64) (.int .i64)))]], [(false, [.data (.int .i64)])], [.cells 39 [.data (.prod (.int .i64) (.prod (.int .i64) (.int .i64)))]], fun x k => c x.1.1.1 x.2.1.1 (fun r0 r1 => k (((r0, ()), ()), ((r1, ()), ())))⟩
noncomputable def slices_IndexFunc_int_int_vdelivery_Run_f1_p1_code : Code := codeAt 26 (bodyOf Try.f67)
abbrev zqcp (β : Type) := Int → Int → Int → Int → Option β
abbrev zqcq (β : Type) := Int → Int → Int → Option β
abbrev zqcr := {β : Type} → zqcp β → zqcq β → (List Int) → Int → Int → Int → Int → Int → Option β
def zqcs : View := ⟨1, [0, 1, 7, 8], [(false, [.data (.slice (.int .i64))]), (false, [.fn 45 [0]]), (false, [.data (.int .i64)]), (false, [.data (.int .i64)])], [.cells 39 [.data (.int .i64), .data (.int .i64), .data (.int .i64)]]⟩
def zqct : List (AExit × View) := [(.ret, ⟨1, [4], [(false, [.data (.int .i64)])], [.cells 39 [.data (.int .i64), .data (.int .i64), .data (.int .i64)]]⟩), (.exit 0, ⟨1, [], [], [.cells 39 [.data (.int .i64), .data (.int .i64), .data (.int .i64)]]⟩)]
@[reducible] def slices_IndexFunc_int_int_vdelivery_Run_f1_p1_G (p : zqcr) {β : Type} (d : zqcs.den) (ks : Outs.K β zqct) : Option β :=
  p (fun a0 a1 a2 a3 => ks.1 (((a0, ()), ()), ((a1, a2, a3, ()), ()))) (fun a0 a1 a2 => ks.2.1 ((), ((a0, a1, a2, ()), ()))) d.1.1.1 d.1.2.2.1.1 d.1.2.2.2.1.1 d.2.1.1 d.2.1.2.1 d.2.1.2.2.1
section
variable (c_delivery_Run_f1 : zq20)
@[reducible] def slices_IndexFunc_int_int_vdelivery_Run_f1_X : Ctx := ⟨look tab, pick1 [(45, .spec (zq21 c_delivery_Run_f1))], false, false, false, false⟩
def zqcu {β : Type} (rec : (List Int) → Int → Int → Int → Int → Int → Option β) (k1 : zqcp β) (k2 : zqcq β) (s : List Int) (t7 : Int) (t8 : Int) (b0_ : Int) (b0_2 : Int) (b0_3 : Int) : Option β :=
  cond (decide (t8 < t7))
  (cond (decide (0 ≤ t8) && decide (t8 < (List.length s : Int)))
  (let e : Int := List.getD s (Int.toNat t8) (0 : Int);
  c_delivery_Run_f1 e (b0_, (b0_2, b0_3)) (fun (rRun1 : Bool) (mrRun1 : (Int × (Int × Int))) =>
  cond rRun1
  (k1 t8 mrRun1.1 mrRun1.2.1 mrRun1.2.2)
  (rec s t7 (IntKind.i64.wrap (t8 + (1 : Int))) mrRun1.1 mrRun1.2.1 mrRun1.2.2)))
  none)
  (k2 b0_ b0_2 b0_3)
def zqcv {β : Type} : Nat → zqcp β → zqcq β → (List Int) → Int → Int → Int → Int → Int → Option β
  | 0 => fun _ _ _ _ _ _ _ _ => none
  | i + 1 => fun k1 k2 s t7 t8 b0_ b0_2 b0_3 => zqcu c_delivery_Run_f1 (zqcv i k1 k2) k1 k2 s t7 t8 b0_ b0_2 b0_3
theorem zqcw (hΓ : ΓOk Try.prog (slices_IndexFunc_int_int_vdelivery_Run_f1_X c_delivery_Run_f1).Γ) (i : Nat) : PieceOk Try.prog 19 1 slices_IndexFunc_int_int_vdelivery_Run_f1_p1_code zqcs zqct (slices_IndexFunc_int_int_vdelivery_Run_f1_p1_G (zqcv c_delivery_Run_f1 i)) := by
  rw [show slices_IndexFunc_int_int_vdelivery_Run_f1_p1_code = .loop (loopBody slices_IndexFunc_int_int_vdelivery_Run_f1_p1_code) by kernel_rfl]
  exact piece_loop (X := (slices_IndexFunc_int_int_vdelivery_Run_f1_X c_delivery_Run_f1)) (p := 1) (Λ := pick1 []) (G := fun i => @fun β d ks => slices_IndexFunc_int_int_vdelivery_Run_f1_p1_G (zqcv c_delivery_Run_f1 i) d ks) mixed tab_ok hΓ rfl (by kernel_rfl) CutsOk_nil (fun _ _ => rfl) (fun i => @fun β d ks r h => Eq.trans (b := slices_IndexFunc_int_int_vdelivery_Run_f1_p1_G (zqcv c_delivery_Run_f1 (i + 1)) d ks) (by kernel_rfl) h) i
def zqcx (p1 : zqcr) {β : Type} (s : List Int) (b0_ : (Int × (Int × Int))) (k : (Int → (Int × (Int × Int)) → Option β)) : Option β :=
  p1 (fun (t4 : Int) (b0_2 : Int) (b0_3 : Int) (b0_4 : Int) =>
  k t4 (b0_2, (b0_3, b0_4))) (fun (b0_2 : Int) (b0_3 : Int) (b0_4 : Int) =>
  k (-1 : Int) (b0_2, (b0_3, b0_4))) s (List.length s : Int) (0 : Int) b0_.1 b0_.2.1 b0_.2.2
theorem zqcy (hΓ : ΓOk Try.prog (slices_IndexFunc_int_int_vdelivery_Run_f1_X c_delivery_Run_f1).Γ) (p1 : zqcr) (hp1 : PieceOk Try.prog 19 1 slices_IndexFunc_int_int_vdelivery_Run_f1_p1_code zqcs zqct (slices_IndexFunc_int_int_vdelivery_Run_f1_p1_G p1)) : SpecOk Try.prog 67 (zqco (zqcx p1)) :=
  spec_exec (X := (slices_IndexFunc_int_int_vdelivery_Run_f1_X c_delivery_Run_f1)) (Λ := pick1 [(26, pieceCut zqcs zqct (slices_IndexFunc_int_int_vdelivery_Run_f1_p1_G p1))]) (rs := [.tmp 4]) (c := bodyOf Try.f67) mixed tab_ok hΓ Try.func67 (by kernel_rfl) (by kernel_rfl) (by kernel_rfl) (by kernel_rfl) (CutsOk_cons (q := 26) (c' := slices_IndexFunc_int_int_vdelivery_Run_f1_p1_code) (by kernel_rfl) rfl hp1 CutsOk_nil) (fun x k r h => Eq.trans (b := (zqco (zqcx p1)).run x k) (by kernel_rfl) h)
end
theorem zqczΓ : ΓOk Try.prog (pick1 [(45, .spec (zq21 zq25))]) := (ΓOk_cons zq26 ΓOk_nil)
def zqd0 (m : Nat) : zqcr := zqcv zq25 m
theorem zqd1 {β : Type} (i : Nat) (k1 k2 s t7 t8 b0_ b0_2 b0_3) : (zqd0 (i + 1) k1 k2 s t7 t8 b0_ b0_2 b0_3 : Option β) = zqcu zq25 (zqd0 i k1 k2) k1 k2 s t7 t8 b0_ b0_2 b0_3 := rfl
def zqd2 : zqcr := zqd0 fuel
theorem zqd3 : PieceOk Try.prog 19 1 slices_IndexFunc_int_int_vdelivery_Run_f1_p1_code zqcs zqct (slices_IndexFunc_int_int_vdelivery_Run_f1_p1_G zqd2) := zqcw zq25 zqczΓ fuel
def zqd4 : zqcn := zqcx zqd2
theorem zqd5 : SpecOk Try.prog 67 (zqco zqd4) := zqcy zq25 zqczΓ zqd2 zqd3

/-- slices.ContainsFunc[[]int,int] -/
abbrev zqd6 := {β : Type} → (List Int) → (Int × (Int × Int)) → (Bool → (Int × (Int × Int)) → Option β) → Option β
def zqd7 (c : zqd6) : Spec :=
  ⟨[(false, [.data (.slice (.int .i64))]), (false, [.fn 45 [0]])], [.cells 39 [.data (.prod (.int .i64) (.prod (.int .i64) (.int .i64)))]], [(false, [.data .bool])], [.cells 39 [.data (.prod (.int .i64) (.prod (.int .i64) (.int .i64)))]], fun x k => c x.1.1.1 x.2.1.1 (fun r0 r1 => k (((r0, ()), ()), ((r1, ()), ())))⟩
section
variable (c_slices_IndexFunc_int_int_vdelivery_Run_f1 : zqcn)
@[reducible] def slices_ContainsFunc_int_int_vdelivery_Run_f1_X : Ctx := ⟨look tab, pick1 [(67, .spec (zqco c_slices_IndexFunc_int_int_vdelivery_Run_f1))], false, false, false, false⟩
def zqd8 {β : Type} (s : List Int) (b0_ : (Int × (Int × Int))) (k : (Bool → (Int × (Int × Int)) → Option β)) : Option β :=
  c_slices_IndexFunc_int_int_vdelivery_Run_f1 s b0_ (fun (rIndexFuncintint : Int) (mrIndexFuncintint : (Int × (Int × Int))) =>
  let t : Bool := (decide ((0 : Int) ≤ rIndexFuncintint));
  k t mrIndexFuncintint)
theorem zqd9 (hΓ : ΓOk Try.prog (slices_ContainsFunc_int_int_vdelivery_Run_f1_X c_slices_IndexFunc_int_int_vdelivery_Run_f1).Γ) : SpecOk Try.prog 44 (zqd7 (zqd8 c_slices_IndexFunc_int_int_vdelivery_Run_f1)) :=
  spec_exec (X := (slices_ContainsFunc_int_int_vdelivery_Run_f1_X c_slices_IndexFunc_int_int_vdelivery_Run_f1)) (Λ := pick1 []) (rs := [.tmp 4]) (c := bodyOf Try.f44) mixed tab_ok hΓ Try.func44 (by kernel_rfl) (by kernel_rfl) (by kernel_rfl) (by kernel_rfl) CutsOk_nil (fun x k r h => Eq.trans (b := (zqd7 (zqd8 c_slices_IndexFunc_int_int_vdelivery_Run_f1)).run x k) (by kernel_rfl) h)
end
theorem zqdaΓ : ΓOk Try.prog (pick1 [(67, .spec (zqco zqd4))]) := (ΓOk_cons zqd5 ΓOk_nil)
def zqdb : zqd6 := zqd8 zqd4
theorem zqdc : SpecOk Try.prog 44 (zqd7 zqdb) := zqd9 zqd4 zqdaΓ

/-- pagewatch/delivery.Run -/
abbrev zqdd := {β : Type} → (Int × List (Int × (Int × (Int × Int)))) → Int → (List (List zq0)) → (Int → (List Int) → (List Int) → Option β) → Option β
def zqde (c : zqdd) : Spec :=
  ⟨[(true, [.data (.prod (.int .i64) (.slice (.prod (.int .i64) (.prod (.int .i64) (.prod (.int .i64) (.int .i64))))))]), (false, [.data (.int .i64)]), (false, [.data (.slice (.slice zq1))])], [], [(false, [.rowh 0]), (false, [.rowh 1]), (false, [.data (.int .i64)])], [.row 3 (.int .i64), .row 3 (.int .i64)], fun x k => c x.1.1.1 x.1.2.1.1 x.1.2.2.1.1 (fun r0 r1 r2 => k (((), (), (r0, ()), ()), (r1, r2, ())))⟩
noncomputable def delivery_Run_p3_code : Code := codeAt 58 (bodyOf Try.f16)
noncomputable def delivery_Run_p1_code : Code := codeAt 463 (loopBody delivery_Run_p3_code)
noncomputable def delivery_Run_p2_code : Code := codeAt 115 (loopBody delivery_Run_p3_code)
abbrev zqdf (β : Type) := (List (List zq0)) → Int → Int → Int → (List Int) → (List Int) → (List (Int × (Int × Int))) → Option β
abbrev zqdg := {β : Type} → zqdf β → (List (List zq0)) → Int → (List zq0) → Int → Int → (List Int) → (List Int) → (List (Int × (Int × Int))) → Int → Int → Int → Option β
def zqdh : View := ⟨0, [2, 6, 7, 8, 9, 11, 12, 17, 18, 19], [(false, [.data (.slice (.slice zq1))]), (false, [.rowh 0]), (false, [.rowh 1]), (false, [.data (.int .i64)]), (false, [.rowh 2]), (false, [.ptr 3 0]), (false, [.data (.slice zq1)]), (false, [.rowh 2]), (false, [.data (.int .i64)]), (false, [.data (.int .i64)])], [.row 3 (.int .i64), .row 3 (.int .i64), .row 39 (.prod (.int .i64) (.prod (.int .i64) (.int .i64))), .cells 39 [.data (.int .i64), .data (.int .i64), .data (.int .i64)]]⟩
def zqdi : List (AExit × View) := [(.normal, ⟨0, [2, 6, 7, 8, 9, 17, 18, 19], [(false, [.data (.slice (.slice zq1))]), (false, [.rowh 0]), (false, [.rowh 1]), (false, [.data (.int .i64)]), (false, [.rowh 2]), (false, [.rowh 2]), (false, [.data (.int .i64)]), (false, [.data (.int .i64)])], [.row 3 (.int .i64), .row 3 (.int .i64), .row 39 (.prod (.int .i64) (.prod (.int .i64) (.int .i64)))]⟩)]
@[reducible] def delivery_Run_p1_G (p : zqdg) {β : Type} (d : zqdh.den) (ks : Outs.K β zqdi) : Option β :=
  p (fun a0 a1 a2 a3 a4 a5 a6 => ks.1 (((a0, ()), (), (), (a1, ()), (), (), (a2, ()), (a3, ()), ()), (a4, a5, a6, ()))) d.1.1.1 d.1.2.2.2.1.1 d.1.2.2.2.2.2.2.1.1 d.1.2.2.2.2.2.2.2.2.1.1 d.1.2.2.2.2.2.2.2.2.2.1.1 d.2.1 d.2.2.1 d.2.2.2.1 d.2.2.2.2.1.1 d.2.2.2.2.1.2.1 d.2.2.2.2.1.2.2.1
abbrev zqdj (β : Type) := (List (List zq0)) → Int → Int → Int → (List Int) → (List Int) → (List (Int × (Int × Int))) → Option β
abbrev zqdk := {β : Type} → zqdj β → (List (List zq0)) → Int → Int → Int → (List Int) → (List Int) → (List (Int × (Int × Int))) → Int → Int → Int → Option β
def zqdl : View := ⟨0, [2, 6, 7, 8, 9, 11, 17, 18, 19], [(false, [.data (.slice (.slice zq1))]), (false, [.rowh 0]), (false, [.rowh 1]), (false, [.data (.int .i64)]), (false, [.rowh 2]), (false, [.ptr 3 0]), (false, [.rowh 2]), (false, [.data (.int .i64)]), (false, [.data (.int .i64)])], [.row 3 (.int .i64), .row 3 (.int .i64), .row 39 (.prod (.int .i64) (.prod (.int .i64) (.int .i64))), .cells 39 [.data (.int .i64), .data (.int .i64), .data (.int .i64)]]⟩
def zqdm : List (AExit × View) := [(.normal, ⟨0, [2, 6, 7, 8, 9, 17, 18, 19], [(false, [.data (.slice (.slice zq1))]), (false, [.rowh 0]), (false, [.rowh 1]), (false, [.data (.int .i64)]), (false, [.rowh 2]), (false, [.rowh 2]), (false, [.data (.int .i64)]), (false, [.data (.int .i64)])], [.row 3 (.int .i64), .row 3 (.int .i64), .row 39 (.prod (.int .i64) (.prod (.int .i64) (.int .i64)))]⟩)]
@[reducible] def delivery_Run_p2_G (p : zqdk) {β : Type} (d : zqdl.den) (ks : Outs.K β zqdm) : Option β :=
  p (fun a0 a1 a2 a3 a4 a5 a6 => ks.1 (((a0, ()), (), (), (a1, ()), (), (), (a2, ()), (a3, ()), ()), (a4, a5, a6, ()))) d.1.1.1 d.1.2.2.2.1.1 d.1.2.2.2.2.2.2.2.1.1 d.1.2.2.2.2.2.2.2.2.1.1 d.2.1 d.2.2.1 d.2.2.2.1 d.2.2.2.2.1.1 d.2.2.2.2.1.2.1 d.2.2.2.2.1.2.2.1
abbrev zqdn (β : Type) := Int → (List Int) → (List Int) → Option β
abbrev zqdo := {β : Type} → zqdn β → (List (List zq0)) → Int → Int → Int → (List Int) → (List Int) → (List (Int × (Int × Int))) → Option β
def zqdp : View := ⟨0, [2, 6, 7, 8, 9, 17, 18, 19], [(false, [.data (.slice (.slice zq1))]), (false, [.rowh 0]), (false, [.rowh 1]), (false, [.data (.int .i64)]), (false, [.rowh 2]), (false, [.rowh 2]), (false, [.data (.int .i64)]), (false, [.data (.int .i64)])], [.row 3 (.int .i64), .row 3 (.int .i64), .row 39 (.prod (.int .i64) (.prod (.int .i64) (.int .i64)))]⟩
def zqdq : List (AExit × View) := [(.exit 0, ⟨0, [6, 7, 8], [(false, [.rowh 0]), (false, [.rowh 1]), (false, [.data (.int .i64)])], [.row 3 (.int .i64), .row 3 (.int .i64)]⟩)]
@[reducible] def delivery_Run_p3_G (p : zqdo) {β : Type} (d : zqdp.den) (ks : Outs.K β zqdq) : Option β :=
  p (fun a0 a1 a2 => ks.1 (((), (), (a0, ()), ()), (a1, a2, ()))) d.1.1.1 d.1.2.2.2.1.1 d.1.2.2.2.2.2.2.1.1 d.1.2.2.2.2.2.2.2.1.1 d.2.1 d.2.2.1 d.2.2.2.1
section
variable (c_channel_Arrivals : zq56) (c_channel_Fates : zq4z) (c_channel_Receipts : zq5d) (c_delivery_Plan : zqbu) (c_slices_ContainsFunc_int_int_vdelivery_Run_f1 : zqd6)
@[reducible] def delivery_Run_X : Ctx := ⟨look tab, pick1 [(47, .spec (zq57 c_channel_Arrivals)), (46, .spec (zq50 c_channel_Fates)), (48, .spec (zq5e c_channel_Receipts)), (13, .spec (zqbv c_delivery_Plan)), (44, .spec (zqd7 c_slices_ContainsFunc_int_int_vdelivery_Run_f1)), (49, .rows zq29)], false, false, false, false⟩
def zqdr {β : Type} (k1 : zqdf β) (fates : List (List zq0)) (sent : Int) (f : List zq0) (t18 : Int) (t19 : Int) (arrivals : List Int) (receipts : List Int) (l : List (Int × (Int × Int))) (a : Int) (a2 : Int) (a3 : Int) : Option β :=
  c_channel_Fates f a2 (fun (rFates : zq0) =>
  c_channel_Arrivals a3 rFates (fun (lrArrivals : List Int) =>
  cond (decide ((List.length arrivals + List.length lrArrivals) * 8 ≤ roomMax))
  (let l2 : List Int := (arrivals ++ lrArrivals);
  c_channel_Receipts a3 rFates (fun (lrReceipts : List Int) =>
  cond (decide ((List.length receipts + List.length lrReceipts) * 8 ≤ roomMax))
  (let l3 : List Int := (receipts ++ lrReceipts);
  let sent2 : Int := (IntKind.i64.wrap (sent + (1 : Int)));
  k1 fates sent2 t18 t19 l2 l3 l)
  none))
  none))
def zqds {β : Type} (k1 : zqdf β) (fates : List (List zq0)) (sent : Int) (f : List zq0) (t18 : Int) (t19 : Int) (arrivals : List Int) (receipts : List Int) (l : List (Int × (Int × Int))) (a : Int) (a2 : Int) (a3 : Int) : Option β := zqdr c_channel_Arrivals c_channel_Fates c_channel_Receipts k1 fates sent f t18 t19 arrivals receipts l a a2 a3
theorem zqdt (hΓ : ΓOk Try.prog (delivery_Run_X c_channel_Arrivals c_channel_Fates c_channel_Receipts c_delivery_Plan c_slices_ContainsFunc_int_int_vdelivery_Run_f1).Γ) : PieceOk Try.prog 76 0 delivery_Run_p1_code zqdh zqdi (delivery_Run_p1_G (zqds c_channel_Arrivals c_channel_Fates c_channel_Receipts)) :=
  piece_exec (X := (delivery_Run_X c_channel_Arrivals c_channel_Fates c_channel_Receipts c_delivery_Plan c_slices_ContainsFunc_int_int_vdelivery_Run_f1)) (p := 463) (Λ := pick1 []) mixed tab_ok hΓ (by kernel_rfl) CutsOk_nil (fun d ks r h => Eq.trans (b := delivery_Run_p1_G (zqds c_channel_Arrivals c_channel_Fates c_channel_Receipts) d ks) (by kernel_rfl) h)
def zqdu (p1 : zqdg) {β : Type} (k1 : zqdj β) (fates : List (List zq0)) (sent : Int) (t18 : Int) (t19 : Int) (arrivals : List Int) (receipts : List Int) (l : List (Int × (Int × Int))) (a : Int) (a2 : Int) (a3 : Int) : Option β :=
  cond (decide (a < (List.length fates : Int)))
  (cond (decide (0 ≤ a) && decide (a < (List.length fates : Int)))
  (let e : List zq0 := List.getD fates (Int.toNat a) ([] : List zq0);
  p1 (fun (fates2 : List (List zq0)) (sent2 : Int) (t182 : Int) (t192 : Int) (arrivals2 : List Int) (receipts2 : List Int) (l2 : List (Int × (Int × Int))) =>
  k1 fates2 sent2 t182 t192 arrivals2 receipts2 l2) fates sent e t18 t19 arrivals receipts l a a2 a3)
  none)
  (p1 (fun (fates2 : List (List zq0)) (sent2 : Int) (t182 : Int) (t192 : Int) (arrivals2 : List Int) (receipts2 : List Int) (l2 : List (Int × (Int × Int))) =>
  k1 fates2 sent2 t182 t192 arrivals2 receipts2 l2) fates sent ([] : List zq0) t18 t19 arrivals receipts l a a2 a3)
def zqdv (p1 : zqdg) {β : Type} (k1 : zqdj β) (fates : List (List zq0)) (sent : Int) (t18 : Int) (t19 : Int) (arrivals : List Int) (receipts : List Int) (l : List (Int × (Int × Int))) (a : Int) (a2 : Int) (a3 : Int) : Option β := zqdu p1 k1 fates sent t18 t19 arrivals receipts l a a2 a3
theorem zqdw (hΓ : ΓOk Try.prog (delivery_Run_X c_channel_Arrivals c_channel_Fates c_channel_Receipts c_delivery_Plan c_slices_ContainsFunc_int_int_vdelivery_Run_f1).Γ) (p1 : zqdg) (hp1 : PieceOk Try.prog 76 0 delivery_Run_p1_code zqdh zqdi (delivery_Run_p1_G p1)) : PieceOk Try.prog 76 0 delivery_Run_p2_code zqdl zqdm (delivery_Run_p2_G (zqdv p1)) :=
  piece_exec (X := (delivery_Run_X c_channel_Arrivals c_channel_Fates c_channel_Receipts c_delivery_Plan c_slices_ContainsFunc_int_int_vdelivery_Run_f1)) (p := 115) (Λ := pick1 [(463, pieceCut zqdh zqdi (delivery_Run_p1_G p1))]) mixed tab_ok hΓ (by kernel_rfl) (CutsOk_cons (q := 463) (c' := delivery_Run_p1_code) (by kernel_rfl) rfl hp1 CutsOk_nil) (fun d ks r h => Eq.trans (b := delivery_Run_p2_G (zqdv p1) d ks) (by kernel_rfl) h)
def zqdx (p2 : zqdk) {β : Type} (rec : (List (List zq0)) → Int → Int → Int → (List Int) → (List Int) → (List (Int × (Int × Int))) → Option β) (k1 : zqdn β) (fates : List (List zq0)) (sent : Int) (t18 : Int) (t19 : Int) (arrivals : List Int) (receipts : List Int) (l : List (Int × (Int × Int))) : Option β :=
  cond (decide (t19 < t18))
  (cond (decide (0 ≤ t19) && decide (t19 < (List.length l : Int)))
  (cond (decide (t19 = (0 : Int)))
  (c_slices_ContainsFunc_int_int_vdelivery_Run_f1 receipts ((List.getD l (Int.toNat t19) ((0 : Int), ((0 : Int), (0 : Int)))).1, ((List.getD l (Int.toNat t19) ((0 : Int), ((0 : Int), (0 : Int)))).2)) (fun (rContainsFuncintint : Bool) (mrContainsFuncintint : (Int × (Int × Int))) =>
  cond rContainsFuncintint
  (k1 sent arrivals receipts)
  (p2 (fun (fates2 : List (List zq0)) (sent2 : Int) (t182 : Int) (t192 : Int) (arrivals2 : List Int) (receipts2 : List Int) (l2 : List (Int × (Int × Int))) =>
  rec fates2 sent2 t182 (IntKind.i64.wrap (t192 + (1 : Int))) arrivals2 receipts2 l2) fates sent t18 t19 arrivals receipts l mrContainsFuncintint.1 mrContainsFuncintint.2.1 mrContainsFuncintint.2.2)))
  (cond (decide (0 ≤ (IntKind.i64.wrap (t19 - (1 : Int)))) && decide ((IntKind.i64.wrap (t19 - (1 : Int))) < (List.length l : Int)))
  (cond (!decide ((((List.getD l (Int.toNat (IntKind.i64.wrap (t19 - (1 : Int)))) ((0 : Int), ((0 : Int), (0 : Int)))).2).2) = (((List.getD l (Int.toNat t19) ((0 : Int), ((0 : Int), (0 : Int)))).2).2)))
  (c_slices_ContainsFunc_int_int_vdelivery_Run_f1 receipts ((List.getD l (Int.toNat t19) ((0 : Int), ((0 : Int), (0 : Int)))).1, ((List.getD l (Int.toNat t19) ((0 : Int), ((0 : Int), (0 : Int)))).2)) (fun (rContainsFuncintint : Bool) (mrContainsFuncintint : (Int × (Int × Int))) =>
  cond rContainsFuncintint
  (k1 sent arrivals receipts)
  (p2 (fun (fates2 : List (List zq0)) (sent2 : Int) (t182 : Int) (t192 : Int) (arrivals2 : List Int) (receipts2 : List Int) (l2 : List (Int × (Int × Int))) =>
  rec fates2 sent2 t182 (IntKind.i64.wrap (t192 + (1 : Int))) arrivals2 receipts2 l2) fates sent t18 t19 arrivals receipts l mrContainsFuncintint.1 mrContainsFuncintint.2.1 mrContainsFuncintint.2.2)))
  (p2 (fun (fates2 : List (List zq0)) (sent2 : Int) (t182 : Int) (t192 : Int) (arrivals2 : List Int) (receipts2 : List Int) (l2 : List (Int × (Int × Int))) =>
  rec fates2 sent2 t182 (IntKind.i64.wrap (t192 + (1 : Int))) arrivals2 receipts2 l2) fates sent t18 t19 arrivals receipts l ((List.getD l (Int.toNat t19) ((0 : Int), ((0 : Int), (0 : Int)))).1) (((List.getD l (Int.toNat t19) ((0 : Int), ((0 : Int), (0 : Int)))).2).1) (((List.getD l (Int.toNat t19) ((0 : Int), ((0 : Int), (0 : Int)))).2).2)))
  none))
  none)
  (k1 sent arrivals receipts)
def zqdy (p2 : zqdk) {β : Type} : Nat → zqdn β → (List (List zq0)) → Int → Int → Int → (List Int) → (List Int) → (List (Int × (Int × Int))) → Option β
  | 0 => fun _ _ _ _ _ _ _ _ => none
  | i + 1 => fun k1 fates sent t18 t19 arrivals receipts l => zqdx c_slices_ContainsFunc_int_int_vdelivery_Run_f1 p2 (zqdy p2 i k1) k1 fates sent t18 t19 arrivals receipts l
theorem zqdz (hΓ : ΓOk Try.prog (delivery_Run_X c_channel_Arrivals c_channel_Fates c_channel_Receipts c_delivery_Plan c_slices_ContainsFunc_int_int_vdelivery_Run_f1).Γ) (p2 : zqdk) (hp2 : PieceOk Try.prog 76 0 delivery_Run_p2_code zqdl zqdm (delivery_Run_p2_G p2)) (i : Nat) : PieceOk Try.prog 76 0 delivery_Run_p3_code zqdp zqdq (delivery_Run_p3_G (zqdy c_slices_ContainsFunc_int_int_vdelivery_Run_f1 p2 i)) := by
  rw [show delivery_Run_p3_code = .loop (loopBody delivery_Run_p3_code) by kernel_rfl]
  exact piece_loop (X := (delivery_Run_X c_channel_Arrivals c_channel_Fates c_channel_Receipts c_delivery_Plan c_slices_ContainsFunc_int_int_vdelivery_Run_f1)) (p := 1) (Λ := pick1 [(115, pieceCut zqdl zqdm (delivery_Run_p2_G p2))]) (G := fun i => @fun β d ks => delivery_Run_p3_G (zqdy c_slices_ContainsFunc_int_int_vdelivery_Run_f1 p2 i) d ks) mixed tab_ok hΓ rfl (by kernel_rfl) (CutsOk_cons (q := 115) (c' := delivery_Run_p2_code) (by kernel_rfl) rfl hp2 CutsOk_nil) (fun _ _ => rfl) (fun i => @fun β d ks r h => Eq.trans (b := delivery_Run_p3_G (zqdy c_slices_ContainsFunc_int_int_vdelivery_Run_f1 p2 (i + 1)) d ks) (by kernel_rfl) h) i
def zqe0 (p3 : zqdo) {β : Type} (p_ : (Int × List (Int × (Int × (Int × Int))))) (start : Int) (fates : List (List zq0)) (k : (Int → (List Int) → (List Int) → Option β)) : Option β :=
  c_delivery_Plan p_ start (fun (lrPlan : List (Int × (Int × Int))) =>
  p3 (fun (sent : Int) (arrivals : List Int) (receipts : List Int) =>
  cond (decide (List.length arrivals < 4611686018427387904))
  (let l : List Int := (sortInts arrivals);
  cond (decide (List.length receipts < 4611686018427387904))
  (let l2 : List Int := (sortInts receipts);
  k sent l l2)
  none)
  none) fates (0 : Int) (List.length lrPlan : Int) (0 : Int) ([] : List Int) ([] : List Int) lrPlan)
theorem zqe1 (hΓ : ΓOk Try.prog (delivery_Run_X c_channel_Arrivals c_channel_Fates c_channel_Receipts c_delivery_Plan c_slices_ContainsFunc_int_int_vdelivery_Run_f1).Γ) (p3 : zqdo) (hp3 : PieceOk Try.prog 76 0 delivery_Run_p3_code zqdp zqdq (delivery_Run_p3_G p3)) : SpecOk Try.prog 16 (zqde (zqe0 c_delivery_Plan p3)) :=
  spec_exec (X := (delivery_Run_X c_channel_Arrivals c_channel_Fates c_channel_Receipts c_delivery_Plan c_slices_ContainsFunc_int_int_vdelivery_Run_f1)) (Λ := pick1 [(58, pieceCut zqdp zqdq (delivery_Run_p3_G p3))]) (rs := [.tmp 6, .tmp 7, .tmp 8]) (c := bodyOf Try.f16) mixed tab_ok hΓ Try.func16 (by kernel_rfl) (by kernel_rfl) (by kernel_rfl) (by kernel_rfl) (CutsOk_cons (q := 58) (c' := delivery_Run_p3_code) (by kernel_rfl) rfl hp3 CutsOk_nil) (fun x k r h => Eq.trans (b := (zqde (zqe0 c_delivery_Plan p3)).run x k) (by kernel_rfl) h)
end
theorem zqe2Γ : ΓOk Try.prog (pick1 [(47, .spec (zq57 zq5b)), (46, .spec (zq50 zq54)), (48, .spec (zq5e zq5t)), (13, .spec (zqbv zqcl)), (44, .spec (zqd7 zqdb)), (49, .rows zq29)]) := (ΓOk_cons zq5c (ΓOk_cons zq55 (ΓOk_cons zq5u (ΓOk_cons zqcm (ΓOk_cons zqdc (ΓOk_row zq2a ΓOk_nil))))))
def zqe3 : zqdg := zqds zq5b zq54 zq5t
theorem zqe4 : PieceOk Try.prog 76 0 delivery_Run_p1_code zqdh zqdi (delivery_Run_p1_G zqe3) := zqdt zq5b zq54 zq5t zqcl zqdb zqe2Γ
def zqe5 : zqdk := zqdv zqe3
theorem zqe6 : PieceOk Try.prog 76 0 delivery_Run_p2_code zqdl zqdm (delivery_Run_p2_G zqe5) := zqdw zq5b zq54 zq5t zqcl zqdb zqe2Γ zqe3 zqe4
def zqe7 (m : Nat) : zqdo := zqdy zqdb zqe5 m
theorem zqe8 {β : Type} (i : Nat) (k1 fates sent t18 t19 arrivals receipts l) : (zqe7 (i + 1) k1 fates sent t18 t19 arrivals receipts l : Option β) = zqdx zqdb zqe5 (zqe7 i k1) k1 fates sent t18 t19 arrivals receipts l := rfl
def zqe9 : zqdo := zqe7 fuel
theorem zqea : PieceOk Try.prog 76 0 delivery_Run_p3_code zqdp zqdq (delivery_Run_p3_G zqe9) := zqdz zq5b zq54 zq5t zqcl zqdb zqe2Γ zqe5 zqe6 fuel
def zqeb : zqdd := zqe0 zqcl zqe9
theorem zqec : SpecOk Try.prog 16 (zqde zqeb) := zqe1 zq5b zq54 zq5t zqcl zqdb zqe2Γ zqe9 zqea

/-- pagewatch/pagewatchlaw27.sane -/
abbrev zqed := {β : Type} → (Bool → Option β) → Option β
def zqee (c : zqed) : Spec :=
  ⟨[], [], [(false, [.data .bool])], [], fun x k => c  (fun r0 => k (((r0, ()), ()), ()))⟩
section
variable (c_delivery_Plan : zqbu) (c_delivery_Run : zqdd)
@[reducible] def law27_sane_X : Ctx := ⟨look tab, pick1 [(13, .spec (zqbv c_delivery_Plan)), (16, .spec (zqde c_delivery_Run))], false, false, false, false⟩
def zqef {β : Type} (k : (Bool → Option β)) : Option β :=
  let l : List (Int × (Int × (Int × Int))) := ([((0 : Int), ((9 : Int), ((2 : Int), (60 : Int)))), ((0 : Int), ((9 : Int), ((2 : Int), (90 : Int))))] : List (Int × (Int × (Int × Int))));
  c_delivery_Plan ((0 : Int), l) (0 : Int) (fun (lrPlan : List (Int × (Int × Int))) =>
  let l2 : List zq0 := ([(false, ((30 : Int), ((0 : Int), (0 : Int))))] : List zq0);
  let l3 : List (List zq0) := ([l2] : List (List zq0));
  c_delivery_Run ((0 : Int), l) (0 : Int) l3 (fun (rRun : Int) (lrRun : List Int) (lrRun2 : List Int) =>
  cond (decide ((List.length lrPlan : Int) = (4 : Int)))
  (cond (decide (0 ≤ (2 : Int)) && decide ((2 : Int) < (List.length lrPlan : Int)))
  (cond (decide ((((List.getD lrPlan (Int.toNat (2 : Int)) ((0 : Int), ((0 : Int), (0 : Int)))).2).2) = (60 : Int)))
  (cond (decide (0 ≤ (3 : Int)) && decide ((3 : Int) < (List.length lrPlan : Int)))
  (cond (decide ((((List.getD lrPlan (Int.toNat (3 : Int)) ((0 : Int), ((0 : Int), (0 : Int)))).2).2) = (90 : Int)))
  (cond (decide (rRun = (2 : Int)))
  (cond (decide ((List.length lrRun2 : Int) = (1 : Int)))
  (cond (decide (0 ≤ (0 : Int)) && decide ((0 : Int) < (List.length lrRun2 : Int)))
  (let t : Bool := (decide ((List.getD lrRun2 (Int.toNat (0 : Int)) (0 : Int)) = (30 : Int)));
  k t)
  none)
  (k false))
  (k false))
  (k false))
  none)
  (k false))
  none)
  (k false)))
theorem zqeg (hΓ : ΓOk Try.prog (law27_sane_X c_delivery_Plan c_delivery_Run).Γ) : SpecOk Try.prog 10 (zqee (zqef c_delivery_Plan c_delivery_Run)) :=
  spec_exec (X := (law27_sane_X c_delivery_Plan c_delivery_Run)) (Λ := pick1 []) (rs := [.tmp 0]) (c := bodyOf Try.f10) mixed tab_ok hΓ Try.func10 (by kernel_rfl) (by kernel_rfl) (by kernel_rfl) (by kernel_rfl) CutsOk_nil (fun x k r h => Eq.trans (b := (zqee (zqef c_delivery_Plan c_delivery_Run)).run x k) (by kernel_rfl) h)
end
theorem zqehΓ : ΓOk Try.prog (pick1 [(13, .spec (zqbv zqcl)), (16, .spec (zqde zqeb))]) := (ΓOk_cons zqcm (ΓOk_cons zqec ΓOk_nil))
def zqei : zqed := zqef zqcl zqeb
theorem zqej : SpecOk Try.prog 10 (zqee zqei) := zqeg zqcl zqeb zqehΓ

/-- pagewatch/pagewatchlaw27.DeliveryRuns -/
abbrev zqek := {β : Type} → (List Int) → Int → (List (List zq0)) → (Bool → Option β) → Option β
def zqel (c : zqek) : Spec :=
  ⟨[(false, [.data (.slice (.int .i64))]), (false, [.data (.int .i64)]), (false, [.data (.slice (.slice zq1))])], [], [(false, [.data .bool])], [], fun x k => c x.1.1.1 x.1.2.1.1 x.1.2.2.1.1 (fun r0 => k (((r0, ()), ()), ()))⟩
noncomputable def law27_DeliveryRuns_p1_code : Code := codeAt 506 (bodyOf Try.f4)
noncomputable def law27_DeliveryRuns_p3_code : Code := codeAt 1018 (bodyOf Try.f4)
noncomputable def law27_DeliveryRuns_p2_code : Code := codeAt 230 (loopBody law27_DeliveryRuns_p3_code)
abbrev zqem (β : Type) := Int → (List (List zq0)) → Int → (List (Int × (Int × (Int × Int)))) → (List (List zq0)) → Option β
abbrev zqen := {β : Type} → zqem β → Int → (List (List zq0)) → Int → Int → (List Int) → Int → Int → (List (Int × (Int × (Int × Int)))) → (List (List zq0)) → Option β
def zqeo : View := ⟨0, [1, 2, 7, 8, 9, 37, 38], [(false, [.data (.int .i64)]), (false, [.data (.slice (.slice zq1))]), (false, [.ptr 0 0]), (false, [.ptr 1 0]), (false, [.rowh 2]), (false, [.data (.int .i64)]), (false, [.data (.int .i64)])], [.cells 77 [.data (.slice (.int .i64)), .data (.int .i64)], .cells 29 [.data (.int .i64), .data (.slice (.prod (.int .i64) (.prod (.int .i64) (.prod (.int .i64) (.int .i64)))))], .row 44 (.slice zq1)]⟩
def zqep : List (AExit × View) := [(.exit 0, ⟨0, [1, 2, 8, 9], [(false, [.data (.int .i64)]), (false, [.data (.slice (.slice zq1))]), (false, [.ptr 0 0]), (false, [.rowh 1])], [.cells 29 [.data (.int .i64), .data (.slice (.prod (.int .i64) (.prod (.int .i64) (.prod (.int .i64) (.int .i64)))))], .row 44 (.slice zq1)]⟩)]
@[reducible] def law27_DeliveryRuns_p1_G (p : zqen) {β : Type} (d : zqeo.den) (ks : Outs.K β zqep) : Option β :=
  p (fun a0 a1 a2 a3 a4 => ks.1 (((a0, ()), (a1, ()), (), (), ()), ((a2, a3, ()), a4, ()))) d.1.1.1 d.1.2.1.1 d.1.2.2.2.2.2.1.1 d.1.2.2.2.2.2.2.1.1 d.2.1.1 d.2.1.2.1 d.2.2.1.1 d.2.2.1.2.1 d.2.2.2.1
abbrev zqeq (β : Type) := Bool → Option β
abbrev zqer (β : Type) := Int → Int → Int → Int → (List (Int × (Int × (Int × Int)))) → (List (List (List zq0))) → Option β
abbrev zqes := {β : Type} → zqeq β → zqer β → Int → (List (List zq0)) → Int → Int → Int → Int → Int → (List (Int × (Int × (Int × Int)))) → (List (List (List zq0))) → (List Int) → Option β
def zqet : View := ⟨0, [1, 8, 11, 48, 49, 50, 55, 56, 57], [(false, [.data (.int .i64)]), (false, [.ptr 0 0]), (false, [.data (.slice (.slice zq1))]), (false, [.rowh 1]), (false, [.data (.int .i64)]), (false, [.data (.int .i64)]), (false, [.rowh 2]), (false, [.data (.int .i64)]), (false, [.data (.int .i64)])], [.cells 29 [.data (.int .i64), .data (.slice (.prod (.int .i64) (.prod (.int .i64) (.prod (.int .i64) (.int .i64)))))], .row 42 (.slice (.slice zq1)), .row 3 (.int .i64)]⟩
def zqeu : List (AExit × View) := [(.ret, ⟨0, [6], [(false, [.data .bool])], []⟩), (.exit 4, ⟨0, [1, 8, 48, 49, 50], [(false, [.data (.int .i64)]), (false, [.ptr 0 0]), (false, [.rowh 1]), (false, [.data (.int .i64)]), (false, [.data (.int .i64)])], [.cells 29 [.data (.int .i64), .data (.slice (.prod (.int .i64) (.prod (.int .i64) (.prod (.int .i64) (.int .i64)))))], .row 42 (.slice (.slice zq1))]⟩)]
@[reducible] def law27_DeliveryRuns_p2_G (p : zqes) {β : Type} (d : zqet.den) (ks : Outs.K β zqeu) : Option β :=
  p (fun a0 => ks.1 (((a0, ()), ()), ())) (fun a0 a1 a2 a3 a4 a5 => ks.2.1 (((a0, ()), (), (), (a1, ()), (a2, ()), ()), ((a3, a4, ()), a5, ()))) d.1.1.1 d.1.2.2.1.1 d.1.2.2.2.2.1.1 d.1.2.2.2.2.2.1.1 d.1.2.2.2.2.2.2.2.1.1 d.1.2.2.2.2.2.2.2.2.1.1 d.2.1.1 d.2.1.2.1 d.2.2.1 d.2.2.2.1
abbrev zqev (β : Type) := Bool → Option β
abbrev zqew (β : Type) := Unit → Option β
abbrev zqex := {β : Type} → zqev β → zqew β → Int → Int → Int → Int → (List (Int × (Int × (Int × Int)))) → (List (List (List zq0))) → Option β
def zqey : View := ⟨0, [1, 8, 48, 49, 50], [(false, [.data (.int .i64)]), (false, [.ptr 0 0]), (false, [.rowh 1]), (false, [.data (.int .i64)]), (false, [.data (.int .i64)])], [.cells 29 [.data (.int .i64), .data (.slice (.prod (.int .i64) (.prod (.int .i64) (.prod (.int .i64) (.int .i64)))))], .row 42 (.slice (.slice zq1))]⟩
def zqez : List (AExit × View) := [(.ret, ⟨0, [6], [(false, [.data .bool])], []⟩), (.exit 2, ⟨0, [], [], []⟩)]
@[reducible] def law27_DeliveryRuns_p3_G (p : zqex) {β : Type} (d : zqey.den) (ks : Outs.K β zqez) : Option β :=
  p (fun a0 => ks.1 (((a0, ()), ()), ())) (fun _ => ks.2.1 ((), ())) d.1.1.1 d.1.2.2.2.1.1 d.1.2.2.2.2.1.1 d.2.1.1 d.2.1.2.1 d.2.2.1
section
variable (c_delivery_Run : zqdd) (c_law27_sane : zqed) (c_made_Dice_Fates : zq4h) (c_made_Dice_Next : zqi) (c_made_Dice_Person : zq3z) (c_made_Light : zq4) (c_made_Roll : zqb) (c_ref25_Same : zqp) (c_ref27_Run : zq9i)
@[reducible] def law27_DeliveryRuns_X : Ctx := ⟨look tab, pick1 [(16, .spec (zqde c_delivery_Run)), (10, .spec (zqee c_law27_sane)), (15, .spec (zq4i c_made_Dice_Fates)), (14, .spec (zqj c_made_Dice_Next)), (12, .spec (zq40 c_made_Dice_Person)), (9, .spec (zq5 c_made_Light)), (11, .spec (zqc c_made_Roll)), (18, .spec (zqq c_ref25_Same)), (17, .spec (zq9j c_ref27_Run))], false, false, false, false⟩
def zqf0 {β : Type} (rec : Int → (List (List zq0)) → Int → Int → (List Int) → Int → Int → (List (Int × (Int × (Int × Int)))) → (List (List zq0)) → Option β) (k1 : zqem β) (start : Int) (raw : List (List zq0)) (t37 : Int) (t38 : Int) (d : List Int) (d2 : Int) (p_ : Int) (p_2 : List (Int × (Int × (Int × Int)))) (l : List (List zq0)) : Option β :=
  cond (decide (t38 < t37))
  (c_made_Dice_Fates (d, d2) (fun (mrFates : (List Int × Int)) (lrFates : List zq0) =>
  let l2 : List (List zq0) := ([lrFates] : List (List zq0));
  cond (decide ((List.length l + List.length l2) * 24 ≤ roomMax))
  (let l3 : List (List zq0) := (l ++ l2);
  rec start raw t37 (IntKind.i64.wrap (t38 + (1 : Int))) mrFates.1 mrFates.2 p_ p_2 l3)
  none))
  (k1 start raw p_ p_2 l)
def zqf1 {β : Type} : Nat → zqem β → Int → (List (List zq0)) → Int → Int → (List Int) → Int → Int → (List (Int × (Int × (Int × Int)))) → (List (List zq0)) → Option β
  | 0 => fun _ _ _ _ _ _ _ _ _ _ => none
  | i + 1 => fun k1 start raw t37 t38 d d2 p_ p_2 l => zqf0 c_made_Dice_Fates (zqf1 i k1) k1 start raw t37 t38 d d2 p_ p_2 l
theorem zqf2 (hΓ : ΓOk Try.prog (law27_DeliveryRuns_X c_delivery_Run c_law27_sane c_made_Dice_Fates c_made_Dice_Next c_made_Dice_Person c_made_Light c_made_Roll c_ref25_Same c_ref27_Run).Γ) (i : Nat) : PieceOk Try.prog 95 0 law27_DeliveryRuns_p1_code zqeo zqep (law27_DeliveryRuns_p1_G (zqf1 c_made_Dice_Fates i)) := by
  rw [show law27_DeliveryRuns_p1_code = .loop (loopBody law27_DeliveryRuns_p1_code) by kernel_rfl]
  exact piece_loop (X := (law27_DeliveryRuns_X c_delivery_Run c_law27_sane c_made_Dice_Fates c_made_Dice_Next c_made_Dice_Person c_made_Light c_made_Roll c_ref25_Same c_ref27_Run)) (p := 1) (Λ := pick1 []) (G := fun i => @fun β d ks => law27_DeliveryRuns_p1_G (zqf1 c_made_Dice_Fates i) d ks) mixed tab_ok hΓ rfl (by kernel_rfl) CutsOk_nil (fun _ _ => rfl) (fun i => @fun β d ks r h => Eq.trans (b := law27_DeliveryRuns_p1_G (zqf1 c_made_Dice_Fates (i + 1)) d ks) (by kernel_rfl) h) i
def zqf3 {β : Type} (rec : Int → (List (List zq0)) → Int → Int → Int → Int → Int → (List (Int × (Int × (Int × Int)))) → (List (List (List zq0))) → (List Int) → Option β) (k1 : zqeq β) (k2 : zqer β) (start : Int) (fates : List (List zq0)) (t49 : Int) (t50 : Int) (t56 : Int) (t57 : Int) (p_ : Int) (p_2 : List (Int × (Int × (Int × Int)))) (t48 : List (List (List zq0))) (t55 : List Int) : Option β :=
  cond (decide (t57 < t56))
  (cond (decide (0 ≤ t57) && decide (t57 < (List.length t55 : Int)))
  (let n : Int := (List.getD t55 (Int.toNat t57) (0 : Int));
  c_delivery_Run (p_, p_2) n fates (fun (rRun : Int) (lrRun : List Int) (lrRun2 : List Int) =>
  c_ref27_Run (p_, p_2) n fates (fun (rRun2 : Int) (lrRun3 : List Int) (lrRun4 : List Int) =>
  c_ref25_Same lrRun lrRun3 (fun (rSame : Bool) =>
  cond (!rSame)
  (k1 false)
  (c_ref25_Same lrRun2 lrRun4 (fun (rSame2 : Bool) =>
  cond (!rSame2)
  (k1 false)
  (cond (!decide (rRun = rRun2))
  (k1 false)
  (rec start fates t49 t50 t56 (IntKind.i64.wrap (t57 + (1 : Int))) p_ p_2 t48 t55))))))))
  none)
  (k2 start t49 t50 p_ p_2 t48)
def zqf4 {β : Type} : Nat → zqeq β → zqer β → Int → (List (List zq0)) → Int → Int → Int → Int → Int → (List (Int × (Int × (Int × Int)))) → (List (List (List zq0))) → (List Int) → Option β
  | 0 => fun _ _ _ _ _ _ _ _ _ _ _ _ => none
  | i + 1 => fun k1 k2 start fates t49 t50 t56 t57 p_ p_2 t48 t55 => zqf3 c_delivery_Run c_ref25_Same c_ref27_Run (zqf4 i k1 k2) k1 k2 start fates t49 t50 t56 t57 p_ p_2 t48 t55
theorem zqf5 (hΓ : ΓOk Try.prog (law27_DeliveryRuns_X c_delivery_Run c_law27_sane c_made_Dice_Fates c_made_Dice_Next c_made_Dice_Person c_made_Light c_made_Roll c_ref25_Same c_ref27_Run).Γ) (i : Nat) : PieceOk Try.prog 95 0 law27_DeliveryRuns_p2_code zqet zqeu (law27_DeliveryRuns_p2_G (zqf4 c_delivery_Run c_ref25_Same c_ref27_Run i)) := by
  rw [show law27_DeliveryRuns_p2_code = .loop (loopBody law27_DeliveryRuns_p2_code) by kernel_rfl]
  exact piece_loop (X := (law27_DeliveryRuns_X c_delivery_Run c_law27_sane c_made_Dice_Fates c_made_Dice_Next c_made_Dice_Person c_made_Light c_made_Roll c_ref25_Same c_ref27_Run)) (p := 1) (Λ := pick1 []) (G := fun i => @fun β d ks => law27_DeliveryRuns_p2_G (zqf4 c_delivery_Run c_ref25_Same c_ref27_Run i) d ks) mixed tab_ok hΓ rfl (by kernel_rfl) CutsOk_nil (fun _ _ => rfl) (fun i => @fun β d ks r h => Eq.trans (b := law27_DeliveryRuns_p2_G (zqf4 c_delivery_Run c_ref25_Same c_ref27_Run (i + 1)) d ks) (by kernel_rfl) h) i
def zqf6 (p2 : zqes) {β : Type} (rec : Int → Int → Int → Int → (List (Int × (Int × (Int × Int)))) → (List (List (List zq0))) → Option β) (k1 : zqev β) (k2 : zqew β) (start : Int) (t49 : Int) (t50 : Int) (p_ : Int) (p_2 : List (Int × (Int × (Int × Int)))) (t48 : List (List (List zq0))) : Option β :=
  cond (decide (t50 < t49))
  (cond (decide (0 ≤ t50) && decide (t50 < (List.length t48 : Int)))
  (let fates : List (List zq0) := (List.getD t48 (Int.toNat t50) ([] : List (List zq0)));
  let l : List Int := ([start, (864000 : Int), (8589934592 : Int)] : List Int);
  p2 (fun (t6 : Bool) =>
  k1 t6) (fun (start2 : Int) (t492 : Int) (t502 : Int) (p_3 : Int) (p_4 : List (Int × (Int × (Int × Int)))) (t482 : List (List (List zq0))) =>
  rec start2 t492 (IntKind.i64.wrap (t502 + (1 : Int))) p_3 p_4 t482) start fates t49 t50 (List.length l : Int) (0 : Int) p_ p_2 t48 l)
  none)
  (k2 ())
def zqf7 (p2 : zqes) {β : Type} : Nat → zqev β → zqew β → Int → Int → Int → Int → (List (Int × (Int × (Int × Int)))) → (List (List (List zq0))) → Option β
  | 0 => fun _ _ _ _ _ _ _ _ => none
  | i + 1 => fun k1 k2 start t49 t50 p_ p_2 t48 => zqf6 p2 (zqf7 p2 i k1 k2) k1 k2 start t49 t50 p_ p_2 t48
theorem zqf8 (hΓ : ΓOk Try.prog (law27_DeliveryRuns_X c_delivery_Run c_law27_sane c_made_Dice_Fates c_made_Dice_Next c_made_Dice_Person c_made_Light c_made_Roll c_ref25_Same c_ref27_Run).Γ) (p2 : zqes) (hp2 : PieceOk Try.prog 95 0 law27_DeliveryRuns_p2_code zqet zqeu (law27_DeliveryRuns_p2_G p2)) (i : Nat) : PieceOk Try.prog 95 0 law27_DeliveryRuns_p3_code zqey zqez (law27_DeliveryRuns_p3_G (zqf7 p2 i)) := by
  rw [show law27_DeliveryRuns_p3_code = .loop (loopBody law27_DeliveryRuns_p3_code) by kernel_rfl]
  exact piece_loop (X := (law27_DeliveryRuns_X c_delivery_Run c_law27_sane c_made_Dice_Fates c_made_Dice_Next c_made_Dice_Person c_made_Light c_made_Roll c_ref25_Same c_ref27_Run)) (p := 1) (Λ := pick1 [(230, pieceCut zqet zqeu (law27_DeliveryRuns_p2_G p2))]) (G := fun i => @fun β d ks => law27_DeliveryRuns_p3_G (zqf7 p2 i) d ks) mixed tab_ok hΓ rfl (by kernel_rfl) (CutsOk_cons (q := 230) (c' := law27_DeliveryRuns_p2_code) (by kernel_rfl) rfl hp2 CutsOk_nil) (fun _ _ => rfl) (fun i => @fun β d ks r h => Eq.trans (b := law27_DeliveryRuns_p3_G (zqf7 p2 (i + 1)) d ks) (by kernel_rfl) h) i
def zqf9 (p1 : zqen) (p3 : zqex) {β : Type} (t : List Int) (start : Int) (raw : List (List zq0)) (k : (Bool → Option β)) : Option β :=
  c_made_Light t (fun (rLight : Bool) =>
  cond (!rLight)
  (c_law27_sane  (fun (rsane : Bool) =>
  k rsane))
  (cond (decide ((10 : Int) < (List.length raw : Int)))
  (c_law27_sane  (fun (rsane : Bool) =>
  k rsane))
  (c_made_Roll t (fun (mrRoll : (List Int × Int)) =>
  c_made_Dice_Next (4 : Int) mrRoll (fun (rNext : Int) (mrNext : (List Int × Int)) =>
  c_made_Dice_Person rNext mrNext (fun (rPerson : (Int × List (Int × (Int × (Int × Int))))) (mrPerson : (List Int × Int)) =>
  p1 (fun (start2 : Int) (raw2 : List (List zq0)) (p_ : Int) (p_2 : List (Int × (Int × (Int × Int)))) (l : List (List zq0)) =>
  let l2 : List (List (List zq0)) := ([l, raw2] : List (List (List zq0)));
  p3 (fun (t6 : Bool) =>
  k t6) (fun (_ : Unit) =>
  c_law27_sane  (fun (rsane : Bool) =>
  k rsane)) start2 (List.length l2 : Int) (0 : Int) p_ p_2 l2) start raw (List.length rPerson.2 : Int) (0 : Int) mrPerson.1 mrPerson.2 rPerson.1 rPerson.2 ([] : List (List zq0))))))))
theorem zqfa (hΓ : ΓOk Try.prog (law27_DeliveryRuns_X c_delivery_Run c_law27_sane c_made_Dice_Fates c_made_Dice_Next c_made_Dice_Person c_made_Light c_made_Roll c_ref25_Same c_ref27_Run).Γ) (p1 : zqen) (p3 : zqex) (hp1 : PieceOk Try.prog 95 0 law27_DeliveryRuns_p1_code zqeo zqep (law27_DeliveryRuns_p1_G p1)) (hp3 : PieceOk Try.prog 95 0 law27_DeliveryRuns_p3_code zqey zqez (law27_DeliveryRuns_p3_G p3)) : SpecOk Try.prog 4 (zqel (zqf9 c_law27_sane c_made_Dice_Next c_made_Dice_Person c_made_Light c_made_Roll p1 p3)) :=
  spec_exec (X := (law27_DeliveryRuns_X c_delivery_Run c_law27_sane c_made_Dice_Fates c_made_Dice_Next c_made_Dice_Person c_made_Light c_made_Roll c_ref25_Same c_ref27_Run)) (Λ := pick1 [(506, pieceCut zqeo zqep (law27_DeliveryRuns_p1_G p1)), (1018, pieceCut zqey zqez (law27_DeliveryRuns_p3_G p3))]) (rs := [.tmp 6]) (c := bodyOf Try.f4) mixed tab_ok hΓ Try.func4 (by kernel_rfl) (by kernel_rfl) (by kernel_rfl) (by kernel_rfl) (CutsOk_cons (q := 506) (c' := law27_DeliveryRuns_p1_code) (by kernel_rfl) rfl hp1 (CutsOk_cons (q := 1018) (c' := law27_DeliveryRuns_p3_code) (by kernel_rfl) rfl hp3 CutsOk_nil)) (fun x k r h => Eq.trans (b := (zqel (zqf9 c_law27_sane c_made_Dice_Next c_made_Dice_Person c_made_Light c_made_Roll p1 p3)).run x k) (by kernel_rfl) h)
end
theorem zqfbΓ : ΓOk Try.prog (pick1 [(16, .spec (zqde zqeb)), (10, .spec (zqee zqei)), (15, .spec (zq4i zq4x)), (14, .spec (zqj zqn)), (12, .spec (zq40 zq4f)), (9, .spec (zq5 zq9)), (11, .spec (zqc zqg)), (18, .spec (zqq zq16)), (17, .spec (zq9j zqb2))]) := (ΓOk_cons zqec (ΓOk_cons zqej (ΓOk_cons zq4y (ΓOk_cons zqo (ΓOk_cons zq4g (ΓOk_cons zqa (ΓOk_cons zqh (ΓOk_cons zq17 (ΓOk_cons zqb3 ΓOk_nil)))))))))
def zqfc (m : Nat) : zqen := zqf1 zq4x m
theorem zqfd {β : Type} (i : Nat) (k1 start raw t37 t38 d d2 p_ p_2 l) : (zqfc (i + 1) k1 start raw t37 t38 d d2 p_ p_2 l : Option β) = zqf0 zq4x (zqfc i k1) k1 start raw t37 t38 d d2 p_ p_2 l := rfl
def zqfe : zqen := zqfc fuel
theorem zqff : PieceOk Try.prog 95 0 law27_DeliveryRuns_p1_code zqeo zqep (law27_DeliveryRuns_p1_G zqfe) := zqf2 zqeb zqei zq4x zqn zq4f zq9 zqg zq16 zqb2 zqfbΓ fuel
def zqfg (m : Nat) : zqes := zqf4 zqeb zq16 zqb2 m
theorem zqfh {β : Type} (i : Nat) (k1 k2 start fates t49 t50 t56 t57 p_ p_2 t48 t55) : (zqfg (i + 1) k1 k2 start fates t49 t50 t56 t57 p_ p_2 t48 t55 : Option β) = zqf3 zqeb zq16 zqb2 (zqfg i k1 k2) k1 k2 start fates t49 t50 t56 t57 p_ p_2 t48 t55 := rfl
def zqfi : zqes := zqfg fuel
theorem zqfj : PieceOk Try.prog 95 0 law27_DeliveryRuns_p2_code zqet zqeu (law27_DeliveryRuns_p2_G zqfi) := zqf5 zqeb zqei zq4x zqn zq4f zq9 zqg zq16 zqb2 zqfbΓ fuel
def zqfk (m : Nat) : zqex := zqf7 zqfi m
theorem zqfl {β : Type} (i : Nat) (k1 k2 start t49 t50 p_ p_2 t48) : (zqfk (i + 1) k1 k2 start t49 t50 p_ p_2 t48 : Option β) = zqf6 zqfi (zqfk i k1 k2) k1 k2 start t49 t50 p_ p_2 t48 := rfl
def zqfm : zqex := zqfk fuel
theorem zqfn : PieceOk Try.prog 95 0 law27_DeliveryRuns_p3_code zqey zqez (law27_DeliveryRuns_p3_G zqfm) := zqf8 zqeb zqei zq4x zqn zq4f zq9 zqg zq16 zqb2 zqfbΓ zqfi zqfj fuel
def zqfo : zqek := zqf9 zqei zqn zq4f zq9 zqg zqfe zqfm
theorem zqfp : SpecOk Try.prog 4 (zqel zqfo) := zqfa zqeb zqei zq4x zqn zq4f zq9 zqg zq16 zqb2 zqfbΓ zqfe zqfm zqff zqfn
end
end Go.Lift
/- Plain lemmas about functional forms: tests that are known, loops. -/
namespace Go.Lift
open Go.RowKit Go.IntWalk

section
variable {β : Type}
/-! ### Tests -/
theorem c_inb {i n : Int} {a b : Option β} (h : 0 ≤ i ∧ i < n) : cond (decide (0 ≤ i) && decide (i < n)) a b = a := by
  rw [decide_eq_true h.1, decide_eq_true h.2]; rfl
theorem c_room {n : Nat} {a b : Option β} (h : n ≤ 140737488355328) : cond (decide (n ≤ roomMax)) a b = a := by
  rw [decide_eq_true (p := n ≤ roomMax) h]; rfl
theorem c_pos {p : Prop} [Decidable p] {a b : Option β} (h : p) : cond (decide p) a b = a := by rw [decide_eq_true h]; rfl
theorem c_neg {p : Prop} [Decidable p] {a b : Option β} (h : ¬ p) : cond (decide p) a b = b := by rw [decide_eq_false h]; rfl
theorem c_npos {p : Prop} [Decidable p] {a b : Option β} (h : p) : cond (!decide p) a b = b := by rw [decide_eq_true h]; rfl
theorem c_nneg {p : Prop} [Decidable p] {a b : Option β} (h : ¬ p) : cond (!decide p) a b = a := by rw [decide_eq_false h]; rfl
theorem c_t {a b : Option β} : cond true a b = a := rfl
theorem k_eq {γ : Type} {k : γ → Option β} {x y : γ} (h : x = y) : k x = k y := by rw [h]

/-! ### Loops over the numbers from 0 on -/
/-- A walk over a list that may end early. -/
def walk {α σ ε : Type} (g : Nat → α → σ → ε ⊕ σ) : List α → Nat → σ → ε ⊕ σ
  | [], _, s => .inr s
  | x :: r, j, s =>
    match g j x s with
    | .inl e => .inl e
    | .inr s' => walk g r (j + 1) s'

def sumK {ε σ : Type} (E : ε → Option β) (K : σ → Option β) : ε ⊕ σ → Option β
  | .inl e => E e
  | .inr s => K s

theorem walk_loop {α σ ε : Type} (F : Nat → Int → σ → Option β) (g : Nat → α → σ → ε ⊕ σ) (E : ε → Option β) (K : σ → Option β) (d : α) (xs : List α)
    (h1 : ∀ (m i : Nat) s, i < xs.length → F (m + 1) (i : Int) s = sumK E (fun s' => F m ((i : Int) + 1) s') (g i (xs.getD i d) s))
    (h2 : ∀ (m : Nat) s, F (m + 1) (xs.length : Int) s = K s) :
    ∀ (r : List α) (j fuel : Nat) (s : σ), xs.drop j = r → j + r.length = xs.length → r.length < fuel → F fuel (j : Int) s = sumK E K (walk g r j s)
  | r, j, 0, s, _, _, h => absurd h (Nat.not_lt_zero _)
  | [], j, m + 1, s, hd, hj, _ => by
    simp only [List.length_nil, Nat.add_zero] at hj
    subst hj
    rw [h2]; rfl
  | x :: r, j, m + 1, s, hd, hj, hm => by
    simp only [List.length_cons] at hj hm
    have h3 : j < xs.length := by omega
    have hx : xs.getD j d = x := by
      rw [List.drop_eq_getElem_cons h3] at hd
      injection hd with hd1 hd2
      simp [List.getD, h3, hd1]
    have hr : xs.drop (j + 1) = r := by
      rw [List.drop_eq_getElem_cons h3] at hd
      injection hd with hd1 hd2
    rw [h1 m j s h3, hx, walk]
    cases hg : g j x s with
    | inl e => rfl
    | inr s' =>
      simp only [sumK]
      exact walk_loop F g E K d xs h1 h2 r (j + 1) m s' hr (by omega) (by omega)

theorem walk_loop0 {α σ ε : Type} (F : Nat → Int → σ → Option β) (g : Nat → α → σ → ε ⊕ σ) (E : ε → Option β) (K : σ → Option β) (d : α) (xs : List α) (s : σ) (n : Nat) (hn : xs.length < n)
    (h1 : ∀ (m i : Nat) s, i < xs.length → F (m + 1) (i : Int) s = sumK E (fun s' => F m ((i : Int) + 1) s') (g i (xs.getD i d) s))
    (h2 : ∀ (m : Nat) s, F (m + 1) (xs.length : Int) s = K s) : F n 0 s = sumK E K (walk g xs 0 s) :=
  walk_loop F g E K d xs h1 h2 xs 0 n s rfl (by simp) hn

/-- A loop that only looks: every element, or out. -/
theorem check_loop {α : Type} (F : Nat → Int → Option β) (p : α → Bool) (E K : Option β) (d : α) (xs : List α) (n : Nat) (hn : xs.length < n)
    (h1 : ∀ (m i : Nat), i < xs.length → F (m + 1) (i : Int) = cond (p (xs.getD i d)) (F m ((i : Int) + 1)) E)
    (h2 : ∀ (m : Nat), F (m + 1) (xs.length : Int) = K) : F n 0 = cond (xs.all p) K E := by
  have h := walk_loop0 (ε := Unit) (fun m i (_ : Unit) => F m i) (fun _ x s => cond (p x) (.inr s) (.inl ())) (fun _ => E) (fun _ => K) d xs () n hn
    (fun m i s hi => by rw [h1 m i hi]; cases p (xs.getD i d) <;> rfl) (fun m s => h2 m)
  rw [h]
  have key : ∀ (l : List α) (j : Nat), sumK (fun _ => E) (fun _ => K) (walk (ε := Unit) (fun _ x (s : Unit) => cond (p x) (.inr s) (.inl ())) l j ()) = cond (l.all p) K E := by
    intro l
    induction l with
    | nil => intro j; rfl
    | cons x l ih =>
      intro j
      simp only [walk, List.all_cons]
      cases p x with
      | true => simpa using ih (j + 1)
      | false => rfl
  exact key xs 0

end
end Go.Lift

/- Attempts in their order: the plain side of the laws of chapter 27. -/
namespace Go.Lift
set_option linter.unusedVariables false
set_option linter.unusedSimpArgs false

/-- An attempt: its channel, its try, its instant. -/
abbrev Att := Int × Int × Int
abbrev at0 : Att := (0, 0, 0)
def attLt (a b : Att) : Prop := a.2.2 < b.2.2 ∨ (a.2.2 = b.2.2 ∧ (a.1 < b.1 ∨ (a.1 = b.1 ∧ a.2.1 < b.2.1)))
instance (a b : Att) : Decidable (attLt a b) := by unfold attLt; infer_instance
theorem attLt_irr (a : Att) : ¬ attLt a a := by unfold attLt; omega
theorem attLt_trans {a b c : Att} (h1 : attLt a b) (h2 : attLt b c) : attLt a c := by unfold attLt at *; omega
theorem attLt_anti {a b : Att} (h1 : ¬ attLt a b) (h2 : ¬ attLt b a) : a = b := by
  obtain ⟨a1, a2, a3⟩ := a
  obtain ⟨b1, b2, b3⟩ := b
  unfold attLt at *
  simp only at h1 h2
  simp only [Prod.mk.injEq]
  omega
/-- Not behind. -/
def attLe (a b : Att) : Prop := ¬ attLt b a
theorem attLe_at {a b : Att} (h : attLe a b) : a.2.2 ≤ b.2.2 := by unfold attLe attLt at h; omega

/-- Into its place. -/
def insA : List Att → Att → List Att
  | [], x => [x]
  | y :: l, x => if attLt x y then x :: y :: l else y :: insA l x
def sortA (l : List Att) : List Att := l.foldl insA []

abbrev AscA (l : List Att) : Prop := l.Pairwise attLe

theorem insA_perm : ∀ (l : List Att) (x : Att), (insA l x).Perm (x :: l)
  | [], x => List.Perm.refl _
  | y :: l, x => by
    unfold insA
    split
    · exact List.Perm.refl _
    · exact ((insA_perm l x).cons y).trans (List.Perm.swap x y l)
theorem insA_asc : ∀ {l : List Att} {x : Att}, AscA l → AscA (insA l x)
  | [], x, _ => by simp [insA]
  | y :: l, x, h => by
    obtain ⟨h1, h2⟩ := List.pairwise_cons.1 h
    unfold insA
    split
    · rename_i hx
      refine List.pairwise_cons.2 ⟨fun z hz => ?_, h⟩
      rcases List.mem_cons.1 hz with rfl | hz
      · exact fun hh => attLt_irr _ (attLt_trans hx hh)
      · have := h1 z hz
        intro hh
        exact this (attLt_trans hh hx)
    · rename_i hx
      refine List.pairwise_cons.2 ⟨fun z hz => ?_, insA_asc h2⟩
      rcases List.mem_cons.1 ((insA_perm l x).mem_iff.1 hz) with rfl | hz
      · exact hx
      · exact h1 z hz
theorem fold_ins_perm : ∀ (l a : List Att), (l.foldl insA a).Perm (a ++ l)
  | [], a => by simp
  | x :: l, a => by
    have h1 := fold_ins_perm l (insA a x)
    refine h1.trans ?_
    have h2 := (insA_perm a x).append_right l
    refine h2.trans ?_
    simp only [List.cons_append]
    exact (List.perm_middle (a := x) (l₁ := a) (l₂ := l)).symm
theorem fold_ins_asc : ∀ (l : List Att) {a : List Att}, AscA a → AscA (l.foldl insA a)
  | [], a, h => h
  | x :: l, a, h => fold_ins_asc l (insA_asc h)
theorem sortA_perm (l : List Att) : (sortA l).Perm l := fold_ins_perm l []
theorem sortA_asc (l : List Att) : AscA (sortA l) := fold_ins_asc l .nil
theorem sortA_len (l : List Att) : (sortA l).length = l.length := (sortA_perm l).length_eq
theorem asc_unique {a b : List Att} (ha : AscA a) (hb : AscA b) (h : a.Perm b) : a = b :=
  List.Perm.eq_of_pairwise (fun x y _ _ h1 h2 => attLt_anti h2 h1) ha hb h

/-- The place of an insertion: behind all that x does not go ahead of. -/
theorem insA_append {a b : List Att} {x : Att} (ha : ∀ y ∈ a, ¬ attLt x y) (hb : ∀ y ∈ b, attLt x y) : insA (a ++ b) x = a ++ x :: b := by
  induction a with
  | nil =>
    cases b with
    | nil => rfl
    | cons y b => simp [insA, hb y (by simp)]
  | cons y a ih =>
    simp only [List.cons_append, insA]
    rw [if_neg (ha y (by simp)), ih fun z hz => ha z (by simp [hz])]

/-- Channels: their kind, latency, number of tries and pause. -/
abbrev Chan := Int × Int × Int × Int
def triesOf (start : Int) (c : Nat) (ch : Chan) : List Att := (List.range ch.2.2.1.toNat).map fun (i : Nat) => ((c : Int), (i : Int), start + (i : Int) * ch.2.2.2)
def rawFrom (start : Int) : Nat → List Chan → List Att
  | _, [] => []
  | c, ch :: l => triesOf start c ch ++ rawFrom start (c + 1) l
theorem triesOf_len (start : Int) (c : Nat) (ch : Chan) : (triesOf start c ch).length = ch.2.2.1.toNat := by simp [triesOf]
theorem rawFrom_append (start : Int) : ∀ (c : Nat) (a b : List Chan), rawFrom start c (a ++ b) = rawFrom start c a ++ rawFrom start (c + a.length) b
  | c, [], b => rfl
  | c, ch :: a, b => by
    simp only [List.cons_append, rawFrom, rawFrom_append start (c + 1) a b, List.append_assoc, List.length_cons]
    rw [show c + 1 + a.length = c + (a.length + 1) by omega]
end Go.Lift

/- Chapter 27 in plain Lean: channels, profiles, plans; code and reference. -/
namespace Go.Lift
open Go.RowKit Go.IntWalk
noncomputable section
set_option linter.unusedVariables false
set_option linter.unusedSimpArgs false
set_option maxRecDepth 10000

abbrev Prof := Int × List Chan
abbrev ch0 : Chan := (0, 0, 0, 0)

section
variable {β : Type}
theorem c_andk {b q : Bool} {k : Bool → Option β} {X : Option β} (h : b = true → X = k q) : cond b X (k false) = k (b && q) := by
  cases b with
  | false => rfl
  | true => exact h rfl
theorem c_nandk {b q : Bool} {k : Bool → Option β} {X : Option β} (h : b = true → X = k q) : cond (!b) (k false) X = k (b && q) := by
  cases b with
  | false => rfl
  | true => exact h rfl
theorem c_ff' {b : Bool} {x y : Option β} (h : b = false) : cond b x y = y := by rw [h]; rfl
theorem c_tt' {b : Bool} {x y : Option β} (h : b = true) : cond b x y = x := by rw [h]; rfl
end

def inB (n lo hi : Int) : Bool := decide (lo ≤ n) && decide (n ≤ hi)
theorem inB_iff {n lo hi : Int} : inB n lo hi = true ↔ lo ≤ n ∧ n ≤ hi := by simp [inB]
def chanV (c : Chan) : Bool := inB c.1 0 2 && (inB c.2.1 0 3600 && (inB c.2.2.1 1 6 && inB c.2.2.2 1 3600))
def profV (p : Prof) : Bool := inB p.1 0 31 && (decide ((p.2.length : Int) ≤ 4) && p.2.all chanV)
def planOf (p : Prof) (start : Int) : List Att := cond (profV p && inB start 0 8589934592) (sortA (rawFrom start 0 p.2)) []

structure ChanOk (c : Chan) : Prop where
  l1 : 0 ≤ c.2.1
  l2 : c.2.1 ≤ 3600
  t1 : 1 ≤ c.2.2.1
  t2 : c.2.2.1 ≤ 6
  p1 : 1 ≤ c.2.2.2
  p2 : c.2.2.2 ≤ 3600
theorem chanV_ok {c : Chan} (h : chanV c = true) : ChanOk c := by
  unfold chanV at h
  simp only [Bool.and_eq_true, inB_iff] at h
  exact ⟨h.2.1.1, h.2.1.2, h.2.2.1.1, h.2.2.1.2, h.2.2.2.1, h.2.2.2.2⟩
structure ProfOk (p : Prof) : Prop where
  who : 0 ≤ p.1 ∧ p.1 ≤ 31
  few : p.2.length ≤ 4
  all : ∀ c ∈ p.2, chanV c = true
theorem profV_ok {p : Prof} (h : profV p = true) : ProfOk p := by
  unfold profV at h
  simp only [Bool.and_eq_true, inB_iff, decide_eq_true_eq, List.all_eq_true] at h
  exact ⟨h.1, by omega, h.2.2⟩

section
variable {β : Type}
theorem d_in (n lo hi : Int) (k : Bool → Option β) : zq1r n lo hi k = k (inB n lo hi) := by
  unfold zq1r zq1o
  exact c_andk fun _ => rfl
theorem ch_in (n lo hi : Int) (k : Bool → Option β) : zq3j n lo hi k = k (inB n lo hi) := by
  unfold zq3j zq3g
  exact c_andk fun _ => rfl
theorem r_in (n lo hi : Int) (k : Bool → Option β) : zq2y n lo hi k = k (inB n lo hi) := by
  unfold zq2y zq2v
  exact c_andk fun _ => rfl
theorem ch_valid (c : Chan) (k : Bool → Option β) : zq73 c k = k (chanV c) := by
  unfold zq73 zq70
  refine (ch_in _ _ _ _).trans ?_
  refine c_andk fun _ => ?_
  refine (ch_in _ _ _ _).trans ?_
  refine c_andk fun _ => ?_
  refine (ch_in _ _ _ _).trans ?_
  refine c_andk fun _ => ?_
  exact ch_in _ _ _ _
theorem r26_valid (c : Chan) (k : Bool → Option β) : zq6w c k = k (chanV c) := by
  unfold zq6w zq6t
  refine (r_in _ _ _ _).trans ?_
  refine c_andk fun _ => ?_
  refine (r_in _ _ _ _).trans ?_
  refine c_andk fun _ => ?_
  refine (r_in _ _ _ _).trans ?_
  refine c_andk fun _ => ?_
  exact r_in _ _ _ _

theorem d_index {l : List Chan} (hl : l.length ≤ 4) (k1 : zq91 β) (k2 : zq92 β) (E : Option β) (hE : ∀ i : Nat, k1 (i : Int) = E) :
    zq9e k1 k2 l (l.length : Int) 0 = cond (l.all chanV) (k2 ()) E := by
  refine check_loop (fun m i => zq9c m k1 k2 l (l.length : Int) i) chanV E (k2 ()) ch0 l fuel (lt_fuel (by omega)) (fun m i hi => ?_) (fun m => ?_)
  · simp only [zq9d, zq96, Int.toNat_natCast]
    refine (c_pos (by omega)).trans ?_
    refine (c_inb (by omega)).trans ?_
    unfold zq7t zq7q
    refine (ch_valid _ _).trans ?_
    rw [i64_in ((i : Int) + 1) (by omega)]
    cases chanV (l.getD i ch0) with
    | true => rfl
    | false => exact hE i
  · simp only [zq9d, zq96]
    rw [c_neg (by omega)]

theorem d_contains {l : List Chan} (hl : l.length ≤ 4) (k : Bool → Option β) : zqb9 l k = k (!l.all chanV) := by
  unfold zqb9 zqb6 zq9g zq99
  refine (d_index hl _ _ (k true) fun i => ?_).trans ?_
  · show k (decide ((0 : Int) ≤ (i : Int))) = k true
    rw [decide_eq_true (by omega)]
  · cases l.all chanV <;> rfl

theorem d_valid (p : Prof) (k : Bool → Option β) : zqbg p k = k (profV p) := by
  unfold zqbg zqbd zq3c zq39
  refine (d_in _ _ _ _).trans ?_
  refine c_andk fun _ => ?_
  refine c_andk fun h => ?_
  have h := of_decide_eq_true h
  refine (d_contains (by omega) _).trans ?_
  show k (!!p.2.all chanV) = _
  rw [Bool.not_not]

theorem r27_valid (p : Prof) (k : Bool → Option β) : zq7m p k = k (profV p) := by
  unfold zq7m zq7f
  refine (r_in _ _ _ _).trans ?_
  refine c_nandk fun _ => ?_
  by_cases h : (p.2.length : Int) ≤ 4
  · refine (c_neg (by omega)).trans ?_
    rw [decide_eq_true h, Bool.true_and]
    refine (check_loop (fun m i => zq7i m (fun t2 => k t2) (fun _ => k true) i p.1 p.2) chanV (k false) (k true) ch0 p.2 fuel (lt_fuel (by omega)) (fun m i hi => ?_) (fun m => ?_)).trans ?_
    · simp only [zq7j, zq7c, Int.toNat_natCast]
      refine (c_pos (by omega)).trans ?_
      refine (c_inb (by omega)).trans ?_
      refine (r26_valid _ _).trans ?_
      rw [i64_in ((i : Int) + 1) (by omega)]
      cases chanV (p.2.getD i ch0) <;> rfl
    · simp only [zq7j, zq7c]
      rw [c_neg (by omega)]
    · cases p.2.all chanV <;> rfl
  · refine (c_pos (by omega)).trans ?_
    rw [decide_eq_false h]
    rfl
end

/-! ### Plans -/
theorem rawFrom_len {start : Int} : ∀ {l : List Chan} {c : Nat}, (∀ x ∈ l, chanV x = true) → (rawFrom start c l).length ≤ 6 * l.length
  | [], c, _ => by simp [rawFrom]
  | ch :: l, c, h => by
    have h1 := rawFrom_len (start := start) (l := l) (c := c + 1) fun x hx => h x (by simp [hx])
    have h2 := chanV_ok (h ch (by simp))
    have a := h2.t2
    simp only [rawFrom, List.length_append, triesOf_len, List.length_cons]
    omega

structure AttOk (start : Int) (n : Nat) (a : Att) : Prop where
  c1 : 0 ≤ a.1
  c2 : a.1 < n
  i1 : 0 ≤ a.2.1
  i2 : a.2.1 < 6
  s1 : start ≤ a.2.2
  s2 : a.2.2 ≤ start + 21600

theorem triesOf_ok {start : Int} {c n : Nat} {ch : Chan} (h : chanV ch = true) (hc : c < n) : ∀ a ∈ triesOf start c ch, AttOk start n a := by
  intro a ha
  have q := chanV_ok h
  have q1 := q.t1; have q2 := q.t2; have q3 := q.p1; have q4 := q.p2
  unfold triesOf at ha
  obtain ⟨i, hi, rfl⟩ := List.mem_map.1 ha
  have hi := List.mem_range.1 hi
  have m1 : 0 ≤ (i : Int) * ch.2.2.2 := Int.mul_nonneg (by omega) (by omega)
  have m2 : (i : Int) * ch.2.2.2 ≤ 6 * 3600 := Int.mul_le_mul (by omega) (by omega) (by omega) (by omega)
  exact ⟨by show (0 : Int) ≤ c; omega, by show (c : Int) < n; omega, by show (0 : Int) ≤ i; omega, by show (i : Int) < 6; omega, by show start ≤ start + i * ch.2.2.2; omega, by show start + i * ch.2.2.2 ≤ _; omega⟩
theorem rawFrom_ok {start : Int} : ∀ {l : List Chan} {c n : Nat}, (∀ x ∈ l, chanV x = true) → c + l.length ≤ n → ∀ a ∈ rawFrom start c l, AttOk start n a
  | [], c, n, _, _, a, ha => by simp [rawFrom] at ha
  | ch :: l, c, n, h, hn, a, ha => by
    simp only [List.length_cons] at hn
    simp only [rawFrom, List.mem_append] at ha
    rcases ha with ha | ha
    · exact triesOf_ok (h ch (by simp)) (by omega) a ha
    · exact rawFrom_ok (fun x hx => h x (by simp [hx])) (by omega) a ha

theorem planOf_len (p : Prof) (start : Int) : (planOf p start).length ≤ 24 := by
  unfold planOf
  cases h : profV p with
  | false => simp
  | true =>
    have q := profV_ok h
    have := q.few
    cases inB start 0 8589934592 with
    | false => simp
    | true =>
      simp only [Bool.and_self, cond_true, sortA_len]
      have := rawFrom_len (start := start) (c := 0) q.all
      omega
theorem planOf_ok {p : Prof} {start : Int} : ∀ a ∈ planOf p start, AttOk start 4 a ∧ 0 ≤ start ∧ start ≤ 8589934592 := by
  intro a ha
  unfold planOf at ha
  cases h : profV p with
  | false => rw [h] at ha; simp at ha
  | true =>
    have q := profV_ok h
    cases h2 : inB start 0 8589934592 with
    | false => rw [h2] at ha; simp at ha
    | true =>
      rw [h, h2] at ha
      simp only [Bool.and_self, cond_true] at ha
      exact ⟨rawFrom_ok q.all (by have := q.few; omega) a ((sortA_perm _).mem_iff.1 ha), inB_iff.1 h2⟩
theorem planOf_asc (p : Prof) (start : Int) : AscA (planOf p start) := by
  unfold planOf
  cases profV p && inB start 0 8589934592 with
  | false => exact .nil
  | true => exact sortA_asc _

theorem cmp_att_lt (a b : Att) : zqbm a b < 0 ↔ attLt a b := by
  unfold zqbm zqbk attLt
  split
  · omega
  · split <;> omega

/-- The code's sort is the sort. -/
theorem att_run {l : List Att} (h : ∀ x ∈ l, zqbl x = true) : zqbn l = sortA l := by
  obtain ⟨h1, h2⟩ := sortRun_good (d0 := ((0, 0, 0) : Int × Int × Int)) (h0 := rfl) zqbr h
  have hlen : (zqbn l).length = l.length := h1.length_eq
  refine asc_unique ?_ (sortA_asc l) (h1.trans (sortA_perm l).symm)
  refine List.pairwise_iff_getElem.2 fun i j hi hj hij => ?_
  have h3 := h2 i j hij (by omega)
  intro hlt
  have e : ∀ q, (hq : q < (zqbn l).length) → (zqbn l).getD q ((0, 0, 0) : Int × Int × Int) = (zqbn l)[q] := fun q hq => by simp [List.getD, hq]
  refine h3 ?_
  show zqbm ((zqbn l).getD j _) ((zqbn l).getD i _) < 0
  rw [e i hi, e j hj, cmp_att_lt]
  exact hlt

theorem att_good {start : Int} {n : Nat} {a : Att} (h : AttOk start n a) (hn : n ≤ 4) (h0 : 0 ≤ start ∧ start ≤ 8589934592) : zqbl a = true := by
  obtain ⟨a1, a2, a3, a4, a5, a6⟩ := h
  unfold zqbl
  simp only [Bool.and_eq_true, decide_eq_true_eq]
  omega

section
variable {β : Type}
theorem range_map_succ {α : Type} (f : Nat → α) (n : Nat) : (List.range (n + 1)).map f = (List.range n).map f ++ [f n] := by
  rw [List.range_succ, List.map_append]; rfl

/-- The first i tries. -/
def someTries (start : Int) (c : Nat) (ch : Chan) (i : Nat) : List Att := (List.range i).map fun (i : Nat) => ((c : Int), (i : Int), start + (i : Int) * ch.2.2.2)
theorem someTries_len (start : Int) (c : Nat) (ch : Chan) (i : Nat) : (someTries start c ch i).length = i := by simp [someTries]
theorem someTries_all (start : Int) (c : Nat) (ch : Chan) : someTries start c ch ch.2.2.1.toNat = triesOf start c ch := rfl
theorem someTries_succ (start : Int) (c : Nat) (ch : Chan) (i : Nat) : someTries start c ch (i + 1) = someTries start c ch i ++ [((c : Int), (i : Int), start + (i : Int) * ch.2.2.2)] := range_map_succ _ _
theorem try_wrap {start : Int} {i : Nat} {ch : Chan} (h0 : 0 ≤ start ∧ start ≤ 8589934592) (hch : ChanOk ch) (hi : i < 6) : IntKind.i64.wrap (start + IntKind.i64.wrap ((i : Int) * ch.2.2.2)) = start + (i : Int) * ch.2.2.2 := by
  have q3 := hch.p1; have q4 := hch.p2
  have m1 : 0 ≤ (i : Int) * ch.2.2.2 := Int.mul_nonneg (by omega) (by omega)
  have m2 : (i : Int) * ch.2.2.2 ≤ 6 * 3600 := Int.mul_le_mul (by omega) (by omega) (by omega) (by omega)
  rw [i64_in ((i : Int) * ch.2.2.2) (by omega), i64_in _ (by omega)]

theorem d_plan1 {start : Int} {ch : Chan} (h0 : 0 ≤ start ∧ start ≤ 8589934592) (hch : ChanOk ch) (c : Nat) (t18 : List Chan) (t19 t20 : Int) (out : List Att) (hout : out.length ≤ 100) (k1 : zqbw β) :
    zqcf k1 start c t18 t19 t20 ch.2.2.1 0 out ch.1 ch.2.1 ch.2.2.1 ch.2.2.2 = k1 start t18 t19 t20 (out ++ triesOf start c ch) := by
  have q1 := hch.t1; have q2 := hch.t2
  have key : ∀ (j i : Nat) (m : Nat), i + j = ch.2.2.1.toNat → j < m → zqcd m k1 start c t18 t19 t20 ch.2.2.1 (i : Int) (out ++ someTries start c ch i) ch.1 ch.2.1 ch.2.2.1 ch.2.2.2 = k1 start t18 t19 t20 (out ++ triesOf start c ch) := by
    intro j
    induction j with
    | zero =>
      intro i m hi hm
      obtain ⟨m, rfl⟩ : ∃ m', m = m' + 1 := ⟨m - 1, by omega⟩
      simp only [zqce, zqc4]
      refine (c_neg (by omega)).trans ?_
      have : i = ch.2.2.1.toNat := by omega
      rw [this, someTries_all]
    | succ j ih =>
      intro i m hi hm
      obtain ⟨m, rfl⟩ : ∃ m', m = m' + 1 := ⟨m - 1, by omega⟩
      simp only [zqce, zqc4]
      refine (c_pos (by omega)).trans ?_
      have hl := someTries_len start c ch i
      refine (c_room (by simp only [List.length_append, List.length_cons, List.length_nil]; omega)).trans ?_
      rw [try_wrap h0 hch (by omega), i64_in ((i : Int) + 1) (by omega), List.append_assoc, ← someTries_succ]
      exact ih (i + 1) m (by omega) (by omega)
  have h := key ch.2.2.1.toNat 0 fuel (by omega) (lt_fuel (by omega))
  simp only [someTries, List.range_zero, List.map_nil, List.append_nil] at h
  exact h

theorem rawFrom_snoc {start : Int} {l : List Chan} {i : Nat} (hi : i < l.length) : rawFrom start 0 (l.take (i + 1)) = rawFrom start 0 (l.take i) ++ triesOf start i (l.getD i ch0) := by
  rw [List.take_add_one, List.getElem?_eq_getElem hi, Option.toList_some, rawFrom_append]
  have : l.getD i ch0 = l[i] := by simp [List.getD, hi]
  rw [this]
  simp only [rawFrom, List.append_nil, List.length_take, Nat.zero_add]
  rw [show min i l.length = i by omega]
theorem take_all {l : List Chan} {p : Chan → Bool} (h : ∀ x ∈ l, p x = true) (i : Nat) : ∀ x ∈ l.take i, p x = true := fun x hx => h x (List.mem_of_mem_take hx)
theorem getD_all {l : List Chan} (h : ∀ x ∈ l, chanV x = true) {i : Nat} (hi : i < l.length) : chanV (l.getD i ch0) = true := by
  have : l.getD i ch0 = l[i] := by simp [List.getD, hi]
  rw [this]
  exact h _ (List.getElem_mem hi)

theorem d_plan2 {start : Int} {l : List Chan} (h0 : 0 ≤ start ∧ start ≤ 8589934592) (hl : l.length ≤ 4) (h : ∀ x ∈ l, chanV x = true) (k1 : zqc0 β) :
    zqcj k1 start l (l.length : Int) 0 [] = k1 (rawFrom start 0 l) := by
  have key : ∀ (j i : Nat) (m : Nat), i + j = l.length → j < m → zqch m k1 start l (l.length : Int) (i : Int) (rawFrom start 0 (l.take i)) = k1 (rawFrom start 0 l) := by
    intro j
    induction j with
    | zero =>
      intro i m hi hm
      obtain ⟨m, rfl⟩ : ∃ m', m = m' + 1 := ⟨m - 1, by omega⟩
      simp only [zqci, zqc7]
      refine (c_neg (by omega)).trans ?_
      rw [List.take_of_length_le (by omega)]
    | succ j ih =>
      intro i m hi hm
      obtain ⟨m, rfl⟩ : ∃ m', m = m' + 1 := ⟨m - 1, by omega⟩
      simp only [zqci, zqc7, Int.toNat_natCast]
      refine (c_pos (by omega)).trans ?_
      refine (c_inb (by omega)).trans ?_
      have hlen := rawFrom_len (start := start) (c := 0) (take_all h i)
      have hlt : (l.take i).length ≤ 4 := by simp only [List.length_take]; omega
      refine (d_plan1 h0 (chanV_ok (getD_all h (by omega))) i l _ _ _ (by omega) _).trans ?_
      rw [i64_in ((i : Int) + 1) (by omega), ← rawFrom_snoc (by omega)]
      exact ih (i + 1) m (by omega) (by omega)
  exact key l.length 0 fuel (by omega) (lt_fuel (by omega))

theorem d_plan (p : Prof) (start : Int) (k : List Att → Option β) : zqcl p start k = k (planOf p start) := by
  unfold zqcl zqca planOf
  refine (d_valid _ _).trans ?_
  cases hv : profV p with
  | false => rfl
  | true =>
    refine (c_ff' rfl).trans ?_
    refine (d_in _ _ _ _).trans ?_
    cases hs : inB start 0 8589934592 with
    | false => rfl
    | true =>
      refine (c_ff' rfl).trans ?_
      have q := profV_ok hv
      have h0 := inB_iff.1 hs
      have few := q.few
      refine (d_plan2 h0 few q.all _).trans ?_
      have hok := rawFrom_ok (start := start) (c := 0) (n := 4) q.all (by omega)
      have hg : ∀ x ∈ rawFrom start 0 p.2, zqbl x = true := fun x hx => att_good (hok x hx) (by omega) h0
      have hlen := rawFrom_len (start := start) (c := 0) q.all
      refine (c_tt' (by rw [List.all_eq_true.2 hg, decide_eq_true (by omega)]; rfl)).trans ?_
      show k (zqbn _) = _
      rw [att_run hg]
      rfl
end
end
end Go.Lift

/- The reference's plan of chapter 27: sorting by insertion. -/
namespace Go.Lift
open Go.RowKit Go.IntWalk
noncomputable section
set_option linter.unusedVariables false
set_option linter.unusedSimpArgs false
set_option maxRecDepth 10000

theorem attLt_le {x y z : Att} (h1 : attLt x y) (h2 : attLe y z) : attLt x z := by unfold attLe attLt at *; omega

/-- A list written over its own part by one place, and the place filled. -/
theorem shift_ins {α : Type} (a b : List α) (x : α) (l2 : List α) (h : l2 = a ++ b ++ [x]) (q : List α)
    (hq : q = List.take (a.length + 1) l2 ++ (List.take (l2.length - (a.length + 1)) (List.drop a.length (List.take l2.length l2)) ++ List.drop (a.length + 1 + Nat.min (List.length (List.drop a.length (List.take l2.length l2))) (l2.length - (a.length + 1))) l2)) :
    q.length = l2.length ∧ List.set q a.length x = a ++ x :: b := by
  obtain ⟨y, r, hy⟩ : ∃ y r, b ++ [x] = y :: r := by
    cases b with
    | nil => exact ⟨_, _, rfl⟩
    | cons y b => exact ⟨_, _, rfl⟩
  have hl : l2.length = a.length + b.length + 1 := by rw [h]; simp; omega
  have e1 : List.take (a.length + 1) l2 = a ++ [y] := by
    rw [h, List.append_assoc, hy, List.take_append, List.take_of_length_le (by omega)]
    simp
  have e2 : List.drop a.length (List.take l2.length l2) = b ++ [x] := by
    rw [List.take_length, h, List.append_assoc, List.drop_left]
  have e3 : List.take (l2.length - (a.length + 1)) (b ++ [x]) = b := by
    rw [hl, show a.length + b.length + 1 - (a.length + 1) = b.length by omega, List.take_left]
  have e4 : List.drop (a.length + 1 + Nat.min (List.length (b ++ [x])) (l2.length - (a.length + 1))) l2 = [] := by
    refine List.drop_eq_nil_of_le ?_
    have : Nat.min (List.length (b ++ [x])) (l2.length - (a.length + 1)) = b.length := by
      rw [List.length_append, List.length_cons, List.length_nil, hl]
      show min _ _ = _
      omega
    rw [this, hl]
    omega
  rw [e1, e2, e3, e4, List.append_nil] at hq
  subst hq
  refine ⟨by rw [hl]; simp; omega, ?_⟩
  rw [List.append_assoc, List.set_append_right _ _ (Nat.le_refl _), Nat.sub_self]
  rfl

section
theorem r_ahead {β : Type} (x y : Att) (k : Bool → Option β) : zq35 x y k = k (decide (attLt x y)) := by
  unfold zq35 zq32
  by_cases h1 : x.2.2 = y.2.2
  · refine (c_npos h1).trans ?_
    by_cases h2 : x.1 = y.1
    · refine (c_npos h2).trans (k_eq ?_)
      congr 1
      exact propext ⟨fun h => by unfold attLt; omega, fun h => by unfold attLt at h; omega⟩
    · refine (c_nneg h2).trans (k_eq ?_)
      congr 1
      exact propext ⟨fun h => by unfold attLt; omega, fun h => by unfold attLt at h; omega⟩
  · refine (c_nneg h1).trans (k_eq ?_)
    congr 1
    exact propext ⟨fun h => by unfold attLt; omega, fun h => by unfold attLt at h; omega⟩

theorem r_plan1 (start c i_ p_ : Int) (p2 : List Chan) {out : List Att} (hs : AscA out) (hl : out.length ≤ 100) (x : Att) :
    ∃ a b, out = a ++ b ∧ (∀ y ∈ a, ¬ attLt x y) ∧ (∀ y ∈ b, attLt x y) ∧ ∀ {β : Type} (k1 : zq7x β), zq8n k1 start c i_ (out.length : Int) p_ p2 out x.1 x.2.1 x.2.2 = k1 start c i_ (a.length : Int) p_ p2 out x.1 x.2.1 x.2.2 := by
  have key : ∀ (n m : Nat), n ≤ out.length → n < m → (∀ y ∈ out.drop n, attLt x y) → ∃ a b, out = a ++ b ∧ (∀ y ∈ a, ¬ attLt x y) ∧ (∀ y ∈ b, attLt x y) ∧ ∀ {β : Type} (k1 : zq7x β), zq8l m k1 start c i_ (n : Int) p_ p2 out x.1 x.2.1 x.2.2 = k1 start c i_ (a.length : Int) p_ p2 out x.1 x.2.1 x.2.2 := by
    intro n
    induction n with
    | zero =>
      intro m _ hm hd
      obtain ⟨m, rfl⟩ : ∃ m', m = m' + 1 := ⟨m - 1, by omega⟩
      refine ⟨[], out, rfl, by simp, by simpa using hd, fun k1 => ?_⟩
      simp only [zq8m, zq89]
      exact c_neg (by omega)
    | succ n ih =>
      intro m hn hm hd
      obtain ⟨m, rfl⟩ : ∃ m', m = m' + 1 := ⟨m - 1, by omega⟩
      have hlt : n < out.length := by omega
      have eg : out.getD n at0 = out[n] := by simp [List.getD, hlt]
      have e1 : IntKind.i64.wrap (((n + 1 : Nat) : Int) - 1) = (n : Int) := by rw [i64_in _ (by omega)]; omega
      by_cases hx : attLt x out[n]
      · obtain ⟨a, b, h1, h2, h3, h4⟩ := ih m (by omega) (by omega) (fun y hy => by
          rw [List.drop_eq_getElem_cons hlt] at hy
          rcases List.mem_cons.1 hy with rfl | hy
          · exact hx
          · exact hd y hy)
        refine ⟨a, b, h1, h2, h3, fun k1 => ?_⟩
        simp only [zq8m, zq89, e1, Int.toNat_natCast]
        refine (c_pos (by omega)).trans ?_
        refine (c_inb (by omega)).trans ?_
        refine (r_ahead x (out.getD n at0) _).trans ?_
        rw [eg]
        refine (c_pos hx).trans ?_
        exact h4 k1
      · refine ⟨out.take (n + 1), out.drop (n + 1), (List.take_append_drop _ _).symm, fun y hy hlt2 => ?_, hd, fun k1 => ?_⟩
        · rw [List.take_add_one, List.getElem?_eq_getElem hlt, Option.toList_some] at hy
          rcases List.mem_append.1 hy with hy | hy
          · obtain ⟨q, hq, rfl⟩ := List.getElem_of_mem hy
            have hq' : q < n := by simp only [List.length_take] at hq; omega
            rw [List.getElem_take] at hlt2
            exact hx (attLt_le hlt2 (List.pairwise_iff_getElem.1 hs q n (by omega) hlt hq'))
          · rw [List.mem_singleton.1 hy] at hlt2
            exact hx hlt2
        · simp only [zq8m, zq89, e1, Int.toNat_natCast]
          refine (c_pos (by omega)).trans ?_
          refine (c_inb (by omega)).trans ?_
          refine (r_ahead x (out.getD n at0) _).trans ?_
          rw [eg]
          refine (c_neg hx).trans ?_
          rw [List.length_take, show min (n + 1) out.length = n + 1 by omega]
  exact key out.length fuel (Nat.le_refl _) (lt_fuel (by omega)) (by simp)

variable {β : Type}
theorem r_plan2 {start : Int} {p_ : Int} {p2 : List Chan} {c : Nat} (h0 : 0 ≤ start ∧ start ≤ 8589934592) (hc : c < p2.length) (hlp : p2.length ≤ 4) (hch : chanV (p2.getD c ch0) = true) {out : List Att} (hs : AscA out) (hl : out.length ≤ 50) (k1 : zq81 β) :
    zq8r k1 start (c : Int) 0 p_ p2 out = k1 start (c : Int) p_ p2 ((triesOf start c (p2.getD c ch0)).foldl insA out) := by
  generalize hch' : p2.getD c ch0 = ch at hch
  have q := chanV_ok hch
  have q1 := q.t1; have q2 := q.t2
  have key : ∀ (j i : Nat) (m : Nat), i + j = ch.2.2.1.toNat → j < m → zq8p m k1 start (c : Int) (i : Int) p_ p2 ((someTries start c ch i).foldl insA out) = k1 start (c : Int) p_ p2 ((triesOf start c ch).foldl insA out) := by
    intro j
    induction j with
    | zero =>
      intro i m hi hm
      obtain ⟨m, rfl⟩ : ∃ m', m = m' + 1 := ⟨m - 1, by omega⟩
      simp only [zq8q, zq8c, Int.toNat_natCast, hch']
      refine (c_inb (by omega)).trans ?_
      refine (c_neg (by omega)).trans ?_
      have : i = ch.2.2.1.toNat := by omega
      rw [this, someTries_all]
    | succ j ih =>
      intro i m hi hm
      obtain ⟨m, rfl⟩ : ∃ m', m = m' + 1 := ⟨m - 1, by omega⟩
      have hlen : ((someTries start c ch i).foldl insA out).length = out.length + i := by
        rw [(fold_ins_perm _ _).length_eq, List.length_append, someTries_len]
      have hasc : AscA ((someTries start c ch i).foldl insA out) := fold_ins_asc _ hs
      have hnext := ih (i + 1) m (by omega) (by omega)
      rw [someTries_succ, List.foldl_append] at hnext
      simp only [List.foldl_cons, List.foldl_nil] at hnext
      generalize (someTries start c ch i).foldl insA out = w at hlen hasc hnext ⊢
      obtain ⟨a, b, h1, h2, h3, h4⟩ := r_plan1 start (c : Int) (i : Int) p_ p2 hasc (by omega) ((c : Int), (i : Int), start + (i : Int) * ch.2.2.2)
      simp only [zq8q, zq8c, Int.toNat_natCast, hch']
      refine (c_inb (by omega)).trans ?_
      refine (c_pos (by omega)).trans ?_
      refine (c_inb (by omega)).trans ?_
      rw [try_wrap h0 q (by omega)]
      refine (h4 _).trans ?_
      have hab : w.length = a.length + b.length := by rw [h1, List.length_append]
      refine (c_room (by simp only [List.length_cons, List.length_nil]; omega)).trans ?_
      have e1 : IntKind.i64.wrap ((a.length : Int) + 1) = ((a.length + 1 : Nat) : Int) := by rw [i64_in _ (by omega)]; omega
      simp only [e1, Int.toNat_natCast]
      have hl2 : (w ++ [((c : Int), (i : Int), start + (i : Int) * ch.2.2.2)]).length = a.length + b.length + 1 := by simp; omega
      refine (c_tt' (by simp only [Bool.and_eq_true, decide_eq_true_eq]; omega)).trans ?_
      refine (c_tt' (by simp only [Bool.and_eq_true, decide_eq_true_eq]; omega)).trans ?_
      obtain ⟨g1, g2⟩ := shift_ins a b ((c : Int), (i : Int), start + (i : Int) * ch.2.2.2) (w ++ [((c : Int), (i : Int), start + (i : Int) * ch.2.2.2)]) (by rw [h1]) _ rfl
      refine (c_inb (by omega)).trans ?_
      rw [g2, i64_in ((i : Int) + 1) (by omega), ← insA_append h2 h3, ← h1]
      exact hnext
  exact key ch.2.2.1.toNat 0 fuel (by omega) (lt_fuel (by omega))

theorem r_plan3 {start : Int} {p_ : Int} {p2 : List Chan} (h0 : 0 ≤ start ∧ start ≤ 8589934592) (hlp : p2.length ≤ 4) (h : ∀ x ∈ p2, chanV x = true) (k1 : zq85 β) :
    zq8v k1 start 0 p_ p2 [] = k1 (sortA (rawFrom start 0 p2)) := by
  have key : ∀ (j i : Nat) (m : Nat), i + j = p2.length → j < m → zq8t m k1 start (i : Int) p_ p2 (sortA (rawFrom start 0 (p2.take i))) = k1 (sortA (rawFrom start 0 p2)) := by
    intro j
    induction j with
    | zero =>
      intro i m hi hm
      obtain ⟨m, rfl⟩ : ∃ m', m = m' + 1 := ⟨m - 1, by omega⟩
      simp only [zq8u, zq8f]
      refine (c_neg (by omega)).trans ?_
      rw [List.take_of_length_le (by omega)]
    | succ j ih =>
      intro i m hi hm
      obtain ⟨m, rfl⟩ : ∃ m', m = m' + 1 := ⟨m - 1, by omega⟩
      simp only [zq8u, zq8f]
      refine (c_pos (by omega)).trans ?_
      have hlen := rawFrom_len (start := start) (c := 0) (take_all h i)
      have hlt : (p2.take i).length ≤ 4 := by simp only [List.length_take]; omega
      refine (r_plan2 h0 (by omega) hlp (getD_all h (by omega)) (sortA_asc _) (by rw [sortA_len]; omega) _).trans ?_
      rw [i64_in ((i : Int) + 1) (by omega)]
      have := ih (i + 1) m (by omega) (by omega)
      rw [rawFrom_snoc (by omega)] at this
      unfold sortA at this ⊢
      rw [List.foldl_append] at this
      exact this
  exact key p2.length 0 fuel (by omega) (lt_fuel (by omega))

theorem r_plan (p : Prof) (start : Int) (k : List Att → Option β) : zq8x p start k = k (planOf p start) := by
  unfold zq8x zq8i planOf
  refine (r27_valid _ _).trans ?_
  cases hv : profV p with
  | false => rfl
  | true =>
    refine (c_ff' rfl).trans ?_
    refine (r_in _ _ _ _).trans ?_
    cases hs : inB start 0 8589934592 with
    | false => rfl
    | true =>
      refine (c_ff' rfl).trans ?_
      have q := profV_ok hv
      exact r_plan3 (inB_iff.1 hs) q.few q.all _
end
end
end Go.Lift

/- Contacts of chapter 27, function by function; code and reference. -/
namespace Go.Lift
open Go.RowKit Go.IntWalk
noncomputable section
set_option linter.unusedVariables false
set_option linter.unusedSimpArgs false
set_option maxRecDepth 10000

/-- A contact: page, step, person, start, what is sent, when it was reached. -/
abbrev Cont := Int × Int × Int × Int × Int × Int
abbrev Cont.start (c : Cont) : Int := c.2.2.2.1
abbrev Cont.sent (c : Cont) : Int := c.2.2.2.2.1
abbrev Cont.reached (c : Cont) : Int := c.2.2.2.2.2
theorem fuel_succ : ∃ m, fuel = m + 1 := ⟨18446744073709551615, rfl⟩

section
variable {β : Type}
end
end
end Go.Lift

/- What becomes of a contact (chapter 27): attempts, arrivals, receipts; code and reference. -/
namespace Go.Lift
open Go.RowKit Go.IntWalk
noncomputable section
set_option linter.unusedVariables false
set_option linter.unusedSimpArgs false
set_option maxRecDepth 10000

/-! ### Sorted numbers -/
theorem sI_sorted (l : List Int) : (sortInts l).Pairwise (fun x y => x ≤ y) := by
  have := List.pairwise_mergeSort (le := fun x y : Int => decide (x ≤ y)) (fun a b c h1 h2 => by simp at *; omega) (fun a b => by simp; omega) l
  exact this.imp fun h => by simpa using h
theorem sI_perm (l : List Int) : (sortInts l).Perm l := List.mergeSort_perm l _
theorem sI_unique {a b : List Int} (ha : a.Pairwise (fun x y => x ≤ y)) (hb : b.Pairwise (fun x y => x ≤ y)) (h : a.Perm b) : a = b :=
  List.Perm.eq_of_pairwise (fun x y _ _ h1 h2 => Int.le_antisymm h1 h2) ha hb h
theorem sI_eq {a b : List Int} (h : a.Perm b) : sortInts a = sortInts b := sI_unique (sI_sorted a) (sI_sorted b) ((sI_perm a).trans (h.trans (sI_perm b).symm))
theorem sI_len (l : List Int) : (sortInts l).length = l.length := (sI_perm l).length_eq
theorem any_perm {a b : List Int} (h : a.Perm b) (p : Int → Bool) : a.any p = b.any p := by
  rw [Bool.eq_iff_iff, List.any_eq_true, List.any_eq_true]
  exact ⟨fun ⟨x, h1, h2⟩ => ⟨x, h.mem_iff.1 h1, h2⟩, fun ⟨x, h1, h2⟩ => ⟨x, h.mem_iff.2 h1, h2⟩⟩

/-! ### Fates -/
/-- A fate: lost, delay, copy, receipt. -/
abbrev Fate := Bool × Int × Int × Int
abbrev lostF : Fate := (true, 0, 0, 0)
def fateV (f : Fate) : Bool := inB f.2.1 0 86400 && (inB f.2.2.1 0 86400 && inB f.2.2.2 (-1) 86400)
def fateOf (l : List Fate) (k : Int) : Fate :=
  cond (inB k 0 ((l.length : Int) - 1)) (cond (fateV (l.getD k.toNat (false, 0, 0, 0))) (l.getD k.toNat (false, 0, 0, 0)) lostF) lostF
def arrOf (t : Int) (f : Fate) : List Int :=
  cond (inB t 0 8589956192) (cond (fateV f) (cond f.1 [] (cond (decide (f.2.2.1 = 0)) [t + f.2.1] [t + f.2.1, t + f.2.1 + f.2.2.1])) []) []
def recOf (t : Int) (f : Fate) : List Int := cond (decide (f.2.2.2 = -1)) [] ((arrOf t f).map (· + f.2.2.2))

theorem arrOf_len (t : Int) (f : Fate) : (arrOf t f).length ≤ 2 := by
  unfold arrOf
  cases inB t 0 8589956192 <;> cases fateV f <;> cases f.1 <;> cases decide (f.2.2.1 = 0) <;> simp
theorem recOf_len (t : Int) (f : Fate) : (recOf t f).length ≤ 2 := by
  unfold recOf
  have := arrOf_len t f
  cases decide (f.2.2.2 = -1) <;> simp [this]
theorem arrOf_bd {t : Int} {f : Fate} : ∀ x ∈ arrOf t f, 0 ≤ x ∧ x ≤ 9000000000 ∧ fateV f = true := by
  intro x hx
  unfold arrOf at hx
  cases h1 : inB t 0 8589956192 with
  | false => rw [h1] at hx; simp at hx
  | true =>
    cases h2 : fateV f with
    | false => rw [h1, h2] at hx; simp at hx
    | true =>
      have g1 := inB_iff.1 h1
      have g2 := h2
      unfold fateV at g2
      simp only [Bool.and_eq_true, inB_iff] at g2
      rw [h1, h2] at hx
      simp only [cond_true] at hx
      cases h3 : f.1 with
      | true => rw [h3] at hx; simp at hx
      | false =>
        rw [h3] at hx
        simp only [cond_false] at hx
        cases h4 : decide (f.2.2.1 = 0) with
        | true =>
          rw [h4] at hx
          simp only [cond_true, List.mem_singleton] at hx
          exact ⟨by omega, by omega, rfl⟩
        | false =>
          rw [h4] at hx
          simp only [cond_false, List.mem_cons, List.not_mem_nil, or_false] at hx
          exact ⟨by omega, by omega, rfl⟩

section
variable {β : Type}
theorem ch_vfate (f : Fate) (k : Bool → Option β) : zq3q f k = k (fateV f) := by
  unfold zq3q zq3n
  refine (ch_in _ _ _ _).trans ?_
  refine c_andk fun _ => ?_
  refine (ch_in _ _ _ _).trans ?_
  refine c_andk fun _ => ?_
  exact ch_in _ _ _ _
theorem r26_vfate (f : Fate) (k : Bool → Option β) : zq3x f k = k (fateV f) := by
  unfold zq3x zq3u
  refine (r_in _ _ _ _).trans ?_
  refine c_andk fun _ => ?_
  refine (r_in _ _ _ _).trans ?_
  refine c_andk fun _ => ?_
  exact r_in _ _ _ _

theorem ch_fates {l : List Fate} (hl : l.length ≤ 9223372036854775807) (i : Int) (k : Fate → Option β) : zq54 l i k = k (fateOf l i) := by
  unfold zq54 zq51 fateOf
  rw [i64_in ((l.length : Int) - 1) (by omega)]
  refine (ch_in _ _ _ _).trans ?_
  cases h : inB i 0 ((l.length : Int) - 1) with
  | false => rfl
  | true =>
    have h := inB_iff.1 h
    refine (c_tt' rfl).trans ?_
    refine (c_inb (by omega)).trans ?_
    refine (ch_vfate _ _).trans ?_
    simp only [cond_true]
    cases fateV (l.getD i.toNat (false, 0, 0, 0)) with
    | false => rfl
    | true => exact c_inb (by omega)
theorem r26_fates {l : List Fate} (i : Int) (k : Fate → Option β) : zq60 l i k = k (fateOf l i) := by
  unfold zq60 zq5x fateOf
  by_cases h0 : i < 0
  · refine (c_pos h0).trans ?_
    have : inB i 0 ((l.length : Int) - 1) = false := by unfold inB; rw [decide_eq_false (by omega)]; rfl
    rw [this]; rfl
  · refine (c_neg h0).trans ?_
    by_cases h1 : (l.length : Int) ≤ i
    · refine (c_pos h1).trans ?_
      have : inB i 0 ((l.length : Int) - 1) = false := by unfold inB; rw [decide_eq_false (show ¬ i ≤ (l.length : Int) - 1 by omega), Bool.and_false]
      rw [this]; rfl
    · refine (c_neg h1).trans ?_
      have : inB i 0 ((l.length : Int) - 1) = true := inB_iff.2 (by omega)
      rw [this]
      refine (c_inb (by omega)).trans ?_
      refine (r26_vfate _ _).trans ?_
      simp only [cond_true]
      cases fateV (l.getD i.toNat (false, 0, 0, 0)) with
      | false => rfl
      | true => exact c_inb (by omega)

theorem ch_arrivals (t : Int) (f : Fate) (k : List Int → Option β) : zq5b t f k = k (arrOf t f) := by
  unfold zq5b zq58 arrOf
  refine (ch_in _ _ _ _).trans ?_
  cases h1 : inB t 0 8589956192 with
  | false => rfl
  | true =>
    refine (c_ff' rfl).trans ?_
    refine (ch_vfate _ _).trans ?_
    cases h2 : fateV f with
    | false => rfl
    | true =>
      have g1 := inB_iff.1 h1
      unfold fateV at h2
      simp only [Bool.and_eq_true, inB_iff] at h2
      refine (c_ff' rfl).trans ?_
      simp only [cond_true]
      cases h3 : f.1 with
      | true => rfl
      | false =>
        refine (c_ff' rfl).trans ?_
        rw [i64_in (t + f.2.1) (by omega), i64_in (t + f.2.1 + f.2.2.1) (by omega)]
        by_cases h4 : f.2.2.1 = 0
        · refine (c_npos h4).trans ?_
          rw [decide_eq_true h4]; rfl
        · refine (c_nneg h4).trans ?_
          rw [decide_eq_false h4]
          exact c_room (by simp)
theorem r26_arrivals (t : Int) (f : Fate) (k : List Int → Option β) : zq67 t f k = k (arrOf t f) := by
  unfold zq67 zq64 arrOf
  refine (r_in _ _ _ _).trans ?_
  cases h1 : inB t 0 8589956192 with
  | false => rfl
  | true =>
    refine (c_ff' rfl).trans ?_
    refine (r26_vfate _ _).trans ?_
    cases h2 : fateV f with
    | false => rfl
    | true =>
      have g1 := inB_iff.1 h1
      unfold fateV at h2
      simp only [Bool.and_eq_true, inB_iff] at h2
      refine (c_ff' rfl).trans ?_
      simp only [cond_true]
      cases h3 : f.1 with
      | true => rfl
      | false =>
        refine (c_ff' rfl).trans ?_
        rw [i64_in (t + f.2.1) (by omega), i64_in (t + f.2.1 + f.2.2.1) (by omega)]
        by_cases h4 : f.2.2.1 = 0
        · refine (c_npos h4).trans ?_
          rw [decide_eq_true h4]; rfl
        · refine (c_nneg h4).trans ?_
          rw [decide_eq_false h4]
          exact c_room (by simp)

theorem ch_receipts (t : Int) (f : Fate) (k : List Int → Option β) : zq5t t f k = k (recOf t f) := by
  unfold zq5t zq5m recOf
  refine (ch_arrivals _ _ _).trans ?_
  by_cases h : f.2.2.2 = -1
  · refine (c_pos h).trans ?_
    rw [decide_eq_true h]; rfl
  · refine (c_neg h).trans ?_
    rw [decide_eq_false h]
    have hlen := arrOf_len t f
    have hbd : ∀ x ∈ arrOf t f, IntKind.i64.wrap (x + f.2.2.2) = x + f.2.2.2 := by
      intro x hx
      obtain ⟨a1, a2, a3⟩ := arrOf_bd x hx
      unfold fateV at a3
      simp only [Bool.and_eq_true, inB_iff] at a3
      exact i64_in _ (by omega)
    generalize arrOf t f = l at hlen hbd
    have key : ∀ (r pre : List Int) (m : Nat) (k1 : zq5f β), l = pre ++ r → r.length < m →
        zq5p m k1 (l.length : Int) (pre.length : Int) f.1 f.2.1 f.2.2.1 f.2.2.2 (pre.map (· + f.2.2.2) ++ r) = k1 (l.map (· + f.2.2.2)) := by
      intro r
      induction r with
      | nil =>
        intro pre m k1 hp hm
        obtain ⟨m, rfl⟩ : ∃ m', m = m' + 1 := ⟨m - 1, by simp at hm; omega⟩
        rw [List.append_nil] at hp
        subst hp
        simp only [zq5q, zq5j]
        refine (c_neg (by omega)).trans ?_
        rw [List.append_nil]
      | cons x r ih =>
        intro pre m k1 hp hm
        obtain ⟨m, rfl⟩ : ∃ m', m = m' + 1 := ⟨m - 1, by simp at hm; omega⟩
        have hl : l.length = pre.length + (r.length + 1) := by rw [hp]; simp
        have ho : (pre.map (· + f.2.2.2) ++ x :: r).length = l.length := by simp [hl]
        have hg : (pre.map (· + f.2.2.2) ++ x :: r).getD pre.length (0 : Int) = x := by simp [List.getD]
        simp only [zq5q, zq5j, Int.toNat_natCast]
        refine (c_pos (by omega)).trans ?_
        refine (c_inb (by omega)).trans ?_
        refine (c_inb (by omega)).trans ?_
        rw [hg, hbd x (by rw [hp]; simp), i64_in ((pre.length : Int) + 1) (by omega)]
        have := ih (pre ++ [x]) m k1 (by rw [hp]; simp) (by simp at hm; omega)
        simp only [List.length_append, List.length_cons, List.length_nil, List.map_append, List.map_cons, List.map_nil, List.append_assoc, List.cons_append, List.nil_append] at this
        rw [← this]
        congr 1
        rw [List.set_append_right _ _ (by simp)]
        simp
    exact key l [] fuel _ rfl (lt_fuel (by omega))
theorem r26_receipts (t : Int) (f : Fate) (k : List Int → Option β) : zq6p t f k = k (recOf t f) := by
  unfold zq6p zq6i recOf
  refine (r26_arrivals _ _ _).trans ?_
  have hlen := arrOf_len t f
  have hbd := arrOf_bd (t := t) (f := f)
  generalize arrOf t f = l at hlen hbd
  by_cases h : 0 ≤ f.2.2.2
  · rw [decide_eq_false (show ¬ f.2.2.2 = -1 by omega)]
    have hw : ∀ x ∈ l, IntKind.i64.wrap (x + f.2.2.2) = x + f.2.2.2 := by
      intro x hx
      obtain ⟨a1, a2, a3⟩ := hbd x hx
      unfold fateV at a3
      simp only [Bool.and_eq_true, inB_iff] at a3
      exact i64_in _ (by omega)
    have key : ∀ (r pre : List Int) (m : Nat) (k1 : zq6b β), l = pre ++ r → r.length < m →
        zq6l m k1 (pre.length : Int) f.1 f.2.1 f.2.2.1 f.2.2.2 (pre.map (· + f.2.2.2)) l = k1 (l.map (· + f.2.2.2)) := by
      intro r
      induction r with
      | nil =>
        intro pre m k1 hp hm
        obtain ⟨m, rfl⟩ : ∃ m', m = m' + 1 := ⟨m - 1, by simp at hm; omega⟩
        rw [List.append_nil] at hp
        subst hp
        simp only [zq6m, zq6f]
        exact c_neg (by omega)
      | cons x r ih =>
        intro pre m k1 hp hm
        obtain ⟨m, rfl⟩ : ∃ m', m = m' + 1 := ⟨m - 1, by simp at hm; omega⟩
        have hl : l.length = pre.length + (r.length + 1) := by rw [hp]; simp
        have hg : l.getD pre.length (0 : Int) = x := by rw [hp]; simp [List.getD]
        simp only [zq6m, zq6f, Int.toNat_natCast]
        refine (c_pos (by omega)).trans ?_
        refine (c_pos h).trans ?_
        refine (c_inb (by omega)).trans ?_
        refine (c_room (by simp only [List.length_map, List.length_cons, List.length_nil]; omega)).trans ?_
        rw [hg, hw x (by rw [hp]; simp), i64_in ((pre.length : Int) + 1) (by omega)]
        have := ih (pre ++ [x]) m k1 (by rw [hp]; simp) (by simp at hm; omega)
        simp only [List.length_append, List.length_cons, List.length_nil, List.map_append, List.map_cons, List.map_nil] at this
        rw [← this]
        congr 1
    exact key l [] fuel _ rfl (lt_fuel (by omega))
  · obtain ⟨m, hm⟩ := fuel_succ
    have hres : cond (decide (f.2.2.2 = -1)) ([] : List Int) (l.map (· + f.2.2.2)) = [] := by
      by_cases h1 : f.2.2.2 = -1
      · rw [decide_eq_true h1]; rfl
      · rw [decide_eq_false h1]
        cases l with
        | nil => rfl
        | cons x r =>
          obtain ⟨a1, a2, a3⟩ := hbd x (by simp)
          unfold fateV at a3
          simp only [Bool.and_eq_true, inB_iff] at a3
          omega
    rw [hres]
    unfold zq6n
    rw [hm]
    simp only [zq6m, zq6f]
    cases l with
    | nil => exact c_neg (by simp)
    | cons x r =>
      refine (c_pos (by simp)).trans ?_
      exact c_neg h

/-! ### The reference's insertion -/
theorem r_insert {l : List Int} (hs : l.Pairwise (fun x y => x ≤ y)) (hl : l.length ≤ 1000) (x : Int) (k : List Int → Option β) : zq2r l x k = k (sortInts (l ++ [x])) := by
  have key : ∀ (n m : Nat), n ≤ l.length → n < m → (∀ y ∈ l.drop n, x < y) → ∃ a b, l = a ++ b ∧ (∀ y ∈ a, y ≤ x) ∧ (∀ y ∈ b, x < y) ∧ ∀ k1 : zq2d β, zq2n m k1 l x (n : Int) = k1 l x (a.length : Int) := by
    intro n
    induction n with
    | zero =>
      intro m _ hm hd
      obtain ⟨m, rfl⟩ : ∃ m', m = m' + 1 := ⟨m - 1, by omega⟩
      refine ⟨[], l, rfl, by simp, by simpa using hd, fun k1 => ?_⟩
      simp only [zq2o, zq2h]
      exact c_neg (by omega)
    | succ n ih =>
      intro m hn hm hd
      obtain ⟨m, rfl⟩ : ∃ m', m = m' + 1 := ⟨m - 1, by omega⟩
      have hlt : n < l.length := by omega
      have eg : l.getD n (0 : Int) = l[n] := by simp [List.getD, hlt]
      have e1 : IntKind.i64.wrap (((n + 1 : Nat) : Int) - 1) = (n : Int) := by rw [i64_in _ (by omega)]; omega
      by_cases hx : x < l[n]
      · obtain ⟨a, b, h1, h2, h3, h4⟩ := ih m (by omega) (by omega) (fun y hy => by
          rw [List.drop_eq_getElem_cons hlt] at hy
          rcases List.mem_cons.1 hy with rfl | hy
          · exact hx
          · exact hd y hy)
        refine ⟨a, b, h1, h2, h3, fun k1 => ?_⟩
        simp only [zq2o, zq2h, e1, Int.toNat_natCast, eg]
        refine (c_pos (by omega)).trans ?_
        refine (c_inb (by omega)).trans ?_
        refine (c_pos hx).trans ?_
        exact h4 k1
      · refine ⟨l.take (n + 1), l.drop (n + 1), (List.take_append_drop _ _).symm, fun y hy => ?_, hd, fun k1 => ?_⟩
        · rw [List.take_add_one, List.getElem?_eq_getElem hlt, Option.toList_some] at hy
          rcases List.mem_append.1 hy with hy | hy
          · obtain ⟨q, hq, rfl⟩ := List.getElem_of_mem hy
            have hq' : q < n := by simp only [List.length_take] at hq; omega
            rw [List.getElem_take]
            have := List.pairwise_iff_getElem.1 hs q n (by omega) hlt hq'
            omega
          · rw [List.mem_singleton.1 hy]
            omega
        · simp only [zq2o, zq2h, e1, Int.toNat_natCast, eg]
          refine (c_pos (by omega)).trans ?_
          refine (c_inb (by omega)).trans ?_
          refine (c_neg hx).trans ?_
          rw [List.length_take, show min (n + 1) l.length = n + 1 by omega]
  obtain ⟨a, b, h1, h2, h3, h4⟩ := key l.length fuel (Nat.le_refl _) (lt_fuel (by omega)) (by simp)
  unfold zq2r zq2k
  refine (h4 _).trans ?_
  have hab : l.length = a.length + b.length := by rw [h1, List.length_append]
  have e1 : List.drop 0 (List.take a.length l) = a := by rw [h1, List.take_left, List.drop_zero]
  have e2 : List.drop a.length (List.take l.length l) = b := by rw [List.take_length, h1, List.drop_left]
  refine (c_tt' (by simp only [Bool.and_eq_true, decide_eq_true_eq]; omega)).trans ?_
  simp only [Int.toNat_natCast, Int.toNat_zero, e1, e2]
  refine (c_room (by omega)).trans ?_
  refine (c_room (by simp only [List.length_cons, List.length_nil]; omega)).trans ?_
  refine (c_tt' (by simp only [Bool.and_eq_true, decide_eq_true_eq]; omega)).trans ?_
  refine (c_room (by simp only [List.length_append, List.length_cons, List.length_nil]; omega)).trans (k_eq ?_)
  refine sI_unique ?_ (sI_sorted _) (List.Perm.trans ?_ (sI_perm _).symm)
  · rw [h1] at hs
    obtain ⟨s1, s2, s3⟩ := List.pairwise_append.1 hs
    rw [List.append_assoc]
    refine List.pairwise_append.2 ⟨s1, List.pairwise_cons.2 ⟨fun y hy => by have := h3 y hy; omega, s2⟩, fun y hy z hz => ?_⟩
    rcases List.mem_cons.1 hz with rfl | hz
    · exact h2 y hy
    · exact s3 y hy z hz
  · rw [h1, List.append_assoc, List.append_assoc]
    exact (List.perm_append_comm (l₁ := [x]) (l₂ := b)).append_left a
end
end
end Go.Lift

/- The run of a contact (chapter 27), code and reference; bounds; equal lists; the examples. -/
namespace Go.Lift
open Go.RowKit Go.IntWalk
noncomputable section
set_option linter.unusedVariables false
set_option linter.unusedSimpArgs false
set_option maxRecDepth 10000

abbrev RunS := List Int × List Int × Nat
def runStep (fates : List (List Fate)) (a : Att) (s : RunS) : RunS :=
  (s.1 ++ arrOf a.2.2 (fateOf (fates.getD a.1.toNat []) a.2.1), s.2.1 ++ recOf a.2.2 (fateOf (fates.getD a.1.toNat []) a.2.1), s.2.2 + 1)
def runStop (prev : Option Int) (a : Att) (s : RunS) : Bool := !decide (prev = some a.2.2) && s.2.1.any fun t => decide (t ≤ a.2.2)
def runGo (fates : List (List Fate)) : List Att → Option Int → RunS → RunS
  | [], _, s => s
  | a :: l, prev, s => cond (runStop prev a s) s (runGo fates l (some a.2.2) (runStep fates a s))
def runD (p : Prof) (start : Int) (fates : List (List Fate)) : RunS := runGo fates (planOf p start) none ([], [], 0)

theorem runStep_len (fates : List (List Fate)) (a : Att) (s : RunS) : (runStep fates a s).1.length ≤ s.1.length + 2 ∧ (runStep fates a s).2.1.length ≤ s.2.1.length + 2 := by
  unfold runStep
  have h1 := arrOf_len a.2.2 (fateOf (fates.getD a.1.toNat []) a.2.1)
  have h2 := recOf_len a.2.2 (fateOf (fates.getD a.1.toNat []) a.2.1)
  simp only [List.length_append]
  omega

abbrev lastAt (pre : List Att) : Option Int := pre.getLast?.map fun a => a.2.2

section
variable {β : Type}
theorem d_index2 {l : List Int} (hl : l.length ≤ 1000) (a : Att) (k1 : zqcp β) (k2 : zqcq β) (E : Option β) (hE : ∀ i : Nat, k1 (i : Int) a.1 a.2.1 a.2.2 = E) :
    zqd2 k1 k2 l (l.length : Int) 0 a.1 a.2.1 a.2.2 = cond (l.all fun t => !decide (t ≤ a.2.2)) (k2 a.1 a.2.1 a.2.2) E := by
  refine check_loop (fun m i => zqd0 m k1 k2 l (l.length : Int) i a.1 a.2.1 a.2.2) (fun t => !decide (t ≤ a.2.2)) E (k2 a.1 a.2.1 a.2.2) 0 l fuel (lt_fuel (by omega)) (fun m i hi => ?_) (fun m => ?_)
  · simp only [zqd1, zqcu, Int.toNat_natCast]
    refine (c_pos (by omega)).trans ?_
    refine (c_inb (by omega)).trans ?_
    unfold zq25 zq22
    rw [i64_in ((i : Int) + 1) (by omega)]
    cases decide (l.getD i 0 ≤ a.2.2) with
    | true => exact hE i
    | false => rfl
  · simp only [zqd1, zqcu]
    rw [c_neg (by omega)]
theorem d_contains2 {l : List Int} (hl : l.length ≤ 1000) (a : Att) (k : Bool → Att → Option β) : zqdb l a k = k (l.any fun t => decide (t ≤ a.2.2)) a := by
  unfold zqdb zqd8 zqd4 zqcx
  refine (d_index2 hl a _ _ (k true a) fun i => ?_).trans ?_
  · show k (decide ((0 : Int) ≤ (i : Int))) a = k true a
    rw [decide_eq_true (by omega)]
  · have : (l.any fun t => decide (t ≤ a.2.2)) = !(l.all fun t => !decide (t ≤ a.2.2)) := by simp [List.any_eq_not_all_not]
    rw [this]
    cases (l.all fun t => !decide (t ≤ a.2.2)) <;> rfl

theorem d_run1 {fates : List (List Fate)} {f : List Fate} (hf : f.length ≤ 9223372036854775807) {sent t18 t19 : Int} {s : RunS} (hs1 : s.1.length ≤ 100) (hs2 : s.2.1.length ≤ 100) (hs : s.2.2 ≤ 100) (l : List Att) (a : Att) (k1 : zqdf β) :
    zqe3 k1 fates (s.2.2 : Int) f t18 t19 s.1 s.2.1 l a.1 a.2.1 a.2.2 = k1 fates ((s.2.2 + 1 : Nat) : Int) t18 t19 (s.1 ++ arrOf a.2.2 (fateOf f a.2.1)) (s.2.1 ++ recOf a.2.2 (fateOf f a.2.1)) l := by
  unfold zqe3 zqds zqdr
  have h1 := arrOf_len a.2.2 (fateOf f a.2.1)
  have h2 := recOf_len a.2.2 (fateOf f a.2.1)
  refine (ch_fates hf _ _).trans ?_
  refine (ch_arrivals _ _ _).trans ?_
  refine (c_room (by omega)).trans ?_
  refine (ch_receipts _ _ _).trans ?_
  refine (c_room (by omega)).trans ?_
  rw [i64_in ((s.2.2 : Int) + 1) (by omega)]
  rfl
theorem getD_len {fates : List (List Fate)} (hf : ∀ f ∈ fates, f.length ≤ 9223372036854775807) (i : Nat) : (fates.getD i []).length ≤ 9223372036854775807 := by
  by_cases h : i < fates.length
  · have : fates.getD i [] = fates[i] := by simp [List.getD, h]
    rw [this]; exact hf _ (List.getElem_mem h)
  · have : fates.getD i [] = [] := by simp [List.getD, h]
    rw [this]; simp
theorem d_run2 {fates : List (List Fate)} (hf : ∀ f ∈ fates, f.length ≤ 9223372036854775807) {t18 t19 : Int} {s : RunS} (hs1 : s.1.length ≤ 100) (hs2 : s.2.1.length ≤ 100) (hs : s.2.2 ≤ 100) (l : List Att) (a : Att) (ha : 0 ≤ a.1) (k1 : zqdj β) :
    zqe5 k1 fates (s.2.2 : Int) t18 t19 s.1 s.2.1 l a.1 a.2.1 a.2.2 = k1 fates ((runStep fates a s).2.2 : Int) t18 t19 (runStep fates a s).1 (runStep fates a s).2.1 l := by
  unfold zqe5 zqdv zqdu
  by_cases h : a.1 < (fates.length : Int)
  · refine (c_pos h).trans ?_
    refine (c_inb (by omega)).trans ?_
    exact d_run1 (sent := 0) (getD_len hf _) hs1 hs2 hs l a _
  · refine (c_neg h).trans ?_
    have : fates.getD a.1.toNat [] = [] := by
      have : ¬ a.1.toNat < fates.length := by omega
      simp [List.getD, this]
    unfold runStep
    rw [this]
    exact d_run1 (sent := 0) (by simp) hs1 hs2 hs l a _

theorem d_run3 {fates : List (List Fate)} (hf : ∀ f ∈ fates, f.length ≤ 9223372036854775807) {l : List Att} (hl : l.length ≤ 24) (hok : ∀ a ∈ l, 0 ≤ a.1) :
    ∀ (r pre : List Att) (m : Nat) (s : RunS) (k1 : zqdn β), l = pre ++ r → r.length < m → s.1.length ≤ 2 * pre.length → s.2.1.length ≤ 2 * pre.length → s.2.2 ≤ pre.length →
      zqe7 m k1 fates (s.2.2 : Int) (l.length : Int) (pre.length : Int) s.1 s.2.1 l = k1 ((runGo fates r (lastAt pre) s).2.2 : Int) (runGo fates r (lastAt pre) s).1 (runGo fates r (lastAt pre) s).2.1 := by
  intro r
  induction r with
  | nil =>
    intro pre m s k1 hp hm _ _ _
    obtain ⟨m, rfl⟩ : ∃ m', m = m' + 1 := ⟨m - 1, by simp at hm; omega⟩
    rw [List.append_nil] at hp
    subst hp
    simp only [zqe8, zqdx]
    exact c_neg (by omega)
  | cons x r ih =>
    intro pre m s k1 hp hm h1 h2 h3
    obtain ⟨m, rfl⟩ : ∃ m', m = m' + 1 := ⟨m - 1, by simp at hm; omega⟩
    have hlen : l.length = pre.length + (r.length + 1) := by rw [hp]; simp
    have hg : l.getD pre.length ((0 : Int), ((0 : Int), (0 : Int))) = x := by rw [hp]; simp [List.getD]
    have hx0 : 0 ≤ x.1 := hok x (by rw [hp]; simp)
    have hnext : ∀ k1 : zqdn β, zqe7 m k1 fates ((runStep fates x s).2.2 : Int) (l.length : Int) ((pre.length : Int) + 1) (runStep fates x s).1 (runStep fates x s).2.1 l = k1 ((runGo fates r (some x.2.2) (runStep fates x s)).2.2 : Int) (runGo fates r (some x.2.2) (runStep fates x s)).1 (runGo fates r (some x.2.2) (runStep fates x s)).2.1 := by
      intro k1
      have g := runStep_len fates x s
      have := ih (pre ++ [x]) m (runStep fates x s) k1 (by rw [hp]; simp) (by simp at hm; omega) (by rw [List.length_append, List.length_singleton]; omega) (by rw [List.length_append, List.length_singleton]; omega) (by rw [List.length_append, List.length_singleton]; show s.2.2 + 1 ≤ _; omega)
      have e : lastAt (pre ++ [x]) = some x.2.2 := by simp [lastAt]
      rw [e, List.length_append, List.length_singleton] at this
      exact this
    simp only [zqe8, zqdx, Int.toNat_natCast, hg]
    refine (c_pos (by omega)).trans ?_
    refine (c_inb (by omega)).trans ?_
    have hstep : ∀ (b : Bool), cond b (k1 (s.2.2 : Int) s.1 s.2.1) (zqe5 (fun fates2 sent2 t182 t192 arrivals2 receipts2 l2 => zqe7 m k1 fates2 sent2 t182 (IntKind.i64.wrap (t192 + (1 : Int))) arrivals2 receipts2 l2) fates (s.2.2 : Int) (l.length : Int) (pre.length : Int) s.1 s.2.1 l x.1 x.2.1 x.2.2) =
        k1 ((cond b s (runGo fates r (some x.2.2) (runStep fates x s))).2.2 : Int) (cond b s (runGo fates r (some x.2.2) (runStep fates x s))).1 (cond b s (runGo fates r (some x.2.2) (runStep fates x s))).2.1 := by
      intro b
      cases b with
      | true => rfl
      | false =>
        refine (d_run2 hf (by omega) (by omega) (by omega) l x hx0 _).trans ?_
        rw [i64_in ((pre.length : Int) + 1) (by omega)]
        exact hnext k1
    rcases List.eq_nil_or_concat pre with rfl | ⟨pre', y, rfl⟩
    · refine (c_pos (by simp)).trans ?_
      refine (d_contains2 (by omega) x _).trans ?_
      refine (hstep _).trans ?_
      rfl
    · rw [List.concat_eq_append] at *
      have hy : l.getD pre'.length ((0 : Int), ((0 : Int), (0 : Int))) = y := by rw [hp]; simp [List.getD]
      have hpl : (pre' ++ [y]).length = pre'.length + 1 := by simp
      refine (c_neg (by omega)).trans ?_
      rw [i64_in (((pre' ++ [y]).length : Int) - 1) (by omega), show (((pre' ++ [y]).length : Int) - 1) = (pre'.length : Int) by omega]
      refine (c_inb (by omega)).trans ?_
      simp only [Int.toNat_natCast, hy]
      have hlast : lastAt (pre' ++ [y]) = some y.2.2 := by simp [lastAt]
      by_cases he : y.2.2 = x.2.2
      · refine (c_npos he).trans ?_
        refine (hstep false).trans ?_
        have : runGo fates (x :: r) (lastAt (pre' ++ [y])) s = runGo fates r (some x.2.2) (runStep fates x s) := by
          rw [runGo, runStop, hlast, he]
          simp
        rw [this]
        rfl
      · refine (c_nneg he).trans ?_
        refine (d_contains2 (by omega) x _).trans ?_
        refine (hstep _).trans ?_
        have : runGo fates (x :: r) (lastAt (pre' ++ [y])) s = cond (s.2.1.any fun t => decide (t ≤ x.2.2)) s (runGo fates r (some x.2.2) (runStep fates x s)) := by
          rw [runGo, runStop, hlast]
          rw [decide_eq_false (show ¬ (some y.2.2 : Option Int) = some x.2.2 by simpa using he)]
          rfl
        rw [this]

theorem runGo_len (fates : List (List Fate)) : ∀ (l : List Att) (prev : Option Int) (s : RunS), (runGo fates l prev s).1.length ≤ s.1.length + 2 * l.length ∧ (runGo fates l prev s).2.1.length ≤ s.2.1.length + 2 * l.length
  | [], prev, s => by simp [runGo]
  | a :: l, prev, s => by
    unfold runGo
    have h1 := runGo_len fates l (some a.2.2) (runStep fates a s)
    have h2 := runStep_len fates a s
    simp only [List.length_cons]
    cases runStop prev a s with
    | true => simp only [cond_true]; omega
    | false => simp only [cond_false]; omega

theorem d_run (p : Prof) (start : Int) {fates : List (List Fate)} (hf : ∀ f ∈ fates, f.length ≤ 9223372036854775807) (k : Int → List Int → List Int → Option β) :
    zqeb p start fates k = k ((runD p start fates).2.2 : Int) (sortInts (runD p start fates).1) (sortInts (runD p start fates).2.1) := by
  unfold zqeb zqe0
  refine (d_plan _ _ _).trans ?_
  have hl := planOf_len p start
  have g := runGo_len fates (planOf p start) none ([], [], 0)
  refine (d_run3 hf hl (fun a ha => (planOf_ok a ha).1.c1) (planOf p start) [] fuel ([], [], 0) _ rfl (lt_fuel (by omega)) (by simp) (by simp) (by simp)).trans ?_
  simp only [List.length_nil] at g
  refine (c_pos (show _ < 4611686018427387904 by show (runGo fates (planOf p start) none ([], [], 0)).1.length < _; omega)).trans ?_
  exact c_pos (show _ < 4611686018427387904 by show (runGo fates (planOf p start) none ([], [], 0)).2.1.length < _; omega)

/-! ### The reference's run -/
theorem sI_snoc (l : List Int) (x : Int) : sortInts (sortInts l ++ [x]) = sortInts (l ++ [x]) := sI_eq ((sI_perm l).append_right _)
theorem r_run1 {fates : List (List Fate)} {sent i_ : Int} {recs : List Int} {l : List Att} {a rs : List Int} (ha : a.length ≤ 2) {arr : List Int} (hl : arr.length ≤ 100) (k1 : zq9k β) :
    zqao k1 fates sent i_ 0 (sortInts arr) recs l a rs = k1 fates sent i_ (sortInts (arr ++ a)) recs l rs := by
  have key : ∀ (r pre : List Int) (m : Nat), a = pre ++ r → r.length < m → zqam m k1 fates sent i_ (pre.length : Int) (sortInts (arr ++ pre)) recs l a rs = k1 fates sent i_ (sortInts (arr ++ a)) recs l rs := by
    intro r
    induction r with
    | nil =>
      intro pre m hp hm
      obtain ⟨m, rfl⟩ : ∃ m', m = m' + 1 := ⟨m - 1, by simp at hm; omega⟩
      rw [List.append_nil] at hp
      subst hp
      simp only [zqan, zqa4]
      exact c_neg (by omega)
    | cons x r ih =>
      intro pre m hp hm
      obtain ⟨m, rfl⟩ : ∃ m', m = m' + 1 := ⟨m - 1, by simp at hm; omega⟩
      have hlen : a.length = pre.length + (r.length + 1) := by rw [hp]; simp
      have hg : a.getD pre.length (0 : Int) = x := by rw [hp]; simp [List.getD]
      simp only [zqan, zqa4, Int.toNat_natCast, hg]
      refine (c_pos (by omega)).trans ?_
      refine (c_inb (by omega)).trans ?_
      refine (r_insert (sI_sorted _) (by rw [sI_len, List.length_append]; omega) x _).trans ?_
      rw [sI_snoc, i64_in ((pre.length : Int) + 1) (by omega), List.append_assoc]
      have := ih (pre ++ [x]) m (by rw [hp]; simp) (by simp at hm; omega)
      rw [List.length_append, List.length_singleton] at this
      exact this
  have := key a [] fuel rfl (lt_fuel (by omega))
  rw [List.append_nil] at this
  exact this
theorem r_run2 {fates : List (List Fate)} {sent i_ : Int} {arr : List Int} {l : List Att} {rs : List Int} (ha : rs.length ≤ 2) {recs : List Int} (hl : recs.length ≤ 100) (k1 : zq9o β) :
    zqas k1 fates sent i_ 0 arr (sortInts recs) l rs = k1 fates sent i_ arr (sortInts (recs ++ rs)) l := by
  have key : ∀ (r pre : List Int) (m : Nat), rs = pre ++ r → r.length < m → zqaq m k1 fates sent i_ (pre.length : Int) arr (sortInts (recs ++ pre)) l rs = k1 fates sent i_ arr (sortInts (recs ++ rs)) l := by
    intro r
    induction r with
    | nil =>
      intro pre m hp hm
      obtain ⟨m, rfl⟩ : ∃ m', m = m' + 1 := ⟨m - 1, by simp at hm; omega⟩
      rw [List.append_nil] at hp
      subst hp
      simp only [zqar, zqa7]
      exact c_neg (by omega)
    | cons x r ih =>
      intro pre m hp hm
      obtain ⟨m, rfl⟩ : ∃ m', m = m' + 1 := ⟨m - 1, by simp at hm; omega⟩
      have hlen : rs.length = pre.length + (r.length + 1) := by rw [hp]; simp
      have hg : rs.getD pre.length (0 : Int) = x := by rw [hp]; simp [List.getD]
      simp only [zqar, zqa7, Int.toNat_natCast, hg]
      refine (c_pos (by omega)).trans ?_
      refine (c_inb (by omega)).trans ?_
      refine (r_insert (sI_sorted _) (by rw [sI_len, List.length_append]; omega) x _).trans ?_
      rw [sI_snoc, i64_in ((pre.length : Int) + 1) (by omega), List.append_assoc]
      have := ih (pre ++ [x]) m (by rw [hp]; simp) (by simp at hm; omega)
      rw [List.length_append, List.length_singleton] at this
      exact this
  have := key rs [] fuel rfl (lt_fuel (by omega))
  rw [List.append_nil] at this
  exact this

theorem r_run3 {fates : List (List Fate)} {i : Nat} {f : List Fate} {s : RunS} (h1 : s.1.length ≤ 100) (h2 : s.2.1.length ≤ 100) (h3 : s.2.2 ≤ 100) {l : List Att} (hi : i < l.length) (hl : l.length ≤ 24) {x : Att} (hx : l.getD i ((0 : Int), ((0 : Int), (0 : Int))) = x) (k1 : zq9s β) :
    zqau k1 fates (s.2.2 : Int) (i : Int) f (sortInts s.1) (sortInts s.2.1) l = k1 fates ((s.2.2 + 1 : Nat) : Int) (i : Int) (sortInts (s.1 ++ arrOf x.2.2 (fateOf f x.2.1))) (sortInts (s.2.1 ++ recOf x.2.2 (fateOf f x.2.1))) l := by
  unfold zqau zqab zqaa
  simp only [Int.toNat_natCast, hx]
  refine (c_inb (by omega)).trans ?_
  refine (r26_fates _ _).trans ?_
  refine (c_inb (by omega)).trans ?_
  refine (r26_arrivals _ _ _).trans ?_
  refine (c_inb (by omega)).trans ?_
  refine (r26_receipts _ _ _).trans ?_
  refine (r_run1 (arrOf_len _ _) h1 _).trans ?_
  refine (r_run2 (recOf_len _ _) h2 _).trans ?_
  rw [i64_in ((s.2.2 : Int) + 1) (by omega)]
  rfl
theorem r_run4 {fates : List (List Fate)} {i : Nat} {s : RunS} (h1 : s.1.length ≤ 100) (h2 : s.2.1.length ≤ 100) (h3 : s.2.2 ≤ 100) {l : List Att} (hi : i < l.length) (hl : l.length ≤ 24) {x : Att} (hx : l.getD i ((0 : Int), ((0 : Int), (0 : Int))) = x) (hx0 : 0 ≤ x.1) (k1 : zq9w β) :
    zqaw k1 fates (s.2.2 : Int) (i : Int) (sortInts s.1) (sortInts s.2.1) l = k1 fates ((runStep fates x s).2.2 : Int) (i : Int) (sortInts (runStep fates x s).1) (sortInts (runStep fates x s).2.1) l := by
  unfold zqaw zqae zqad
  simp only [Int.toNat_natCast, hx]
  refine (c_inb (by omega)).trans ?_
  by_cases h : x.1 < (fates.length : Int)
  · refine (c_pos h).trans ?_
    refine (c_inb (by omega)).trans ?_
    refine (c_inb (by omega)).trans ?_
    exact r_run3 h1 h2 h3 hi hl hx _
  · refine (c_neg h).trans ?_
    have : fates.getD x.1.toNat [] = [] := by
      have : ¬ x.1.toNat < fates.length := by omega
      simp [List.getD, this]
    unfold runStep
    rw [this]
    exact r_run3 h1 h2 h3 hi hl hx _

theorem head_any {R : List Int} (hs : R.Pairwise (fun x y => x ≤ y)) (t : Int) {b : Bool} (hb : b = true) {X Y : Option β} :
    cond (decide ((0 : Int) < (R.length : Int))) (cond (decide ((0 : Int) ≤ 0) && decide ((0 : Int) < (R.length : Int))) (cond b (cond (decide (R.getD 0 0 ≤ t)) X Y) none) none) Y = cond (R.any fun x => decide (x ≤ t)) X Y := by
  subst hb
  cases R with
  | nil => rfl
  | cons y r =>
    refine (c_pos (by simp)).trans ?_
    refine (c_inb (by simp)).trans ?_
    refine c_t.trans ?_
    show cond (decide (y ≤ t)) X Y = _
    by_cases h : y ≤ t
    · rw [decide_eq_true h]
      simp [h]
    · rw [decide_eq_false h]
      have : (y :: r).any (fun x => decide (x ≤ t)) = false := by
        rw [List.any_eq_false]
        intro z hz
        have : y ≤ z := by
          rcases List.mem_cons.1 hz with rfl | hz
          · omega
          · exact (List.pairwise_cons.1 hs).1 z hz
        simp; omega
      rw [this]

theorem r_run5 {fates : List (List Fate)} {l : List Att} (hl : l.length ≤ 24) (hok : ∀ a ∈ l, 0 ≤ a.1) (hasc : AscA l) :
    ∀ (r pre : List Att) (m : Nat) (s : RunS) (k1 : zqa0 β), l = pre ++ r → r.length < m → s.1.length ≤ 2 * pre.length → s.2.1.length ≤ 2 * pre.length → s.2.2 ≤ pre.length →
      zqay m k1 fates (s.2.2 : Int) (pre.length : Int) (sortInts s.1) (sortInts s.2.1) l = k1 ((runGo fates r (lastAt pre) s).2.2 : Int) (sortInts (runGo fates r (lastAt pre) s).1) (sortInts (runGo fates r (lastAt pre) s).2.1) := by
  intro r
  induction r with
  | nil =>
    intro pre m s k1 hp hm _ _ _
    obtain ⟨m, rfl⟩ : ∃ m', m = m' + 1 := ⟨m - 1, by simp at hm; omega⟩
    rw [List.append_nil] at hp
    subst hp
    simp only [zqaz, zqag]
    exact c_neg (by omega)
  | cons x r ih =>
    intro pre m s k1 hp hm h1 h2 h3
    obtain ⟨m, rfl⟩ : ∃ m', m = m' + 1 := ⟨m - 1, by simp at hm; omega⟩
    have hlen : l.length = pre.length + (r.length + 1) := by rw [hp]; simp
    have hg : l.getD pre.length ((0 : Int), ((0 : Int), (0 : Int))) = x := by rw [hp]; simp [List.getD]
    have hx0 : 0 ≤ x.1 := hok x (by rw [hp]; simp)
    have hnext : ∀ k1 : zqa0 β, zqay m k1 fates ((runStep fates x s).2.2 : Int) ((pre.length : Int) + 1) (sortInts (runStep fates x s).1) (sortInts (runStep fates x s).2.1) l = k1 ((runGo fates r (some x.2.2) (runStep fates x s)).2.2 : Int) (sortInts (runGo fates r (some x.2.2) (runStep fates x s)).1) (sortInts (runGo fates r (some x.2.2) (runStep fates x s)).2.1) := by
      intro k1
      have g := runStep_len fates x s
      have := ih (pre ++ [x]) m (runStep fates x s) k1 (by rw [hp]; simp) (by simp at hm; omega) (by rw [List.length_append, List.length_singleton]; omega) (by rw [List.length_append, List.length_singleton]; omega) (by rw [List.length_append, List.length_singleton]; show s.2.2 + 1 ≤ _; omega)
      have e : lastAt (pre ++ [x]) = some x.2.2 := by simp [lastAt]
      rw [e, List.length_append, List.length_singleton] at this
      exact this
    have hgo : zqaw (fun fates2 sent2 i_2 arrivals2 receipts2 l2 => zqay m k1 fates2 sent2 (IntKind.i64.wrap (i_2 + (1 : Int))) arrivals2 receipts2 l2) fates (s.2.2 : Int) (pre.length : Int) (sortInts s.1) (sortInts s.2.1) l =
        k1 ((runGo fates r (some x.2.2) (runStep fates x s)).2.2 : Int) (sortInts (runGo fates r (some x.2.2) (runStep fates x s)).1) (sortInts (runGo fates r (some x.2.2) (runStep fates x s)).2.1) := by
      refine (r_run4 (by omega) (by omega) (by omega) (by omega) hl hg hx0 _).trans ?_
      rw [i64_in ((pre.length : Int) + 1) (by omega)]
      exact hnext k1
    have hany : (sortInts s.2.1).any (fun t => decide (t ≤ x.2.2)) = s.2.1.any fun t => decide (t ≤ x.2.2) := any_perm (sI_perm _) _
    have hck : (decide ((0 : Int) ≤ (pre.length : Int)) && decide ((pre.length : Int) < (l.length : Int))) = true := by simp; omega
    simp only [zqaz, zqag, Int.toNat_natCast, hg]
    refine (c_pos (by omega)).trans ?_
    rcases List.eq_nil_or_concat pre with rfl | ⟨pre', y, rfl⟩
    · refine (c_pos (by simp)).trans ?_
      refine (head_any (sI_sorted _) x.2.2 hck).trans ?_
      rw [hany, runGo, runStop]
      have : (!decide (lastAt ([] : List Att) = some x.2.2)) = true := by simp [lastAt]
      rw [this, Bool.true_and]
      cases s.2.1.any fun t => decide (t ≤ x.2.2) with
      | true => rfl
      | false => exact hgo
    · rw [List.concat_eq_append] at *
      have hy : l.getD pre'.length ((0 : Int), ((0 : Int), (0 : Int))) = y := by rw [hp]; simp [List.getD]
      have hpl : (pre' ++ [y]).length = pre'.length + 1 := by simp
      have hle : y.2.2 ≤ x.2.2 := by
        rw [hp, List.append_assoc] at hasc
        have h5 := (List.pairwise_append.1 hasc).2.1
        exact attLe_at ((List.pairwise_cons.1 h5).1 x (by simp))
      refine (c_neg (by omega)).trans ?_
      rw [i64_in (((pre' ++ [y]).length : Int) - 1) (by omega), show (((pre' ++ [y]).length : Int) - 1) = (pre'.length : Int) by omega]
      refine (c_inb (by omega)).trans ?_
      refine (c_tt' hck).trans ?_
      simp only [Int.toNat_natCast, hy]
      have hlast : lastAt (pre' ++ [y]) = some y.2.2 := by simp [lastAt]
      by_cases he : y.2.2 < x.2.2
      · refine (c_pos he).trans ?_
        refine (head_any (sI_sorted _) x.2.2 hck).trans ?_
        rw [hany, runGo, runStop, hlast]
        rw [decide_eq_false (show ¬ (some y.2.2 : Option Int) = some x.2.2 by simp; omega), Bool.not_false, Bool.true_and]
        cases s.2.1.any fun t => decide (t ≤ x.2.2) with
        | true => rfl
        | false => exact hgo
      · refine (c_neg he).trans ?_
        have : runGo fates (x :: r) (lastAt (pre' ++ [y])) s = runGo fates r (some x.2.2) (runStep fates x s) := by
          rw [runGo, runStop, hlast, show y.2.2 = x.2.2 by omega]
          simp
        rw [this]
        exact hgo

theorem r_run (p : Prof) (start : Int) (fates : List (List Fate)) (k : Int → List Int → List Int → Option β) :
    zqb2 p start fates k = k ((runD p start fates).2.2 : Int) (sortInts (runD p start fates).1) (sortInts (runD p start fates).2.1) := by
  unfold zqb2 zqaj
  refine (r_plan _ _ _).trans ?_
  have hl := planOf_len p start
  have h0 : sortInts [] = [] := List.eq_nil_of_length_eq_zero (sI_len [])
  have := fun k1 : zqa0 β => r_run5 (fates := fates) hl (fun a ha => (planOf_ok a ha).1.c1) (planOf_asc p start) (planOf p start) [] fuel ([], [], 0) k1 rfl (lt_fuel (by omega)) (by simp) (by simp) (by simp)
  simp only [h0] at this
  exact this _

/-! ### Equal lists -/
theorem same_int {l : List Int} (hl : l.length ≤ 1000) (k : Bool → Option β) : zq16 l l k = k true := by
  unfold zq16 zqz
  refine (c_npos rfl).trans ?_
  refine (check_loop (fun m i => zq12 m (fun t4 => k t4) (fun _ => k true) l l i) (fun _ => true) (k false) (k true) 0 l fuel (lt_fuel (by omega)) (fun m i hi => ?_) (fun m => ?_)).trans ?_
  · simp only [zq13, zqw, Int.toNat_natCast]
    refine (c_pos (by omega)).trans ?_
    refine (c_inb (by omega)).trans ?_
    refine (c_inb (by omega)).trans ?_
    refine (c_npos trivial).trans ?_
    rw [i64_in ((i : Int) + 1) (by omega)]
    rfl
  · simp only [zq13, zqw]
    rw [c_neg (by omega)]
  · have : (l.all fun _ => true) = true := List.all_eq_true.2 fun _ _ => rfl
    rw [this]; rfl

/-! ### The examples -/
theorem sane27 (k : Bool → Option β) : zqei k = k true := by
  unfold zqei zqef
  refine (d_plan _ _ _).trans ?_
  refine (d_run _ _ (by simp) _).trans ?_
  have e1 : planOf (0, [(0, 9, 2, 60), (0, 9, 2, 90)]) 0 = [(0, 0, 0), (1, 0, 0), (0, 1, 60), (1, 1, 90)] := by decide +kernel
  have e2 : runD (0, [(0, 9, 2, 60), (0, 9, 2, 90)]) 0 [[(false, 30, 0, 0)]] = ([30], [30], 2) := by
    unfold runD
    rw [e1]
    decide +kernel
  have e3 : sortInts [30] = [30] := by simp [sortInts, List.mergeSort]
  rw [e1, e2]
  simp only [e3]
  rfl
end
end
end Go.Lift

/- The dice in plain Lean. -/
namespace Go.Lift
open Go.RowKit Go.IntWalk
noncomputable section
set_option linter.unusedVariables false
set_option linter.unusedSimpArgs false

abbrev Dice := List Int × Int
def DiceOk (d : Dice) : Prop := 0 ≤ d.2 ∧ d.2 ≤ d.1.length ∧ d.1.length ≤ 500

theorem light_eq {β : Type} (l : List Int) (k : Bool → Option β) : zq9 l k = k (decide ((l.length : Int) ≤ 500)) := by
  simp only [zq9, zq6]
theorem roll_eq {β : Type} (l : List Int) (k : Dice → Option β) : zqg l k = k (l, 0) := by
  simp only [zqg, zqd]
theorem roll_ok {l : List Int} (h : (l.length : Int) ≤ 500) : DiceOk (l, 0) := ⟨by simp, by simp, by show l.length ≤ 500; omega⟩

theorem next_ok {n : Int} {d : Dice} (hd : DiceOk d) (hn : 1 ≤ n ∧ n ≤ 4611686018427387904) :
    ∃ x d', 0 ≤ x ∧ x < n ∧ DiceOk d' ∧ ∀ {β : Type} (k : Int → Dice → Option β), zqn n d k = k x d' := by
  obtain ⟨h1, h2, h3⟩ := hd
  by_cases ha : (d.1.length : Int) ≤ d.2
  · exact ⟨0, d, by omega, by omega, ⟨h1, h2, h3⟩, fun k => by simp (disch := omega) only [zqn, zqk, c_pos]⟩
  · generalize hv : List.getD d.1 (Int.toNat d.2) (0 : Int) = v
    have hm1 := Int.tmod_lt_of_pos v (show 0 < n by omega)
    have hm2 : -n < Int.tmod v n := by
      have h5 := Int.tmod_lt_of_pos (-v) (show 0 < n by omega)
      rw [Int.neg_tmod] at h5
      omega
    have hd' : DiceOk (d.1, d.2 + 1) := ⟨by show (0 : Int) ≤ d.2 + 1; omega, by show d.2 + 1 ≤ (d.1.length : Int); omega, h3⟩
    by_cases hc : Int.tmod v n < 0
    · refine ⟨Int.tmod v n + n, (d.1, d.2 + 1), by omega, by omega, hd', fun k => ?_⟩
      simp (disch := omega) only [zqn, zqk, hv, c_pos, c_neg, c_inb, c_nneg, i64_in]
    · refine ⟨Int.tmod v n, (d.1, d.2 + 1), by omega, by omega, hd', fun k => ?_⟩
      simp (disch := omega) only [zqn, zqk, hv, c_pos, c_neg, c_inb, c_nneg, i64_in]

end
end Go.Lift

/- The dice in plain Lean: one of several numbers. -/
namespace Go.Lift
open Go.RowKit Go.IntWalk
noncomputable section
set_option linter.unusedVariables false
set_option linter.unusedSimpArgs false

theorem one_ok {l : List Int} {d : Dice} (hl : 0 < l.length) (hlen : l.length ≤ 1000000) (hd : DiceOk d) :
    ∃ x d', x ∈ l ∧ DiceOk d' ∧ ∀ {β : Type} (k : Int → Dice → Option β), zq1d l d k = k x d' := by
  obtain ⟨x, d', h1, h2, hd', hf⟩ := next_ok (n := (l.length : Int)) hd (by omega)
  have hxn : x.toNat < l.length := by omega
  refine ⟨l.getD x.toNat 0, d', ?_, hd', fun k => ?_⟩
  · simp [List.getD, hxn]
  · simp (disch := omega) only [zq1d, zq1a, hf, c_inb]
end
end Go.Lift

/- Drawn persons, fates and contacts (chapter 27). -/
namespace Go.Lift
open Go.RowKit Go.IntWalk
noncomputable section
set_option linter.unusedVariables false
set_option linter.unusedSimpArgs false
set_option maxRecDepth 10000

theorem channel_ok {d : Dice} (hd : DiceOk d) : ∃ c d', chanV c = true ∧ DiceOk d' ∧ ∀ {β : Type} (k : Chan → Dice → Option β), zq1k d k = k c d' := by
  obtain ⟨x1, d1, a1, a2, hd1, f1⟩ := next_ok (n := 3) hd (by omega)
  obtain ⟨x2, d2, m2, hd2, f2⟩ := one_ok (l := [(0 : Int), 30, 60, 3600]) (by simp) (by simp) hd1
  obtain ⟨x3, d3, b1, b2, hd3, f3⟩ := next_ok (n := 4) hd2 (by omega)
  obtain ⟨x4, d4, m4, hd4, f4⟩ := one_ok (l := [(1 : Int), 30, 60, 120]) (by simp) (by simp) hd3
  simp only [List.mem_cons, List.not_mem_nil, or_false] at m2 m4
  refine ⟨(x1, x2, 1 + x3, x4), d4, ?_, hd4, fun k => ?_⟩
  · unfold chanV
    simp only [Bool.and_eq_true, inB_iff]
    omega
  · unfold zq1k zq1h
    refine (f1 _).trans ?_
    refine (f2 _).trans ?_
    refine (f3 _).trans ?_
    refine (f4 _).trans ?_
    rw [i64_in (1 + x3) (by omega)]

theorem person_ok {who : Int} (hw : 0 ≤ who ∧ who ≤ 31) {d : Dice} (hd : DiceOk d) :
    ∃ p d', profV p = true ∧ p.1 = who ∧ p.2.length ≤ 3 ∧ DiceOk d' ∧ ∀ {β : Type} (k : Prof → Dice → Option β), zq4f who d k = k p d' := by
  obtain ⟨x1, d1, a1, a2, hd1, f1⟩ := next_ok (n := 4) hd (by omega)
  have key : ∀ (n : Nat) (m : Nat) (d : Dice) (l : List Chan), n < m → n ≤ 3 → l.length + n ≤ 3 → (∀ c ∈ l, chanV c = true) → DiceOk d → ∃ l' d', l'.length ≤ 3 ∧ (∀ c ∈ l', chanV c = true) ∧ DiceOk d' ∧
      ∀ {β : Type} (k1 : zq41 β), zq4b m k1 (n : Int) d.1 d.2 0 who [] l = k1 d'.1 d'.2 0 who [] l' := by
    intro n
    induction n with
    | zero =>
      intro m d l hm hn hl hv hd
      obtain ⟨m, rfl⟩ : ∃ m', m = m' + 1 := ⟨m - 1, by omega⟩
      refine ⟨l, d, by omega, hv, hd, fun k1 => ?_⟩
      simp only [zq4c, zq45]
      exact c_neg (by omega)
    | succ n ih =>
      intro m d l hm hn hl hv hd
      obtain ⟨m, rfl⟩ : ∃ m', m = m' + 1 := ⟨m - 1, by omega⟩
      obtain ⟨c, d1, hc, hd1, fc⟩ := channel_ok hd
      obtain ⟨l', d', h1, h2, h3, h4⟩ := ih m d1 (l ++ [c]) (by omega) (by omega) (by simp; omega) (fun x hx => by
        rcases List.mem_append.1 hx with hx | hx
        · exact hv x hx
        · rw [List.mem_singleton.1 hx]; exact hc) hd1
      refine ⟨l', d', h1, h2, h3, fun k1 => ?_⟩
      simp only [zq4c, zq45]
      refine (c_pos (by omega)).trans ?_
      refine (fc _).trans ?_
      refine (c_room (by simp only [List.length_cons, List.length_nil]; omega)).trans ?_
      rw [show IntKind.i64.wrap (((n + 1 : Nat) : Int) - 1) = (n : Int) by rw [i64_in _ (by omega)]; omega]
      exact h4 k1
  obtain ⟨l', d', h1, h2, h3, h4⟩ := key x1.toNat fuel d1 [] (lt_fuel (by omega)) (by omega) (by simp; omega) (by simp) hd1
  refine ⟨(who, l'), d', ?_, rfl, h1, h3, fun k => ?_⟩
  · unfold profV
    simp only [Bool.and_eq_true, inB_iff, decide_eq_true_eq, List.all_eq_true]
    exact ⟨hw, by omega, h2⟩
  · unfold zq4f zq48
    refine (f1 _).trans ?_
    rw [show ((x1.toNat : Nat) : Int) = x1 by omega] at h4
    exact h4 _

/-! ### Contacts -/
end
end Go.Lift

/- Bounds of profiles (chapter 27), drawn fates. -/
namespace Go.Lift
open Go.RowKit Go.IntWalk
noncomputable section
set_option linter.unusedVariables false
set_option linter.unusedSimpArgs false
set_option maxRecDepth 10000

section
variable {β : Type}
end

/-! ### Drawn fates -/
theorem fate_ok {d : Dice} (hd : DiceOk d) : ∃ f d', DiceOk d' ∧ ∀ {β : Type} (k : Fate → Dice → Option β), zq1y d k = k f d' := by
  obtain ⟨x1, d1, a1, a2, hd1, f1⟩ := next_ok (n := 3) hd (by omega)
  obtain ⟨x2, d2, m2, hd2, f2⟩ := one_ok (l := [(0 : Int), 5, 30, 31, 200, 86400, 86401]) (by simp) (by simp) hd1
  obtain ⟨x3, d3, m3, hd3, f3⟩ := one_ok (l := [(0 : Int), 0, 7, 100, -1]) (by simp) (by simp) hd2
  obtain ⟨x4, d4, m4, hd4, f4⟩ := one_ok (l := [(-1 : Int), 0, 10, 90, -2]) (by simp) (by simp) hd3
  refine ⟨(decide (x1 = 0), x2, x3, x4), d4, hd4, fun k => ?_⟩
  unfold zq1y zq1v
  refine (f1 _).trans ?_
  refine (f2 _).trans ?_
  refine (f3 _).trans ?_
  exact f4 _
theorem fates_ok {d : Dice} (hd : DiceOk d) : ∃ l d', l.length ≤ 4 ∧ DiceOk d' ∧ ∀ {β : Type} (k : Dice → List Fate → Option β), zq4x d k = k d' l := by
  obtain ⟨x1, d1, a1, a2, hd1, f1⟩ := next_ok (n := 5) hd (by omega)
  have key : ∀ (n : Nat) (m : Nat) (d : Dice) (l : List Fate), n < m → l.length + n ≤ 4 → DiceOk d → ∃ l' d', l'.length ≤ 4 ∧ DiceOk d' ∧
      ∀ {β : Type} (k1 : zq4j β), zq4t m k1 (n : Int) d.1 d.2 l = k1 d'.1 d'.2 l' := by
    intro n
    induction n with
    | zero =>
      intro m d l hm hl hd
      obtain ⟨m, rfl⟩ : ∃ m', m = m' + 1 := ⟨m - 1, by omega⟩
      refine ⟨l, d, by omega, hd, fun k1 => ?_⟩
      simp only [zq4u, zq4n]
      exact c_neg (by omega)
    | succ n ih =>
      intro m d l hm hl hd
      obtain ⟨m, rfl⟩ : ∃ m', m = m' + 1 := ⟨m - 1, by omega⟩
      obtain ⟨c, d1, hd1, fc⟩ := fate_ok hd
      obtain ⟨l', d', h1, h3, h4⟩ := ih m d1 (l ++ [c]) (by omega) (by simp; omega) hd1
      refine ⟨l', d', h1, h3, fun k1 => ?_⟩
      simp only [zq4u, zq4n]
      refine (c_pos (by omega)).trans ?_
      refine (fc _).trans ?_
      refine (c_room (by simp only [List.length_cons, List.length_nil]; omega)).trans ?_
      rw [show IntKind.i64.wrap (((n + 1 : Nat) : Int) - 1) = (n : Int) by rw [i64_in _ (by omega)]; omega]
      exact h4 k1
  obtain ⟨l', d', h1, h3, h4⟩ := key x1.toNat fuel d1 [] (lt_fuel (by omega)) (by simp; omega) hd1
  refine ⟨l', d', h1, h3, fun k => ?_⟩
  unfold zq4x zq4q
  refine (f1 _).trans ?_
  rw [show ((x1.toNat : Nat) : Int) = x1 by omega] at h4
  exact h4 _
end
end Go.Lift

/- DeliveryRuns: what becomes of a contact, for any fates: code and reference agree. -/
namespace Go.Lift
open Go.RowKit Go.IntWalk
noncomputable section
set_option linter.unusedVariables false
set_option linter.unusedSimpArgs false
set_option maxRecDepth 10000

abbrev FatesOk (fates : List (List Fate)) : Prop := ∀ f ∈ fates, f.length ≤ 9223372036854775807

theorem runs1 {start : Int} {raw : List (List Fate)} {p : Prof} (hp : p.2.length ≤ 4) {d : Dice} (hd : DiceOk d) :
    ∃ l, FatesOk l ∧ ∀ {β : Type} (k1 : zqem β), zqfe k1 start raw (p.2.length : Int) 0 d.1 d.2 p.1 p.2 [] = k1 start raw p.1 p.2 l := by
  have key : ∀ (j i : Nat) (m : Nat) (d : Dice) (l : List (List Fate)), i + j = p.2.length → j < m → l.length = i → FatesOk l → DiceOk d → ∃ l', FatesOk l' ∧ ∀ {β : Type} (k1 : zqem β),
      zqfc m k1 start raw (p.2.length : Int) (i : Int) d.1 d.2 p.1 p.2 l = k1 start raw p.1 p.2 l' := by
    intro j
    induction j with
    | zero =>
      intro i m d l hi hm hl ho hd
      obtain ⟨m, rfl⟩ : ∃ m', m = m' + 1 := ⟨m - 1, by omega⟩
      refine ⟨l, ho, fun k1 => ?_⟩
      simp only [zqfd, zqf0]
      exact c_neg (by omega)
    | succ j ih =>
      intro i m d l hi hm hl ho hd
      obtain ⟨m, rfl⟩ : ∃ m', m = m' + 1 := ⟨m - 1, by omega⟩
      obtain ⟨f, d1, hf, hd1, ff⟩ := fates_ok hd
      obtain ⟨l', h1, h2⟩ := ih (i + 1) m d1 (l ++ [f]) (by omega) (by omega) (by simp; omega) (fun x hx => by
        rcases List.mem_append.1 hx with hx | hx
        · exact ho x hx
        · rw [List.mem_singleton.1 hx]; omega) hd1
      refine ⟨l', h1, fun k1 => ?_⟩
      simp only [zqfd, zqf0]
      refine (c_pos (by omega)).trans ?_
      refine (ff _).trans ?_
      refine (c_room (by simp only [List.length_cons, List.length_nil]; omega)).trans ?_
      rw [i64_in ((i : Int) + 1) (by omega)]
      exact h2 k1
  exact key p.2.length 0 fuel d [] (by omega) (lt_fuel (by omega)) rfl (fun f hf => by simp at hf) hd

theorem runs2 {β : Type} {start t49 t50 : Int} {fates : List (List Fate)} (hf : FatesOk fates) (p : Prof) {t48 : List (List (List Fate))} (l : List Int) (hl : l.length ≤ 10) (k1 : zqeq β) (k2 : zqer β) :
    zqfi k1 k2 start fates t49 t50 (l.length : Int) 0 p.1 p.2 t48 l = k2 start t49 t50 p.1 p.2 t48 := by
  refine (check_loop (fun m i => zqfg m k1 k2 start fates t49 t50 (l.length : Int) i p.1 p.2 t48 l) (fun _ => true) (k1 false) (k2 start t49 t50 p.1 p.2 t48) 0 l fuel (lt_fuel (by omega)) (fun m i hi => ?_) (fun m => ?_)).trans ?_
  · simp only [zqfh, zqf3, Int.toNat_natCast]
    refine (c_pos (by omega)).trans ?_
    refine (c_inb (by omega)).trans ?_
    refine (d_run p _ hf _).trans ?_
    refine (r_run p _ _ _).trans ?_
    have g := runGo_len fates (planOf p (l.getD i 0)) none ([], [], 0)
    have hpl := planOf_len p (l.getD i 0)
    simp only [List.length_nil] at g
    refine (same_int (by rw [sI_len]; show (runGo fates (planOf p (l.getD i 0)) none ([], [], 0)).1.length ≤ _; omega) _).trans ?_
    refine (c_ff' rfl).trans ?_
    refine (same_int (by rw [sI_len]; show (runGo fates (planOf p (l.getD i 0)) none ([], [], 0)).2.1.length ≤ _; omega) _).trans ?_
    refine (c_ff' rfl).trans ?_
    refine (c_ff' (by simp)).trans ?_
    rw [i64_in ((i : Int) + 1) (by omega)]
    rfl
  · simp only [zqfh, zqf3]
    exact c_neg (by omega)
  · have : (l.all fun _ => true) = true := List.all_eq_true.2 fun _ _ => rfl
    rw [this]; rfl

theorem runs3 {β : Type} {start : Int} (p : Prof) {ls : List (List (List Fate))} (hls : ∀ l ∈ ls, FatesOk l) (hl : ls.length ≤ 10) (k1 : zqev β) (k2 : zqew β) :
    zqfm k1 k2 start (ls.length : Int) 0 p.1 p.2 ls = k2 () := by
  refine (check_loop (fun m i => zqfk m k1 k2 start (ls.length : Int) i p.1 p.2 ls) (fun _ => true) (k1 false) (k2 ()) [] ls fuel (lt_fuel (by omega)) (fun m i hi => ?_) (fun m => ?_)).trans ?_
  · simp only [zqfl, zqf6, Int.toNat_natCast]
    refine (c_pos (by omega)).trans ?_
    refine (c_inb (by omega)).trans ?_
    have hf : FatesOk (ls.getD i []) := by
      have : ls.getD i [] = ls[i] := by simp [List.getD, hi]
      rw [this]; exact hls _ (List.getElem_mem hi)
    refine (runs2 hf p [start, 864000, 8589934592] (by simp) _ _).trans ?_
    rw [i64_in ((i : Int) + 1) (by omega)]
    rfl
  · simp only [zqfl, zqf6]
    exact c_neg (by omega)
  · have : (ls.all fun _ => true) = true := List.all_eq_true.2 fun _ _ => rfl
    rw [this]; rfl

theorem deliveryRuns {β : Type} (t : List Int) (start : Int) {raw : List (List Fate)} (hraw : FatesOk raw) (k : Bool → Option β) : zqfo t start raw k = k true := by
  unfold zqfo zqf9
  refine (light_eq t _).trans ?_
  by_cases hl : (t.length : Int) ≤ 500
  · rw [decide_eq_true hl]
    refine (c_ff' rfl).trans ?_
    by_cases h10 : (10 : Int) < (raw.length : Int)
    · refine (c_pos h10).trans ?_
      exact sane27 _
    · refine (c_neg h10).trans ?_
      obtain ⟨x1, d1, a1, a2, hd1, f1⟩ := next_ok (n := 4) (roll_ok hl) (by omega)
      obtain ⟨p, d2, hp, hp1, hp2, hd2, f2⟩ := person_ok (who := x1) (by omega) hd1
      obtain ⟨l, hlo, f3⟩ := runs1 (start := start) (raw := raw) (p := p) (by omega) hd2
      refine (roll_eq t _).trans ?_
      refine (f1 _).trans ?_
      refine (f2 _).trans ?_
      refine (f3 _).trans ?_
      refine (runs3 p (ls := [l, raw]) (fun x hx => by
        rcases List.mem_cons.1 hx with rfl | hx
        · exact hlo
        · rw [List.mem_singleton.1 hx]; exact hraw) (by simp) _ _).trans ?_
      exact sane27 _
  · rw [decide_eq_false hl]
    refine (c_tt' rfl).trans ?_
    exact sane27 _
end
end Go.Lift

