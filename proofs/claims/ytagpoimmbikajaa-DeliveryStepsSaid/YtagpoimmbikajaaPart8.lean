/- Part8: Fn0, Fn1, LBase, LDelMath, LDelivery, LDelRef. -/
import Derived.Test.YtagpoimmbikajaaProg
import Derived.Test.YtagpoimmbikajaaPart7
namespace Go.Lift
open Go.Proofs
noncomputable section
set_option maxRecDepth 100000
set_option linter.unusedVariables false

abbrev zq0 := (Bool × (Int × (Int × Int)))
abbrev zq1 : Ty := (.prod .bool (.prod (.int .i64) (.prod (.int .i64) (.int .i64))))
abbrev zq2 := (Int × (Int × (Int × (Int × (Int × Int)))))
abbrev zq3 : Ty := (.prod (.int .i64) (.prod (.int .i64) (.prod (.int .i64) (.prod (.int .i64) (.prod (.int .i64) (.int .i64))))))

def tab : List (Nat × TI) := [
  (3, ⟨false, 1, 8, [.int .i64 (0 : Int)], [], none, none, (some (.int .i64)), (some .i64), false, false, none, none⟩),
  (4, ⟨false, 1, 1, [.bool false], [], none, none, (some .bool), none, true, false, none, none⟩),
  (22, ⟨false, 1, 24, [.nils], [], (some 3), none, (some (.slice (.int .i64))), none, false, false, none, none⟩),
  (27, ⟨false, 1, 24, [.nils], [], (some 36), none, (some (.slice (.prod (.int .i64) (.prod (.int .i64) (.prod (.int .i64) (.int .i64)))))), none, false, false, none, none⟩),
  (29, ⟨true, 2, 32, [.int .i64 (0 : Int), .nils], [(0, 1, false), (1, 1, false)], none, none, (some (.prod (.int .i64) (.slice (.prod (.int .i64) (.prod (.int .i64) (.prod (.int .i64) (.int .i64))))))), none, false, false, none, none⟩),
  (33, ⟨false, 1, 24, [.nils], [], (some 39), none, (some (.slice (.prod (.int .i64) (.prod (.int .i64) (.int .i64))))), none, false, false, none, none⟩),
  (36, ⟨true, 4, 32, [.int .i64 (0 : Int), .int .i64 (0 : Int), .int .i64 (0 : Int), .int .i64 (0 : Int)], [(0, 1, false), (1, 1, false), (2, 1, false), (3, 1, false)], none, none, (some (.prod (.int .i64) (.prod (.int .i64) (.prod (.int .i64) (.int .i64))))), none, false, false, (some [.i, .i, .i, .i]), none⟩),
  (39, ⟨true, 3, 24, [.int .i64 (0 : Int), .int .i64 (0 : Int), .int .i64 (0 : Int)], [(0, 1, false), (1, 1, false), (2, 1, false)], none, none, (some (.prod (.int .i64) (.prod (.int .i64) (.int .i64)))), none, false, false, (some [.i, .i, .i]), none⟩),
  (42, ⟨false, 1, 24, [.nils], [], (some 44), none, (some (.slice (.slice zq1))), none, false, false, none, none⟩),
  (44, ⟨false, 1, 24, [.nils], [], (some 75), none, (some (.slice zq1)), none, false, false, none, none⟩),
  (55, ⟨true, 6, 48, [.int .i64 (0 : Int), .int .i64 (0 : Int), .int .i64 (0 : Int), .int .i64 (0 : Int), .int .i64 (0 : Int), .int .i64 (0 : Int)], [(0, 1, false), (1, 1, false), (2, 1, false), (3, 1, false), (4, 1, false), (5, 1, false)], none, none, (some zq3), none, false, false, (some [.i, .i, .i, .i, .i, .i]), none⟩),
  (69, ⟨false, 1, 24, [.nils], [], (some 55), none, (some (.slice zq3)), none, false, false, none, none⟩),
  (70, ⟨false, 1, 24, [.nils], [], (some 29), none, (some (.slice (.prod (.int .i64) (.slice (.prod (.int .i64) (.prod (.int .i64) (.prod (.int .i64) (.int .i64)))))))), none, false, false, none, none⟩),
  (75, ⟨true, 4, 32, [.bool false, .int .i64 (0 : Int), .int .i64 (0 : Int), .int .i64 (0 : Int)], [(0, 1, false), (1, 1, false), (2, 1, false), (3, 1, false)], none, none, (some zq1), none, false, false, (some [.b, .i, .i, .i]), none⟩),
  (77, ⟨true, 2, 32, [.nils, .int .i64 (0 : Int)], [(0, 1, false), (1, 1, false)], none, none, (some (.prod (.slice (.int .i64)) (.int .i64))), none, false, false, none, none⟩)]

theorem tab_ok : TOk Try.prog (look tab) := TOk_of (by kernel_rfl)
theorem mixed : Try.prog.follows .mixedOrders = true := by kernel_rfl

/-- pagewatch/pagewatchmade.Light -/
abbrev zq4 := {β : Type} → (List Int) → (Bool → Option β) → Option β
def zq5 (c : zq4) : Spec :=
  ⟨[(false, [.data (.slice (.int .i64))])], [], [(false, [.data .bool])], [], fun x k => c x.1.1.1 (fun r0 => k (((r0, ()), ()), ()))⟩
section
@[reducible] def made_Light_X : Ctx := ⟨look tab, pick1 [], false, false, false, false⟩
def zq6 {β : Type} (l : List Int) (k : (Bool → Option β)) : Option β :=
  let t : Bool := (decide ((List.length l : Int) ≤ (500 : Int)));
  k t
theorem zq7 (hΓ : ΓOk Try.prog made_Light_X.Γ) : SpecOk Try.prog 9 (zq5 (zq6)) :=
  spec_exec (X := made_Light_X) (Λ := pick1 []) (rs := [.tmp 2]) (c := bodyOf Try.f9) mixed tab_ok hΓ Try.func9 (by kernel_rfl) (by kernel_rfl) (by kernel_rfl) (by kernel_rfl) CutsOk_nil (fun x k r h => Eq.trans (b := (zq5 (zq6)).run x k) (by kernel_rfl) h)
end
theorem zq8Γ : ΓOk Try.prog (pick1 []) := ΓOk_nil
def zq9 : zq4 := zq6
theorem zqa : SpecOk Try.prog 9 (zq5 zq9) := zq7 zq8Γ

/-- pagewatch/pagewatchmade.Roll -/
abbrev zqb := {β : Type} → (List Int) → ((List Int × Int) → Option β) → Option β
def zqc (c : zqb) : Spec :=
  ⟨[(false, [.data (.slice (.int .i64))])], [], [(false, [.ptr 0 0])], [.cells 77 [.data (.prod (.slice (.int .i64)) (.int .i64))]], fun x k => c x.1.1.1 (fun r0 => k (((), ()), ((r0, ()), ())))⟩
section
@[reducible] def made_Roll_X : Ctx := ⟨look tab, pick1 [], false, false, false, false⟩
def zqd {β : Type} (l : List Int) (k : ((List Int × Int) → Option β)) : Option β :=
  k (l, (0 : Int))
theorem zqe (hΓ : ΓOk Try.prog made_Roll_X.Γ) : SpecOk Try.prog 11 (zqc (zqd)) :=
  spec_exec (X := made_Roll_X) (Λ := pick1 []) (rs := [.tmp 2]) (c := bodyOf Try.f11) mixed tab_ok hΓ Try.func11 (by kernel_rfl) (by kernel_rfl) (by kernel_rfl) (by kernel_rfl) CutsOk_nil (fun x k r h => Eq.trans (b := (zqc (zqd)).run x k) (by kernel_rfl) h)
end
theorem zqfΓ : ΓOk Try.prog (pick1 []) := ΓOk_nil
def zqg : zqb := zqd
theorem zqh : SpecOk Try.prog 11 (zqc zqg) := zqe zqfΓ

/-- (*pagewatch/pagewatchmade.Dice).Next -/
abbrev zqi := {β : Type} → Int → (List Int × Int) → (Int → (List Int × Int) → Option β) → Option β
def zqj (c : zqi) : Spec :=
  ⟨[(false, [.ptr 0 0]), (false, [.data (.int .i64)])], [.cells 77 [.data (.prod (.slice (.int .i64)) (.int .i64))]], [(false, [.data (.int .i64)])], [.cells 77 [.data (.prod (.slice (.int .i64)) (.int .i64))]], fun x k => c x.1.2.1.1 x.2.1.1 (fun r0 r1 => k (((r0, ()), ()), ((r1, ()), ())))⟩
section
@[reducible] def made_Dice_Next_X : Ctx := ⟨look tab, pick1 [], false, false, false, false⟩
def zqk {β : Type} (n : Int) (d : (List Int × Int)) (k : (Int → (List Int × Int) → Option β)) : Option β :=
  cond (decide ((List.length d.1 : Int) ≤ d.2))
  (k (0 : Int) d)
  (cond (decide (n < (1 : Int)))
  (k (0 : Int) d)
  (cond (decide (0 ≤ d.2) && decide (d.2 < (List.length d.1 : Int)))
  (let e : Int := List.getD d.1 (Int.toNat d.2) (0 : Int);
  cond (!decide (n = 0))
  (cond (decide ((Int.tmod e n) < (0 : Int)))
  (let x : Int := (IntKind.i64.wrap ((Int.tmod e n) + n));
  k x (d.1, (IntKind.i64.wrap (d.2 + (1 : Int)))))
  (k (Int.tmod e n) (d.1, (IntKind.i64.wrap (d.2 + (1 : Int))))))
  none)
  none))
theorem zql (hΓ : ΓOk Try.prog made_Dice_Next_X.Γ) : SpecOk Try.prog 14 (zqj (zqk)) :=
  spec_exec (X := made_Dice_Next_X) (Λ := pick1 []) (rs := [.tmp 4]) (c := bodyOf Try.f14) mixed tab_ok hΓ Try.func14 (by kernel_rfl) (by kernel_rfl) (by kernel_rfl) (by kernel_rfl) CutsOk_nil (fun x k r h => Eq.trans (b := (zqj (zqk)).run x k) (by kernel_rfl) h)
end
theorem zqmΓ : ΓOk Try.prog (pick1 []) := ΓOk_nil
def zqn : zqi := zqk
theorem zqo : SpecOk Try.prog 14 (zqj zqn) := zql zqmΓ

/-- pagewatch/pagewatchref27.SameAttempts -/
abbrev zqp := {β : Type} → (List (Int × (Int × Int))) → (List (Int × (Int × Int))) → (Bool → Option β) → Option β
def zqq (c : zqp) : Spec :=
  ⟨[(false, [.data (.slice (.prod (.int .i64) (.prod (.int .i64) (.int .i64))))]), (false, [.data (.slice (.prod (.int .i64) (.prod (.int .i64) (.int .i64))))])], [], [(false, [.data .bool])], [], fun x k => c x.1.1.1 x.1.2.1.1 (fun r0 => k (((r0, ()), ()), ()))⟩
noncomputable def ref27_SameAttempts_p1_code : Code := codeAt 58 (bodyOf Try.f24)
abbrev zqr (β : Type) := Bool → Option β
abbrev zqs (β : Type) := Unit → Option β
abbrev zqt := {β : Type} → zqr β → zqs β → (List (Int × (Int × Int))) → (List (Int × (Int × Int))) → Int → Option β
def zqu : View := ⟨0, [0, 1, 5], [(false, [.data (.slice (.prod (.int .i64) (.prod (.int .i64) (.int .i64))))]), (false, [.data (.slice (.prod (.int .i64) (.prod (.int .i64) (.int .i64))))]), (false, [.data (.int .i64)])], []⟩
def zqv : List (AExit × View) := [(.ret, ⟨0, [4], [(false, [.data .bool])], []⟩), (.exit 0, ⟨0, [], [], []⟩)]
@[reducible] def ref27_SameAttempts_p1_G (p : zqt) {β : Type} (d : zqu.den) (ks : Outs.K β zqv) : Option β :=
  p (fun a0 => ks.1 (((a0, ()), ()), ())) (fun _ => ks.2.1 ((), ())) d.1.1.1 d.1.2.1.1 d.1.2.2.1.1
section
@[reducible] def ref27_SameAttempts_X : Ctx := ⟨look tab, pick1 [], false, false, false, false⟩
def zqw {β : Type} (rec : (List (Int × (Int × Int))) → (List (Int × (Int × Int))) → Int → Option β) (k1 : zqr β) (k2 : zqs β) (a : List (Int × (Int × Int))) (b : List (Int × (Int × Int))) (i_ : Int) : Option β :=
  cond (decide (i_ < (List.length a : Int)))
  (cond (decide (0 ≤ i_) && decide (i_ < (List.length a : Int)))
  (let e : (Int × (Int × Int)) := List.getD a (Int.toNat i_) ((0 : Int), ((0 : Int), (0 : Int)));
  cond (decide (0 ≤ i_) && decide (i_ < (List.length b : Int)))
  (let e2 : (Int × (Int × Int)) := List.getD b (Int.toNat i_) ((0 : Int), ((0 : Int), (0 : Int)));
  cond (!(decide (e.1 = e2.1) && (decide (e.2.1 = e2.2.1) && (decide (e.2.2 = e2.2.2) && true))))
  (k1 false)
  (let i_2 : Int := (IntKind.i64.wrap (i_ + (1 : Int)));
  rec a b i_2))
  none)
  none)
  (k2 ())
def zqx {β : Type} : Nat → zqr β → zqs β → (List (Int × (Int × Int))) → (List (Int × (Int × Int))) → Int → Option β
  | 0 => fun _ _ _ _ _ => none
  | i + 1 => fun k1 k2 a b i_ => zqw (zqx i k1 k2) k1 k2 a b i_
theorem zqy (hΓ : ΓOk Try.prog ref27_SameAttempts_X.Γ) (i : Nat) : PieceOk Try.prog 26 0 ref27_SameAttempts_p1_code zqu zqv (ref27_SameAttempts_p1_G (zqx i)) := by
  rw [show ref27_SameAttempts_p1_code = .loop (loopBody ref27_SameAttempts_p1_code) by kernel_rfl]
  exact piece_loop (X := ref27_SameAttempts_X) (p := 1) (Λ := pick1 []) (G := fun i => @fun β d ks => ref27_SameAttempts_p1_G (zqx i) d ks) mixed tab_ok hΓ rfl (by kernel_rfl) CutsOk_nil (fun _ _ => rfl) (fun i => @fun β d ks r h => Eq.trans (b := ref27_SameAttempts_p1_G (zqx (i + 1)) d ks) (by kernel_rfl) h) i
def zqz (p1 : zqt) {β : Type} (a : List (Int × (Int × Int))) (b : List (Int × (Int × Int))) (k : (Bool → Option β)) : Option β :=
  cond (!decide ((List.length a : Int) = (List.length b : Int)))
  (k false)
  (p1 (fun (t4 : Bool) =>
  k t4) (fun (_ : Unit) =>
  k true) a b (0 : Int))
theorem zq10 (hΓ : ΓOk Try.prog ref27_SameAttempts_X.Γ) (p1 : zqt) (hp1 : PieceOk Try.prog 26 0 ref27_SameAttempts_p1_code zqu zqv (ref27_SameAttempts_p1_G p1)) : SpecOk Try.prog 24 (zqq (zqz p1)) :=
  spec_exec (X := ref27_SameAttempts_X) (Λ := pick1 [(58, pieceCut zqu zqv (ref27_SameAttempts_p1_G p1))]) (rs := [.tmp 4]) (c := bodyOf Try.f24) mixed tab_ok hΓ Try.func24 (by kernel_rfl) (by kernel_rfl) (by kernel_rfl) (by kernel_rfl) (CutsOk_cons (q := 58) (c' := ref27_SameAttempts_p1_code) (by kernel_rfl) rfl hp1 CutsOk_nil) (fun x k r h => Eq.trans (b := (zqq (zqz p1)).run x k) (by kernel_rfl) h)
end
theorem zq11Γ : ΓOk Try.prog (pick1 []) := ΓOk_nil
def zq12 (m : Nat) : zqt := zqx m
theorem zq13 {β : Type} (i : Nat) (k1 k2 a b i_) : (zq12 (i + 1) k1 k2 a b i_ : Option β) = zqw (zq12 i k1 k2) k1 k2 a b i_ := rfl
def zq14 : zqt := zq12 fuel
theorem zq15 : PieceOk Try.prog 26 0 ref27_SameAttempts_p1_code zqu zqv (ref27_SameAttempts_p1_G zq14) := zqy zq11Γ fuel
def zq16 : zqp := zqz zq14
theorem zq17 : SpecOk Try.prog 24 (zqq zq16) := zq10 zq11Γ zq14 zq15

/-- (*pagewatch/pagewatchmade.Dice).One -/
abbrev zq18 := {β : Type} → (List Int) → (List Int × Int) → (Int → (List Int × Int) → Option β) → Option β
def zq19 (c : zq18) : Spec :=
  ⟨[(false, [.ptr 0 0]), (false, [.data (.slice (.int .i64))])], [.cells 77 [.data (.prod (.slice (.int .i64)) (.int .i64))]], [(false, [.data (.int .i64)])], [.cells 77 [.data (.prod (.slice (.int .i64)) (.int .i64))]], fun x k => c x.1.2.1.1 x.2.1.1 (fun r0 r1 => k (((r0, ()), ()), ((r1, ()), ())))⟩
section
variable (c_made_Dice_Next : zqi)
@[reducible] def made_Dice_One_X : Ctx := ⟨look tab, pick1 [(14, .spec (zqj c_made_Dice_Next))], false, false, false, false⟩
def zq1a {β : Type} (l : List Int) (d : (List Int × Int)) (k : (Int → (List Int × Int) → Option β)) : Option β :=
  c_made_Dice_Next (List.length l : Int) d (fun (rNext : Int) (mrNext : (List Int × Int)) =>
  cond (decide (0 ≤ rNext) && decide (rNext < (List.length l : Int)))
  (let e : Int := List.getD l (Int.toNat rNext) (0 : Int);
  k e mrNext)
  none)
theorem zq1b (hΓ : ΓOk Try.prog (made_Dice_One_X c_made_Dice_Next).Γ) : SpecOk Try.prog 28 (zq19 (zq1a c_made_Dice_Next)) :=
  spec_exec (X := (made_Dice_One_X c_made_Dice_Next)) (Λ := pick1 []) (rs := [.tmp 4]) (c := bodyOf Try.f28) mixed tab_ok hΓ Try.func28 (by kernel_rfl) (by kernel_rfl) (by kernel_rfl) (by kernel_rfl) CutsOk_nil (fun x k r h => Eq.trans (b := (zq19 (zq1a c_made_Dice_Next)).run x k) (by kernel_rfl) h)
end
theorem zq1cΓ : ΓOk Try.prog (pick1 [(14, .spec (zqj zqn))]) := (ΓOk_cons zqo ΓOk_nil)
def zq1d : zq18 := zq1a zqn
theorem zq1e : SpecOk Try.prog 28 (zq19 zq1d) := zq1b zqn zq1cΓ

/-- (*pagewatch/pagewatchmade.Dice).Channel -/
abbrev zq1f := {β : Type} → (List Int × Int) → ((Int × (Int × (Int × Int))) → (List Int × Int) → Option β) → Option β
def zq1g (c : zq1f) : Spec :=
  ⟨[(false, [.ptr 0 0])], [.cells 77 [.data (.prod (.slice (.int .i64)) (.int .i64))]], [(true, [.data (.prod (.int .i64) (.prod (.int .i64) (.prod (.int .i64) (.int .i64))))])], [.cells 77 [.data (.prod (.slice (.int .i64)) (.int .i64))]], fun x k => c x.2.1.1 (fun r0 r1 => k (((r0, ()), ()), ((r1, ()), ())))⟩
section
variable (c_made_Dice_Next : zqi) (c_made_Dice_One : zq18)
@[reducible] def made_Dice_Channel_X : Ctx := ⟨look tab, pick1 [(14, .spec (zqj c_made_Dice_Next)), (28, .spec (zq19 c_made_Dice_One))], false, false, false, false⟩
def zq1h {β : Type} (d : (List Int × Int)) (k : ((Int × (Int × (Int × Int))) → (List Int × Int) → Option β)) : Option β :=
  c_made_Dice_Next (3 : Int) d (fun (rNext : Int) (mrNext : (List Int × Int)) =>
  let l : List Int := ([(0 : Int), (30 : Int), (60 : Int), (3600 : Int)] : List Int);
  c_made_Dice_One l mrNext (fun (rOne : Int) (mrOne : (List Int × Int)) =>
  c_made_Dice_Next (4 : Int) mrOne (fun (rNext2 : Int) (mrNext2 : (List Int × Int)) =>
  let l2 : List Int := ([(1 : Int), (30 : Int), (60 : Int), (120 : Int)] : List Int);
  c_made_Dice_One l2 mrNext2 (fun (rOne2 : Int) (mrOne2 : (List Int × Int)) =>
  k (rNext, (rOne, ((IntKind.i64.wrap ((1 : Int) + rNext2)), rOne2))) mrOne2))))
theorem zq1i (hΓ : ΓOk Try.prog (made_Dice_Channel_X c_made_Dice_Next c_made_Dice_One).Γ) : SpecOk Try.prog 38 (zq1g (zq1h c_made_Dice_Next c_made_Dice_One)) :=
  spec_exec (X := (made_Dice_Channel_X c_made_Dice_Next c_made_Dice_One)) (Λ := pick1 []) (rs := [.cell 2 36]) (c := bodyOf Try.f38) mixed tab_ok hΓ Try.func38 (by kernel_rfl) (by kernel_rfl) (by kernel_rfl) (by kernel_rfl) CutsOk_nil (fun x k r h => Eq.trans (b := (zq1g (zq1h c_made_Dice_Next c_made_Dice_One)).run x k) (by kernel_rfl) h)
end
theorem zq1jΓ : ΓOk Try.prog (pick1 [(14, .spec (zqj zqn)), (28, .spec (zq19 zq1d))]) := (ΓOk_cons zqo (ΓOk_cons zq1e ΓOk_nil))
def zq1k : zq1f := zq1h zqn zq1d
theorem zq1l : SpecOk Try.prog 38 (zq1g zq1k) := zq1i zqn zq1d zq1jΓ

/-- pagewatch/delivery.in -/
abbrev zq1m := {β : Type} → Int → Int → Int → (Bool → Option β) → Option β
def zq1n (c : zq1m) : Spec :=
  ⟨[(false, [.data (.int .i64)]), (false, [.data (.int .i64)]), (false, [.data (.int .i64)])], [], [(false, [.data .bool])], [], fun x k => c x.1.1.1 x.1.2.1.1 x.1.2.2.1.1 (fun r0 => k (((r0, ()), ()), ()))⟩
section
@[reducible] def delivery_in_X : Ctx := ⟨look tab, pick1 [], false, false, false, false⟩
def zq1o {β : Type} (n : Int) (low : Int) (high : Int) (k : (Bool → Option β)) : Option β :=
  cond (decide (low ≤ n))
  (k (decide (n ≤ high)))
  (k false)
theorem zq1p (hΓ : ΓOk Try.prog delivery_in_X.Γ) : SpecOk Try.prog 39 (zq1n (zq1o)) :=
  spec_exec (X := delivery_in_X) (Λ := pick1 []) (rs := [.tmp 6]) (c := bodyOf Try.f39) mixed tab_ok hΓ Try.func39 (by kernel_rfl) (by kernel_rfl) (by kernel_rfl) (by kernel_rfl) CutsOk_nil (fun x k r h => Eq.trans (b := (zq1n (zq1o)).run x k) (by kernel_rfl) h)
end
theorem zq1qΓ : ΓOk Try.prog (pick1 []) := ΓOk_nil
def zq1r : zq1m := zq1o
theorem zq1s : SpecOk Try.prog 39 (zq1n zq1r) := zq1p zq1qΓ

/-- pagewatch/delivery.Run$1 -/
abbrev zq1t := {β : Type} → Int → (Int × (Int × Int)) → (Bool → (Int × (Int × Int)) → Option β) → Option β
def zq1u (c : zq1t) : Spec :=
  ⟨[(false, [.data (.int .i64)]), (false, [.ptr 0 0])], [.cells 39 [.data (.prod (.int .i64) (.prod (.int .i64) (.int .i64)))]], [(false, [.data .bool])], [.cells 39 [.data (.prod (.int .i64) (.prod (.int .i64) (.int .i64)))]], fun x k => c x.1.1.1 x.2.1.1 (fun r0 r1 => k (((r0, ()), ()), ((r1, ()), ())))⟩
section
@[reducible] def delivery_Run_f1_X : Ctx := ⟨look tab, pick1 [], false, false, false, false⟩
def zq1v {β : Type} (t : Int) (t1 : (Int × (Int × Int))) (k : (Bool → (Int × (Int × Int)) → Option β)) : Option β :=
  k (decide (t ≤ t1.2.2)) t1
theorem zq1w (hΓ : ΓOk Try.prog delivery_Run_f1_X.Γ) : SpecOk Try.prog 45 (zq1u (zq1v)) :=
  spec_exec (X := delivery_Run_f1_X) (Λ := pick1 []) (rs := [.tmp 3]) (c := bodyOf Try.f45) mixed tab_ok hΓ Try.func45 (by kernel_rfl) (by kernel_rfl) (by kernel_rfl) (by kernel_rfl) CutsOk_nil (fun x k r h => Eq.trans (b := (zq1u (zq1v)).run x k) (by kernel_rfl) h)
end
theorem zq1xΓ : ΓOk Try.prog (pick1 []) := ΓOk_nil
def zq1y : zq1t := zq1v
theorem zq1z : SpecOk Try.prog 45 (zq1u zq1y) := zq1w zq1xΓ

/-- slices.Sort[[]int,int] -/
def zq20 : Shelf.Ren :=
      { 
      f := fun x =>
        match x with
        | 189 => 49
        | 125 => 66
        | 257 => 70
        | 128 => 81
        | 129 => 82
        | 294 => 83
        | 295 => 84
        | 296 => 85
        | 297 => 86
        | 298 => 87
        | 299 => 88
        | 216 => 89
        | 300 => 90
        | 301 => 91
        | 328 => 97
        | 329 => 93
        | 330 => 94
        | 331 => 98
        | 332 => 99
        | 215 => 100
        | 343 => 102
        | n => n,
      t := fun x =>
        match x with
        | 28 => 22
        | 3 => 3
        | 46 => 97
        | 0 => 0
        | 51 => 23
        | 53 => 111
        | 4 => 4
        | 183 => 104
        | 182 => 103
        | 131 => 66
        | 5 => 5
        | 9 => 9
        | 218 => 118
        | 222 => 122
        | 228 => 126
        | 229 => 127
        | n => n,
      g := fun x => x }
theorem zq21 : Go.Proofs.Lays.n189 Try.prog zq20 :=
  { mixed := by kernel_rfl,
    f125 := Eq.trans Try.func66 (congrArg some (by kernel_rfl)),
    f128 := Eq.trans Try.func81 (congrArg some (by kernel_rfl)),
    f129 := Eq.trans Try.func82 (congrArg some (by kernel_rfl)),
    f189 := Eq.trans Try.func49 (congrArg some (by kernel_rfl)),
    f215 := Eq.trans Try.func100 (congrArg some (by kernel_rfl)),
    f216 := Eq.trans Try.func89 (congrArg some (by kernel_rfl)),
    f257 := Eq.trans Try.func70 (congrArg some (by kernel_rfl)),
    f294 := Eq.trans Try.func83 (congrArg some (by kernel_rfl)),
    f295 := Eq.trans Try.func84 (congrArg some (by kernel_rfl)),
    f296 := Eq.trans Try.func85 (congrArg some (by kernel_rfl)),
    f297 := Eq.trans Try.func86 (congrArg some (by kernel_rfl)),
    f298 := Eq.trans Try.func87 (congrArg some (by kernel_rfl)),
    f299 := Eq.trans Try.func88 (congrArg some (by kernel_rfl)),
    f300 := Eq.trans Try.func90 (congrArg some (by kernel_rfl)),
    f301 := Eq.trans Try.func91 (congrArg some (by kernel_rfl)),
    f328 := Eq.trans Try.func97 (congrArg some (by kernel_rfl)),
    f329 := Eq.trans Try.func93 (congrArg some (by kernel_rfl)),
    f330 := Eq.trans Try.func94 (congrArg some (by kernel_rfl)),
    f331 := Eq.trans Try.func98 (congrArg some (by kernel_rfl)),
    f332 := Eq.trans Try.func99 (congrArg some (by kernel_rfl)),
    f343 := Eq.trans Try.func102 (congrArg some (by kernel_rfl)),
    t0 := Try.underlying0,
    a0 := Try.isAgg0,
    z0 := Try.sizeOf0,
    v0 := Try.zeroValue0,
    t3 := Try.underlying3,
    a3 := Try.isAgg3,
    z3 := Try.sizeOf3,
    v3 := Try.zeroValue3,
    t4 := Try.underlying4,
    a4 := Try.isAgg4,
    z4 := Try.sizeOf4,
    v4 := Try.zeroValue4,
    t5 := Try.underlying5,
    a5 := Try.isAgg5,
    z5 := Try.sizeOf5,
    v5 := Try.zeroValue5,
    t9 := Try.underlying9,
    a9 := Try.isAgg9,
    z9 := Try.sizeOf9,
    v9 := Try.zeroValue9,
    t28 := Try.underlying22,
    a28 := Try.isAgg22,
    z28 := Try.sizeOf22,
    v28 := Try.zeroValue22,
    t46 := Try.underlying97,
    a46 := Try.isAgg97,
    z46 := Try.sizeOf97,
    v46 := Try.zeroValue97,
    t51 := Try.underlying23,
    a51 := Try.isAgg23,
    z51 := Try.sizeOf23,
    v51 := Try.zeroValue23,
    t53 := Try.underlying111,
    a53 := Try.isAgg111,
    z53 := Try.sizeOf111,
    v53 := Try.zeroValue111,
    t131 := Try.underlying66,
    a131 := Try.isAgg66,
    z131 := Try.sizeOf66,
    v131 := Try.zeroValue66,
    t182 := Try.underlying103,
    a182 := Try.isAgg103,
    z182 := Try.sizeOf103,
    v182 := Try.zeroValue103,
    t183 := Try.underlying104,
    a183 := Try.isAgg104,
    z183 := Try.sizeOf104,
    v183 := Try.zeroValue104,
    t218 := Try.underlying118,
    a218 := Try.isAgg118,
    z218 := Try.sizeOf118,
    v218 := Try.zeroValue118,
    t222 := Try.underlying122,
    a222 := Try.isAgg122,
    z222 := Try.sizeOf122,
    v222 := Try.zeroValue122,
    t228 := Try.underlying126,
    a228 := Try.isAgg126,
    z228 := Try.sizeOf126,
    v228 := Try.zeroValue126,
    t229 := Try.underlying127,
    a229 := Try.isAgg127,
    z229 := Try.sizeOf127,
    v229 := Try.zeroValue127 }
def zq22 : RowF := sortF 3
theorem zq23 : RowOk Try.prog 49 zq22 :=
  sort_rowok zq21 rfl ⟨_, Try.func49, by kernel_rfl, by kernel_rfl⟩

/-- pagewatch/pagewatchref25.In -/
abbrev zq24 := {β : Type} → Int → Int → Int → (Bool → Option β) → Option β
def zq25 (c : zq24) : Spec :=
  ⟨[(false, [.data (.int .i64)]), (false, [.data (.int .i64)]), (false, [.data (.int .i64)])], [], [(false, [.data .bool])], [], fun x k => c x.1.1.1 x.1.2.1.1 x.1.2.2.1.1 (fun r0 => k (((r0, ()), ()), ()))⟩
section
@[reducible] def ref25_In_X : Ctx := ⟨look tab, pick1 [], false, false, false, false⟩
def zq26 {β : Type} (n : Int) (lo : Int) (hi : Int) (k : (Bool → Option β)) : Option β :=
  cond (decide (lo ≤ n))
  (k (decide (n ≤ hi)))
  (k false)
theorem zq27 (hΓ : ΓOk Try.prog ref25_In_X.Γ) : SpecOk Try.prog 56 (zq25 (zq26)) :=
  spec_exec (X := ref25_In_X) (Λ := pick1 []) (rs := [.tmp 6]) (c := bodyOf Try.f56) mixed tab_ok hΓ Try.func56 (by kernel_rfl) (by kernel_rfl) (by kernel_rfl) (by kernel_rfl) CutsOk_nil (fun x k r h => Eq.trans (b := (zq25 (zq26)).run x k) (by kernel_rfl) h)
end
theorem zq28Γ : ΓOk Try.prog (pick1 []) := ΓOk_nil
def zq29 : zq24 := zq26
theorem zq2a : SpecOk Try.prog 56 (zq25 zq29) := zq27 zq28Γ

/-- pagewatch/pagewatchref27.ahead -/
abbrev zq2b := {β : Type} → (Int × (Int × Int)) → (Int × (Int × Int)) → (Bool → Option β) → Option β
def zq2c (c : zq2b) : Spec :=
  ⟨[(true, [.data (.prod (.int .i64) (.prod (.int .i64) (.int .i64)))]), (true, [.data (.prod (.int .i64) (.prod (.int .i64) (.int .i64)))])], [], [(false, [.data .bool])], [], fun x k => c x.1.1.1 x.1.2.1.1 (fun r0 => k (((r0, ()), ()), ()))⟩
section
@[reducible] def ref27_ahead_X : Ctx := ⟨look tab, pick1 [], false, false, false, false⟩
def zq2d {β : Type} (a : (Int × (Int × Int))) (b : (Int × (Int × Int))) (k : (Bool → Option β)) : Option β :=
  cond (!decide (a.2.2 = b.2.2))
  (k (decide (a.2.2 < b.2.2)))
  (cond (!decide (a.1 = b.1))
  (k (decide (a.1 < b.1)))
  (k (decide (a.2.1 < b.2.1))))
theorem zq2e (hΓ : ΓOk Try.prog ref27_ahead_X.Γ) : SpecOk Try.prog 57 (zq2c (zq2d)) :=
  spec_exec (X := ref27_ahead_X) (Λ := pick1 []) (rs := [.tmp 4]) (c := bodyOf Try.f57) mixed tab_ok hΓ Try.func57 (by kernel_rfl) (by kernel_rfl) (by kernel_rfl) (by kernel_rfl) CutsOk_nil (fun x k r h => Eq.trans (b := (zq2c (zq2d)).run x k) (by kernel_rfl) h)
end
theorem zq2fΓ : ΓOk Try.prog (pick1 []) := ΓOk_nil
def zq2g : zq2b := zq2d
theorem zq2h : SpecOk Try.prog 57 (zq2c zq2g) := zq2e zq2fΓ

/-- pagewatch/pagewatchref27.right -/
abbrev zq2i := {β : Type} → Int → Int → Int → Int → (Bool → Option β) → Option β
def zq2j (c : zq2i) : Spec :=
  ⟨[(false, [.data (.int .i64)]), (false, [.data (.int .i64)]), (false, [.data (.int .i64)]), (false, [.data (.int .i64)])], [], [(false, [.data .bool])], [], fun x k => c x.1.1.1 x.1.2.1.1 x.1.2.2.1.1 x.1.2.2.2.1.1 (fun r0 => k (((r0, ()), ()), ()))⟩
section
variable (c_ref25_In : zq24)
@[reducible] def ref27_right_X : Ctx := ⟨look tab, pick1 [(56, .spec (zq25 c_ref25_In))], false, false, false, false⟩
def zq2k {β : Type} (page : Int) (step : Int) (person : Int) (start : Int) (k : (Bool → Option β)) : Option β :=
  cond (decide ((1 : Int) ≤ page))
  (cond (decide ((-1 : Int) ≤ step))
  (c_ref25_In person (0 : Int) (31 : Int) (fun (rIn : Bool) =>
  cond rIn
  (c_ref25_In start (0 : Int) (8589934592 : Int) (fun (rIn2 : Bool) =>
  k rIn2))
  (k false)))
  (k false))
  (k false)
theorem zq2l (hΓ : ΓOk Try.prog (ref27_right_X c_ref25_In).Γ) : SpecOk Try.prog 58 (zq2j (zq2k c_ref25_In)) :=
  spec_exec (X := (ref27_right_X c_ref25_In)) (Λ := pick1 []) (rs := [.tmp 8]) (c := bodyOf Try.f58) mixed tab_ok hΓ Try.func58 (by kernel_rfl) (by kernel_rfl) (by kernel_rfl) (by kernel_rfl) CutsOk_nil (fun x k r h => Eq.trans (b := (zq2j (zq2k c_ref25_In)).run x k) (by kernel_rfl) h)
end
theorem zq2mΓ : ΓOk Try.prog (pick1 [(56, .spec (zq25 zq29))]) := (ΓOk_cons zq2a ΓOk_nil)
def zq2n : zq2i := zq2k zq29
theorem zq2o : SpecOk Try.prog 58 (zq2j zq2n) := zq2l zq29 zq2mΓ

/-- pagewatch/delivery.person -/
abbrev zq2p := {β : Type} → Int → (Bool → Option β) → Option β
def zq2q (c : zq2p) : Spec :=
  ⟨[(false, [.data (.int .i64)])], [], [(false, [.data .bool])], [], fun x k => c x.1.1.1 (fun r0 => k (((r0, ()), ()), ()))⟩
section
variable (c_delivery_in : zq1m)
@[reducible] def delivery_person_X : Ctx := ⟨look tab, pick1 [(39, .spec (zq1n c_delivery_in))], false, false, false, false⟩
def zq2r {β : Type} (n : Int) (k : (Bool → Option β)) : Option β :=
  c_delivery_in n (0 : Int) (31 : Int) (fun (rin : Bool) =>
  k rin)
theorem zq2s (hΓ : ΓOk Try.prog (delivery_person_X c_delivery_in).Γ) : SpecOk Try.prog 60 (zq2q (zq2r c_delivery_in)) :=
  spec_exec (X := (delivery_person_X c_delivery_in)) (Λ := pick1 []) (rs := [.tmp 2]) (c := bodyOf Try.f60) mixed tab_ok hΓ Try.func60 (by kernel_rfl) (by kernel_rfl) (by kernel_rfl) (by kernel_rfl) CutsOk_nil (fun x k r h => Eq.trans (b := (zq2q (zq2r c_delivery_in)).run x k) (by kernel_rfl) h)
end
theorem zq2tΓ : ΓOk Try.prog (pick1 [(39, .spec (zq1n zq1r))]) := (ΓOk_cons zq1s ΓOk_nil)
def zq2u : zq2p := zq2r zq1r
theorem zq2v : SpecOk Try.prog 60 (zq2q zq2u) := zq2s zq1r zq2tΓ

/-- pagewatch/channel.in -/
abbrev zq2w := {β : Type} → Int → Int → Int → (Bool → Option β) → Option β
def zq2x (c : zq2w) : Spec :=
  ⟨[(false, [.data (.int .i64)]), (false, [.data (.int .i64)]), (false, [.data (.int .i64)])], [], [(false, [.data .bool])], [], fun x k => c x.1.1.1 x.1.2.1.1 x.1.2.2.1.1 (fun r0 => k (((r0, ()), ()), ()))⟩
section
@[reducible] def channel_in_X : Ctx := ⟨look tab, pick1 [], false, false, false, false⟩
def zq2y {β : Type} (n : Int) (low : Int) (high : Int) (k : (Bool → Option β)) : Option β :=
  cond (decide (low ≤ n))
  (k (decide (n ≤ high)))
  (k false)
theorem zq2z (hΓ : ΓOk Try.prog channel_in_X.Γ) : SpecOk Try.prog 68 (zq2x (zq2y)) :=
  spec_exec (X := channel_in_X) (Λ := pick1 []) (rs := [.tmp 6]) (c := bodyOf Try.f68) mixed tab_ok hΓ Try.func68 (by kernel_rfl) (by kernel_rfl) (by kernel_rfl) (by kernel_rfl) CutsOk_nil (fun x k r h => Eq.trans (b := (zq2x (zq2y)).run x k) (by kernel_rfl) h)
end
theorem zq30Γ : ΓOk Try.prog (pick1 []) := ΓOk_nil
def zq31 : zq2w := zq2y
theorem zq32 : SpecOk Try.prog 68 (zq2x zq31) := zq2z zq30Γ

/-- pagewatch/channel.ValidFate -/
abbrev zq33 := {β : Type} → zq0 → (Bool → Option β) → Option β
def zq34 (c : zq33) : Spec :=
  ⟨[(true, [.data zq1])], [], [(false, [.data .bool])], [], fun x k => c x.1.1.1 (fun r0 => k (((r0, ()), ()), ()))⟩
section
variable (c_channel_in : zq2w)
@[reducible] def channel_ValidFate_X : Ctx := ⟨look tab, pick1 [(68, .spec (zq2x c_channel_in))], false, false, false, false⟩
def zq35 {β : Type} (f : zq0) (k : (Bool → Option β)) : Option β :=
  c_channel_in f.2.1 (0 : Int) (86400 : Int) (fun (rin : Bool) =>
  cond rin
  (c_channel_in f.2.2.1 (0 : Int) (86400 : Int) (fun (rin2 : Bool) =>
  cond rin2
  (c_channel_in f.2.2.2 (-1 : Int) (86400 : Int) (fun (rin3 : Bool) =>
  k rin3))
  (k false)))
  (k false))
theorem zq36 (hΓ : ΓOk Try.prog (channel_ValidFate_X c_channel_in).Γ) : SpecOk Try.prog 69 (zq34 (zq35 c_channel_in)) :=
  spec_exec (X := (channel_ValidFate_X c_channel_in)) (Λ := pick1 []) (rs := [.tmp 2]) (c := bodyOf Try.f69) mixed tab_ok hΓ Try.func69 (by kernel_rfl) (by kernel_rfl) (by kernel_rfl) (by kernel_rfl) CutsOk_nil (fun x k r h => Eq.trans (b := (zq34 (zq35 c_channel_in)).run x k) (by kernel_rfl) h)
end
theorem zq37Γ : ΓOk Try.prog (pick1 [(68, .spec (zq2x zq31))]) := (ΓOk_cons zq32 ΓOk_nil)
def zq38 : zq33 := zq35 zq31
theorem zq39 : SpecOk Try.prog 69 (zq34 zq38) := zq36 zq31 zq37Γ

/-- (*pagewatch/pagewatchmade.Dice).Person -/
abbrev zq3a := {β : Type} → Int → (List Int × Int) → ((Int × List (Int × (Int × (Int × Int)))) → (List Int × Int) → Option β) → Option β
def zq3b (c : zq3a) : Spec :=
  ⟨[(false, [.ptr 0 0]), (false, [.data (.int .i64)])], [.cells 77 [.data (.prod (.slice (.int .i64)) (.int .i64))]], [(true, [.data (.prod (.int .i64) (.slice (.prod (.int .i64) (.prod (.int .i64) (.prod (.int .i64) (.int .i64))))))])], [.cells 77 [.data (.prod (.slice (.int .i64)) (.int .i64))]], fun x k => c x.1.2.1.1 x.2.1.1 (fun r0 r1 => k (((r0, ()), ()), ((r1, ()), ())))⟩
noncomputable def made_Dice_Person_p1_code : Code := codeAt 58 (bodyOf Try.f12)
abbrev zq3c (β : Type) := (List Int) → Int → Int → Int → (List (Int × (Int × (Int × Int)))) → (List (Int × (Int × (Int × Int)))) → Option β
abbrev zq3d := {β : Type} → zq3c β → Int → (List Int) → Int → Int → Int → (List (Int × (Int × (Int × Int)))) → (List (Int × (Int × (Int × Int)))) → Option β
def zq3e : View := ⟨1, [0, 4, 5, 6], [(false, [.ptr 0 0]), (false, [.ptr 1 0]), (false, [.ptr 2 0]), (false, [.data (.int .i64)])], [.cells 77 [.data (.slice (.int .i64)), .data (.int .i64)], .cells 29 [.data (.int .i64), .rowh 3], .cells 29 [.data (.int .i64), .rowh 4], .row 36 (.prod (.int .i64) (.prod (.int .i64) (.prod (.int .i64) (.int .i64)))), .row 36 (.prod (.int .i64) (.prod (.int .i64) (.prod (.int .i64) (.int .i64))))]⟩
def zq3f : List (AExit × View) := [(.exit 0, ⟨1, [4, 5], [(false, [.ptr 1 0]), (false, [.ptr 2 0])], [.cells 77 [.data (.slice (.int .i64)), .data (.int .i64)], .cells 29 [.data (.int .i64), .rowh 3], .cells 29 [.data (.int .i64), .rowh 4], .row 36 (.prod (.int .i64) (.prod (.int .i64) (.prod (.int .i64) (.int .i64)))), .row 36 (.prod (.int .i64) (.prod (.int .i64) (.prod (.int .i64) (.int .i64))))]⟩)]
@[reducible] def made_Dice_Person_p1_G (p : zq3d) {β : Type} (d : zq3e.den) (ks : Outs.K β zq3f) : Option β :=
  p (fun a0 a1 a2 a3 a4 a5 => ks.1 (((), (), ()), ((a0, a1, ()), (a2, ()), (a3, ()), a4, a5, ()))) d.1.2.2.2.1.1 d.2.1.1 d.2.1.2.1 d.2.2.1.1 d.2.2.2.1.1 d.2.2.2.2.1 d.2.2.2.2.2.1
section
variable (c_made_Dice_Channel : zq1f) (c_made_Dice_Next : zqi)
@[reducible] def made_Dice_Person_X : Ctx := ⟨look tab, pick1 [(38, .spec (zq1g c_made_Dice_Channel)), (14, .spec (zqj c_made_Dice_Next))], false, false, false, false⟩
def zq3g {β : Type} (rec : Int → (List Int) → Int → Int → Int → (List (Int × (Int × (Int × Int)))) → (List (Int × (Int × (Int × Int)))) → Option β) (k1 : zq3c β) (i_ : Int) (d : List Int) (d2 : Int) (t4 : Int) (p_ : Int) (b3_ : List (Int × (Int × (Int × Int)))) (b4_ : List (Int × (Int × (Int × Int)))) : Option β :=
  cond (decide ((0 : Int) < i_))
  (c_made_Dice_Channel (d, d2) (fun (rChannel : (Int × (Int × (Int × Int)))) (mrChannel : (List Int × Int)) =>
  let l : List (Int × (Int × (Int × Int))) := ([rChannel] : List (Int × (Int × (Int × Int))));
  cond (decide ((List.length b4_ + List.length l) * 32 ≤ roomMax))
  (let l2 : List (Int × (Int × (Int × Int))) := (b4_ ++ l);
  let i_2 : Int := (IntKind.i64.wrap (i_ - (1 : Int)));
  rec i_2 mrChannel.1 mrChannel.2 t4 p_ b3_ l2)
  none))
  (k1 d d2 t4 p_ b3_ b4_)
def zq3h {β : Type} : Nat → zq3c β → Int → (List Int) → Int → Int → Int → (List (Int × (Int × (Int × Int)))) → (List (Int × (Int × (Int × Int)))) → Option β
  | 0 => fun _ _ _ _ _ _ _ _ => none
  | i + 1 => fun k1 i_ d d2 t4 p_ b3_ b4_ => zq3g c_made_Dice_Channel (zq3h i k1) k1 i_ d d2 t4 p_ b3_ b4_
theorem zq3i (hΓ : ΓOk Try.prog (made_Dice_Person_X c_made_Dice_Channel c_made_Dice_Next).Γ) (i : Nat) : PieceOk Try.prog 23 1 made_Dice_Person_p1_code zq3e zq3f (made_Dice_Person_p1_G (zq3h c_made_Dice_Channel i)) := by
  rw [show made_Dice_Person_p1_code = .loop (loopBody made_Dice_Person_p1_code) by kernel_rfl]
  exact piece_loop (X := (made_Dice_Person_X c_made_Dice_Channel c_made_Dice_Next)) (p := 1) (Λ := pick1 []) (G := fun i => @fun β d ks => made_Dice_Person_p1_G (zq3h c_made_Dice_Channel i) d ks) mixed tab_ok hΓ rfl (by kernel_rfl) CutsOk_nil (fun _ _ => rfl) (fun i => @fun β d ks r h => Eq.trans (b := made_Dice_Person_p1_G (zq3h c_made_Dice_Channel (i + 1)) d ks) (by kernel_rfl) h) i
def zq3j (p1 : zq3d) {β : Type} (person : Int) (d : (List Int × Int)) (k : ((Int × List (Int × (Int × (Int × Int)))) → (List Int × Int) → Option β)) : Option β :=
  c_made_Dice_Next (4 : Int) d (fun (rNext : Int) (mrNext : (List Int × Int)) =>
  p1 (fun (b0_ : List Int) (b0_2 : Int) (t4 : Int) (p_ : Int) (b3_ : List (Int × (Int × (Int × Int)))) (b4_ : List (Int × (Int × (Int × Int)))) =>
  k (p_, b4_) (b0_, b0_2)) rNext mrNext.1 mrNext.2 (0 : Int) person ([] : List (Int × (Int × (Int × Int)))) ([] : List (Int × (Int × (Int × Int)))))
theorem zq3k (hΓ : ΓOk Try.prog (made_Dice_Person_X c_made_Dice_Channel c_made_Dice_Next).Γ) (p1 : zq3d) (hp1 : PieceOk Try.prog 23 1 made_Dice_Person_p1_code zq3e zq3f (made_Dice_Person_p1_G p1)) : SpecOk Try.prog 12 (zq3b (zq3j c_made_Dice_Next p1)) :=
  spec_exec (X := (made_Dice_Person_X c_made_Dice_Channel c_made_Dice_Next)) (Λ := pick1 [(58, pieceCut zq3e zq3f (made_Dice_Person_p1_G p1))]) (rs := [.cell 4 29]) (c := bodyOf Try.f12) mixed tab_ok hΓ Try.func12 (by kernel_rfl) (by kernel_rfl) (by kernel_rfl) (by kernel_rfl) (CutsOk_cons (q := 58) (c' := made_Dice_Person_p1_code) (by kernel_rfl) rfl hp1 CutsOk_nil) (fun x k r h => Eq.trans (b := (zq3b (zq3j c_made_Dice_Next p1)).run x k) (by kernel_rfl) h)
end
theorem zq3lΓ : ΓOk Try.prog (pick1 [(38, .spec (zq1g zq1k)), (14, .spec (zqj zqn))]) := (ΓOk_cons zq1l (ΓOk_cons zqo ΓOk_nil))
def zq3m (m : Nat) : zq3d := zq3h zq1k m
theorem zq3n {β : Type} (i : Nat) (k1 i_ d d2 t4 p_ b3_ b4_) : (zq3m (i + 1) k1 i_ d d2 t4 p_ b3_ b4_ : Option β) = zq3g zq1k (zq3m i k1) k1 i_ d d2 t4 p_ b3_ b4_ := rfl
def zq3o : zq3d := zq3m fuel
theorem zq3p : PieceOk Try.prog 23 1 made_Dice_Person_p1_code zq3e zq3f (made_Dice_Person_p1_G zq3o) := zq3i zq1k zqn zq3lΓ fuel
def zq3q : zq3a := zq3j zqn zq3o
theorem zq3r : SpecOk Try.prog 12 (zq3b zq3q) := zq3k zq1k zqn zq3lΓ zq3o zq3p

/-- pagewatch/pagewatchref27.New -/
abbrev zq3s := {β : Type} → Int → Int → Int → Int → (zq2 → Int → Option β) → Option β
def zq3t (c : zq3s) : Spec :=
  ⟨[(false, [.data (.int .i64)]), (false, [.data (.int .i64)]), (false, [.data (.int .i64)]), (false, [.data (.int .i64)])], [], [(true, [.data zq3]), (false, [.data (.int .i64)])], [], fun x k => c x.1.1.1 x.1.2.1.1 x.1.2.2.1.1 x.1.2.2.2.1.1 (fun r0 r1 => k (((r0, ()), (r1, ()), ()), ()))⟩
section
variable (c_ref27_right : zq2i)
@[reducible] def ref27_New_X : Ctx := ⟨look tab, pick1 [(58, .spec (zq2j c_ref27_right))], false, false, false, false⟩
def zq3u {β : Type} (page : Int) (step : Int) (person : Int) (start : Int) (k : (zq2 → Int → Option β)) : Option β :=
  c_ref27_right page step person start (fun (rright : Bool) =>
  cond (!rright)
  (k ((0 : Int), ((0 : Int), ((0 : Int), ((0 : Int), ((0 : Int), (0 : Int)))))) (1 : Int))
  (k (page, (step, (person, (start, ((0 : Int), (-1 : Int)))))) (0 : Int)))
theorem zq3v (hΓ : ΓOk Try.prog (ref27_New_X c_ref27_right).Γ) : SpecOk Try.prog 37 (zq3t (zq3u c_ref27_right)) :=
  spec_exec (X := (ref27_New_X c_ref27_right)) (Λ := pick1 []) (rs := [.cell 8 55, .tmp 9]) (c := bodyOf Try.f37) mixed tab_ok hΓ Try.func37 (by kernel_rfl) (by kernel_rfl) (by kernel_rfl) (by kernel_rfl) CutsOk_nil (fun x k r h => Eq.trans (b := (zq3t (zq3u c_ref27_right)).run x k) (by kernel_rfl) h)
end
theorem zq3wΓ : ΓOk Try.prog (pick1 [(58, .spec (zq2j zq2n))]) := (ΓOk_cons zq2o ΓOk_nil)
def zq3x : zq3s := zq3u zq2n
theorem zq3y : SpecOk Try.prog 37 (zq3t zq3x) := zq3v zq2n zq3wΓ

/-- pagewatch/channel.Fates -/
abbrev zq3z := {β : Type} → (List zq0) → Int → (zq0 → Option β) → Option β
def zq40 (c : zq3z) : Spec :=
  ⟨[(false, [.data (.slice zq1)]), (false, [.data (.int .i64)])], [], [(true, [.data zq1])], [], fun x k => c x.1.1.1 x.1.2.1.1 (fun r0 => k (((r0, ()), ()), ()))⟩
section
variable (c_channel_ValidFate : zq33) (c_channel_in : zq2w)
@[reducible] def channel_Fates_X : Ctx := ⟨look tab, pick1 [(69, .spec (zq34 c_channel_ValidFate)), (68, .spec (zq2x c_channel_in))], false, false, false, false⟩
def zq41 {β : Type} (l : List zq0) (k_ : Int) (k : (zq0 → Option β)) : Option β :=
  c_channel_in k_ (0 : Int) (IntKind.i64.wrap ((List.length l : Int) - (1 : Int))) (fun (rin : Bool) =>
  cond rin
  (cond (decide (0 ≤ k_) && decide (k_ < (List.length l : Int)))
  (let e : zq0 := List.getD l (Int.toNat k_) (false, ((0 : Int), ((0 : Int), (0 : Int))));
  c_channel_ValidFate e (fun (rValidFate : Bool) =>
  cond rValidFate
  (cond (decide (0 ≤ k_) && decide (k_ < (List.length l : Int)))
  (let e2 : zq0 := List.getD l (Int.toNat k_) (false, ((0 : Int), ((0 : Int), (0 : Int))));
  k e2)
  none)
  (k (true, ((0 : Int), ((0 : Int), (0 : Int)))))))
  none)
  (k (true, ((0 : Int), ((0 : Int), (0 : Int))))))
theorem zq42 (hΓ : ΓOk Try.prog (channel_Fates_X c_channel_ValidFate c_channel_in).Γ) : SpecOk Try.prog 46 (zq40 (zq41 c_channel_ValidFate c_channel_in)) :=
  spec_exec (X := (channel_Fates_X c_channel_ValidFate c_channel_in)) (Λ := pick1 []) (rs := [.cell 4 75]) (c := bodyOf Try.f46) mixed tab_ok hΓ Try.func46 (by kernel_rfl) (by kernel_rfl) (by kernel_rfl) (by kernel_rfl) CutsOk_nil (fun x k r h => Eq.trans (b := (zq40 (zq41 c_channel_ValidFate c_channel_in)).run x k) (by kernel_rfl) h)
end
theorem zq43Γ : ΓOk Try.prog (pick1 [(69, .spec (zq34 zq38)), (68, .spec (zq2x zq31))]) := (ΓOk_cons zq39 (ΓOk_cons zq32 ΓOk_nil))
def zq44 : zq3z := zq41 zq38 zq31
theorem zq45 : SpecOk Try.prog 46 (zq40 zq44) := zq42 zq38 zq31 zq43Γ

/-- pagewatch/channel.Arrivals -/
abbrev zq46 := {β : Type} → Int → zq0 → ((List Int) → Option β) → Option β
def zq47 (c : zq46) : Spec :=
  ⟨[(false, [.data (.int .i64)]), (true, [.data zq1])], [], [(false, [.rowh 0])], [.row 3 (.int .i64)], fun x k => c x.1.1.1 x.1.2.1.1 (fun r0 => k (((), ()), (r0, ())))⟩
section
variable (c_channel_ValidFate : zq33) (c_channel_in : zq2w)
@[reducible] def channel_Arrivals_X : Ctx := ⟨look tab, pick1 [(69, .spec (zq34 c_channel_ValidFate)), (68, .spec (zq2x c_channel_in))], false, false, false, false⟩
def zq48 {β : Type} (at_ : Int) (f : zq0) (k : ((List Int) → Option β)) : Option β :=
  c_channel_in at_ (0 : Int) (8589956192 : Int) (fun (rin : Bool) =>
  cond (!rin)
  (k ([] : List Int))
  (c_channel_ValidFate f (fun (rValidFate : Bool) =>
  cond (!rValidFate)
  (k ([] : List Int))
  (cond f.1
  (k ([] : List Int))
  (let l : List Int := ([(IntKind.i64.wrap (at_ + f.2.1))] : List Int);
  cond (!decide (f.2.2.1 = (0 : Int)))
  (let l2 : List Int := ([(IntKind.i64.wrap ((IntKind.i64.wrap (at_ + f.2.1)) + f.2.2.1))] : List Int);
  cond (decide ((List.length l + List.length l2) * 8 ≤ roomMax))
  (let l3 : List Int := (l ++ l2);
  k l3)
  none)
  (k l))))))
theorem zq49 (hΓ : ΓOk Try.prog (channel_Arrivals_X c_channel_ValidFate c_channel_in).Γ) : SpecOk Try.prog 47 (zq47 (zq48 c_channel_ValidFate c_channel_in)) :=
  spec_exec (X := (channel_Arrivals_X c_channel_ValidFate c_channel_in)) (Λ := pick1 []) (rs := [.tmp 4]) (c := bodyOf Try.f47) mixed tab_ok hΓ Try.func47 (by kernel_rfl) (by kernel_rfl) (by kernel_rfl) (by kernel_rfl) CutsOk_nil (fun x k r h => Eq.trans (b := (zq47 (zq48 c_channel_ValidFate c_channel_in)).run x k) (by kernel_rfl) h)
end
theorem zq4aΓ : ΓOk Try.prog (pick1 [(69, .spec (zq34 zq38)), (68, .spec (zq2x zq31))]) := (ΓOk_cons zq39 (ΓOk_cons zq32 ΓOk_nil))
def zq4b : zq46 := zq48 zq38 zq31
theorem zq4c : SpecOk Try.prog 47 (zq47 zq4b) := zq49 zq38 zq31 zq4aΓ

/-- pagewatch/channel.Receipts -/
abbrev zq4d := {β : Type} → Int → zq0 → ((List Int) → Option β) → Option β
def zq4e (c : zq4d) : Spec :=
  ⟨[(false, [.data (.int .i64)]), (true, [.data zq1])], [], [(false, [.rowh 0])], [.row 3 (.int .i64)], fun x k => c x.1.1.1 x.1.2.1.1 (fun r0 => k (((), ()), (r0, ())))⟩
noncomputable def channel_Receipts_p1_code : Code := codeAt 122 (bodyOf Try.f48)
abbrev zq4f (β : Type) := (List Int) → Option β
abbrev zq4g := {β : Type} → zq4f β → Int → Int → Bool → Int → Int → Int → (List Int) → Option β
def zq4h : View := ⟨0, [3, 5, 14, 15], [(false, [.ptr 0 0]), (false, [.rowh 1]), (false, [.data (.int .i64)]), (false, [.data (.int .i64)])], [.cells 75 [.data .bool, .data (.int .i64), .data (.int .i64), .data (.int .i64)], .row 3 (.int .i64)]⟩
def zq4i : List (AExit × View) := [(.exit 0, ⟨0, [5], [(false, [.rowh 0])], [.row 3 (.int .i64)]⟩)]
@[reducible] def channel_Receipts_p1_G (p : zq4g) {β : Type} (d : zq4h.den) (ks : Outs.K β zq4i) : Option β :=
  p (fun a0 => ks.1 (((), ()), (a0, ()))) d.1.2.2.1.1 d.1.2.2.2.1.1 d.2.1.1 d.2.1.2.1 d.2.1.2.2.1 d.2.1.2.2.2.1 d.2.2.1
section
variable (c_channel_Arrivals : zq46)
@[reducible] def channel_Receipts_X : Ctx := ⟨look tab, pick1 [(47, .spec (zq47 c_channel_Arrivals))], false, false, false, false⟩
def zq4j {β : Type} (rec : Int → Int → Bool → Int → Int → Int → (List Int) → Option β) (k1 : zq4f β) (t14 : Int) (t15 : Int) (f : Bool) (f2 : Int) (f3 : Int) (f4 : Int) (out : List Int) : Option β :=
  cond (decide (t15 < t14))
  (cond (decide (0 ≤ t15) && decide (t15 < (List.length out : Int)))
  (cond (decide (0 ≤ t15) && decide (t15 < (List.length out : Int)))
  (let l : List Int := (List.set out (Int.toNat t15) (IntKind.i64.wrap ((List.getD out (Int.toNat t15) (0 : Int)) + f4)));
  rec t14 (IntKind.i64.wrap (t15 + (1 : Int))) f f2 f3 f4 l)
  none)
  none)
  (k1 out)
def zq4k {β : Type} : Nat → zq4f β → Int → Int → Bool → Int → Int → Int → (List Int) → Option β
  | 0 => fun _ _ _ _ _ _ _ _ => none
  | i + 1 => fun k1 t14 t15 f f2 f3 f4 out => zq4j (zq4k i k1) k1 t14 t15 f f2 f3 f4 out
theorem zq4l (hΓ : ΓOk Try.prog (channel_Receipts_X c_channel_Arrivals).Γ) (i : Nat) : PieceOk Try.prog 28 0 channel_Receipts_p1_code zq4h zq4i (channel_Receipts_p1_G (zq4k i)) := by
  rw [show channel_Receipts_p1_code = .loop (loopBody channel_Receipts_p1_code) by kernel_rfl]
  exact piece_loop (X := (channel_Receipts_X c_channel_Arrivals)) (p := 1) (Λ := pick1 []) (G := fun i => @fun β d ks => channel_Receipts_p1_G (zq4k i) d ks) mixed tab_ok hΓ rfl (by kernel_rfl) CutsOk_nil (fun _ _ => rfl) (fun i => @fun β d ks r h => Eq.trans (b := channel_Receipts_p1_G (zq4k (i + 1)) d ks) (by kernel_rfl) h) i
def zq4m (p1 : zq4g) {β : Type} (at_ : Int) (f : zq0) (k : ((List Int) → Option β)) : Option β :=
  c_channel_Arrivals at_ f (fun (lrArrivals : List Int) =>
  cond (decide (f.2.2.2 = (-1 : Int)))
  (k ([] : List Int))
  (p1 (fun (out : List Int) =>
  k out) (List.length lrArrivals : Int) (0 : Int) f.1 f.2.1 f.2.2.1 f.2.2.2 lrArrivals))
theorem zq4n (hΓ : ΓOk Try.prog (channel_Receipts_X c_channel_Arrivals).Γ) (p1 : zq4g) (hp1 : PieceOk Try.prog 28 0 channel_Receipts_p1_code zq4h zq4i (channel_Receipts_p1_G p1)) : SpecOk Try.prog 48 (zq4e (zq4m c_channel_Arrivals p1)) :=
  spec_exec (X := (channel_Receipts_X c_channel_Arrivals)) (Λ := pick1 [(122, pieceCut zq4h zq4i (channel_Receipts_p1_G p1))]) (rs := [.tmp 4]) (c := bodyOf Try.f48) mixed tab_ok hΓ Try.func48 (by kernel_rfl) (by kernel_rfl) (by kernel_rfl) (by kernel_rfl) (CutsOk_cons (q := 122) (c' := channel_Receipts_p1_code) (by kernel_rfl) rfl hp1 CutsOk_nil) (fun x k r h => Eq.trans (b := (zq4e (zq4m c_channel_Arrivals p1)).run x k) (by kernel_rfl) h)
end
theorem zq4oΓ : ΓOk Try.prog (pick1 [(47, .spec (zq47 zq4b))]) := (ΓOk_cons zq4c ΓOk_nil)
def zq4p (m : Nat) : zq4g := zq4k m
theorem zq4q {β : Type} (i : Nat) (k1 t14 t15 f f2 f3 f4 out) : (zq4p (i + 1) k1 t14 t15 f f2 f3 f4 out : Option β) = zq4j (zq4p i k1) k1 t14 t15 f f2 f3 f4 out := rfl
def zq4r : zq4g := zq4p fuel
theorem zq4s : PieceOk Try.prog 28 0 channel_Receipts_p1_code zq4h zq4i (channel_Receipts_p1_G zq4r) := zq4l zq4b zq4oΓ fuel
def zq4t : zq4d := zq4m zq4b zq4r
theorem zq4u : SpecOk Try.prog 48 (zq4e zq4t) := zq4n zq4b zq4oΓ zq4r zq4s

/-- pagewatch/pagewatchref26.Valid -/
abbrev zq4v := {β : Type} → (Int × (Int × (Int × Int))) → (Bool → Option β) → Option β
def zq4w (c : zq4v) : Spec :=
  ⟨[(true, [.data (.prod (.int .i64) (.prod (.int .i64) (.prod (.int .i64) (.int .i64))))])], [], [(false, [.data .bool])], [], fun x k => c x.1.1.1 (fun r0 => k (((r0, ()), ()), ()))⟩
section
variable (c_ref25_In : zq24)
@[reducible] def ref26_Valid_X : Ctx := ⟨look tab, pick1 [(56, .spec (zq25 c_ref25_In))], false, false, false, false⟩
def zq4x {β : Type} (ch : (Int × (Int × (Int × Int)))) (k : (Bool → Option β)) : Option β :=
  c_ref25_In ch.1 (0 : Int) (2 : Int) (fun (rIn : Bool) =>
  cond rIn
  (c_ref25_In ch.2.1 (0 : Int) (3600 : Int) (fun (rIn2 : Bool) =>
  cond rIn2
  (c_ref25_In ch.2.2.1 (1 : Int) (6 : Int) (fun (rIn3 : Bool) =>
  cond rIn3
  (c_ref25_In ch.2.2.2 (1 : Int) (3600 : Int) (fun (rIn4 : Bool) =>
  k rIn4))
  (k false)))
  (k false)))
  (k false))
theorem zq4y (hΓ : ΓOk Try.prog (ref26_Valid_X c_ref25_In).Γ) : SpecOk Try.prog 54 (zq4w (zq4x c_ref25_In)) :=
  spec_exec (X := (ref26_Valid_X c_ref25_In)) (Λ := pick1 []) (rs := [.tmp 2]) (c := bodyOf Try.f54) mixed tab_ok hΓ Try.func54 (by kernel_rfl) (by kernel_rfl) (by kernel_rfl) (by kernel_rfl) CutsOk_nil (fun x k r h => Eq.trans (b := (zq4w (zq4x c_ref25_In)).run x k) (by kernel_rfl) h)
end
theorem zq4zΓ : ΓOk Try.prog (pick1 [(56, .spec (zq25 zq29))]) := (ΓOk_cons zq2a ΓOk_nil)
def zq50 : zq4v := zq4x zq29
theorem zq51 : SpecOk Try.prog 54 (zq4w zq50) := zq4y zq29 zq4zΓ

/-- pagewatch/delivery.numbers -/
abbrev zq52 := {β : Type} → zq2 → (Bool → Option β) → Option β
def zq53 (c : zq52) : Spec :=
  ⟨[(true, [.data zq3])], [], [(false, [.data .bool])], [], fun x k => c x.1.1.1 (fun r0 => k (((r0, ()), ()), ()))⟩
section
variable (c_delivery_in : zq1m) (c_delivery_person : zq2p)
@[reducible] def delivery_numbers_X : Ctx := ⟨look tab, pick1 [(39, .spec (zq1n c_delivery_in)), (60, .spec (zq2q c_delivery_person))], false, false, false, false⟩
def zq54 {β : Type} (c : zq2) (k : (Bool → Option β)) : Option β :=
  cond (decide ((1 : Int) ≤ c.1))
  (cond (decide ((-1 : Int) ≤ c.2.1))
  (c_delivery_person c.2.2.1 (fun (rperson : Bool) =>
  cond rperson
  (c_delivery_in c.2.2.2.1 (0 : Int) (8589934592 : Int) (fun (rin : Bool) =>
  k rin))
  (k false)))
  (k false))
  (k false)
theorem zq55 (hΓ : ΓOk Try.prog (delivery_numbers_X c_delivery_in c_delivery_person).Γ) : SpecOk Try.prog 59 (zq53 (zq54 c_delivery_in c_delivery_person)) :=
  spec_exec (X := (delivery_numbers_X c_delivery_in c_delivery_person)) (Λ := pick1 []) (rs := [.tmp 2]) (c := bodyOf Try.f59) mixed tab_ok hΓ Try.func59 (by kernel_rfl) (by kernel_rfl) (by kernel_rfl) (by kernel_rfl) CutsOk_nil (fun x k r h => Eq.trans (b := (zq53 (zq54 c_delivery_in c_delivery_person)).run x k) (by kernel_rfl) h)
end
theorem zq56Γ : ΓOk Try.prog (pick1 [(39, .spec (zq1n zq1r)), (60, .spec (zq2q zq2u))]) := (ΓOk_cons zq1s (ΓOk_cons zq2v ΓOk_nil))
def zq57 : zq52 := zq54 zq1r zq2u
theorem zq58 : SpecOk Try.prog 59 (zq53 zq57) := zq55 zq1r zq2u zq56Γ

/-- pagewatch/channel.Valid -/
abbrev zq59 := {β : Type} → (Int × (Int × (Int × Int))) → (Bool → Option β) → Option β
def zq5a (c : zq59) : Spec :=
  ⟨[(true, [.data (.prod (.int .i64) (.prod (.int .i64) (.prod (.int .i64) (.int .i64))))])], [], [(false, [.data .bool])], [], fun x k => c x.1.1.1 (fun r0 => k (((r0, ()), ()), ()))⟩
section
variable (c_channel_in : zq2w)
@[reducible] def channel_Valid_X : Ctx := ⟨look tab, pick1 [(68, .spec (zq2x c_channel_in))], false, false, false, false⟩
def zq5b {β : Type} (ch : (Int × (Int × (Int × Int)))) (k : (Bool → Option β)) : Option β :=
  c_channel_in ch.1 (0 : Int) (2 : Int) (fun (rin : Bool) =>
  cond rin
  (c_channel_in ch.2.1 (0 : Int) (3600 : Int) (fun (rin2 : Bool) =>
  cond rin2
  (c_channel_in ch.2.2.1 (1 : Int) (6 : Int) (fun (rin3 : Bool) =>
  cond rin3
  (c_channel_in ch.2.2.2 (1 : Int) (3600 : Int) (fun (rin4 : Bool) =>
  k rin4))
  (k false)))
  (k false)))
  (k false))
theorem zq5c (hΓ : ΓOk Try.prog (channel_Valid_X c_channel_in).Γ) : SpecOk Try.prog 63 (zq5a (zq5b c_channel_in)) :=
  spec_exec (X := (channel_Valid_X c_channel_in)) (Λ := pick1 []) (rs := [.tmp 2]) (c := bodyOf Try.f63) mixed tab_ok hΓ Try.func63 (by kernel_rfl) (by kernel_rfl) (by kernel_rfl) (by kernel_rfl) CutsOk_nil (fun x k r h => Eq.trans (b := (zq5a (zq5b c_channel_in)).run x k) (by kernel_rfl) h)
end
theorem zq5dΓ : ΓOk Try.prog (pick1 [(68, .spec (zq2x zq31))]) := (ΓOk_cons zq32 ΓOk_nil)
def zq5e : zq59 := zq5b zq31
theorem zq5f : SpecOk Try.prog 63 (zq5a zq5e) := zq5c zq31 zq5dΓ

/-- pagewatch/pagewatchref26.Worst -/
abbrev zq5g := {β : Type} → (Int × (Int × (Int × Int))) → (Int → Option β) → Option β
def zq5h (c : zq5g) : Spec :=
  ⟨[(true, [.data (.prod (.int .i64) (.prod (.int .i64) (.prod (.int .i64) (.int .i64))))])], [], [(false, [.data (.int .i64)])], [], fun x k => c x.1.1.1 (fun r0 => k (((r0, ()), ()), ()))⟩
section
variable (c_ref26_Valid : zq4v)
@[reducible] def ref26_Worst_X : Ctx := ⟨look tab, pick1 [(54, .spec (zq4w c_ref26_Valid))], false, false, false, false⟩
def zq5i {β : Type} (ch : (Int × (Int × (Int × Int)))) (k : (Int → Option β)) : Option β :=
  c_ref26_Valid ch (fun (rValid : Bool) =>
  cond (!rValid)
  (k (0 : Int))
  (let t : Int := (IntKind.i64.wrap ((IntKind.i64.wrap ((IntKind.i64.wrap (ch.2.2.1 - (1 : Int))) * ch.2.2.2)) + ch.2.1));
  k t))
theorem zq5j (hΓ : ΓOk Try.prog (ref26_Worst_X c_ref26_Valid).Γ) : SpecOk Try.prog 64 (zq5h (zq5i c_ref26_Valid)) :=
  spec_exec (X := (ref26_Worst_X c_ref26_Valid)) (Λ := pick1 []) (rs := [.tmp 2]) (c := bodyOf Try.f64) mixed tab_ok hΓ Try.func64 (by kernel_rfl) (by kernel_rfl) (by kernel_rfl) (by kernel_rfl) CutsOk_nil (fun x k r h => Eq.trans (b := (zq5h (zq5i c_ref26_Valid)).run x k) (by kernel_rfl) h)
end
theorem zq5kΓ : ΓOk Try.prog (pick1 [(54, .spec (zq4w zq50))]) := (ΓOk_cons zq51 ΓOk_nil)
def zq5l : zq5g := zq5i zq50
theorem zq5m : SpecOk Try.prog 64 (zq5h zq5l) := zq5j zq50 zq5kΓ

/-- pagewatch/pagewatchref27.Valid -/
abbrev zq5n := {β : Type} → (Int × List (Int × (Int × (Int × Int)))) → (Bool → Option β) → Option β
def zq5o (c : zq5n) : Spec :=
  ⟨[(true, [.data (.prod (.int .i64) (.slice (.prod (.int .i64) (.prod (.int .i64) (.prod (.int .i64) (.int .i64))))))])], [], [(false, [.data .bool])], [], fun x k => c x.1.1.1 (fun r0 => k (((r0, ()), ()), ()))⟩
noncomputable def ref27_Valid_p1_code : Code := codeAt 58 (bodyOf Try.f32)
abbrev zq5p (β : Type) := Bool → Option β
abbrev zq5q (β : Type) := Unit → Option β
abbrev zq5r := {β : Type} → zq5p β → zq5q β → Int → Int → (List (Int × (Int × (Int × Int)))) → Option β
def zq5s : View := ⟨0, [1, 3], [(false, [.ptr 0 0]), (false, [.data (.int .i64)])], [.cells 29 [.data (.int .i64), .data (.slice (.prod (.int .i64) (.prod (.int .i64) (.prod (.int .i64) (.int .i64)))))]]⟩
def zq5t : List (AExit × View) := [(.ret, ⟨0, [2], [(false, [.data .bool])], []⟩), (.exit 0, ⟨0, [], [], []⟩)]
@[reducible] def ref27_Valid_p1_G (p : zq5r) {β : Type} (d : zq5s.den) (ks : Outs.K β zq5t) : Option β :=
  p (fun a0 => ks.1 (((a0, ()), ()), ())) (fun _ => ks.2.1 ((), ())) d.1.2.1.1 d.2.1.1 d.2.1.2.1
section
variable (c_ref25_In : zq24) (c_ref26_Valid : zq4v)
@[reducible] def ref27_Valid_X : Ctx := ⟨look tab, pick1 [(56, .spec (zq25 c_ref25_In)), (54, .spec (zq4w c_ref26_Valid))], false, false, false, false⟩
def zq5u {β : Type} (rec : Int → Int → (List (Int × (Int × (Int × Int)))) → Option β) (k1 : zq5p β) (k2 : zq5q β) (i_ : Int) (p_ : Int) (p_2 : List (Int × (Int × (Int × Int)))) : Option β :=
  cond (decide (i_ < (List.length p_2 : Int)))
  (cond (decide (0 ≤ i_) && decide (i_ < (List.length p_2 : Int)))
  (let e : (Int × (Int × (Int × Int))) := List.getD p_2 (Int.toNat i_) ((0 : Int), ((0 : Int), ((0 : Int), (0 : Int))));
  c_ref26_Valid e (fun (rValid : Bool) =>
  cond (!rValid)
  (k1 false)
  (let i_2 : Int := (IntKind.i64.wrap (i_ + (1 : Int)));
  rec i_2 p_ p_2)))
  none)
  (k2 ())
def zq5v {β : Type} : Nat → zq5p β → zq5q β → Int → Int → (List (Int × (Int × (Int × Int)))) → Option β
  | 0 => fun _ _ _ _ _ => none
  | i + 1 => fun k1 k2 i_ p_ p_2 => zq5u c_ref26_Valid (zq5v i k1 k2) k1 k2 i_ p_ p_2
theorem zq5w (hΓ : ΓOk Try.prog (ref27_Valid_X c_ref25_In c_ref26_Valid).Γ) (i : Nat) : PieceOk Try.prog 28 0 ref27_Valid_p1_code zq5s zq5t (ref27_Valid_p1_G (zq5v c_ref26_Valid i)) := by
  rw [show ref27_Valid_p1_code = .loop (loopBody ref27_Valid_p1_code) by kernel_rfl]
  exact piece_loop (X := (ref27_Valid_X c_ref25_In c_ref26_Valid)) (p := 1) (Λ := pick1 []) (G := fun i => @fun β d ks => ref27_Valid_p1_G (zq5v c_ref26_Valid i) d ks) mixed tab_ok hΓ rfl (by kernel_rfl) CutsOk_nil (fun _ _ => rfl) (fun i => @fun β d ks r h => Eq.trans (b := ref27_Valid_p1_G (zq5v c_ref26_Valid (i + 1)) d ks) (by kernel_rfl) h) i
def zq5x (p1 : zq5r) {β : Type} (p_ : (Int × List (Int × (Int × (Int × Int))))) (k : (Bool → Option β)) : Option β :=
  c_ref25_In p_.1 (0 : Int) (31 : Int) (fun (rIn : Bool) =>
  cond (!rIn)
  (k false)
  (cond (decide ((4 : Int) < (List.length p_.2 : Int)))
  (k false)
  (p1 (fun (t2 : Bool) =>
  k t2) (fun (_ : Unit) =>
  k true) (0 : Int) p_.1 p_.2)))
theorem zq5y (hΓ : ΓOk Try.prog (ref27_Valid_X c_ref25_In c_ref26_Valid).Γ) (p1 : zq5r) (hp1 : PieceOk Try.prog 28 0 ref27_Valid_p1_code zq5s zq5t (ref27_Valid_p1_G p1)) : SpecOk Try.prog 32 (zq5o (zq5x c_ref25_In p1)) :=
  spec_exec (X := (ref27_Valid_X c_ref25_In c_ref26_Valid)) (Λ := pick1 [(58, pieceCut zq5s zq5t (ref27_Valid_p1_G p1))]) (rs := [.tmp 2]) (c := bodyOf Try.f32) mixed tab_ok hΓ Try.func32 (by kernel_rfl) (by kernel_rfl) (by kernel_rfl) (by kernel_rfl) (CutsOk_cons (q := 58) (c' := ref27_Valid_p1_code) (by kernel_rfl) rfl hp1 CutsOk_nil) (fun x k r h => Eq.trans (b := (zq5o (zq5x c_ref25_In p1)).run x k) (by kernel_rfl) h)
end
theorem zq5zΓ : ΓOk Try.prog (pick1 [(56, .spec (zq25 zq29)), (54, .spec (zq4w zq50))]) := (ΓOk_cons zq2a (ΓOk_cons zq51 ΓOk_nil))
def zq60 (m : Nat) : zq5r := zq5v zq50 m
theorem zq61 {β : Type} (i : Nat) (k1 k2 i_ p_ p_2) : (zq60 (i + 1) k1 k2 i_ p_ p_2 : Option β) = zq5u zq50 (zq60 i k1 k2) k1 k2 i_ p_ p_2 := rfl
def zq62 : zq5r := zq60 fuel
theorem zq63 : PieceOk Try.prog 28 0 ref27_Valid_p1_code zq5s zq5t (ref27_Valid_p1_G zq62) := zq5w zq29 zq50 zq5zΓ fuel
def zq64 : zq5n := zq5x zq29 zq62
theorem zq65 : SpecOk Try.prog 32 (zq5o zq64) := zq5y zq29 zq50 zq5zΓ zq62 zq63

/-- pagewatch/pagewatchref27.Bound -/
abbrev zq66 := {β : Type} → (Int × List (Int × (Int × (Int × Int)))) → (Int → Option β) → Option β
def zq67 (c : zq66) : Spec :=
  ⟨[(true, [.data (.prod (.int .i64) (.slice (.prod (.int .i64) (.prod (.int .i64) (.prod (.int .i64) (.int .i64))))))])], [], [(false, [.data (.int .i64)])], [], fun x k => c x.1.1.1 (fun r0 => k (((r0, ()), ()), ()))⟩
noncomputable def ref27_Bound_p1_code : Code := codeAt 58 (bodyOf Try.f33)
abbrev zq68 (β : Type) := Int → Option β
abbrev zq69 := {β : Type} → zq68 β → Int → Int → Int → (List (Int × (Int × (Int × Int)))) → Option β
def zq6a : View := ⟨0, [1, 3, 4], [(false, [.ptr 0 0]), (false, [.data (.int .i64)]), (false, [.data (.int .i64)])], [.cells 29 [.data (.int .i64), .data (.slice (.prod (.int .i64) (.prod (.int .i64) (.prod (.int .i64) (.int .i64)))))]]⟩
def zq6b : List (AExit × View) := [(.exit 0, ⟨0, [3], [(false, [.data (.int .i64)])], []⟩)]
@[reducible] def ref27_Bound_p1_G (p : zq69) {β : Type} (d : zq6a.den) (ks : Outs.K β zq6b) : Option β :=
  p (fun a0 => ks.1 (((a0, ()), ()), ())) d.1.2.1.1 d.1.2.2.1.1 d.2.1.1 d.2.1.2.1
section
variable (c_ref26_Worst : zq5g) (c_ref27_Valid : zq5n)
@[reducible] def ref27_Bound_X : Ctx := ⟨look tab, pick1 [(64, .spec (zq5h c_ref26_Worst)), (32, .spec (zq5o c_ref27_Valid))], false, false, false, false⟩
def zq6c {β : Type} (rec : Int → Int → Int → (List (Int × (Int × (Int × Int)))) → Option β) (k1 : zq68 β) (most : Int) (i_ : Int) (p_ : Int) (p_2 : List (Int × (Int × (Int × Int)))) : Option β :=
  cond (decide (i_ < (List.length p_2 : Int)))
  (c_ref27_Valid (p_, p_2) (fun (rValid : Bool) =>
  cond rValid
  (cond (decide (0 ≤ i_) && decide (i_ < (List.length p_2 : Int)))
  (let e : (Int × (Int × (Int × Int))) := List.getD p_2 (Int.toNat i_) ((0 : Int), ((0 : Int), ((0 : Int), (0 : Int))));
  c_ref26_Worst e (fun (rWorst : Int) =>
  let most2 : Int := (if rWorst > most then rWorst else most);
  let i_2 : Int := (IntKind.i64.wrap (i_ + (1 : Int)));
  rec most2 i_2 p_ p_2))
  none)
  (k1 most)))
  (k1 most)
def zq6d {β : Type} : Nat → zq68 β → Int → Int → Int → (List (Int × (Int × (Int × Int)))) → Option β
  | 0 => fun _ _ _ _ _ => none
  | i + 1 => fun k1 most i_ p_ p_2 => zq6c c_ref26_Worst c_ref27_Valid (zq6d i k1) k1 most i_ p_ p_2
theorem zq6e (hΓ : ΓOk Try.prog (ref27_Bound_X c_ref26_Worst c_ref27_Valid).Γ) (i : Nat) : PieceOk Try.prog 25 0 ref27_Bound_p1_code zq6a zq6b (ref27_Bound_p1_G (zq6d c_ref26_Worst c_ref27_Valid i)) := by
  rw [show ref27_Bound_p1_code = .loop (loopBody ref27_Bound_p1_code) by kernel_rfl]
  exact piece_loop (X := (ref27_Bound_X c_ref26_Worst c_ref27_Valid)) (p := 1) (Λ := pick1 []) (G := fun i => @fun β d ks => ref27_Bound_p1_G (zq6d c_ref26_Worst c_ref27_Valid i) d ks) mixed tab_ok hΓ rfl (by kernel_rfl) CutsOk_nil (fun _ _ => rfl) (fun i => @fun β d ks r h => Eq.trans (b := ref27_Bound_p1_G (zq6d c_ref26_Worst c_ref27_Valid (i + 1)) d ks) (by kernel_rfl) h) i
def zq6f (p1 : zq69) {β : Type} (p_ : (Int × List (Int × (Int × (Int × Int))))) (k : (Int → Option β)) : Option β :=
  p1 (fun (most : Int) =>
  k most) (0 : Int) (0 : Int) p_.1 p_.2
theorem zq6g (hΓ : ΓOk Try.prog (ref27_Bound_X c_ref26_Worst c_ref27_Valid).Γ) (p1 : zq69) (hp1 : PieceOk Try.prog 25 0 ref27_Bound_p1_code zq6a zq6b (ref27_Bound_p1_G p1)) : SpecOk Try.prog 33 (zq67 (zq6f p1)) :=
  spec_exec (X := (ref27_Bound_X c_ref26_Worst c_ref27_Valid)) (Λ := pick1 [(58, pieceCut zq6a zq6b (ref27_Bound_p1_G p1))]) (rs := [.tmp 2]) (c := bodyOf Try.f33) mixed tab_ok hΓ Try.func33 (by kernel_rfl) (by kernel_rfl) (by kernel_rfl) (by kernel_rfl) (CutsOk_cons (q := 58) (c' := ref27_Bound_p1_code) (by kernel_rfl) rfl hp1 CutsOk_nil) (fun x k r h => Eq.trans (b := (zq67 (zq6f p1)).run x k) (by kernel_rfl) h)
end
theorem zq6hΓ : ΓOk Try.prog (pick1 [(64, .spec (zq5h zq5l)), (32, .spec (zq5o zq64))]) := (ΓOk_cons zq5m (ΓOk_cons zq65 ΓOk_nil))
def zq6i (m : Nat) : zq69 := zq6d zq5l zq64 m
theorem zq6j {β : Type} (i : Nat) (k1 most i_ p_ p_2) : (zq6i (i + 1) k1 most i_ p_ p_2 : Option β) = zq6c zq5l zq64 (zq6i i k1) k1 most i_ p_ p_2 := rfl
def zq6k : zq69 := zq6i fuel
theorem zq6l : PieceOk Try.prog 25 0 ref27_Bound_p1_code zq6a zq6b (ref27_Bound_p1_G zq6k) := zq6e zq5l zq64 zq6hΓ fuel
def zq6m : zq66 := zq6f zq6k
theorem zq6n : SpecOk Try.prog 33 (zq67 zq6m) := zq6g zq5l zq64 zq6hΓ zq6k zq6l

/-- pagewatch/delivery.New -/
abbrev zq6o := {β : Type} → Int → Int → Int → Int → (zq2 → Int → Option β) → Option β
def zq6p (c : zq6o) : Spec :=
  ⟨[(false, [.data (.int .i64)]), (false, [.data (.int .i64)]), (false, [.data (.int .i64)]), (false, [.data (.int .i64)])], [], [(true, [.data zq3]), (false, [.data (.int .i64)])], [], fun x k => c x.1.1.1 x.1.2.1.1 x.1.2.2.1.1 x.1.2.2.2.1.1 (fun r0 r1 => k (((r0, ()), (r1, ()), ()), ()))⟩
section
variable (c_delivery_numbers : zq52)
@[reducible] def delivery_New_X : Ctx := ⟨look tab, pick1 [(59, .spec (zq53 c_delivery_numbers))], false, false, false, false⟩
def zq6q {β : Type} (page : Int) (step : Int) (person : Int) (start : Int) (k : (zq2 → Int → Option β)) : Option β :=
  c_delivery_numbers (page, (step, (person, (start, ((0 : Int), (-1 : Int)))))) (fun (rnumbers : Bool) =>
  cond (!rnumbers)
  (k ((0 : Int), ((0 : Int), ((0 : Int), ((0 : Int), ((0 : Int), (0 : Int)))))) (1 : Int))
  (k (page, (step, (person, (start, ((0 : Int), (-1 : Int)))))) (0 : Int)))
theorem zq6r (hΓ : ΓOk Try.prog (delivery_New_X c_delivery_numbers).Γ) : SpecOk Try.prog 36 (zq6p (zq6q c_delivery_numbers)) :=
  spec_exec (X := (delivery_New_X c_delivery_numbers)) (Λ := pick1 []) (rs := [.cell 8 55, .tmp 9]) (c := bodyOf Try.f36) mixed tab_ok hΓ Try.func36 (by kernel_rfl) (by kernel_rfl) (by kernel_rfl) (by kernel_rfl) CutsOk_nil (fun x k r h => Eq.trans (b := (zq6p (zq6q c_delivery_numbers)).run x k) (by kernel_rfl) h)
end
theorem zq6sΓ : ΓOk Try.prog (pick1 [(59, .spec (zq53 zq57))]) := (ΓOk_cons zq58 ΓOk_nil)
def zq6t : zq6o := zq6q zq57
theorem zq6u : SpecOk Try.prog 36 (zq6p zq6t) := zq6r zq57 zq6sΓ

/-- pagewatch/channel.Worst -/
abbrev zq6v := {β : Type} → (Int × (Int × (Int × Int))) → (Int → Option β) → Option β
def zq6w (c : zq6v) : Spec :=
  ⟨[(true, [.data (.prod (.int .i64) (.prod (.int .i64) (.prod (.int .i64) (.int .i64))))])], [], [(false, [.data (.int .i64)])], [], fun x k => c x.1.1.1 (fun r0 => k (((r0, ()), ()), ()))⟩
section
variable (c_channel_Valid : zq59)
@[reducible] def channel_Worst_X : Ctx := ⟨look tab, pick1 [(63, .spec (zq5a c_channel_Valid))], false, false, false, false⟩
def zq6x {β : Type} (ch : (Int × (Int × (Int × Int)))) (k : (Int → Option β)) : Option β :=
  c_channel_Valid ch (fun (rValid : Bool) =>
  cond (!rValid)
  (k (0 : Int))
  (let t : Int := (IntKind.i64.wrap ((IntKind.i64.wrap ((IntKind.i64.wrap (ch.2.2.1 - (1 : Int))) * ch.2.2.2)) + ch.2.1));
  k t))
theorem zq6y (hΓ : ΓOk Try.prog (channel_Worst_X c_channel_Valid).Γ) : SpecOk Try.prog 55 (zq6w (zq6x c_channel_Valid)) :=
  spec_exec (X := (channel_Worst_X c_channel_Valid)) (Λ := pick1 []) (rs := [.tmp 2]) (c := bodyOf Try.f55) mixed tab_ok hΓ Try.func55 (by kernel_rfl) (by kernel_rfl) (by kernel_rfl) (by kernel_rfl) CutsOk_nil (fun x k r h => Eq.trans (b := (zq6w (zq6x c_channel_Valid)).run x k) (by kernel_rfl) h)
end
theorem zq6zΓ : ΓOk Try.prog (pick1 [(63, .spec (zq5a zq5e))]) := (ΓOk_cons zq5f ΓOk_nil)
def zq70 : zq6v := zq6x zq5e
theorem zq71 : SpecOk Try.prog 55 (zq6w zq70) := zq6y zq5e zq6zΓ

/-- pagewatch/delivery.Valid$1 -/
abbrev zq72 := {β : Type} → (Int × (Int × (Int × Int))) → (Bool → Option β) → Option β
def zq73 (c : zq72) : Spec :=
  ⟨[(true, [.data (.prod (.int .i64) (.prod (.int .i64) (.prod (.int .i64) (.int .i64))))])], [], [(false, [.data .bool])], [], fun x k => c x.1.1.1 (fun r0 => k (((r0, ()), ()), ()))⟩
section
variable (c_channel_Valid : zq59)
@[reducible] def delivery_Valid_f1_X : Ctx := ⟨look tab, pick1 [(63, .spec (zq5a c_channel_Valid))], false, false, false, false⟩
def zq74 {β : Type} (ch : (Int × (Int × (Int × Int)))) (k : (Bool → Option β)) : Option β :=
  c_channel_Valid ch (fun (rValid : Bool) =>
  k (!rValid))
theorem zq75 (hΓ : ΓOk Try.prog (delivery_Valid_f1_X c_channel_Valid).Γ) : SpecOk Try.prog 62 (zq73 (zq74 c_channel_Valid)) :=
  spec_exec (X := (delivery_Valid_f1_X c_channel_Valid)) (Λ := pick1 []) (rs := [.tmp 2]) (c := bodyOf Try.f62) mixed tab_ok hΓ Try.func62 (by kernel_rfl) (by kernel_rfl) (by kernel_rfl) (by kernel_rfl) CutsOk_nil (fun x k r h => Eq.trans (b := (zq73 (zq74 c_channel_Valid)).run x k) (by kernel_rfl) h)
end
theorem zq76Γ : ΓOk Try.prog (pick1 [(63, .spec (zq5a zq5e))]) := (ΓOk_cons zq5f ΓOk_nil)
def zq77 : zq72 := zq74 zq5e
theorem zq78 : SpecOk Try.prog 62 (zq73 zq77) := zq75 zq5e zq76Γ

/-- pagewatch/pagewatchref27.Plan -/
abbrev zq79 := {β : Type} → (Int × List (Int × (Int × (Int × Int)))) → Int → ((List (Int × (Int × Int))) → Option β) → Option β
def zq7a (c : zq79) : Spec :=
  ⟨[(true, [.data (.prod (.int .i64) (.slice (.prod (.int .i64) (.prod (.int .i64) (.prod (.int .i64) (.int .i64))))))]), (false, [.data (.int .i64)])], [], [(false, [.rowh 0])], [.row 39 (.prod (.int .i64) (.prod (.int .i64) (.int .i64)))], fun x k => c x.1.1.1 x.1.2.1.1 (fun r0 => k (((), ()), (r0, ())))⟩
noncomputable def ref27_Plan_p3_code : Code := codeAt 122 (bodyOf Try.f21)
noncomputable def ref27_Plan_p2_code : Code := codeAt 50 (loopBody ref27_Plan_p3_code)
noncomputable def ref27_Plan_p1_code : Code := codeAt 204 (loopBody ref27_Plan_p2_code)
abbrev zq7b (β : Type) := Int → Int → Int → Int → Int → (List (Int × (Int × (Int × Int)))) → (List (Int × (Int × Int))) → Int → Int → Int → Option β
abbrev zq7c := {β : Type} → zq7b β → Int → Int → Int → Int → Int → (List (Int × (Int × (Int × Int)))) → (List (Int × (Int × Int))) → Int → Int → Int → Option β
def zq7d : View := ⟨0, [1, 2, 5, 6, 7, 8, 9], [(false, [.data (.int .i64)]), (false, [.ptr 0 0]), (false, [.rowh 1]), (false, [.data (.int .i64)]), (false, [.data (.int .i64)]), (false, [.ptr 2 0]), (false, [.data (.int .i64)])], [.cells 29 [.data (.int .i64), .data (.slice (.prod (.int .i64) (.prod (.int .i64) (.prod (.int .i64) (.int .i64)))))], .row 39 (.prod (.int .i64) (.prod (.int .i64) (.int .i64))), .cells 39 [.data (.int .i64), .data (.int .i64), .data (.int .i64)]]⟩
def zq7e : List (AExit × View) := [(.exit 4, ⟨0, [1, 2, 5, 6, 7, 8, 9], [(false, [.data (.int .i64)]), (false, [.ptr 0 0]), (false, [.rowh 1]), (false, [.data (.int .i64)]), (false, [.data (.int .i64)]), (false, [.ptr 2 0]), (false, [.data (.int .i64)])], [.cells 29 [.data (.int .i64), .data (.slice (.prod (.int .i64) (.prod (.int .i64) (.prod (.int .i64) (.int .i64)))))], .row 39 (.prod (.int .i64) (.prod (.int .i64) (.int .i64))), .cells 39 [.data (.int .i64), .data (.int .i64), .data (.int .i64)]]⟩)]
@[reducible] def ref27_Plan_p1_G (p : zq7c) {β : Type} (d : zq7d.den) (ks : Outs.K β zq7e) : Option β :=
  p (fun a0 a1 a2 a3 a4 a5 a6 a7 a8 a9 => ks.1 (((a0, ()), (), (), (a1, ()), (a2, ()), (), (a3, ()), ()), ((a4, a5, ()), a6, (a7, a8, a9, ()), ()))) d.1.1.1 d.1.2.2.2.1.1 d.1.2.2.2.2.1.1 d.1.2.2.2.2.2.2.1.1 d.2.1.1 d.2.1.2.1 d.2.2.1 d.2.2.2.1.1 d.2.2.2.1.2.1 d.2.2.2.1.2.2.1
abbrev zq7f (β : Type) := Int → Int → Int → (List (Int × (Int × (Int × Int)))) → (List (Int × (Int × Int))) → Option β
abbrev zq7g := {β : Type} → zq7f β → Int → Int → Int → Int → (List (Int × (Int × (Int × Int)))) → (List (Int × (Int × Int))) → Option β
def zq7h : View := ⟨0, [1, 2, 5, 6, 7], [(false, [.data (.int .i64)]), (false, [.ptr 0 0]), (false, [.rowh 1]), (false, [.data (.int .i64)]), (false, [.data (.int .i64)])], [.cells 29 [.data (.int .i64), .data (.slice (.prod (.int .i64) (.prod (.int .i64) (.prod (.int .i64) (.int .i64)))))], .row 39 (.prod (.int .i64) (.prod (.int .i64) (.int .i64)))]⟩
def zq7i : List (AExit × View) := [(.exit 2, ⟨0, [1, 2, 5, 6], [(false, [.data (.int .i64)]), (false, [.ptr 0 0]), (false, [.rowh 1]), (false, [.data (.int .i64)])], [.cells 29 [.data (.int .i64), .data (.slice (.prod (.int .i64) (.prod (.int .i64) (.prod (.int .i64) (.int .i64)))))], .row 39 (.prod (.int .i64) (.prod (.int .i64) (.int .i64)))]⟩)]
@[reducible] def ref27_Plan_p2_G (p : zq7g) {β : Type} (d : zq7h.den) (ks : Outs.K β zq7i) : Option β :=
  p (fun a0 a1 a2 a3 a4 => ks.1 (((a0, ()), (), (), (a1, ()), ()), ((a2, a3, ()), a4, ()))) d.1.1.1 d.1.2.2.2.1.1 d.1.2.2.2.2.1.1 d.2.1.1 d.2.1.2.1 d.2.2.1
abbrev zq7j (β : Type) := (List (Int × (Int × Int))) → Option β
abbrev zq7k := {β : Type} → zq7j β → Int → Int → Int → (List (Int × (Int × (Int × Int)))) → (List (Int × (Int × Int))) → Option β
def zq7l : View := ⟨0, [1, 2, 5, 6], [(false, [.data (.int .i64)]), (false, [.ptr 0 0]), (false, [.rowh 1]), (false, [.data (.int .i64)])], [.cells 29 [.data (.int .i64), .data (.slice (.prod (.int .i64) (.prod (.int .i64) (.prod (.int .i64) (.int .i64)))))], .row 39 (.prod (.int .i64) (.prod (.int .i64) (.int .i64)))]⟩
def zq7m : List (AExit × View) := [(.exit 0, ⟨0, [5], [(false, [.rowh 0])], [.row 39 (.prod (.int .i64) (.prod (.int .i64) (.int .i64)))]⟩)]
@[reducible] def ref27_Plan_p3_G (p : zq7k) {β : Type} (d : zq7l.den) (ks : Outs.K β zq7m) : Option β :=
  p (fun a0 => ks.1 (((), ()), (a0, ()))) d.1.1.1 d.1.2.2.2.1.1 d.2.1.1 d.2.1.2.1 d.2.2.1
section
variable (c_ref25_In : zq24) (c_ref27_Valid : zq5n) (c_ref27_ahead : zq2b)
@[reducible] def ref27_Plan_X : Ctx := ⟨look tab, pick1 [(56, .spec (zq25 c_ref25_In)), (32, .spec (zq5o c_ref27_Valid)), (57, .spec (zq2c c_ref27_ahead))], false, false, false, false⟩
def zq7n {β : Type} (rec : Int → Int → Int → Int → Int → (List (Int × (Int × (Int × Int)))) → (List (Int × (Int × Int))) → Int → Int → Int → Option β) (k1 : zq7b β) (start : Int) (c : Int) (i_ : Int) (k_ : Int) (p_ : Int) (p_2 : List (Int × (Int × (Int × Int)))) (out : List (Int × (Int × Int))) (x : Int) (x2 : Int) (x3 : Int) : Option β :=
  cond (decide ((0 : Int) < k_))
  (cond (decide (0 ≤ (IntKind.i64.wrap (k_ - (1 : Int)))) && decide ((IntKind.i64.wrap (k_ - (1 : Int))) < (List.length out : Int)))
  (c_ref27_ahead (x, (x2, x3)) ((List.getD out (Int.toNat (IntKind.i64.wrap (k_ - (1 : Int)))) ((0 : Int), ((0 : Int), (0 : Int)))).1, ((List.getD out (Int.toNat (IntKind.i64.wrap (k_ - (1 : Int)))) ((0 : Int), ((0 : Int), (0 : Int)))).2)) (fun (rahead : Bool) =>
  cond rahead
  (let k_2 : Int := (IntKind.i64.wrap (k_ - (1 : Int)));
  rec start c i_ k_2 p_ p_2 out x x2 x3)
  (k1 start c i_ k_ p_ p_2 out x x2 x3)))
  none)
  (k1 start c i_ k_ p_ p_2 out x x2 x3)
def zq7o {β : Type} : Nat → zq7b β → Int → Int → Int → Int → Int → (List (Int × (Int × (Int × Int)))) → (List (Int × (Int × Int))) → Int → Int → Int → Option β
  | 0 => fun _ _ _ _ _ _ _ _ _ _ _ => none
  | i + 1 => fun k1 start c i_ k_ p_ p_2 out x x2 x3 => zq7n c_ref27_ahead (zq7o i k1) k1 start c i_ k_ p_ p_2 out x x2 x3
theorem zq7p (hΓ : ΓOk Try.prog (ref27_Plan_X c_ref25_In c_ref27_Valid c_ref27_ahead).Γ) (i : Nat) : PieceOk Try.prog 80 0 ref27_Plan_p1_code zq7d zq7e (ref27_Plan_p1_G (zq7o c_ref27_ahead i)) := by
  rw [show ref27_Plan_p1_code = .loop (loopBody ref27_Plan_p1_code) by kernel_rfl]
  exact piece_loop (X := (ref27_Plan_X c_ref25_In c_ref27_Valid c_ref27_ahead)) (p := 1) (Λ := pick1 []) (G := fun i => @fun β d ks => ref27_Plan_p1_G (zq7o c_ref27_ahead i) d ks) mixed tab_ok hΓ rfl (by kernel_rfl) CutsOk_nil (fun _ _ => rfl) (fun i => @fun β d ks r h => Eq.trans (b := ref27_Plan_p1_G (zq7o c_ref27_ahead (i + 1)) d ks) (by kernel_rfl) h) i
def zq7q (p1 : zq7c) {β : Type} (rec : Int → Int → Int → Int → (List (Int × (Int × (Int × Int)))) → (List (Int × (Int × Int))) → Option β) (k1 : zq7f β) (start : Int) (c : Int) (i_ : Int) (p_ : Int) (p_2 : List (Int × (Int × (Int × Int)))) (out : List (Int × (Int × Int))) : Option β :=
  cond (decide (0 ≤ c) && decide (c < (List.length p_2 : Int)))
  (let e : (Int × (Int × (Int × Int))) := List.getD p_2 (Int.toNat c) ((0 : Int), ((0 : Int), ((0 : Int), (0 : Int))));
  cond (decide (i_ < e.2.2.1))
  (cond (decide (0 ≤ c) && decide (c < (List.length p_2 : Int)))
  (let e2 : (Int × (Int × (Int × Int))) := List.getD p_2 (Int.toNat c) ((0 : Int), ((0 : Int), ((0 : Int), (0 : Int))));
  p1 (fun (start2 : Int) (c2 : Int) (i_2 : Int) (k_ : Int) (p_3 : Int) (p_4 : List (Int × (Int × (Int × Int)))) (out2 : List (Int × (Int × Int))) (x : Int) (x2 : Int) (x3 : Int) =>
  let l : List (Int × (Int × Int)) := ([(x, (x2, x3))] : List (Int × (Int × Int)));
  cond (decide ((List.length out2 + List.length l) * 24 ≤ roomMax))
  (let l2 : List (Int × (Int × Int)) := (out2 ++ l);
  cond (decide (0 ≤ (IntKind.i64.wrap (k_ + (1 : Int)))) && (decide ((IntKind.i64.wrap (k_ + (1 : Int))) ≤ (List.length l2 : Int)) && decide ((List.length l2 : Int) ≤ (List.length l2 : Int))))
  (cond (decide (0 ≤ k_) && (decide (k_ ≤ (List.length l2 : Int)) && decide ((List.length l2 : Int) ≤ (List.length l2 : Int))))
  (let l3 : List (Int × (Int × Int)) := (List.take (Int.toNat (IntKind.i64.wrap (k_ + (1 : Int)))) l2 ++ (List.take ((List.length l2) - (Int.toNat (IntKind.i64.wrap (k_ + (1 : Int))))) (List.drop (Int.toNat k_) (List.take (List.length l2) l2)) ++ List.drop ((Int.toNat (IntKind.i64.wrap (k_ + (1 : Int)))) + (Nat.min (List.length (List.drop (Int.toNat k_) (List.take (List.length l2) l2))) ((List.length l2) - (Int.toNat (IntKind.i64.wrap (k_ + (1 : Int))))))) l2));
  cond (decide (0 ≤ k_) && decide (k_ < (List.length l3 : Int)))
  (let l4 : List (Int × (Int × Int)) := (List.set l3 (Int.toNat k_) (x, (x2, x3)));
  let i_3 : Int := (IntKind.i64.wrap (i_2 + (1 : Int)));
  rec start2 c2 i_3 p_3 p_4 l4)
  none)
  none)
  none)
  none) start c i_ (List.length out : Int) p_ p_2 out c i_ (IntKind.i64.wrap (start + (IntKind.i64.wrap (i_ * e2.2.2.2)))))
  none)
  (k1 start c p_ p_2 out))
  none
def zq7r (p1 : zq7c) {β : Type} : Nat → zq7f β → Int → Int → Int → Int → (List (Int × (Int × (Int × Int)))) → (List (Int × (Int × Int))) → Option β
  | 0 => fun _ _ _ _ _ _ _ => none
  | i + 1 => fun k1 start c i_ p_ p_2 out => zq7q p1 (zq7r p1 i k1) k1 start c i_ p_ p_2 out
theorem zq7s (hΓ : ΓOk Try.prog (ref27_Plan_X c_ref25_In c_ref27_Valid c_ref27_ahead).Γ) (p1 : zq7c) (hp1 : PieceOk Try.prog 80 0 ref27_Plan_p1_code zq7d zq7e (ref27_Plan_p1_G p1)) (i : Nat) : PieceOk Try.prog 80 0 ref27_Plan_p2_code zq7h zq7i (ref27_Plan_p2_G (zq7r p1 i)) := by
  rw [show ref27_Plan_p2_code = .loop (loopBody ref27_Plan_p2_code) by kernel_rfl]
  exact piece_loop (X := (ref27_Plan_X c_ref25_In c_ref27_Valid c_ref27_ahead)) (p := 1) (Λ := pick1 [(204, pieceCut zq7d zq7e (ref27_Plan_p1_G p1))]) (G := fun i => @fun β d ks => ref27_Plan_p2_G (zq7r p1 i) d ks) mixed tab_ok hΓ rfl (by kernel_rfl) (CutsOk_cons (q := 204) (c' := ref27_Plan_p1_code) (by kernel_rfl) rfl hp1 CutsOk_nil) (fun _ _ => rfl) (fun i => @fun β d ks r h => Eq.trans (b := ref27_Plan_p2_G (zq7r p1 (i + 1)) d ks) (by kernel_rfl) h) i
def zq7t (p2 : zq7g) {β : Type} (rec : Int → Int → Int → (List (Int × (Int × (Int × Int)))) → (List (Int × (Int × Int))) → Option β) (k1 : zq7j β) (start : Int) (c : Int) (p_ : Int) (p_2 : List (Int × (Int × (Int × Int)))) (out : List (Int × (Int × Int))) : Option β :=
  cond (decide (c < (List.length p_2 : Int)))
  (p2 (fun (start2 : Int) (c2 : Int) (p_3 : Int) (p_4 : List (Int × (Int × (Int × Int)))) (out2 : List (Int × (Int × Int))) =>
  let c3 : Int := (IntKind.i64.wrap (c2 + (1 : Int)));
  rec start2 c3 p_3 p_4 out2) start c (0 : Int) p_ p_2 out)
  (k1 out)
def zq7u (p2 : zq7g) {β : Type} : Nat → zq7j β → Int → Int → Int → (List (Int × (Int × (Int × Int)))) → (List (Int × (Int × Int))) → Option β
  | 0 => fun _ _ _ _ _ _ => none
  | i + 1 => fun k1 start c p_ p_2 out => zq7t p2 (zq7u p2 i k1) k1 start c p_ p_2 out
theorem zq7v (hΓ : ΓOk Try.prog (ref27_Plan_X c_ref25_In c_ref27_Valid c_ref27_ahead).Γ) (p2 : zq7g) (hp2 : PieceOk Try.prog 80 0 ref27_Plan_p2_code zq7h zq7i (ref27_Plan_p2_G p2)) (i : Nat) : PieceOk Try.prog 80 0 ref27_Plan_p3_code zq7l zq7m (ref27_Plan_p3_G (zq7u p2 i)) := by
  rw [show ref27_Plan_p3_code = .loop (loopBody ref27_Plan_p3_code) by kernel_rfl]
  exact piece_loop (X := (ref27_Plan_X c_ref25_In c_ref27_Valid c_ref27_ahead)) (p := 1) (Λ := pick1 [(50, pieceCut zq7h zq7i (ref27_Plan_p2_G p2))]) (G := fun i => @fun β d ks => ref27_Plan_p3_G (zq7u p2 i) d ks) mixed tab_ok hΓ rfl (by kernel_rfl) (CutsOk_cons (q := 50) (c' := ref27_Plan_p2_code) (by kernel_rfl) rfl hp2 CutsOk_nil) (fun _ _ => rfl) (fun i => @fun β d ks r h => Eq.trans (b := ref27_Plan_p3_G (zq7u p2 (i + 1)) d ks) (by kernel_rfl) h) i
def zq7w (p3 : zq7k) {β : Type} (p_ : (Int × List (Int × (Int × (Int × Int))))) (start : Int) (k : ((List (Int × (Int × Int))) → Option β)) : Option β :=
  c_ref27_Valid p_ (fun (rValid : Bool) =>
  cond (!rValid)
  (k ([] : List (Int × (Int × Int))))
  (c_ref25_In start (0 : Int) (8589934592 : Int) (fun (rIn : Bool) =>
  cond (!rIn)
  (k ([] : List (Int × (Int × Int))))
  (p3 (fun (out : List (Int × (Int × Int))) =>
  k out) start (0 : Int) p_.1 p_.2 ([] : List (Int × (Int × Int)))))))
theorem zq7x (hΓ : ΓOk Try.prog (ref27_Plan_X c_ref25_In c_ref27_Valid c_ref27_ahead).Γ) (p3 : zq7k) (hp3 : PieceOk Try.prog 80 0 ref27_Plan_p3_code zq7l zq7m (ref27_Plan_p3_G p3)) : SpecOk Try.prog 21 (zq7a (zq7w c_ref25_In c_ref27_Valid p3)) :=
  spec_exec (X := (ref27_Plan_X c_ref25_In c_ref27_Valid c_ref27_ahead)) (Λ := pick1 [(122, pieceCut zq7l zq7m (ref27_Plan_p3_G p3))]) (rs := [.tmp 4]) (c := bodyOf Try.f21) mixed tab_ok hΓ Try.func21 (by kernel_rfl) (by kernel_rfl) (by kernel_rfl) (by kernel_rfl) (CutsOk_cons (q := 122) (c' := ref27_Plan_p3_code) (by kernel_rfl) rfl hp3 CutsOk_nil) (fun x k r h => Eq.trans (b := (zq7a (zq7w c_ref25_In c_ref27_Valid p3)).run x k) (by kernel_rfl) h)
end
theorem zq7yΓ : ΓOk Try.prog (pick1 [(56, .spec (zq25 zq29)), (32, .spec (zq5o zq64)), (57, .spec (zq2c zq2g))]) := (ΓOk_cons zq2a (ΓOk_cons zq65 (ΓOk_cons zq2h ΓOk_nil)))
def zq7z (m : Nat) : zq7c := zq7o zq2g m
theorem zq80 {β : Type} (i : Nat) (k1 start c i_ k_ p_ p_2 out x x2 x3) : (zq7z (i + 1) k1 start c i_ k_ p_ p_2 out x x2 x3 : Option β) = zq7n zq2g (zq7z i k1) k1 start c i_ k_ p_ p_2 out x x2 x3 := rfl
def zq81 : zq7c := zq7z fuel
theorem zq82 : PieceOk Try.prog 80 0 ref27_Plan_p1_code zq7d zq7e (ref27_Plan_p1_G zq81) := zq7p zq29 zq64 zq2g zq7yΓ fuel
def zq83 (m : Nat) : zq7g := zq7r zq81 m
theorem zq84 {β : Type} (i : Nat) (k1 start c i_ p_ p_2 out) : (zq83 (i + 1) k1 start c i_ p_ p_2 out : Option β) = zq7q zq81 (zq83 i k1) k1 start c i_ p_ p_2 out := rfl
def zq85 : zq7g := zq83 fuel
theorem zq86 : PieceOk Try.prog 80 0 ref27_Plan_p2_code zq7h zq7i (ref27_Plan_p2_G zq85) := zq7s zq29 zq64 zq2g zq7yΓ zq81 zq82 fuel
def zq87 (m : Nat) : zq7k := zq7u zq85 m
theorem zq88 {β : Type} (i : Nat) (k1 start c p_ p_2 out) : (zq87 (i + 1) k1 start c p_ p_2 out : Option β) = zq7t zq85 (zq87 i k1) k1 start c p_ p_2 out := rfl
def zq89 : zq7k := zq87 fuel
theorem zq8a : PieceOk Try.prog 80 0 ref27_Plan_p3_code zq7l zq7m (ref27_Plan_p3_G zq89) := zq7v zq29 zq64 zq2g zq7yΓ zq85 zq86 fuel
def zq8b : zq79 := zq7w zq29 zq64 zq89
theorem zq8c : SpecOk Try.prog 21 (zq7a zq8b) := zq7x zq29 zq64 zq2g zq7yΓ zq89 zq8a

/-- pagewatch/pagewatchref27.Check -/
abbrev zq8d := {β : Type} → (Int × List (Int × (Int × (Int × Int)))) → zq2 → (Bool → Option β) → Option β
def zq8e (c : zq8d) : Spec :=
  ⟨[(true, [.data (.prod (.int .i64) (.slice (.prod (.int .i64) (.prod (.int .i64) (.prod (.int .i64) (.int .i64))))))]), (true, [.data zq3])], [], [(false, [.data .bool])], [], fun x k => c x.1.1.1 x.1.2.1.1 (fun r0 => k (((r0, ()), ()), ()))⟩
section
variable (c_ref25_In : zq24) (c_ref27_Plan : zq79) (c_ref27_Valid : zq5n) (c_ref27_right : zq2i)
@[reducible] def ref27_Check_X : Ctx := ⟨look tab, pick1 [(56, .spec (zq25 c_ref25_In)), (21, .spec (zq7a c_ref27_Plan)), (32, .spec (zq5o c_ref27_Valid)), (58, .spec (zq2j c_ref27_right))], false, false, false, false⟩
def zq8f {β : Type} (p_ : (Int × List (Int × (Int × (Int × Int))))) (c : zq2) (k : (Bool → Option β)) : Option β :=
  c_ref27_Valid p_ (fun (rValid : Bool) =>
  cond rValid
  (c_ref27_right c.1 c.2.1 c.2.2.1 c.2.2.2.1 (fun (rright : Bool) =>
  cond rright
  (cond (decide (c.2.2.1 = p_.1))
  (c_ref27_Plan p_ c.2.2.2.1 (fun (lrPlan : List (Int × (Int × Int))) =>
  c_ref25_In c.2.2.2.2.1 (0 : Int) (List.length lrPlan : Int) (fun (rIn : Bool) =>
  cond rIn
  (cond (decide (c.2.2.2.2.2 = (-1 : Int)))
  (k true)
  (cond (decide (c.2.2.2.1 ≤ c.2.2.2.2.2))
  (let t : Bool := (decide ((0 : Int) < c.2.2.2.2.1));
  k t)
  (k false)))
  (k false))))
  (k false))
  (k false)))
  (k false))
theorem zq8g (hΓ : ΓOk Try.prog (ref27_Check_X c_ref25_In c_ref27_Plan c_ref27_Valid c_ref27_right).Γ) : SpecOk Try.prog 25 (zq8e (zq8f c_ref25_In c_ref27_Plan c_ref27_Valid c_ref27_right)) :=
  spec_exec (X := (ref27_Check_X c_ref25_In c_ref27_Plan c_ref27_Valid c_ref27_right)) (Λ := pick1 []) (rs := [.tmp 4]) (c := bodyOf Try.f25) mixed tab_ok hΓ Try.func25 (by kernel_rfl) (by kernel_rfl) (by kernel_rfl) (by kernel_rfl) CutsOk_nil (fun x k r h => Eq.trans (b := (zq8e (zq8f c_ref25_In c_ref27_Plan c_ref27_Valid c_ref27_right)).run x k) (by kernel_rfl) h)
end
theorem zq8hΓ : ΓOk Try.prog (pick1 [(56, .spec (zq25 zq29)), (21, .spec (zq7a zq8b)), (32, .spec (zq5o zq64)), (58, .spec (zq2j zq2n))]) := (ΓOk_cons zq2a (ΓOk_cons zq8c (ΓOk_cons zq65 (ΓOk_cons zq2o ΓOk_nil))))
def zq8i : zq8d := zq8f zq29 zq8b zq64 zq2n
theorem zq8j : SpecOk Try.prog 25 (zq8e zq8i) := zq8g zq29 zq8b zq64 zq2n zq8hΓ

/-- pagewatch/pagewatchref27.Next -/
abbrev zq8k := {β : Type} → (Int × List (Int × (Int × (Int × Int)))) → zq2 → (Int → Bool → Option β) → Option β
def zq8l (c : zq8k) : Spec :=
  ⟨[(true, [.data (.prod (.int .i64) (.slice (.prod (.int .i64) (.prod (.int .i64) (.prod (.int .i64) (.int .i64))))))]), (true, [.data zq3])], [], [(false, [.data (.int .i64)]), (false, [.data .bool])], [], fun x k => c x.1.1.1 x.1.2.1.1 (fun r0 r1 => k (((r0, ()), (r1, ()), ()), ()))⟩
section
variable (c_ref27_Check : zq8d) (c_ref27_Plan : zq79)
@[reducible] def ref27_Next_X : Ctx := ⟨look tab, pick1 [(25, .spec (zq8e c_ref27_Check)), (21, .spec (zq7a c_ref27_Plan))], false, false, false, false⟩
def zq8m {β : Type} (p_ : (Int × List (Int × (Int × (Int × Int))))) (c : zq2) (k : (Int → Bool → Option β)) : Option β :=
  c_ref27_Check p_ c (fun (rCheck : Bool) =>
  cond (!rCheck)
  (k (0 : Int) false)
  (cond (!decide (c.2.2.2.2.2 = (-1 : Int)))
  (k (0 : Int) false)
  (c_ref27_Plan p_ c.2.2.2.1 (fun (lrPlan : List (Int × (Int × Int))) =>
  cond (decide (c.2.2.2.2.1 < (List.length lrPlan : Int)))
  (cond (decide (0 ≤ c.2.2.2.2.1) && decide (c.2.2.2.2.1 < (List.length lrPlan : Int)))
  (let t : Int := ((List.getD lrPlan (Int.toNat c.2.2.2.2.1) ((0 : Int), ((0 : Int), (0 : Int)))).2).2;
  k t true)
  none)
  (k (0 : Int) false)))))
theorem zq8n (hΓ : ΓOk Try.prog (ref27_Next_X c_ref27_Check c_ref27_Plan).Γ) : SpecOk Try.prog 29 (zq8l (zq8m c_ref27_Check c_ref27_Plan)) :=
  spec_exec (X := (ref27_Next_X c_ref27_Check c_ref27_Plan)) (Λ := pick1 []) (rs := [.tmp 4, .tmp 5]) (c := bodyOf Try.f29) mixed tab_ok hΓ Try.func29 (by kernel_rfl) (by kernel_rfl) (by kernel_rfl) (by kernel_rfl) CutsOk_nil (fun x k r h => Eq.trans (b := (zq8l (zq8m c_ref27_Check c_ref27_Plan)).run x k) (by kernel_rfl) h)
end
theorem zq8oΓ : ΓOk Try.prog (pick1 [(25, .spec (zq8e zq8i)), (21, .spec (zq7a zq8b))]) := (ΓOk_cons zq8j (ΓOk_cons zq8c ΓOk_nil))
def zq8p : zq8k := zq8m zq8i zq8b
theorem zq8q : SpecOk Try.prog 29 (zq8l zq8p) := zq8n zq8i zq8b zq8oΓ

/-- pagewatch/pagewatchref27.Send -/
abbrev zq8r := {β : Type} → (Int × List (Int × (Int × (Int × Int)))) → zq2 → Int → (zq2 → Int → (List (Int × (Int × Int))) → Option β) → Option β
def zq8s (c : zq8r) : Spec :=
  ⟨[(true, [.data (.prod (.int .i64) (.slice (.prod (.int .i64) (.prod (.int .i64) (.prod (.int .i64) (.int .i64))))))]), (true, [.data zq3]), (false, [.data (.int .i64)])], [], [(true, [.data zq3]), (false, [.rowh 0]), (false, [.data (.int .i64)])], [.row 39 (.prod (.int .i64) (.prod (.int .i64) (.int .i64)))], fun x k => c x.1.1.1 x.1.2.1.1 x.1.2.2.1.1 (fun r0 r1 r2 => k (((r0, ()), (), (r1, ()), ()), (r2, ())))⟩
noncomputable def ref27_Send_p1_code : Code := codeAt 62 (bodyOf Try.f34)
abbrev zq8t (β : Type) := Int → Int → Int → Int → Int → Int → Int → (List (Int × (Int × Int))) → Option β
abbrev zq8u := {β : Type} → zq8t β → Int → Int → (List (Int × (Int × (Int × Int)))) → Int → Int → Int → Int → Int → Int → Int → Int → Int → Int → Int → Int → (List (Int × (Int × Int))) → (List (Int × (Int × Int))) → Option β
def zq8v : View := ⟨0, [2, 3, 4, 6, 9, 10], [(false, [.data (.int .i64)]), (false, [.ptr 0 0]), (false, [.ptr 1 0]), (false, [.ptr 2 0]), (false, [.rowh 3]), (false, [.rowh 4])], [.cells 29 [.data (.int .i64), .data (.slice (.prod (.int .i64) (.prod (.int .i64) (.prod (.int .i64) (.int .i64)))))], .cells 55 [.data (.int .i64), .data (.int .i64), .data (.int .i64), .data (.int .i64), .data (.int .i64), .data (.int .i64)], .cells 55 [.data (.int .i64), .data (.int .i64), .data (.int .i64), .data (.int .i64), .data (.int .i64), .data (.int .i64)], .row 39 (.prod (.int .i64) (.prod (.int .i64) (.int .i64))), .row 39 (.prod (.int .i64) (.prod (.int .i64) (.int .i64)))]⟩
def zq8w : List (AExit × View) := [(.ret, ⟨0, [6, 7, 8], [(false, [.ptr 0 0]), (false, [.rowh 1]), (false, [.data (.int .i64)])], [.cells 55 [.data (.int .i64), .data (.int .i64), .data (.int .i64), .data (.int .i64), .data (.int .i64), .data (.int .i64)], .row 39 (.prod (.int .i64) (.prod (.int .i64) (.int .i64)))]⟩)]
@[reducible] def ref27_Send_p1_G (p : zq8u) {β : Type} (d : zq8v.den) (ks : Outs.K β zq8w) : Option β :=
  p (fun a0 a1 a2 a3 a4 a5 a6 a7 => ks.1 (((), (), (a0, ()), ()), ((a1, a2, a3, a4, a5, a6, ()), a7, ()))) d.1.1.1 d.2.1.1 d.2.1.2.1 d.2.2.1.1 d.2.2.1.2.1 d.2.2.1.2.2.1 d.2.2.1.2.2.2.1 d.2.2.1.2.2.2.2.1 d.2.2.1.2.2.2.2.2.1 d.2.2.2.1.1 d.2.2.2.1.2.1 d.2.2.2.1.2.2.1 d.2.2.2.1.2.2.2.1 d.2.2.2.1.2.2.2.2.1 d.2.2.2.1.2.2.2.2.2.1 d.2.2.2.2.1 d.2.2.2.2.2.1
section
variable (c_ref27_Check : zq8d) (c_ref27_Next : zq8k) (c_ref27_Plan : zq79)
@[reducible] def ref27_Send_X : Ctx := ⟨look tab, pick1 [(25, .spec (zq8e c_ref27_Check)), (29, .spec (zq8l c_ref27_Next)), (21, .spec (zq7a c_ref27_Plan))], false, false, false, false⟩
def zq8x {β : Type} (rec : Int → Int → (List (Int × (Int × (Int × Int)))) → Int → Int → Int → Int → Int → Int → Int → Int → Int → Int → Int → Int → (List (Int × (Int × Int))) → (List (Int × (Int × Int))) → Option β) (k1 : zq8t β) (now : Int) (p_ : Int) (p_2 : List (Int × (Int × (Int × Int)))) (c : Int) (c2 : Int) (c3 : Int) (c4 : Int) (c5 : Int) (c6 : Int) (t6 : Int) (t62 : Int) (t63 : Int) (t64 : Int) (t65 : Int) (t66 : Int) (out : List (Int × (Int × Int))) (l : List (Int × (Int × Int))) : Option β :=
  c_ref27_Next (p_, p_2) (c, (c2, (c3, (c4, (c5, c6))))) (fun (rNext : Int) (rNext2 : Bool) =>
  cond (!rNext2)
  (k1 (0 : Int) c c2 c3 c4 c5 c6 out)
  (cond (decide (now < rNext))
  (k1 (0 : Int) c c2 c3 c4 c5 c6 out)
  (cond (decide (0 ≤ c5) && decide (c5 < (List.length l : Int)))
  (let l2 : List (Int × (Int × Int)) := ([((List.getD l (Int.toNat c5) ((0 : Int), ((0 : Int), (0 : Int)))).1, ((List.getD l (Int.toNat c5) ((0 : Int), ((0 : Int), (0 : Int)))).2))] : List (Int × (Int × Int)));
  cond (decide ((List.length out + List.length l2) * 24 ≤ roomMax))
  (let l3 : List (Int × (Int × Int)) := (out ++ l2);
  rec now p_ p_2 c c2 c3 c4 (IntKind.i64.wrap (c5 + (1 : Int))) c6 t6 t62 t63 t64 t65 t66 l3 l)
  none)
  none)))
def zq8y {β : Type} : Nat → zq8t β → Int → Int → (List (Int × (Int × (Int × Int)))) → Int → Int → Int → Int → Int → Int → Int → Int → Int → Int → Int → Int → (List (Int × (Int × Int))) → (List (Int × (Int × Int))) → Option β
  | 0 => fun _ _ _ _ _ _ _ _ _ _ _ _ _ _ _ _ _ _ => none
  | i + 1 => fun k1 now p_ p_2 c c2 c3 c4 c5 c6 t6 t62 t63 t64 t65 t66 out l => zq8x c_ref27_Next (zq8y i k1) k1 now p_ p_2 c c2 c3 c4 c5 c6 t6 t62 t63 t64 t65 t66 out l
theorem zq8z (hΓ : ΓOk Try.prog (ref27_Send_X c_ref27_Check c_ref27_Next c_ref27_Plan).Γ) (i : Nat) : PieceOk Try.prog 49 0 ref27_Send_p1_code zq8v zq8w (ref27_Send_p1_G (zq8y c_ref27_Next i)) := by
  rw [show ref27_Send_p1_code = .loop (loopBody ref27_Send_p1_code) by kernel_rfl]
  exact piece_loop (X := (ref27_Send_X c_ref27_Check c_ref27_Next c_ref27_Plan)) (p := 1) (Λ := pick1 []) (G := fun i => @fun β d ks => ref27_Send_p1_G (zq8y c_ref27_Next i) d ks) mixed tab_ok hΓ rfl (by kernel_rfl) CutsOk_nil (fun _ _ => rfl) (fun i => @fun β d ks r h => Eq.trans (b := ref27_Send_p1_G (zq8y c_ref27_Next (i + 1)) d ks) (by kernel_rfl) h) i
def zq90 (p1 : zq8u) {β : Type} (p_ : (Int × List (Int × (Int × (Int × Int))))) (c : zq2) (now : Int) (k : (zq2 → Int → (List (Int × (Int × Int))) → Option β)) : Option β :=
  c_ref27_Check p_ c (fun (rCheck : Bool) =>
  cond (!rCheck)
  (k ((0 : Int), ((0 : Int), ((0 : Int), ((0 : Int), ((0 : Int), (0 : Int)))))) (8 : Int) ([] : List (Int × (Int × Int))))
  (c_ref27_Plan p_ c.2.2.2.1 (fun (lrPlan : List (Int × (Int × Int))) =>
  p1 (fun (t8 : Int) (t6 : Int) (t62 : Int) (t63 : Int) (t64 : Int) (t65 : Int) (t66 : Int) (t7 : List (Int × (Int × Int))) =>
  k (t6, (t62, (t63, (t64, (t65, t66))))) t8 t7) now p_.1 p_.2 c.1 c.2.1 c.2.2.1 c.2.2.2.1 c.2.2.2.2.1 c.2.2.2.2.2 (0 : Int) (0 : Int) (0 : Int) (0 : Int) (0 : Int) (0 : Int) ([] : List (Int × (Int × Int))) lrPlan)))
theorem zq91 (hΓ : ΓOk Try.prog (ref27_Send_X c_ref27_Check c_ref27_Next c_ref27_Plan).Γ) (p1 : zq8u) (hp1 : PieceOk Try.prog 49 0 ref27_Send_p1_code zq8v zq8w (ref27_Send_p1_G p1)) : SpecOk Try.prog 34 (zq8s (zq90 c_ref27_Check c_ref27_Plan p1)) :=
  spec_exec (X := (ref27_Send_X c_ref27_Check c_ref27_Next c_ref27_Plan)) (Λ := pick1 [(62, pieceCut zq8v zq8w (ref27_Send_p1_G p1))]) (rs := [.cell 6 55, .tmp 7, .tmp 8]) (c := bodyOf Try.f34) mixed tab_ok hΓ Try.func34 (by kernel_rfl) (by kernel_rfl) (by kernel_rfl) (by kernel_rfl) (CutsOk_cons (q := 62) (c' := ref27_Send_p1_code) (by kernel_rfl) rfl hp1 CutsOk_nil) (fun x k r h => Eq.trans (b := (zq8s (zq90 c_ref27_Check c_ref27_Plan p1)).run x k) (by kernel_rfl) h)
end
theorem zq92Γ : ΓOk Try.prog (pick1 [(25, .spec (zq8e zq8i)), (29, .spec (zq8l zq8p)), (21, .spec (zq7a zq8b))]) := (ΓOk_cons zq8j (ΓOk_cons zq8q (ΓOk_cons zq8c ΓOk_nil)))
def zq93 (m : Nat) : zq8u := zq8y zq8p m
theorem zq94 {β : Type} (i : Nat) (k1 now p_ p_2 c c2 c3 c4 c5 c6 t6 t62 t63 t64 t65 t66 out l) : (zq93 (i + 1) k1 now p_ p_2 c c2 c3 c4 c5 c6 t6 t62 t63 t64 t65 t66 out l : Option β) = zq8x zq8p (zq93 i k1) k1 now p_ p_2 c c2 c3 c4 c5 c6 t6 t62 t63 t64 t65 t66 out l := rfl
def zq95 : zq8u := zq93 fuel
theorem zq96 : PieceOk Try.prog 49 0 ref27_Send_p1_code zq8v zq8w (ref27_Send_p1_G zq95) := zq8z zq8i zq8p zq8b zq92Γ fuel
def zq97 : zq8r := zq90 zq8i zq8b zq95
theorem zq98 : SpecOk Try.prog 34 (zq8s zq97) := zq91 zq8i zq8p zq8b zq92Γ zq95 zq96

/-- pagewatch/pagewatchref27.Receipt -/
abbrev zq99 := {β : Type} → (Int × List (Int × (Int × (Int × Int)))) → zq2 → Int → Int → (zq2 → Int → Option β) → Option β
def zq9a (c : zq99) : Spec :=
  ⟨[(true, [.data (.prod (.int .i64) (.slice (.prod (.int .i64) (.prod (.int .i64) (.prod (.int .i64) (.int .i64))))))]), (true, [.data zq3]), (false, [.data (.int .i64)]), (false, [.data (.int .i64)])], [], [(true, [.data zq3]), (false, [.data (.int .i64)])], [], fun x k => c x.1.1.1 x.1.2.1.1 x.1.2.2.1.1 x.1.2.2.2.1.1 (fun r0 r1 => k (((r0, ()), (r1, ()), ()), ()))⟩
section
variable (c_ref25_In : zq24) (c_ref27_Check : zq8d) (c_ref27_Plan : zq79)
@[reducible] def ref27_Receipt_X : Ctx := ⟨look tab, pick1 [(56, .spec (zq25 c_ref25_In)), (25, .spec (zq8e c_ref27_Check)), (21, .spec (zq7a c_ref27_Plan))], false, false, false, false⟩
def zq9b {β : Type} (p_ : (Int × List (Int × (Int × (Int × Int))))) (c : zq2) (attempt : Int) (at_ : Int) (k : (zq2 → Int → Option β)) : Option β :=
  c_ref27_Check p_ c (fun (rCheck : Bool) =>
  cond (!rCheck)
  (k ((0 : Int), ((0 : Int), ((0 : Int), ((0 : Int), ((0 : Int), (0 : Int)))))) (8 : Int))
  (c_ref25_In attempt (0 : Int) (IntKind.i64.wrap (c.2.2.2.2.1 - (1 : Int))) (fun (rIn : Bool) =>
  cond (!rIn)
  (k ((0 : Int), ((0 : Int), ((0 : Int), ((0 : Int), ((0 : Int), (0 : Int)))))) (3 : Int))
  (c_ref27_Plan p_ c.2.2.2.1 (fun (lrPlan : List (Int × (Int × Int))) =>
  cond (decide (0 ≤ attempt) && decide (attempt < (List.length lrPlan : Int)))
  (cond (decide (at_ < (((List.getD lrPlan (Int.toNat attempt) ((0 : Int), ((0 : Int), (0 : Int)))).2).2)))
  (k ((0 : Int), ((0 : Int), ((0 : Int), ((0 : Int), ((0 : Int), (0 : Int)))))) (6 : Int))
  (let t : Bool := (decide ((8590193792 : Int) < at_));
  cond t
  (k ((0 : Int), ((0 : Int), ((0 : Int), ((0 : Int), ((0 : Int), (0 : Int)))))) (6 : Int))
  (cond (decide (c.2.2.2.2.2 = (-1 : Int)))
  (k (c.1, (c.2.1, (c.2.2.1, (c.2.2.2.1, (c.2.2.2.2.1, at_))))) (0 : Int))
  (cond (decide (at_ < c.2.2.2.2.2))
  (k (c.1, (c.2.1, (c.2.2.1, (c.2.2.2.1, (c.2.2.2.2.1, at_))))) (0 : Int))
  (k c (0 : Int))))))
  none)))))
theorem zq9c (hΓ : ΓOk Try.prog (ref27_Receipt_X c_ref25_In c_ref27_Check c_ref27_Plan).Γ) : SpecOk Try.prog 35 (zq9a (zq9b c_ref25_In c_ref27_Check c_ref27_Plan)) :=
  spec_exec (X := (ref27_Receipt_X c_ref25_In c_ref27_Check c_ref27_Plan)) (Λ := pick1 []) (rs := [.cell 8 55, .tmp 9]) (c := bodyOf Try.f35) mixed tab_ok hΓ Try.func35 (by kernel_rfl) (by kernel_rfl) (by kernel_rfl) (by kernel_rfl) CutsOk_nil (fun x k r h => Eq.trans (b := (zq9a (zq9b c_ref25_In c_ref27_Check c_ref27_Plan)).run x k) (by kernel_rfl) h)
end
theorem zq9dΓ : ΓOk Try.prog (pick1 [(56, .spec (zq25 zq29)), (25, .spec (zq8e zq8i)), (21, .spec (zq7a zq8b))]) := (ΓOk_cons zq2a (ΓOk_cons zq8j (ΓOk_cons zq8c ΓOk_nil)))
def zq9e : zq99 := zq9b zq29 zq8i zq8b
theorem zq9f : SpecOk Try.prog 35 (zq9a zq9e) := zq9c zq29 zq8i zq8b zq9dΓ

/-- slices.IndexFunc[[]pagewatch/api.Channel,pagewatch/api.Channel] -/
abbrev zq9g := {β : Type} → (List (Int × (Int × (Int × Int)))) → (Int → Option β) → Option β
def zq9h (c : zq9g) : Spec :=
  ⟨[(false, [.data (.slice (.prod (.int .i64) (.prod (.int .i64) (.prod (.int .i64) (.int .i64)))))]), (false, [.fn 62 []])], [], [(false, [.data (.int .i64)])], [], fun x k => c x.1.1.1 (fun r0 => k (((r0, ()), ()), ()))⟩
noncomputable def slices_IndexFunc_api_Channel_api_Channel_vdelivery_Valid_f1_p1_code : Code := codeAt 26 (bodyOf Try.f72)
abbrev zq9i (β : Type) := Int → Option β
abbrev zq9j (β : Type) := Unit → Option β
abbrev zq9k := {β : Type} → zq9i β → zq9j β → (List (Int × (Int × (Int × Int)))) → Int → Int → Option β
def zq9l : View := ⟨0, [0, 1, 7, 8], [(false, [.data (.slice (.prod (.int .i64) (.prod (.int .i64) (.prod (.int .i64) (.int .i64)))))]), (false, [.fn 62 []]), (false, [.data (.int .i64)]), (false, [.data (.int .i64)])], []⟩
def zq9m : List (AExit × View) := [(.ret, ⟨0, [4], [(false, [.data (.int .i64)])], []⟩), (.exit 0, ⟨0, [], [], []⟩)]
@[reducible] def slices_IndexFunc_api_Channel_api_Channel_vdelivery_Valid_f1_p1_G (p : zq9k) {β : Type} (d : zq9l.den) (ks : Outs.K β zq9m) : Option β :=
  p (fun a0 => ks.1 (((a0, ()), ()), ())) (fun _ => ks.2.1 ((), ())) d.1.1.1 d.1.2.2.1.1 d.1.2.2.2.1.1
section
variable (c_delivery_Valid_f1 : zq72)
@[reducible] def slices_IndexFunc_api_Channel_api_Channel_vdelivery_Valid_f1_X : Ctx := ⟨look tab, pick1 [(62, .spec (zq73 c_delivery_Valid_f1))], false, false, false, false⟩
def zq9n {β : Type} (rec : (List (Int × (Int × (Int × Int)))) → Int → Int → Option β) (k1 : zq9i β) (k2 : zq9j β) (s : List (Int × (Int × (Int × Int)))) (t7 : Int) (t8 : Int) : Option β :=
  cond (decide (t8 < t7))
  (cond (decide (0 ≤ t8) && decide (t8 < (List.length s : Int)))
  (let e : (Int × (Int × (Int × Int))) := List.getD s (Int.toNat t8) ((0 : Int), ((0 : Int), ((0 : Int), (0 : Int))));
  c_delivery_Valid_f1 e (fun (rValid1 : Bool) =>
  cond rValid1
  (k1 t8)
  (rec s t7 (IntKind.i64.wrap (t8 + (1 : Int))))))
  none)
  (k2 ())
def zq9o {β : Type} : Nat → zq9i β → zq9j β → (List (Int × (Int × (Int × Int)))) → Int → Int → Option β
  | 0 => fun _ _ _ _ _ => none
  | i + 1 => fun k1 k2 s t7 t8 => zq9n c_delivery_Valid_f1 (zq9o i k1 k2) k1 k2 s t7 t8
theorem zq9p (hΓ : ΓOk Try.prog (slices_IndexFunc_api_Channel_api_Channel_vdelivery_Valid_f1_X c_delivery_Valid_f1).Γ) (i : Nat) : PieceOk Try.prog 19 0 slices_IndexFunc_api_Channel_api_Channel_vdelivery_Valid_f1_p1_code zq9l zq9m (slices_IndexFunc_api_Channel_api_Channel_vdelivery_Valid_f1_p1_G (zq9o c_delivery_Valid_f1 i)) := by
  rw [show slices_IndexFunc_api_Channel_api_Channel_vdelivery_Valid_f1_p1_code = .loop (loopBody slices_IndexFunc_api_Channel_api_Channel_vdelivery_Valid_f1_p1_code) by kernel_rfl]
  exact piece_loop (X := (slices_IndexFunc_api_Channel_api_Channel_vdelivery_Valid_f1_X c_delivery_Valid_f1)) (p := 1) (Λ := pick1 []) (G := fun i => @fun β d ks => slices_IndexFunc_api_Channel_api_Channel_vdelivery_Valid_f1_p1_G (zq9o c_delivery_Valid_f1 i) d ks) mixed tab_ok hΓ rfl (by kernel_rfl) CutsOk_nil (fun _ _ => rfl) (fun i => @fun β d ks r h => Eq.trans (b := slices_IndexFunc_api_Channel_api_Channel_vdelivery_Valid_f1_p1_G (zq9o c_delivery_Valid_f1 (i + 1)) d ks) (by kernel_rfl) h) i
def zq9q (p1 : zq9k) {β : Type} (s : List (Int × (Int × (Int × Int)))) (k : (Int → Option β)) : Option β :=
  p1 (fun (t4 : Int) =>
  k t4) (fun (_ : Unit) =>
  k (-1 : Int)) s (List.length s : Int) (0 : Int)
theorem zq9r (hΓ : ΓOk Try.prog (slices_IndexFunc_api_Channel_api_Channel_vdelivery_Valid_f1_X c_delivery_Valid_f1).Γ) (p1 : zq9k) (hp1 : PieceOk Try.prog 19 0 slices_IndexFunc_api_Channel_api_Channel_vdelivery_Valid_f1_p1_code zq9l zq9m (slices_IndexFunc_api_Channel_api_Channel_vdelivery_Valid_f1_p1_G p1)) : SpecOk Try.prog 72 (zq9h (zq9q p1)) :=
  spec_exec (X := (slices_IndexFunc_api_Channel_api_Channel_vdelivery_Valid_f1_X c_delivery_Valid_f1)) (Λ := pick1 [(26, pieceCut zq9l zq9m (slices_IndexFunc_api_Channel_api_Channel_vdelivery_Valid_f1_p1_G p1))]) (rs := [.tmp 4]) (c := bodyOf Try.f72) mixed tab_ok hΓ Try.func72 (by kernel_rfl) (by kernel_rfl) (by kernel_rfl) (by kernel_rfl) (CutsOk_cons (q := 26) (c' := slices_IndexFunc_api_Channel_api_Channel_vdelivery_Valid_f1_p1_code) (by kernel_rfl) rfl hp1 CutsOk_nil) (fun x k r h => Eq.trans (b := (zq9h (zq9q p1)).run x k) (by kernel_rfl) h)
end
theorem zq9sΓ : ΓOk Try.prog (pick1 [(62, .spec (zq73 zq77))]) := (ΓOk_cons zq78 ΓOk_nil)
def zq9t (m : Nat) : zq9k := zq9o zq77 m
theorem zq9u {β : Type} (i : Nat) (k1 k2 s t7 t8) : (zq9t (i + 1) k1 k2 s t7 t8 : Option β) = zq9n zq77 (zq9t i k1 k2) k1 k2 s t7 t8 := rfl
def zq9v : zq9k := zq9t fuel
theorem zq9w : PieceOk Try.prog 19 0 slices_IndexFunc_api_Channel_api_Channel_vdelivery_Valid_f1_p1_code zq9l zq9m (slices_IndexFunc_api_Channel_api_Channel_vdelivery_Valid_f1_p1_G zq9v) := zq9p zq77 zq9sΓ fuel
def zq9x : zq9g := zq9q zq9v
theorem zq9y : SpecOk Try.prog 72 (zq9h zq9x) := zq9r zq77 zq9sΓ zq9v zq9w

/-- pagewatch/pagewatchlaw27.contact -/
abbrev zq9z := {β : Type} → (Int × List (Int × (Int × (Int × Int)))) → (List Int × Int) → (zq2 → Int → (List Int × Int) → Option β) → Option β
def zqa0 (c : zq9z) : Spec :=
  ⟨[(false, [.ptr 0 0]), (true, [.data (.prod (.int .i64) (.slice (.prod (.int .i64) (.prod (.int .i64) (.prod (.int .i64) (.int .i64))))))])], [.cells 77 [.data (.prod (.slice (.int .i64)) (.int .i64))]], [(true, [.data zq3]), (false, [.data (.int .i64)])], [.cells 77 [.data (.prod (.slice (.int .i64)) (.int .i64))]], fun x k => c x.1.2.1.1 x.2.1.1 (fun r0 r1 r2 => k (((r0, ()), (r1, ()), ()), ((r2, ()), ())))⟩
noncomputable def law27_contact_p2_code : Code := codeAt 122 (bodyOf Try.f22)
noncomputable def law27_contact_p1_code : Code := codeAt 51 (loopBody law27_contact_p2_code)
abbrev zqa1 (β : Type) := Int → Int → (List Int) → Int → Int → (List (Int × (Int × (Int × Int)))) → Int → Int → Int → Int → Int → Int → Int → Int → Int → Int → Int → Int → Option β
abbrev zqa2 := {β : Type} → zqa1 β → Int → Int → (List Int) → Int → Int → (List (Int × (Int × (Int × Int)))) → Int → Int → Int → Int → Int → Int → Int → Int → Int → Int → Int → Int → Option β
def zqa3 : View := ⟨1, [0, 3, 4, 6, 7, 9], [(false, [.ptr 0 0]), (false, [.ptr 1 0]), (false, [.ptr 2 0]), (false, [.data (.int .i64)]), (false, [.ptr 3 0]), (false, [.data (.int .i64)])], [.cells 77 [.data (.slice (.int .i64)), .data (.int .i64)], .cells 29 [.data (.int .i64), .data (.slice (.prod (.int .i64) (.prod (.int .i64) (.prod (.int .i64) (.int .i64)))))], .cells 55 [.data (.int .i64), .data (.int .i64), .data (.int .i64), .data (.int .i64), .data (.int .i64), .data (.int .i64)], .cells 55 [.data (.int .i64), .data (.int .i64), .data (.int .i64), .data (.int .i64), .data (.int .i64), .data (.int .i64)]]⟩
def zqa4 : List (AExit × View) := [(.normal, ⟨1, [0, 3, 4, 6, 7, 9], [(false, [.ptr 0 0]), (false, [.ptr 1 0]), (false, [.ptr 2 0]), (false, [.data (.int .i64)]), (false, [.ptr 3 0]), (false, [.data (.int .i64)])], [.cells 77 [.data (.slice (.int .i64)), .data (.int .i64)], .cells 29 [.data (.int .i64), .data (.slice (.prod (.int .i64) (.prod (.int .i64) (.prod (.int .i64) (.int .i64)))))], .cells 55 [.data (.int .i64), .data (.int .i64), .data (.int .i64), .data (.int .i64), .data (.int .i64), .data (.int .i64)], .cells 55 [.data (.int .i64), .data (.int .i64), .data (.int .i64), .data (.int .i64), .data (.int .i64), .data (.int .i64)]]⟩)]
@[reducible] def law27_contact_p1_G (p : zqa2) {β : Type} (d : zqa3.den) (ks : Outs.K β zqa4) : Option β :=
  p (fun a0 a1 a2 a3 a4 a5 a6 a7 a8 a9 a10 a11 a12 a13 a14 a15 a16 a17 => ks.1 (((), (), (), (a0, ()), (), (a1, ()), ()), ((a2, a3, ()), (a4, a5, ()), (a6, a7, a8, a9, a10, a11, ()), (a12, a13, a14, a15, a16, a17, ()), ()))) d.1.2.2.2.1.1 d.1.2.2.2.2.2.1.1 d.2.1.1 d.2.1.2.1 d.2.2.1.1 d.2.2.1.2.1 d.2.2.2.1.1 d.2.2.2.1.2.1 d.2.2.2.1.2.2.1 d.2.2.2.1.2.2.2.1 d.2.2.2.1.2.2.2.2.1 d.2.2.2.1.2.2.2.2.2.1 d.2.2.2.2.1.1 d.2.2.2.2.1.2.1 d.2.2.2.2.1.2.2.1 d.2.2.2.2.1.2.2.2.1 d.2.2.2.2.1.2.2.2.2.1 d.2.2.2.2.1.2.2.2.2.2.1
abbrev zqa5 (β : Type) := Int → (List Int) → Int → Int → Int → Int → Int → Int → Int → Int → Int → Int → Int → Int → Int → Option β
abbrev zqa6 := {β : Type} → zqa5 β → Int → Int → (List Int) → Int → Int → (List (Int × (Int × (Int × Int)))) → Int → Int → Int → Int → Int → Int → Int → Int → Int → Int → Int → Int → Option β
def zqa7 : View := ⟨1, [0, 3, 4, 6, 7, 9], [(false, [.ptr 0 0]), (false, [.ptr 1 0]), (false, [.ptr 2 0]), (false, [.data (.int .i64)]), (false, [.ptr 3 0]), (false, [.data (.int .i64)])], [.cells 77 [.data (.slice (.int .i64)), .data (.int .i64)], .cells 29 [.data (.int .i64), .data (.slice (.prod (.int .i64) (.prod (.int .i64) (.prod (.int .i64) (.int .i64)))))], .cells 55 [.data (.int .i64), .data (.int .i64), .data (.int .i64), .data (.int .i64), .data (.int .i64), .data (.int .i64)], .cells 55 [.data (.int .i64), .data (.int .i64), .data (.int .i64), .data (.int .i64), .data (.int .i64), .data (.int .i64)]]⟩
def zqa8 : List (AExit × View) := [(.exit 0, ⟨1, [4, 6, 7], [(false, [.ptr 1 0]), (false, [.data (.int .i64)]), (false, [.ptr 2 0])], [.cells 77 [.data (.slice (.int .i64)), .data (.int .i64)], .cells 55 [.data (.int .i64), .data (.int .i64), .data (.int .i64), .data (.int .i64), .data (.int .i64), .data (.int .i64)], .cells 55 [.data (.int .i64), .data (.int .i64), .data (.int .i64), .data (.int .i64), .data (.int .i64), .data (.int .i64)]]⟩)]
@[reducible] def law27_contact_p2_G (p : zqa6) {β : Type} (d : zqa7.den) (ks : Outs.K β zqa8) : Option β :=
  p (fun a0 a1 a2 a3 a4 a5 a6 a7 a8 a9 a10 a11 a12 a13 a14 => ks.1 (((), (a0, ()), (), ()), ((a1, a2, ()), (a3, a4, a5, a6, a7, a8, ()), (a9, a10, a11, a12, a13, a14, ()), ()))) d.1.2.2.2.1.1 d.1.2.2.2.2.2.1.1 d.2.1.1 d.2.1.2.1 d.2.2.1.1 d.2.2.1.2.1 d.2.2.2.1.1 d.2.2.2.1.2.1 d.2.2.2.1.2.2.1 d.2.2.2.1.2.2.2.1 d.2.2.2.1.2.2.2.2.1 d.2.2.2.1.2.2.2.2.2.1 d.2.2.2.2.1.1 d.2.2.2.2.1.2.1 d.2.2.2.2.1.2.2.1 d.2.2.2.2.1.2.2.2.1 d.2.2.2.2.1.2.2.2.2.1 d.2.2.2.2.1.2.2.2.2.2.1
section
variable (c_made_Dice_Next : zqi) (c_made_Dice_One : zq18) (c_ref27_New : zq3s) (c_ref27_Receipt : zq99) (c_ref27_Send : zq8r)
@[reducible] def law27_contact_X : Ctx := ⟨look tab, pick1 [(14, .spec (zqj c_made_Dice_Next)), (28, .spec (zq19 c_made_Dice_One)), (37, .spec (zq3t c_ref27_New)), (35, .spec (zq9a c_ref27_Receipt)), (34, .spec (zq8s c_ref27_Send))], false, false, false, false⟩
def zqa9 {β : Type} (k1 : zqa1 β) (now : Int) (i_ : Int) (d : List Int) (d2 : Int) (p_ : Int) (p_2 : List (Int × (Int × (Int × Int)))) (t4 : Int) (t42 : Int) (t43 : Int) (t44 : Int) (t45 : Int) (t46 : Int) (c : Int) (c2 : Int) (c3 : Int) (c4 : Int) (c5 : Int) (c6 : Int) : Option β :=
  c_made_Dice_Next (3 : Int) (d, d2) (fun (rNext : Int) (mrNext : (List Int × Int)) =>
  cond (decide (rNext = (0 : Int)))
  (c_made_Dice_Next (5 : Int) mrNext (fun (rNext2 : Int) (mrNext2 : (List Int × Int)) =>
  c_ref27_Receipt (p_, p_2) (c, (c2, (c3, (c4, (c5, c6))))) rNext2 now (fun (rReceipt : zq2) (rReceipt2 : Int) =>
  cond (decide (rReceipt2 = (0 : Int)))
  (k1 now i_ mrNext2.1 mrNext2.2 p_ p_2 t4 t42 t43 t44 t45 t46 rReceipt.1 rReceipt.2.1 rReceipt.2.2.1 rReceipt.2.2.2.1 rReceipt.2.2.2.2.1 rReceipt.2.2.2.2.2)
  (k1 now i_ mrNext2.1 mrNext2.2 p_ p_2 t4 t42 t43 t44 t45 t46 c c2 c3 c4 c5 c6))))
  (k1 now i_ mrNext.1 mrNext.2 p_ p_2 t4 t42 t43 t44 t45 t46 c c2 c3 c4 c5 c6))
def zqaa {β : Type} (k1 : zqa1 β) (now : Int) (i_ : Int) (d : List Int) (d2 : Int) (p_ : Int) (p_2 : List (Int × (Int × (Int × Int)))) (t4 : Int) (t42 : Int) (t43 : Int) (t44 : Int) (t45 : Int) (t46 : Int) (c : Int) (c2 : Int) (c3 : Int) (c4 : Int) (c5 : Int) (c6 : Int) : Option β := zqa9 c_made_Dice_Next c_ref27_Receipt k1 now i_ d d2 p_ p_2 t4 t42 t43 t44 t45 t46 c c2 c3 c4 c5 c6
theorem zqab (hΓ : ΓOk Try.prog (law27_contact_X c_made_Dice_Next c_made_Dice_One c_ref27_New c_ref27_Receipt c_ref27_Send).Γ) : PieceOk Try.prog 70 1 law27_contact_p1_code zqa3 zqa4 (law27_contact_p1_G (zqaa c_made_Dice_Next c_ref27_Receipt)) :=
  piece_exec (X := (law27_contact_X c_made_Dice_Next c_made_Dice_One c_ref27_New c_ref27_Receipt c_ref27_Send)) (p := 51) (Λ := pick1 []) mixed tab_ok hΓ (by kernel_rfl) CutsOk_nil (fun d ks r h => Eq.trans (b := law27_contact_p1_G (zqaa c_made_Dice_Next c_ref27_Receipt) d ks) (by kernel_rfl) h)
def zqac (p1 : zqa2) {β : Type} (rec : Int → Int → (List Int) → Int → Int → (List (Int × (Int × (Int × Int)))) → Int → Int → Int → Int → Int → Int → Int → Int → Int → Int → Int → Int → Option β) (k1 : zqa5 β) (now : Int) (i_ : Int) (d : List Int) (d2 : Int) (p_ : Int) (p_2 : List (Int × (Int × (Int × Int)))) (t4 : Int) (t42 : Int) (t43 : Int) (t44 : Int) (t45 : Int) (t46 : Int) (c : Int) (c2 : Int) (c3 : Int) (c4 : Int) (c5 : Int) (c6 : Int) : Option β :=
  cond (decide ((0 : Int) < i_))
  (let l : List Int := ([(0 : Int), (1 : Int), (30 : Int), (60 : Int)] : List Int);
  c_made_Dice_One l (d, d2) (fun (rOne : Int) (mrOne : (List Int × Int)) =>
  let now2 : Int := (IntKind.i64.wrap (now + rOne));
  c_ref27_Send (p_, p_2) (c, (c2, (c3, (c4, (c5, c6))))) now2 (fun (rSend : zq2) (rSend2 : Int) (lrSend : List (Int × (Int × Int))) =>
  cond (decide (rSend2 = (0 : Int)))
  (p1 (fun (now3 : Int) (i_2 : Int) (d3 : List Int) (d4 : Int) (p_3 : Int) (p_4 : List (Int × (Int × (Int × Int)))) (t47 : Int) (t48 : Int) (t49 : Int) (t410 : Int) (t411 : Int) (t412 : Int) (c7 : Int) (c8 : Int) (c9 : Int) (c10 : Int) (c11 : Int) (c12 : Int) =>
  let i_3 : Int := (IntKind.i64.wrap (i_2 - (1 : Int)));
  rec now3 i_3 d3 d4 p_3 p_4 t47 t48 t49 t410 t411 t412 c7 c8 c9 c10 c11 c12) now2 i_ mrOne.1 mrOne.2 p_ p_2 t4 t42 t43 t44 t45 t46 rSend.1 rSend.2.1 rSend.2.2.1 rSend.2.2.2.1 rSend.2.2.2.2.1 rSend.2.2.2.2.2)
  (p1 (fun (now3 : Int) (i_2 : Int) (d3 : List Int) (d4 : Int) (p_3 : Int) (p_4 : List (Int × (Int × (Int × Int)))) (t47 : Int) (t48 : Int) (t49 : Int) (t410 : Int) (t411 : Int) (t412 : Int) (c7 : Int) (c8 : Int) (c9 : Int) (c10 : Int) (c11 : Int) (c12 : Int) =>
  let i_3 : Int := (IntKind.i64.wrap (i_2 - (1 : Int)));
  rec now3 i_3 d3 d4 p_3 p_4 t47 t48 t49 t410 t411 t412 c7 c8 c9 c10 c11 c12) now2 i_ mrOne.1 mrOne.2 p_ p_2 t4 t42 t43 t44 t45 t46 c c2 c3 c4 c5 c6))))
  (k1 now d d2 t4 t42 t43 t44 t45 t46 c c2 c3 c4 c5 c6)
def zqad (p1 : zqa2) {β : Type} : Nat → zqa5 β → Int → Int → (List Int) → Int → Int → (List (Int × (Int × (Int × Int)))) → Int → Int → Int → Int → Int → Int → Int → Int → Int → Int → Int → Int → Option β
  | 0 => fun _ _ _ _ _ _ _ _ _ _ _ _ _ _ _ _ _ _ _ => none
  | i + 1 => fun k1 now i_ d d2 p_ p_2 t4 t42 t43 t44 t45 t46 c c2 c3 c4 c5 c6 => zqac c_made_Dice_One c_ref27_Send p1 (zqad p1 i k1) k1 now i_ d d2 p_ p_2 t4 t42 t43 t44 t45 t46 c c2 c3 c4 c5 c6
theorem zqae (hΓ : ΓOk Try.prog (law27_contact_X c_made_Dice_Next c_made_Dice_One c_ref27_New c_ref27_Receipt c_ref27_Send).Γ) (p1 : zqa2) (hp1 : PieceOk Try.prog 70 1 law27_contact_p1_code zqa3 zqa4 (law27_contact_p1_G p1)) (i : Nat) : PieceOk Try.prog 70 1 law27_contact_p2_code zqa7 zqa8 (law27_contact_p2_G (zqad c_made_Dice_One c_ref27_Send p1 i)) := by
  rw [show law27_contact_p2_code = .loop (loopBody law27_contact_p2_code) by kernel_rfl]
  exact piece_loop (X := (law27_contact_X c_made_Dice_Next c_made_Dice_One c_ref27_New c_ref27_Receipt c_ref27_Send)) (p := 1) (Λ := pick1 [(51, pieceCut zqa3 zqa4 (law27_contact_p1_G p1))]) (G := fun i => @fun β d ks => law27_contact_p2_G (zqad c_made_Dice_One c_ref27_Send p1 i) d ks) mixed tab_ok hΓ rfl (by kernel_rfl) (CutsOk_cons (q := 51) (c' := law27_contact_p1_code) (by kernel_rfl) rfl hp1 CutsOk_nil) (fun _ _ => rfl) (fun i => @fun β d ks r h => Eq.trans (b := law27_contact_p2_G (zqad c_made_Dice_One c_ref27_Send p1 (i + 1)) d ks) (by kernel_rfl) h) i
def zqaf (p2 : zqa6) {β : Type} (p_ : (Int × List (Int × (Int × (Int × Int))))) (d : (List Int × Int)) (k : (zq2 → Int → (List Int × Int) → Option β)) : Option β :=
  c_made_Dice_Next (100 : Int) d (fun (rNext : Int) (mrNext : (List Int × Int)) =>
  let now : Int := (IntKind.i64.wrap ((864000 : Int) + rNext));
  c_made_Dice_Next (3 : Int) mrNext (fun (rNext2 : Int) (mrNext2 : (List Int × Int)) =>
  c_made_Dice_Next (4 : Int) mrNext2 (fun (rNext3 : Int) (mrNext3 : (List Int × Int)) =>
  c_ref27_New (IntKind.i64.wrap ((1 : Int) + rNext2)) (IntKind.i64.wrap (rNext3 - (1 : Int))) p_.1 now (fun (rNew : zq2) (rNew2 : Int) =>
  c_made_Dice_Next (5 : Int) mrNext3 (fun (rNext4 : Int) (mrNext4 : (List Int × Int)) =>
  p2 (fun (now2 : Int) (b0_ : List Int) (b0_2 : Int) (t4 : Int) (t42 : Int) (t43 : Int) (t44 : Int) (t45 : Int) (t46 : Int) (c : Int) (c2 : Int) (c3 : Int) (c4 : Int) (c5 : Int) (c6 : Int) =>
  k (c, (c2, (c3, (c4, (c5, c6))))) now2 (b0_, b0_2)) now rNext4 mrNext4.1 mrNext4.2 p_.1 p_.2 (0 : Int) (0 : Int) (0 : Int) (0 : Int) (0 : Int) (0 : Int) rNew.1 rNew.2.1 rNew.2.2.1 rNew.2.2.2.1 rNew.2.2.2.2.1 rNew.2.2.2.2.2)))))
theorem zqag (hΓ : ΓOk Try.prog (law27_contact_X c_made_Dice_Next c_made_Dice_One c_ref27_New c_ref27_Receipt c_ref27_Send).Γ) (p2 : zqa6) (hp2 : PieceOk Try.prog 70 1 law27_contact_p2_code zqa7 zqa8 (law27_contact_p2_G p2)) : SpecOk Try.prog 22 (zqa0 (zqaf c_made_Dice_Next c_ref27_New p2)) :=
  spec_exec (X := (law27_contact_X c_made_Dice_Next c_made_Dice_One c_ref27_New c_ref27_Receipt c_ref27_Send)) (Λ := pick1 [(122, pieceCut zqa7 zqa8 (law27_contact_p2_G p2))]) (rs := [.cell 4 55, .tmp 5]) (c := bodyOf Try.f22) mixed tab_ok hΓ Try.func22 (by kernel_rfl) (by kernel_rfl) (by kernel_rfl) (by kernel_rfl) (CutsOk_cons (q := 122) (c' := law27_contact_p2_code) (by kernel_rfl) rfl hp2 CutsOk_nil) (fun x k r h => Eq.trans (b := (zqa0 (zqaf c_made_Dice_Next c_ref27_New p2)).run x k) (by kernel_rfl) h)
end
theorem zqahΓ : ΓOk Try.prog (pick1 [(14, .spec (zqj zqn)), (28, .spec (zq19 zq1d)), (37, .spec (zq3t zq3x)), (35, .spec (zq9a zq9e)), (34, .spec (zq8s zq97))]) := (ΓOk_cons zqo (ΓOk_cons zq1e (ΓOk_cons zq3y (ΓOk_cons zq9f (ΓOk_cons zq98 ΓOk_nil)))))
def zqai : zqa2 := zqaa zqn zq9e
theorem zqaj : PieceOk Try.prog 70 1 law27_contact_p1_code zqa3 zqa4 (law27_contact_p1_G zqai) := zqab zqn zq1d zq3x zq9e zq97 zqahΓ
def zqak (m : Nat) : zqa6 := zqad zq1d zq97 zqai m
theorem zqal {β : Type} (i : Nat) (k1 now i_ d d2 p_ p_2 t4 t42 t43 t44 t45 t46 c c2 c3 c4 c5 c6) : (zqak (i + 1) k1 now i_ d d2 p_ p_2 t4 t42 t43 t44 t45 t46 c c2 c3 c4 c5 c6 : Option β) = zqac zq1d zq97 zqai (zqak i k1) k1 now i_ d d2 p_ p_2 t4 t42 t43 t44 t45 t46 c c2 c3 c4 c5 c6 := rfl
def zqam : zqa6 := zqak fuel
theorem zqan : PieceOk Try.prog 70 1 law27_contact_p2_code zqa7 zqa8 (law27_contact_p2_G zqam) := zqae zqn zq1d zq3x zq9e zq97 zqahΓ zqai zqaj fuel
def zqao : zq9z := zqaf zqn zq3x zqam
theorem zqap : SpecOk Try.prog 22 (zqa0 zqao) := zqag zqn zq1d zq3x zq9e zq97 zqahΓ zqam zqan

/-- slices.ContainsFunc[[]pagewatch/api.Channel,pagewatch/api.Channel] -/
abbrev zqaq := {β : Type} → (List (Int × (Int × (Int × Int)))) → (Bool → Option β) → Option β
def zqar (c : zqaq) : Spec :=
  ⟨[(false, [.data (.slice (.prod (.int .i64) (.prod (.int .i64) (.prod (.int .i64) (.int .i64)))))]), (false, [.fn 62 []])], [], [(false, [.data .bool])], [], fun x k => c x.1.1.1 (fun r0 => k (((r0, ()), ()), ()))⟩
section
variable (c_slices_IndexFunc_api_Channel_api_Channel_vdelivery_Valid_f1 : zq9g)
@[reducible] def slices_ContainsFunc_api_Channel_api_Channel_vdelivery_Valid_f1_X : Ctx := ⟨look tab, pick1 [(72, .spec (zq9h c_slices_IndexFunc_api_Channel_api_Channel_vdelivery_Valid_f1))], false, false, false, false⟩
def zqas {β : Type} (s : List (Int × (Int × (Int × Int)))) (k : (Bool → Option β)) : Option β :=
  c_slices_IndexFunc_api_Channel_api_Channel_vdelivery_Valid_f1 s (fun (rChannel : Int) =>
  let t : Bool := (decide ((0 : Int) ≤ rChannel));
  k t)
theorem zqat (hΓ : ΓOk Try.prog (slices_ContainsFunc_api_Channel_api_Channel_vdelivery_Valid_f1_X c_slices_IndexFunc_api_Channel_api_Channel_vdelivery_Valid_f1).Γ) : SpecOk Try.prog 61 (zqar (zqas c_slices_IndexFunc_api_Channel_api_Channel_vdelivery_Valid_f1)) :=
  spec_exec (X := (slices_ContainsFunc_api_Channel_api_Channel_vdelivery_Valid_f1_X c_slices_IndexFunc_api_Channel_api_Channel_vdelivery_Valid_f1)) (Λ := pick1 []) (rs := [.tmp 4]) (c := bodyOf Try.f61) mixed tab_ok hΓ Try.func61 (by kernel_rfl) (by kernel_rfl) (by kernel_rfl) (by kernel_rfl) CutsOk_nil (fun x k r h => Eq.trans (b := (zqar (zqas c_slices_IndexFunc_api_Channel_api_Channel_vdelivery_Valid_f1)).run x k) (by kernel_rfl) h)
end
theorem zqauΓ : ΓOk Try.prog (pick1 [(72, .spec (zq9h zq9x))]) := (ΓOk_cons zq9y ΓOk_nil)
def zqav : zqaq := zqas zq9x
theorem zqaw : SpecOk Try.prog 61 (zqar zqav) := zqat zq9x zqauΓ

/-- pagewatch/delivery.Valid -/
abbrev zqax := {β : Type} → (Int × List (Int × (Int × (Int × Int)))) → (Bool → Option β) → Option β
def zqay (c : zqax) : Spec :=
  ⟨[(true, [.data (.prod (.int .i64) (.slice (.prod (.int .i64) (.prod (.int .i64) (.prod (.int .i64) (.int .i64))))))])], [], [(false, [.data .bool])], [], fun x k => c x.1.1.1 (fun r0 => k (((r0, ()), ()), ()))⟩
section
variable (c_delivery_person : zq2p) (c_slices_ContainsFunc_api_Channel_api_Channel_vdelivery_Valid_f1 : zqaq)
@[reducible] def delivery_Valid_X : Ctx := ⟨look tab, pick1 [(60, .spec (zq2q c_delivery_person)), (61, .spec (zqar c_slices_ContainsFunc_api_Channel_api_Channel_vdelivery_Valid_f1))], false, false, false, false⟩
def zqaz {β : Type} (p_ : (Int × List (Int × (Int × (Int × Int))))) (k : (Bool → Option β)) : Option β :=
  c_delivery_person p_.1 (fun (rperson : Bool) =>
  cond rperson
  (cond (decide ((List.length p_.2 : Int) ≤ (4 : Int)))
  (c_slices_ContainsFunc_api_Channel_api_Channel_vdelivery_Valid_f1 p_.2 (fun (rChannel : Bool) =>
  k (!rChannel)))
  (k false))
  (k false))
theorem zqb0 (hΓ : ΓOk Try.prog (delivery_Valid_X c_delivery_person c_slices_ContainsFunc_api_Channel_api_Channel_vdelivery_Valid_f1).Γ) : SpecOk Try.prog 31 (zqay (zqaz c_delivery_person c_slices_ContainsFunc_api_Channel_api_Channel_vdelivery_Valid_f1)) :=
  spec_exec (X := (delivery_Valid_X c_delivery_person c_slices_ContainsFunc_api_Channel_api_Channel_vdelivery_Valid_f1)) (Λ := pick1 []) (rs := [.tmp 2]) (c := bodyOf Try.f31) mixed tab_ok hΓ Try.func31 (by kernel_rfl) (by kernel_rfl) (by kernel_rfl) (by kernel_rfl) CutsOk_nil (fun x k r h => Eq.trans (b := (zqay (zqaz c_delivery_person c_slices_ContainsFunc_api_Channel_api_Channel_vdelivery_Valid_f1)).run x k) (by kernel_rfl) h)
end
theorem zqb1Γ : ΓOk Try.prog (pick1 [(60, .spec (zq2q zq2u)), (61, .spec (zqar zqav))]) := (ΓOk_cons zq2v (ΓOk_cons zqaw ΓOk_nil))
def zqb2 : zqax := zqaz zq2u zqav
theorem zqb3 : SpecOk Try.prog 31 (zqay zqb2) := zqb0 zq2u zqav zqb1Γ

/-- pagewatch/delivery.Bound -/
abbrev zqb4 := {β : Type} → (Int × List (Int × (Int × (Int × Int)))) → (Int → Option β) → Option β
def zqb5 (c : zqb4) : Spec :=
  ⟨[(true, [.data (.prod (.int .i64) (.slice (.prod (.int .i64) (.prod (.int .i64) (.prod (.int .i64) (.int .i64))))))])], [], [(false, [.data (.int .i64)])], [], fun x k => c x.1.1.1 (fun r0 => k (((r0, ()), ()), ()))⟩
noncomputable def delivery_Bound_p1_code : Code := codeAt 58 (bodyOf Try.f20)
abbrev zqb6 (β : Type) := Int → Option β
abbrev zqb7 := {β : Type} → zqb6 β → Int → (List (Int × (Int × (Int × Int)))) → Int → Int → Int → (List (Int × (Int × (Int × Int)))) → Option β
def zqb8 : View := ⟨0, [1, 3, 7, 8, 9], [(false, [.ptr 0 0]), (false, [.data (.int .i64)]), (false, [.data (.slice (.prod (.int .i64) (.prod (.int .i64) (.prod (.int .i64) (.int .i64)))))]), (false, [.data (.int .i64)]), (false, [.data (.int .i64)])], [.cells 29 [.data (.int .i64), .data (.slice (.prod (.int .i64) (.prod (.int .i64) (.prod (.int .i64) (.int .i64)))))]]⟩
def zqb9 : List (AExit × View) := [(.exit 0, ⟨0, [3], [(false, [.data (.int .i64)])], []⟩)]
@[reducible] def delivery_Bound_p1_G (p : zqb7) {β : Type} (d : zqb8.den) (ks : Outs.K β zqb9) : Option β :=
  p (fun a0 => ks.1 (((a0, ()), ()), ())) d.1.2.1.1 d.1.2.2.1.1 d.1.2.2.2.1.1 d.1.2.2.2.2.1.1 d.2.1.1 d.2.1.2.1
section
variable (c_channel_Worst : zq6v) (c_delivery_Valid : zqax)
@[reducible] def delivery_Bound_X : Ctx := ⟨look tab, pick1 [(55, .spec (zq6w c_channel_Worst)), (31, .spec (zqay c_delivery_Valid))], false, false, false, false⟩
def zqba {β : Type} (rec : Int → (List (Int × (Int × (Int × Int)))) → Int → Int → Int → (List (Int × (Int × (Int × Int)))) → Option β) (k1 : zqb6 β) (most : Int) (t7 : List (Int × (Int × (Int × Int)))) (t8 : Int) (t9 : Int) (p_ : Int) (p_2 : List (Int × (Int × (Int × Int)))) : Option β :=
  cond (decide (t9 < t8))
  (cond (decide (0 ≤ t9) && decide (t9 < (List.length t7 : Int)))
  (let e : (Int × (Int × (Int × Int))) := List.getD t7 (Int.toNat t9) ((0 : Int), ((0 : Int), ((0 : Int), (0 : Int))));
  c_delivery_Valid (p_, p_2) (fun (rValid : Bool) =>
  cond rValid
  (c_channel_Worst e (fun (rWorst : Int) =>
  let most2 : Int := (if rWorst > most then rWorst else most);
  rec most2 t7 t8 (IntKind.i64.wrap (t9 + (1 : Int))) p_ p_2))
  (rec most t7 t8 (IntKind.i64.wrap (t9 + (1 : Int))) p_ p_2)))
  none)
  (k1 most)
def zqbb {β : Type} : Nat → zqb6 β → Int → (List (Int × (Int × (Int × Int)))) → Int → Int → Int → (List (Int × (Int × (Int × Int)))) → Option β
  | 0 => fun _ _ _ _ _ _ _ => none
  | i + 1 => fun k1 most t7 t8 t9 p_ p_2 => zqba c_channel_Worst c_delivery_Valid (zqbb i k1) k1 most t7 t8 t9 p_ p_2
theorem zqbc (hΓ : ΓOk Try.prog (delivery_Bound_X c_channel_Worst c_delivery_Valid).Γ) (i : Nat) : PieceOk Try.prog 21 0 delivery_Bound_p1_code zqb8 zqb9 (delivery_Bound_p1_G (zqbb c_channel_Worst c_delivery_Valid i)) := by
  rw [show delivery_Bound_p1_code = .loop (loopBody delivery_Bound_p1_code) by kernel_rfl]
  exact piece_loop (X := (delivery_Bound_X c_channel_Worst c_delivery_Valid)) (p := 1) (Λ := pick1 []) (G := fun i => @fun β d ks => delivery_Bound_p1_G (zqbb c_channel_Worst c_delivery_Valid i) d ks) mixed tab_ok hΓ rfl (by kernel_rfl) CutsOk_nil (fun _ _ => rfl) (fun i => @fun β d ks r h => Eq.trans (b := delivery_Bound_p1_G (zqbb c_channel_Worst c_delivery_Valid (i + 1)) d ks) (by kernel_rfl) h) i
def zqbd (p1 : zqb7) {β : Type} (p_ : (Int × List (Int × (Int × (Int × Int))))) (k : (Int → Option β)) : Option β :=
  p1 (fun (most : Int) =>
  k most) (0 : Int) p_.2 (List.length p_.2 : Int) (0 : Int) p_.1 p_.2
theorem zqbe (hΓ : ΓOk Try.prog (delivery_Bound_X c_channel_Worst c_delivery_Valid).Γ) (p1 : zqb7) (hp1 : PieceOk Try.prog 21 0 delivery_Bound_p1_code zqb8 zqb9 (delivery_Bound_p1_G p1)) : SpecOk Try.prog 20 (zqb5 (zqbd p1)) :=
  spec_exec (X := (delivery_Bound_X c_channel_Worst c_delivery_Valid)) (Λ := pick1 [(58, pieceCut zqb8 zqb9 (delivery_Bound_p1_G p1))]) (rs := [.tmp 2]) (c := bodyOf Try.f20) mixed tab_ok hΓ Try.func20 (by kernel_rfl) (by kernel_rfl) (by kernel_rfl) (by kernel_rfl) (CutsOk_cons (q := 58) (c' := delivery_Bound_p1_code) (by kernel_rfl) rfl hp1 CutsOk_nil) (fun x k r h => Eq.trans (b := (zqb5 (zqbd p1)).run x k) (by kernel_rfl) h)
end
theorem zqbfΓ : ΓOk Try.prog (pick1 [(55, .spec (zq6w zq70)), (31, .spec (zqay zqb2))]) := (ΓOk_cons zq71 (ΓOk_cons zqb3 ΓOk_nil))
def zqbg (m : Nat) : zqb7 := zqbb zq70 zqb2 m
theorem zqbh {β : Type} (i : Nat) (k1 most t7 t8 t9 p_ p_2) : (zqbg (i + 1) k1 most t7 t8 t9 p_ p_2 : Option β) = zqba zq70 zqb2 (zqbg i k1) k1 most t7 t8 t9 p_ p_2 := rfl
def zqbi : zqb7 := zqbg fuel
theorem zqbj : PieceOk Try.prog 21 0 delivery_Bound_p1_code zqb8 zqb9 (delivery_Bound_p1_G zqbi) := zqbc zq70 zqb2 zqbfΓ fuel
def zqbk : zqb4 := zqbd zqbi
theorem zqbl : SpecOk Try.prog 20 (zqb5 zqbk) := zqbe zq70 zqb2 zqbfΓ zqbi zqbj

/-- slices.SortFunc[[]pagewatch/api.Attempt,pagewatch/api.Attempt] with pagewatch/delivery.Plan$1 -/
def zqbm : Shelf.Ren :=
      { 
      f := fun x =>
        match x with
        | 6 => 40
        | 15 => 66
        | 14 => 65
        | 28 => 81
        | 29 => 82
        | 20 => 73
        | 21 => 74
        | 22 => 75
        | 23 => 76
        | 24 => 77
        | 25 => 78
        | 26 => 79
        | 27 => 80
        | 46 => 92
        | 47 => 93
        | 48 => 94
        | 49 => 95
        | 50 => 96
        | 57 => 101
        | n => n,
      t := fun x =>
        match x with
        | 22 => 33
        | 24 => 39
        | 25 => 81
        | 3 => 3
        | 39 => 97
        | 0 => 0
        | 53 => 23
        | 55 => 111
        | 4 => 4
        | 46 => 104
        | 45 => 103
        | 50 => 66
        | 5 => 5
        | 9 => 9
        | 66 => 118
        | 70 => 122
        | 76 => 126
        | 77 => 127
        | n => n,
      g := fun x => x }
theorem zqbn : Go.Proofs.SlLaysF0.n6 Try.prog zqbm :=
  { mixed := by kernel_rfl,
    f6 := Exists.intro "slices.SortFunc[[]pagewatch/api.Attempt,pagewatch/api.Attempt]" ⟨of_decide_eq_true (by kernel_rfl), Eq.trans Try.func40 (congrArg some (by kernel_rfl))⟩,
    f14 := Exists.intro "slices.pdqsortCmpFunc[pagewatch/api.Attempt]" ⟨of_decide_eq_true (by kernel_rfl), Eq.trans Try.func65 (congrArg some (by kernel_rfl))⟩,
    f15 := Eq.trans Try.func66 (congrArg some (by kernel_rfl)),
    f20 := Exists.intro "slices.insertionSortCmpFunc[pagewatch/api.Attempt]" ⟨of_decide_eq_true (by kernel_rfl), Eq.trans Try.func73 (congrArg some (by kernel_rfl))⟩,
    f21 := Exists.intro "slices.heapSortCmpFunc[pagewatch/api.Attempt]" ⟨of_decide_eq_true (by kernel_rfl), Eq.trans Try.func74 (congrArg some (by kernel_rfl))⟩,
    f22 := Exists.intro "slices.breakPatternsCmpFunc[pagewatch/api.Attempt]" ⟨of_decide_eq_true (by kernel_rfl), Eq.trans Try.func75 (congrArg some (by kernel_rfl))⟩,
    f23 := Exists.intro "slices.choosePivotCmpFunc[pagewatch/api.Attempt]" ⟨of_decide_eq_true (by kernel_rfl), Eq.trans Try.func76 (congrArg some (by kernel_rfl))⟩,
    f24 := Exists.intro "slices.reverseRangeCmpFunc[pagewatch/api.Attempt]" ⟨of_decide_eq_true (by kernel_rfl), Eq.trans Try.func77 (congrArg some (by kernel_rfl))⟩,
    f25 := Exists.intro "slices.partialInsertionSortCmpFunc[pagewatch/api.Attempt]" ⟨of_decide_eq_true (by kernel_rfl), Eq.trans Try.func78 (congrArg some (by kernel_rfl))⟩,
    f26 := Exists.intro "slices.partitionEqualCmpFunc[pagewatch/api.Attempt]" ⟨of_decide_eq_true (by kernel_rfl), Eq.trans Try.func79 (congrArg some (by kernel_rfl))⟩,
    f27 := Exists.intro "slices.partitionCmpFunc[pagewatch/api.Attempt]" ⟨of_decide_eq_true (by kernel_rfl), Eq.trans Try.func80 (congrArg some (by kernel_rfl))⟩,
    f28 := Eq.trans Try.func81 (congrArg some (by kernel_rfl)),
    f29 := Eq.trans Try.func82 (congrArg some (by kernel_rfl)),
    f46 := Exists.intro "slices.siftDownCmpFunc[pagewatch/api.Attempt]" ⟨of_decide_eq_true (by kernel_rfl), Eq.trans Try.func92 (congrArg some (by kernel_rfl))⟩,
    f47 := Eq.trans Try.func93 (congrArg some (by kernel_rfl)),
    f48 := Eq.trans Try.func94 (congrArg some (by kernel_rfl)),
    f49 := Exists.intro "slices.medianAdjacentCmpFunc[pagewatch/api.Attempt]" ⟨of_decide_eq_true (by kernel_rfl), Eq.trans Try.func95 (congrArg some (by kernel_rfl))⟩,
    f50 := Exists.intro "slices.medianCmpFunc[pagewatch/api.Attempt]" ⟨of_decide_eq_true (by kernel_rfl), Eq.trans Try.func96 (congrArg some (by kernel_rfl))⟩,
    f57 := Exists.intro "slices.order2CmpFunc[pagewatch/api.Attempt]" ⟨of_decide_eq_true (by kernel_rfl), Eq.trans Try.func101 (congrArg some (by kernel_rfl))⟩,
    t0 := Try.underlying0,
    a0 := Try.isAgg0,
    z0 := Try.sizeOf0,
    v0 := Try.zeroValue0,
    t3 := Try.underlying3,
    a3 := Try.isAgg3,
    z3 := Try.sizeOf3,
    v3 := Try.zeroValue3,
    t4 := Try.underlying4,
    a4 := Try.isAgg4,
    z4 := Try.sizeOf4,
    v4 := Try.zeroValue4,
    t5 := Try.underlying5,
    a5 := Try.isAgg5,
    z5 := Try.sizeOf5,
    v5 := Try.zeroValue5,
    t9 := Try.underlying9,
    a9 := Try.isAgg9,
    z9 := Try.sizeOf9,
    v9 := Try.zeroValue9,
    t22 := Try.underlying33,
    a22 := Try.isAgg33,
    z22 := Try.sizeOf33,
    v22 := Try.zeroValue33,
    t25 := Try.underlying81,
    a25 := Try.isAgg81,
    z25 := Try.sizeOf81,
    v25 := Try.zeroValue81,
    t39 := Try.underlying97,
    a39 := Try.isAgg97,
    z39 := Try.sizeOf97,
    v39 := Try.zeroValue97,
    t45 := Try.underlying103,
    a45 := Try.isAgg103,
    z45 := Try.sizeOf103,
    v45 := Try.zeroValue103,
    t46 := Try.underlying104,
    a46 := Try.isAgg104,
    z46 := Try.sizeOf104,
    v46 := Try.zeroValue104,
    t50 := Try.underlying66,
    a50 := Try.isAgg66,
    z50 := Try.sizeOf66,
    v50 := Try.zeroValue66,
    t53 := Try.underlying23,
    a53 := Try.isAgg23,
    z53 := Try.sizeOf23,
    v53 := Try.zeroValue23,
    t55 := Try.underlying111,
    a55 := Try.isAgg111,
    z55 := Try.sizeOf111,
    v55 := Try.zeroValue111,
    t66 := Try.underlying118,
    a66 := Try.isAgg118,
    z66 := Try.sizeOf118,
    v66 := Try.zeroValue118,
    t70 := Try.underlying122,
    a70 := Try.isAgg122,
    z70 := Try.sizeOf122,
    v70 := Try.zeroValue122,
    t76 := Try.underlying126,
    a76 := Try.isAgg126,
    z76 := Try.sizeOf126,
    v76 := Try.zeroValue126,
    t77 := Try.underlying127,
    a77 := Try.isAgg127,
    z77 := Try.sizeOf127,
    v77 := Try.zeroValue127 }
def zqbo (x y z : Int) : Int := if x ≠ 0 then x else if y ≠ 0 then y else z
def zqbp : (Int × Int × Int) → Bool := fun x => (decide (0 ≤ x.1) && decide (x.1 ≤ 4611686018427387904)) && (decide (0 ≤ x.2.1) && decide (x.2.1 ≤ 4611686018427387904)) && (decide (0 ≤ x.2.2) && decide (x.2.2 ≤ 4611686018427387904))
def zqbq : (Int × Int × Int) → (Int × Int × Int) → Int := fun x y => zqbo (x.2.2 - y.2.2) (x.1 - y.1) (x.2.1 - y.2.1)
def zqbr : List (Int × Int × Int) → List (Int × Int × Int) := sortRun zqbp ((0, 0, 0) : Int × Int × Int) rfl zqbq

set_option maxHeartbeats 1000000 in
theorem zqbs (b cap : Nat) (x y z : Int) (w : World) (hx : w.cell? ⟨b, 0, none⟩ = some (.int .i64 x)) (hy : w.cell? ⟨b, 1, none⟩ = some (.int .i64 y)) (hz : w.cell? ⟨b, 2, none⟩ = some (.int .i64 z)) :
    Calls Try.prog 42 #[.slice (some ⟨b, 0, none⟩) 3 cap] w fun e w' => e = .returned (.int .i64 (zqbo x y z)) ∧ w' = w := by
  go_enter Try.func42, Try.ntmps42
  go_wp2
  go_loop [8] (fun i => (i = .int .i64 0 ∨ (i = .int .i64 1 ∧ x = 0) ∨ (i = .int .i64 2 ∧ x = 0 ∧ y = 0) ∨ (i = .int .i64 3 ∧ x = 0 ∧ y = 0 ∧ z = 0))) (fun i => match i with | .int _ n => 3 - n.toNat | _ => 0)
  case atStart => exact .inl rfl
  case round =>
    rcases hrel with rfl | ⟨rfl, rfl⟩ | ⟨rfl, rfl, rfl⟩ | ⟨rfl, rfl, rfl, rfl⟩
    · go_wp2
      · rename_i hne _
        have hn : x ≠ 0 := by simpa using hne
        have e : zqbo x y z = x := by unfold zqbo; rw [if_pos hn]
        rw [e]
        go_ret
        exact ⟨rfl, rfl⟩
      · rename_i he
        have hn : x = 0 := by simpa using he
        exact ⟨.inr (.inl ⟨rfl, hn⟩), by decide⟩
    · go_wp2
      · rename_i hne _
        have hn : y ≠ 0 := by simpa using hne
        have e : zqbo 0 y z = y := by unfold zqbo; rw [if_neg (by simp), if_pos hn]
        rw [e]
        go_ret
        exact ⟨rfl, rfl⟩
      · rename_i he
        have hn : y = 0 := by simpa using he
        exact ⟨.inr (.inr (.inl ⟨rfl, trivial, hn⟩)), by decide⟩
    · go_wp2
      · rename_i hne _
        have hn : z ≠ 0 := by simpa using hne
        have e : zqbo 0 0 z = z := by unfold zqbo; rw [if_neg (by simp), if_neg (by simp)]
        rw [e]
        go_ret
        exact ⟨rfl, rfl⟩
      · rename_i he
        have hn : z = 0 := by simpa using he
        exact ⟨.inr (.inr (.inr ⟨rfl, trivial, trivial, hn⟩)), by decide⟩
    · go_wp2
      go_ret
      exact ⟨rfl, rfl⟩

set_option maxHeartbeats 1000000 in
theorem zqbt (a0 a1 a2 b0 b1 b2 : Int) (W : World) (h1 : Go.RowKit.wrap64 (a2 - b2) = a2 - b2) (h2 : Go.RowKit.wrap64 (a0 - b0) = a0 - b0) (h3 : Go.RowKit.wrap64 (a1 - b1) = a1 - b1) :
    Calls Try.prog 41 #[.agg #[.int .i64 a0, .int .i64 a1, .int .i64 a2], .agg #[.int .i64 b0, .int .i64 b1, .int .i64 b2]] W fun e w' => e = .returned (.int .i64 (zqbo (a2 - b2) (a0 - b0) (a1 - b1))) ∧ ∃ q os', w' = Go.Sort.grow (W.drewN q) os' := by
  go_enter Try.func41, Try.ntmps41
  have hcall : ∀ (o1 o2 : Obj), Calls Try.prog 42 #[.slice (some ⟨W.heap.size + 1 + 1, 0, none⟩) 3 3] (((W.alloc o1).alloc o2).alloc (.cells #[.int .i64 (a2 - b2), .int .i64 (a0 - b0), .int .i64 (a1 - b1)] 3)) fun e w' => e = .returned (.int .i64 (zqbo (a2 - b2) (a0 - b0) (a1 - b1))) ∧ w' = (((W.alloc o1).alloc o2).alloc (.cells #[.int .i64 (a2 - b2), .int .i64 (a0 - b0), .int .i64 (a1 - b1)] 3)) := fun o1 o2 =>
    zqbs _ _ _ _ _ _ (by go_simp) (by go_simp) (by go_simp)
  go_wp2_with (refine (hcall _ _).mono ?_; rintro e w' ⟨rfl, rfl⟩)
  go_ret
  exact ⟨rfl, 0, _, by rw [Go.Sort.alloc_eq_grow, Go.Sort.alloc_eq_grow, Go.Sort.alloc_eq_grow, Go.Sort.grow_grow, Go.Sort.grow_grow]; rfl⟩
theorem zqbu (x y : Int × Int × Int) (hx : zqbp x = true) (hy : zqbp y = true) (W : World) : Calls Try.prog 41 #[.agg (encT (.prod (.int .i64) (.prod (.int .i64) (.int .i64))) x).toArray, .agg (encT (.prod (.int .i64) (.prod (.int .i64) (.int .i64))) y).toArray] W fun e w' => e = .returned (.int .i64 (zqbq x y)) ∧ ∃ q os', w' = Go.Sort.grow (W.drewN q) os' := by
  obtain ⟨a0, a1, a2⟩ := x
  obtain ⟨b0, b1, b2⟩ := y
  simp only [zqbp, Bool.and_eq_true, decide_eq_true_eq] at hx hy
  obtain ⟨⟨⟨p1, p2⟩, p3, p4⟩, p5, p6⟩ := hx
  obtain ⟨⟨⟨q1, q2⟩, q3, q4⟩, q5, q6⟩ := hy
  exact zqbt a0 a1 a2 b0 b1 b2 W (by unfold Go.RowKit.wrap64; omega) (by unfold Go.RowKit.wrap64; omega) (by unfold Go.RowKit.wrap64; omega)
theorem zqbv : Go.Sort.SWO (Go.Proofs.ltOf fun (x y : {x : Int × Int × Int // zqbp x = true}) => zqbq x.1 y.1) := by
  have key : ∀ a b : Int × Int × Int, zqbq a b < 0 ↔ (a.2.2 < b.2.2 ∨ (a.2.2 = b.2.2 ∧ (a.1 < b.1 ∨ (a.1 = b.1 ∧ a.2.1 < b.2.1)))) := by
    intro a b
    unfold zqbq zqbo
    split
    · omega
    · split <;> omega
  constructor
  · intro x
    refine decide_eq_false ?_
    rw [key]
    omega
  · intro x y z h1 h2
    have h1 := of_decide_eq_true h1
    have h2 := of_decide_eq_true h2
    rw [key] at h1 h2
    refine decide_eq_true ?_
    rw [key]
    omega
  · intro x y z h1 h2
    have h1 := of_decide_eq_false h1
    have h2 := of_decide_eq_false h2
    rw [key] at h1 h2
    refine decide_eq_false ?_
    rw [key]
    omega
def zqbw : RowF := ⟨39, (.prod (.int .i64) (.prod (.int .i64) (.int .i64))), false, fun l => List.all l zqbp && decide (List.length l < 4611686018427387904), zqbr, some 41⟩
theorem zqbx : RowOk Try.prog 40 zqbw :=
  sortFunc_rowok (t := 39) (e := (.prod (.int .i64) (.prod (.int .i64) (.int .i64)))) (good := zqbp) (d0 := ((0, 0, 0) : Int × Int × Int)) (h0 := rfl) (cf := zqbq) (g := 41) rfl (by decide) zqbn rfl Try.isAgg39 Try.sizeOf39 zqbv (Go.Proofs.enters_of Try.func41 (by kernel_rfl) rfl) zqbu ⟨_, Try.func40, by kernel_rfl, by kernel_rfl⟩

/-- pagewatch/delivery.Plan -/
abbrev zqby := {β : Type} → (Int × List (Int × (Int × (Int × Int)))) → Int → ((List (Int × (Int × Int))) → Option β) → Option β
def zqbz (c : zqby) : Spec :=
  ⟨[(true, [.data (.prod (.int .i64) (.slice (.prod (.int .i64) (.prod (.int .i64) (.prod (.int .i64) (.int .i64))))))]), (false, [.data (.int .i64)])], [], [(false, [.rowh 0])], [.row 39 (.prod (.int .i64) (.prod (.int .i64) (.int .i64)))], fun x k => c x.1.1.1 x.1.2.1.1 (fun r0 => k (((), ()), (r0, ())))⟩
noncomputable def delivery_Plan_p2_code : Code := codeAt 122 (bodyOf Try.f13)
noncomputable def delivery_Plan_p1_code : Code := codeAt 230 (loopBody delivery_Plan_p2_code)
abbrev zqc0 (β : Type) := Int → (List (Int × (Int × (Int × Int)))) → Int → Int → (List (Int × (Int × Int))) → Option β
abbrev zqc1 := {β : Type} → zqc0 β → Int → Int → (List (Int × (Int × (Int × Int)))) → Int → Int → Int → Int → (List (Int × (Int × Int))) → Int → Int → Int → Int → Option β
def zqc2 : View := ⟨0, [1, 5, 6, 7, 18, 19, 20, 26, 27], [(false, [.data (.int .i64)]), (false, [.rowh 0]), (false, [.data (.int .i64)]), (false, [.ptr 1 0]), (false, [.data (.slice (.prod (.int .i64) (.prod (.int .i64) (.prod (.int .i64) (.int .i64)))))]), (false, [.data (.int .i64)]), (false, [.data (.int .i64)]), (false, [.data (.int .i64)]), (false, [.data (.int .i64)])], [.row 39 (.prod (.int .i64) (.prod (.int .i64) (.int .i64))), .cells 36 [.data (.int .i64), .data (.int .i64), .data (.int .i64), .data (.int .i64)]]⟩
def zqc3 : List (AExit × View) := [(.exit 2, ⟨0, [1, 5, 18, 19, 20], [(false, [.data (.int .i64)]), (false, [.rowh 0]), (false, [.data (.slice (.prod (.int .i64) (.prod (.int .i64) (.prod (.int .i64) (.int .i64)))))]), (false, [.data (.int .i64)]), (false, [.data (.int .i64)])], [.row 39 (.prod (.int .i64) (.prod (.int .i64) (.int .i64)))]⟩)]
@[reducible] def delivery_Plan_p1_G (p : zqc1) {β : Type} (d : zqc2.den) (ks : Outs.K β zqc3) : Option β :=
  p (fun a0 a1 a2 a3 a4 => ks.1 (((a0, ()), (), (a1, ()), (a2, ()), (a3, ()), ()), (a4, ()))) d.1.1.1 d.1.2.2.1.1 d.1.2.2.2.2.1.1 d.1.2.2.2.2.2.1.1 d.1.2.2.2.2.2.2.1.1 d.1.2.2.2.2.2.2.2.1.1 d.1.2.2.2.2.2.2.2.2.1.1 d.2.1 d.2.2.1.1 d.2.2.1.2.1 d.2.2.1.2.2.1 d.2.2.1.2.2.2.1
abbrev zqc4 (β : Type) := (List (Int × (Int × Int))) → Option β
abbrev zqc5 := {β : Type} → zqc4 β → Int → (List (Int × (Int × (Int × Int)))) → Int → Int → (List (Int × (Int × Int))) → Option β
def zqc6 : View := ⟨0, [1, 5, 18, 19, 20], [(false, [.data (.int .i64)]), (false, [.rowh 0]), (false, [.data (.slice (.prod (.int .i64) (.prod (.int .i64) (.prod (.int .i64) (.int .i64)))))]), (false, [.data (.int .i64)]), (false, [.data (.int .i64)])], [.row 39 (.prod (.int .i64) (.prod (.int .i64) (.int .i64)))]⟩
def zqc7 : List (AExit × View) := [(.exit 0, ⟨0, [5], [(false, [.rowh 0])], [.row 39 (.prod (.int .i64) (.prod (.int .i64) (.int .i64)))]⟩)]
@[reducible] def delivery_Plan_p2_G (p : zqc5) {β : Type} (d : zqc6.den) (ks : Outs.K β zqc7) : Option β :=
  p (fun a0 => ks.1 (((), ()), (a0, ()))) d.1.1.1 d.1.2.2.1.1 d.1.2.2.2.1.1 d.1.2.2.2.2.1.1 d.2.1
section
variable (c_delivery_Valid : zqax) (c_delivery_in : zq1m)
@[reducible] def delivery_Plan_X : Ctx := ⟨look tab, pick1 [(31, .spec (zqay c_delivery_Valid)), (39, .spec (zq1n c_delivery_in)), (40, .rows zqbw)], false, false, false, false⟩
def zqc8 {β : Type} (rec : Int → Int → (List (Int × (Int × (Int × Int)))) → Int → Int → Int → Int → (List (Int × (Int × Int))) → Int → Int → Int → Int → Option β) (k1 : zqc0 β) (start : Int) (c : Int) (t18 : List (Int × (Int × (Int × Int)))) (t19 : Int) (t20 : Int) (t26 : Int) (t27 : Int) (out : List (Int × (Int × Int))) (ch : Int) (ch2 : Int) (ch3 : Int) (ch4 : Int) : Option β :=
  cond (decide (t27 < t26))
  (let l : List (Int × (Int × Int)) := ([(c, (t27, (IntKind.i64.wrap (start + (IntKind.i64.wrap (t27 * ch4))))))] : List (Int × (Int × Int)));
  cond (decide ((List.length out + List.length l) * 24 ≤ roomMax))
  (let l2 : List (Int × (Int × Int)) := (out ++ l);
  rec start c t18 t19 t20 t26 (IntKind.i64.wrap (t27 + (1 : Int))) l2 ch ch2 ch3 ch4)
  none)
  (k1 start t18 t19 t20 out)
def zqc9 {β : Type} : Nat → zqc0 β → Int → Int → (List (Int × (Int × (Int × Int)))) → Int → Int → Int → Int → (List (Int × (Int × Int))) → Int → Int → Int → Int → Option β
  | 0 => fun _ _ _ _ _ _ _ _ _ _ _ _ _ => none
  | i + 1 => fun k1 start c t18 t19 t20 t26 t27 out ch ch2 ch3 ch4 => zqc8 (zqc9 i k1) k1 start c t18 t19 t20 t26 t27 out ch ch2 ch3 ch4
theorem zqca (hΓ : ΓOk Try.prog (delivery_Plan_X c_delivery_Valid c_delivery_in).Γ) (i : Nat) : PieceOk Try.prog 47 0 delivery_Plan_p1_code zqc2 zqc3 (delivery_Plan_p1_G (zqc9 i)) := by
  rw [show delivery_Plan_p1_code = .loop (loopBody delivery_Plan_p1_code) by kernel_rfl]
  exact piece_loop (X := (delivery_Plan_X c_delivery_Valid c_delivery_in)) (p := 1) (Λ := pick1 []) (G := fun i => @fun β d ks => delivery_Plan_p1_G (zqc9 i) d ks) mixed tab_ok hΓ rfl (by kernel_rfl) CutsOk_nil (fun _ _ => rfl) (fun i => @fun β d ks r h => Eq.trans (b := delivery_Plan_p1_G (zqc9 (i + 1)) d ks) (by kernel_rfl) h) i
def zqcb (p1 : zqc1) {β : Type} (rec : Int → (List (Int × (Int × (Int × Int)))) → Int → Int → (List (Int × (Int × Int))) → Option β) (k1 : zqc4 β) (start : Int) (t18 : List (Int × (Int × (Int × Int)))) (t19 : Int) (t20 : Int) (out : List (Int × (Int × Int))) : Option β :=
  cond (decide (t20 < t19))
  (cond (decide (0 ≤ t20) && decide (t20 < (List.length t18 : Int)))
  (let e : (Int × (Int × (Int × Int))) := List.getD t18 (Int.toNat t20) ((0 : Int), ((0 : Int), ((0 : Int), (0 : Int))));
  p1 (fun (start2 : Int) (t182 : List (Int × (Int × (Int × Int)))) (t192 : Int) (t202 : Int) (out2 : List (Int × (Int × Int))) =>
  rec start2 t182 t192 (IntKind.i64.wrap (t202 + (1 : Int))) out2) start t20 t18 t19 t20 e.2.2.1 (0 : Int) out e.1 e.2.1 e.2.2.1 e.2.2.2)
  none)
  (k1 out)
def zqcc (p1 : zqc1) {β : Type} : Nat → zqc4 β → Int → (List (Int × (Int × (Int × Int)))) → Int → Int → (List (Int × (Int × Int))) → Option β
  | 0 => fun _ _ _ _ _ _ => none
  | i + 1 => fun k1 start t18 t19 t20 out => zqcb p1 (zqcc p1 i k1) k1 start t18 t19 t20 out
theorem zqcd (hΓ : ΓOk Try.prog (delivery_Plan_X c_delivery_Valid c_delivery_in).Γ) (p1 : zqc1) (hp1 : PieceOk Try.prog 47 0 delivery_Plan_p1_code zqc2 zqc3 (delivery_Plan_p1_G p1)) (i : Nat) : PieceOk Try.prog 47 0 delivery_Plan_p2_code zqc6 zqc7 (delivery_Plan_p2_G (zqcc p1 i)) := by
  rw [show delivery_Plan_p2_code = .loop (loopBody delivery_Plan_p2_code) by kernel_rfl]
  exact piece_loop (X := (delivery_Plan_X c_delivery_Valid c_delivery_in)) (p := 1) (Λ := pick1 [(230, pieceCut zqc2 zqc3 (delivery_Plan_p1_G p1))]) (G := fun i => @fun β d ks => delivery_Plan_p2_G (zqcc p1 i) d ks) mixed tab_ok hΓ rfl (by kernel_rfl) (CutsOk_cons (q := 230) (c' := delivery_Plan_p1_code) (by kernel_rfl) rfl hp1 CutsOk_nil) (fun _ _ => rfl) (fun i => @fun β d ks r h => Eq.trans (b := delivery_Plan_p2_G (zqcc p1 (i + 1)) d ks) (by kernel_rfl) h) i
def zqce (p2 : zqc5) {β : Type} (p_ : (Int × List (Int × (Int × (Int × Int))))) (start : Int) (k : ((List (Int × (Int × Int))) → Option β)) : Option β :=
  c_delivery_Valid p_ (fun (rValid : Bool) =>
  cond (!rValid)
  (k ([] : List (Int × (Int × Int))))
  (c_delivery_in start (0 : Int) (8589934592 : Int) (fun (rin : Bool) =>
  cond (!rin)
  (k ([] : List (Int × (Int × Int))))
  (p2 (fun (out : List (Int × (Int × Int))) =>
  cond ((List.all out zqbp) && decide (List.length out < 4611686018427387904))
  (let l : List (Int × (Int × Int)) := (zqbr out);
  k l)
  none) start p_.2 (List.length p_.2 : Int) (0 : Int) ([] : List (Int × (Int × Int)))))))
theorem zqcf (hΓ : ΓOk Try.prog (delivery_Plan_X c_delivery_Valid c_delivery_in).Γ) (p2 : zqc5) (hp2 : PieceOk Try.prog 47 0 delivery_Plan_p2_code zqc6 zqc7 (delivery_Plan_p2_G p2)) : SpecOk Try.prog 13 (zqbz (zqce c_delivery_Valid c_delivery_in p2)) :=
  spec_exec (X := (delivery_Plan_X c_delivery_Valid c_delivery_in)) (Λ := pick1 [(122, pieceCut zqc6 zqc7 (delivery_Plan_p2_G p2))]) (rs := [.tmp 4]) (c := bodyOf Try.f13) mixed tab_ok hΓ Try.func13 (by kernel_rfl) (by kernel_rfl) (by kernel_rfl) (by kernel_rfl) (CutsOk_cons (q := 122) (c' := delivery_Plan_p2_code) (by kernel_rfl) rfl hp2 CutsOk_nil) (fun x k r h => Eq.trans (b := (zqbz (zqce c_delivery_Valid c_delivery_in p2)).run x k) (by kernel_rfl) h)
end
theorem zqcgΓ : ΓOk Try.prog (pick1 [(31, .spec (zqay zqb2)), (39, .spec (zq1n zq1r)), (40, .rows zqbw)]) := (ΓOk_cons zqb3 (ΓOk_cons zq1s (ΓOk_row zqbx ΓOk_nil)))
def zqch (m : Nat) : zqc1 := zqc9 m
theorem zqci {β : Type} (i : Nat) (k1 start c t18 t19 t20 t26 t27 out ch ch2 ch3 ch4) : (zqch (i + 1) k1 start c t18 t19 t20 t26 t27 out ch ch2 ch3 ch4 : Option β) = zqc8 (zqch i k1) k1 start c t18 t19 t20 t26 t27 out ch ch2 ch3 ch4 := rfl
def zqcj : zqc1 := zqch fuel
theorem zqck : PieceOk Try.prog 47 0 delivery_Plan_p1_code zqc2 zqc3 (delivery_Plan_p1_G zqcj) := zqca zqb2 zq1r zqcgΓ fuel
def zqcl (m : Nat) : zqc5 := zqcc zqcj m
theorem zqcm {β : Type} (i : Nat) (k1 start t18 t19 t20 out) : (zqcl (i + 1) k1 start t18 t19 t20 out : Option β) = zqcb zqcj (zqcl i k1) k1 start t18 t19 t20 out := rfl
def zqcn : zqc5 := zqcl fuel
theorem zqco : PieceOk Try.prog 47 0 delivery_Plan_p2_code zqc6 zqc7 (delivery_Plan_p2_G zqcn) := zqcd zqb2 zq1r zqcgΓ zqcj zqck fuel
def zqcp : zqby := zqce zqb2 zq1r zqcn
theorem zqcq : SpecOk Try.prog 13 (zqbz zqcp) := zqcf zqb2 zq1r zqcgΓ zqcn zqco

/-- pagewatch/delivery.Check -/
abbrev zqcr := {β : Type} → (Int × List (Int × (Int × (Int × Int)))) → zq2 → (Bool → Option β) → Option β
def zqcs (c : zqcr) : Spec :=
  ⟨[(true, [.data (.prod (.int .i64) (.slice (.prod (.int .i64) (.prod (.int .i64) (.prod (.int .i64) (.int .i64))))))]), (true, [.data zq3])], [], [(false, [.data .bool])], [], fun x k => c x.1.1.1 x.1.2.1.1 (fun r0 => k (((r0, ()), ()), ()))⟩
section
variable (c_delivery_Plan : zqby) (c_delivery_Valid : zqax) (c_delivery_in : zq1m) (c_delivery_numbers : zq52)
@[reducible] def delivery_Check_X : Ctx := ⟨look tab, pick1 [(13, .spec (zqbz c_delivery_Plan)), (31, .spec (zqay c_delivery_Valid)), (39, .spec (zq1n c_delivery_in)), (59, .spec (zq53 c_delivery_numbers))], false, false, false, false⟩
def zqct {β : Type} (p_ : (Int × List (Int × (Int × (Int × Int))))) (c : zq2) (k : (Bool → Option β)) : Option β :=
  c_delivery_Valid p_ (fun (rValid : Bool) =>
  cond rValid
  (c_delivery_numbers c (fun (rnumbers : Bool) =>
  cond rnumbers
  (cond (decide (c.2.2.1 = p_.1))
  (c_delivery_Plan p_ c.2.2.2.1 (fun (lrPlan : List (Int × (Int × Int))) =>
  c_delivery_in c.2.2.2.2.1 (0 : Int) (List.length lrPlan : Int) (fun (rin : Bool) =>
  cond rin
  (cond (decide (c.2.2.2.2.2 = (-1 : Int)))
  (k true)
  (cond (!decide (c.2.2.2.2.1 = (0 : Int)))
  (let t : Bool := (decide (c.2.2.2.1 ≤ c.2.2.2.2.2));
  k t)
  (k false)))
  (k false))))
  (k false))
  (k false)))
  (k false))
theorem zqcu (hΓ : ΓOk Try.prog (delivery_Check_X c_delivery_Plan c_delivery_Valid c_delivery_in c_delivery_numbers).Γ) : SpecOk Try.prog 30 (zqcs (zqct c_delivery_Plan c_delivery_Valid c_delivery_in c_delivery_numbers)) :=
  spec_exec (X := (delivery_Check_X c_delivery_Plan c_delivery_Valid c_delivery_in c_delivery_numbers)) (Λ := pick1 []) (rs := [.tmp 4]) (c := bodyOf Try.f30) mixed tab_ok hΓ Try.func30 (by kernel_rfl) (by kernel_rfl) (by kernel_rfl) (by kernel_rfl) CutsOk_nil (fun x k r h => Eq.trans (b := (zqcs (zqct c_delivery_Plan c_delivery_Valid c_delivery_in c_delivery_numbers)).run x k) (by kernel_rfl) h)
end
theorem zqcvΓ : ΓOk Try.prog (pick1 [(13, .spec (zqbz zqcp)), (31, .spec (zqay zqb2)), (39, .spec (zq1n zq1r)), (59, .spec (zq53 zq57))]) := (ΓOk_cons zqcq (ΓOk_cons zqb3 (ΓOk_cons zq1s (ΓOk_cons zq58 ΓOk_nil))))
def zqcw : zqcr := zqct zqcp zqb2 zq1r zq57
theorem zqcx : SpecOk Try.prog 30 (zqcs zqcw) := zqcu zqcp zqb2 zq1r zq57 zqcvΓ

/-- pagewatch/delivery.Send -/
abbrev zqcy := {β : Type} → (Int × List (Int × (Int × (Int × Int)))) → zq2 → Int → (zq2 → Int → (List (Int × (Int × Int))) → Option β) → Option β
def zqcz (c : zqcy) : Spec :=
  ⟨[(true, [.data (.prod (.int .i64) (.slice (.prod (.int .i64) (.prod (.int .i64) (.prod (.int .i64) (.int .i64))))))]), (true, [.data zq3]), (false, [.data (.int .i64)])], [], [(true, [.data zq3]), (false, [.rowh 0]), (false, [.data (.int .i64)])], [.row 39 (.prod (.int .i64) (.prod (.int .i64) (.int .i64)))], fun x k => c x.1.1.1 x.1.2.1.1 x.1.2.2.1.1 (fun r0 r1 r2 => k (((r0, ()), (), (r1, ()), ()), (r2, ())))⟩
noncomputable def delivery_Send_p1_code : Code := codeAt 122 (bodyOf Try.f23)
abbrev zqd0 (β : Type) := Int → Int → Int → Int → Int → Int → Int → Int → Int → Int → Int → Int → (List (Int × (Int × Int))) → Option β
abbrev zqd1 := {β : Type} → zqd0 β → Int → (List (Int × (Int × Int))) → Int → Int → Int → Int → Int → Int → Int → Int → Int → Int → Int → Int → Int → Int → (List (Int × (Int × Int))) → Option β
def zqd2 : View := ⟨0, [2, 4, 6, 9, 23, 24, 25], [(false, [.data (.int .i64)]), (false, [.ptr 0 0]), (false, [.ptr 1 0]), (false, [.rowh 2]), (false, [.data (.slice (.prod (.int .i64) (.prod (.int .i64) (.int .i64))))]), (false, [.data (.int .i64)]), (false, [.data (.int .i64)])], [.cells 55 [.data (.int .i64), .data (.int .i64), .data (.int .i64), .data (.int .i64), .data (.int .i64), .data (.int .i64)], .cells 55 [.data (.int .i64), .data (.int .i64), .data (.int .i64), .data (.int .i64), .data (.int .i64), .data (.int .i64)], .row 39 (.prod (.int .i64) (.prod (.int .i64) (.int .i64)))]⟩
def zqd3 : List (AExit × View) := [(.exit 0, ⟨0, [4, 6, 9], [(false, [.ptr 0 0]), (false, [.ptr 1 0]), (false, [.rowh 2])], [.cells 55 [.data (.int .i64), .data (.int .i64), .data (.int .i64), .data (.int .i64), .data (.int .i64), .data (.int .i64)], .cells 55 [.data (.int .i64), .data (.int .i64), .data (.int .i64), .data (.int .i64), .data (.int .i64), .data (.int .i64)], .row 39 (.prod (.int .i64) (.prod (.int .i64) (.int .i64)))]⟩)]
@[reducible] def delivery_Send_p1_G (p : zqd1) {β : Type} (d : zqd2.den) (ks : Outs.K β zqd3) : Option β :=
  p (fun a0 a1 a2 a3 a4 a5 a6 a7 a8 a9 a10 a11 a12 => ks.1 (((), (), (), ()), ((a0, a1, a2, a3, a4, a5, ()), (a6, a7, a8, a9, a10, a11, ()), a12, ()))) d.1.1.1 d.1.2.2.2.2.1.1 d.1.2.2.2.2.2.1.1 d.1.2.2.2.2.2.2.1.1 d.2.1.1 d.2.1.2.1 d.2.1.2.2.1 d.2.1.2.2.2.1 d.2.1.2.2.2.2.1 d.2.1.2.2.2.2.2.1 d.2.2.1.1 d.2.2.1.2.1 d.2.2.1.2.2.1 d.2.2.1.2.2.2.1 d.2.2.1.2.2.2.2.1 d.2.2.1.2.2.2.2.2.1 d.2.2.2.1
section
variable (c_delivery_Check : zqcr) (c_delivery_Plan : zqby)
@[reducible] def delivery_Send_X : Ctx := ⟨look tab, pick1 [(30, .spec (zqcs c_delivery_Check)), (13, .spec (zqbz c_delivery_Plan))], false, false, false, true⟩
def zqd4 {β : Type} (rec : Int → (List (Int × (Int × Int))) → Int → Int → Int → Int → Int → Int → Int → Int → Int → Int → Int → Int → Int → Int → (List (Int × (Int × Int))) → Option β) (k1 : zqd0 β) (now : Int) (t23 : List (Int × (Int × Int))) (t24 : Int) (t25 : Int) (c : Int) (c2 : Int) (c3 : Int) (c4 : Int) (c5 : Int) (c6 : Int) (t6 : Int) (t62 : Int) (t63 : Int) (t64 : Int) (t65 : Int) (t66 : Int) (out : List (Int × (Int × Int))) : Option β :=
  cond (decide (t25 < t24))
  (cond (decide (0 ≤ t25) && decide (t25 < (List.length t23 : Int)))
  (let e : (Int × (Int × Int)) := List.getD t23 (Int.toNat t25) ((0 : Int), ((0 : Int), (0 : Int)));
  cond (!decide (c6 = (-1 : Int)))
  (k1 c c2 c3 c4 c5 c6 t6 t62 t63 t64 t65 t66 out)
  (cond (decide (now < e.2.2))
  (k1 c c2 c3 c4 c5 c6 t6 t62 t63 t64 t65 t66 out)
  (let l : List (Int × (Int × Int)) := ([e] : List (Int × (Int × Int)));
  cond (decide ((List.length out + List.length l) * 24 ≤ roomMax))
  (let l2 : List (Int × (Int × Int)) := (out ++ l);
  rec now t23 t24 (IntKind.i64.wrap (t25 + (1 : Int))) c c2 c3 c4 (IntKind.i64.wrap (c5 + (1 : Int))) c6 t6 t62 t63 t64 t65 t66 l2)
  none)))
  none)
  (k1 c c2 c3 c4 c5 c6 t6 t62 t63 t64 t65 t66 out)
def zqd5 {β : Type} : Nat → zqd0 β → Int → (List (Int × (Int × Int))) → Int → Int → Int → Int → Int → Int → Int → Int → Int → Int → Int → Int → Int → Int → (List (Int × (Int × Int))) → Option β
  | 0 => fun _ _ _ _ _ _ _ _ _ _ _ _ _ _ _ _ _ _ => none
  | i + 1 => fun k1 now t23 t24 t25 c c2 c3 c4 c5 c6 t6 t62 t63 t64 t65 t66 out => zqd4 (zqd5 i k1) k1 now t23 t24 t25 c c2 c3 c4 c5 c6 t6 t62 t63 t64 t65 t66 out
theorem zqd6 (hΓ : ΓOk Try.prog (delivery_Send_X c_delivery_Check c_delivery_Plan).Γ) (i : Nat) : PieceOk Try.prog 49 0 delivery_Send_p1_code zqd2 zqd3 (delivery_Send_p1_G (zqd5 i)) := by
  rw [show delivery_Send_p1_code = .loop (loopBody delivery_Send_p1_code) by kernel_rfl]
  exact piece_loop (X := (delivery_Send_X c_delivery_Check c_delivery_Plan)) (p := 1) (Λ := pick1 []) (G := fun i => @fun β d ks => delivery_Send_p1_G (zqd5 i) d ks) mixed tab_ok hΓ rfl (by kernel_rfl) CutsOk_nil (fun _ _ => rfl) (fun i => @fun β d ks r h => Eq.trans (b := delivery_Send_p1_G (zqd5 (i + 1)) d ks) (by kernel_rfl) h) i
def zqd7 (p1 : zqd1) {β : Type} (p_ : (Int × List (Int × (Int × (Int × Int))))) (c : zq2) (now : Int) (k : (zq2 → Int → (List (Int × (Int × Int))) → Option β)) : Option β :=
  c_delivery_Check p_ c (fun (rCheck : Bool) =>
  cond (!rCheck)
  (k ((0 : Int), ((0 : Int), ((0 : Int), ((0 : Int), ((0 : Int), (0 : Int)))))) (8 : Int) ([] : List (Int × (Int × Int))))
  (c_delivery_Plan p_ c.2.2.2.1 (fun (lrPlan : List (Int × (Int × Int))) =>
  cond (decide (0 ≤ c.2.2.2.2.1) && (decide (c.2.2.2.2.1 ≤ (List.length lrPlan : Int)) && decide ((List.length lrPlan : Int) ≤ (List.length lrPlan : Int))))
  (p1 (fun (c2 : Int) (c3 : Int) (c4 : Int) (c5 : Int) (c6 : Int) (c7 : Int) (t6 : Int) (t62 : Int) (t63 : Int) (t64 : Int) (t65 : Int) (t66 : Int) (out : List (Int × (Int × Int))) =>
  k (c2, (c3, (c4, (c5, (c6, c7))))) (0 : Int) out) now (List.drop (Int.toNat c.2.2.2.2.1) (List.take (Int.toNat (List.length lrPlan : Int)) lrPlan)) (List.length (List.drop (Int.toNat c.2.2.2.2.1) (List.take (Int.toNat (List.length lrPlan : Int)) lrPlan)) : Int) (0 : Int) c.1 c.2.1 c.2.2.1 c.2.2.2.1 c.2.2.2.2.1 c.2.2.2.2.2 (0 : Int) (0 : Int) (0 : Int) (0 : Int) (0 : Int) (0 : Int) ([] : List (Int × (Int × Int))))
  none)))
theorem zqd8 (hΓ : ΓOk Try.prog (delivery_Send_X c_delivery_Check c_delivery_Plan).Γ) (p1 : zqd1) (hp1 : PieceOk Try.prog 49 0 delivery_Send_p1_code zqd2 zqd3 (delivery_Send_p1_G p1)) : SpecOk Try.prog 23 (zqcz (zqd7 c_delivery_Check c_delivery_Plan p1)) :=
  spec_exec (X := (delivery_Send_X c_delivery_Check c_delivery_Plan)) (Λ := pick1 [(122, pieceCut zqd2 zqd3 (delivery_Send_p1_G p1))]) (rs := [.cell 6 55, .tmp 7, .tmp 8]) (c := bodyOf Try.f23) mixed tab_ok hΓ Try.func23 (by kernel_rfl) (by kernel_rfl) (by kernel_rfl) (by kernel_rfl) (CutsOk_cons (q := 122) (c' := delivery_Send_p1_code) (by kernel_rfl) rfl hp1 CutsOk_nil) (fun x k r h => Eq.trans (b := (zqcz (zqd7 c_delivery_Check c_delivery_Plan p1)).run x k) (by kernel_rfl) h)
end
theorem zqd9Γ : ΓOk Try.prog (pick1 [(30, .spec (zqcs zqcw)), (13, .spec (zqbz zqcp))]) := (ΓOk_cons zqcx (ΓOk_cons zqcq ΓOk_nil))
def zqda (m : Nat) : zqd1 := zqd5 m
theorem zqdb {β : Type} (i : Nat) (k1 now t23 t24 t25 c c2 c3 c4 c5 c6 t6 t62 t63 t64 t65 t66 out) : (zqda (i + 1) k1 now t23 t24 t25 c c2 c3 c4 c5 c6 t6 t62 t63 t64 t65 t66 out : Option β) = zqd4 (zqda i k1) k1 now t23 t24 t25 c c2 c3 c4 c5 c6 t6 t62 t63 t64 t65 t66 out := rfl
def zqdc : zqd1 := zqda fuel
theorem zqdd : PieceOk Try.prog 49 0 delivery_Send_p1_code zqd2 zqd3 (delivery_Send_p1_G zqdc) := zqd6 zqcw zqcp zqd9Γ fuel
def zqde : zqcy := zqd7 zqcw zqcp zqdc
theorem zqdf : SpecOk Try.prog 23 (zqcz zqde) := zqd8 zqcw zqcp zqd9Γ zqdc zqdd

/-- pagewatch/delivery.Receipt -/
abbrev zqdg := {β : Type} → (Int × List (Int × (Int × (Int × Int)))) → zq2 → Int → Int → (zq2 → Int → Option β) → Option β
def zqdh (c : zqdg) : Spec :=
  ⟨[(true, [.data (.prod (.int .i64) (.slice (.prod (.int .i64) (.prod (.int .i64) (.prod (.int .i64) (.int .i64))))))]), (true, [.data zq3]), (false, [.data (.int .i64)]), (false, [.data (.int .i64)])], [], [(true, [.data zq3]), (false, [.data (.int .i64)])], [], fun x k => c x.1.1.1 x.1.2.1.1 x.1.2.2.1.1 x.1.2.2.2.1.1 (fun r0 r1 => k (((r0, ()), (r1, ()), ()), ()))⟩
section
variable (c_delivery_Check : zqcr) (c_delivery_Plan : zqby) (c_delivery_in : zq1m)
@[reducible] def delivery_Receipt_X : Ctx := ⟨look tab, pick1 [(30, .spec (zqcs c_delivery_Check)), (13, .spec (zqbz c_delivery_Plan)), (39, .spec (zq1n c_delivery_in))], false, false, false, false⟩
def zqdi {β : Type} (p_ : (Int × List (Int × (Int × (Int × Int))))) (c : zq2) (attempt : Int) (at_ : Int) (k : (zq2 → Int → Option β)) : Option β :=
  c_delivery_Check p_ c (fun (rCheck : Bool) =>
  cond (!rCheck)
  (k ((0 : Int), ((0 : Int), ((0 : Int), ((0 : Int), ((0 : Int), (0 : Int)))))) (8 : Int))
  (c_delivery_in attempt (0 : Int) (IntKind.i64.wrap (c.2.2.2.2.1 - (1 : Int))) (fun (rin : Bool) =>
  cond (!rin)
  (k ((0 : Int), ((0 : Int), ((0 : Int), ((0 : Int), ((0 : Int), (0 : Int)))))) (3 : Int))
  (c_delivery_Plan p_ c.2.2.2.1 (fun (lrPlan : List (Int × (Int × Int))) =>
  cond (decide (0 ≤ attempt) && decide (attempt < (List.length lrPlan : Int)))
  (c_delivery_in at_ (((List.getD lrPlan (Int.toNat attempt) ((0 : Int), ((0 : Int), (0 : Int)))).2).2) (8590193792 : Int) (fun (rin2 : Bool) =>
  cond (!rin2)
  (k ((0 : Int), ((0 : Int), ((0 : Int), ((0 : Int), ((0 : Int), (0 : Int)))))) (6 : Int))
  (cond (decide (c.2.2.2.2.2 = (-1 : Int)))
  (k (c.1, (c.2.1, (c.2.2.1, (c.2.2.2.1, (c.2.2.2.2.1, at_))))) (0 : Int))
  (cond (decide (at_ < c.2.2.2.2.2))
  (k (c.1, (c.2.1, (c.2.2.1, (c.2.2.2.1, (c.2.2.2.2.1, at_))))) (0 : Int))
  (k c (0 : Int))))))
  none)))))
theorem zqdj (hΓ : ΓOk Try.prog (delivery_Receipt_X c_delivery_Check c_delivery_Plan c_delivery_in).Γ) : SpecOk Try.prog 26 (zqdh (zqdi c_delivery_Check c_delivery_Plan c_delivery_in)) :=
  spec_exec (X := (delivery_Receipt_X c_delivery_Check c_delivery_Plan c_delivery_in)) (Λ := pick1 []) (rs := [.cell 8 55, .tmp 9]) (c := bodyOf Try.f26) mixed tab_ok hΓ Try.func26 (by kernel_rfl) (by kernel_rfl) (by kernel_rfl) (by kernel_rfl) CutsOk_nil (fun x k r h => Eq.trans (b := (zqdh (zqdi c_delivery_Check c_delivery_Plan c_delivery_in)).run x k) (by kernel_rfl) h)
end
theorem zqdkΓ : ΓOk Try.prog (pick1 [(30, .spec (zqcs zqcw)), (13, .spec (zqbz zqcp)), (39, .spec (zq1n zq1r))]) := (ΓOk_cons zqcx (ΓOk_cons zqcq (ΓOk_cons zq1s ΓOk_nil)))
def zqdl : zqdg := zqdi zqcw zqcp zq1r
theorem zqdm : SpecOk Try.prog 26 (zqdh zqdl) := zqdj zqcw zqcp zq1r zqdkΓ

/-- pagewatch/delivery.Next -/
abbrev zqdn := {β : Type} → (Int × List (Int × (Int × (Int × Int)))) → zq2 → (Int → Bool → Option β) → Option β
def zqdo (c : zqdn) : Spec :=
  ⟨[(true, [.data (.prod (.int .i64) (.slice (.prod (.int .i64) (.prod (.int .i64) (.prod (.int .i64) (.int .i64))))))]), (true, [.data zq3])], [], [(false, [.data (.int .i64)]), (false, [.data .bool])], [], fun x k => c x.1.1.1 x.1.2.1.1 (fun r0 r1 => k (((r0, ()), (r1, ()), ()), ()))⟩
section
variable (c_delivery_Check : zqcr) (c_delivery_Plan : zqby)
@[reducible] def delivery_Next_X : Ctx := ⟨look tab, pick1 [(30, .spec (zqcs c_delivery_Check)), (13, .spec (zqbz c_delivery_Plan))], false, false, false, false⟩
def zqdp {β : Type} (p_ : (Int × List (Int × (Int × (Int × Int))))) (c : zq2) (k : (Int → Bool → Option β)) : Option β :=
  c_delivery_Check p_ c (fun (rCheck : Bool) =>
  cond (!rCheck)
  (k (0 : Int) false)
  (cond (!decide (c.2.2.2.2.2 = (-1 : Int)))
  (k (0 : Int) false)
  (c_delivery_Plan p_ c.2.2.2.1 (fun (lrPlan : List (Int × (Int × Int))) =>
  cond (decide (c.2.2.2.2.1 = (List.length lrPlan : Int)))
  (k (0 : Int) false)
  (cond (decide (0 ≤ c.2.2.2.2.1) && decide (c.2.2.2.2.1 < (List.length lrPlan : Int)))
  (let t : Int := ((List.getD lrPlan (Int.toNat c.2.2.2.2.1) ((0 : Int), ((0 : Int), (0 : Int)))).2).2;
  k t true)
  none)))))
theorem zqdq (hΓ : ΓOk Try.prog (delivery_Next_X c_delivery_Check c_delivery_Plan).Γ) : SpecOk Try.prog 27 (zqdo (zqdp c_delivery_Check c_delivery_Plan)) :=
  spec_exec (X := (delivery_Next_X c_delivery_Check c_delivery_Plan)) (Λ := pick1 []) (rs := [.tmp 4, .tmp 5]) (c := bodyOf Try.f27) mixed tab_ok hΓ Try.func27 (by kernel_rfl) (by kernel_rfl) (by kernel_rfl) (by kernel_rfl) CutsOk_nil (fun x k r h => Eq.trans (b := (zqdo (zqdp c_delivery_Check c_delivery_Plan)).run x k) (by kernel_rfl) h)
end
theorem zqdrΓ : ΓOk Try.prog (pick1 [(30, .spec (zqcs zqcw)), (13, .spec (zqbz zqcp))]) := (ΓOk_cons zqcx (ΓOk_cons zqcq ΓOk_nil))
def zqds : zqdn := zqdp zqcw zqcp
theorem zqdt : SpecOk Try.prog 27 (zqdo zqds) := zqdq zqcw zqcp zqdrΓ

/-- slices.IndexFunc[[]int,int] -/
abbrev zqdu := {β : Type} → (List Int) → (Int × (Int × Int)) → (Int → (Int × (Int × Int)) → Option β) → Option β
def zqdv (c : zqdu) : Spec :=
  ⟨[(false, [.data (.slice (.int .i64))]), (false, [.fn 45 [0]])], [.cells 39 [.data (.prod (.int .i64) (.prod (.int .i64) (.int .i64)))]], [(false, [.data (.int .i64)])], [.cells 39 [.data (.prod (.int .i64) (.prod (.int .i64) (.int .i64)))]], fun x k => c x.1.1.1 x.2.1.1 (fun r0 r1 => k (((r0, ()), ()), ((r1, ()), ())))⟩
noncomputable def slices_IndexFunc_int_int_vdelivery_Run_f1_p1_code : Code := codeAt 26 (bodyOf Try.f67)
abbrev zqdw (β : Type) := Int → Int → Int → Int → Option β
abbrev zqdx (β : Type) := Int → Int → Int → Option β
abbrev zqdy := {β : Type} → zqdw β → zqdx β → (List Int) → Int → Int → Int → Int → Int → Option β
def zqdz : View := ⟨1, [0, 1, 7, 8], [(false, [.data (.slice (.int .i64))]), (false, [.fn 45 [0]]), (false, [.data (.int .i64)]), (false, [.data (.int .i64)])], [.cells 39 [.data (.int .i64), .data (.int .i64), .data (.int .i64)]]⟩
def zqe0 : List (AExit × View) := [(.ret, ⟨1, [4], [(false, [.data (.int .i64)])], [.cells 39 [.data (.int .i64), .data (.int .i64), .data (.int .i64)]]⟩), (.exit 0, ⟨1, [], [], [.cells 39 [.data (.int .i64), .data (.int .i64), .data (.int .i64)]]⟩)]
@[reducible] def slices_IndexFunc_int_int_vdelivery_Run_f1_p1_G (p : zqdy) {β : Type} (d : zqdz.den) (ks : Outs.K β zqe0) : Option β :=
  p (fun a0 a1 a2 a3 => ks.1 (((a0, ()), ()), ((a1, a2, a3, ()), ()))) (fun a0 a1 a2 => ks.2.1 ((), ((a0, a1, a2, ()), ()))) d.1.1.1 d.1.2.2.1.1 d.1.2.2.2.1.1 d.2.1.1 d.2.1.2.1 d.2.1.2.2.1
section
variable (c_delivery_Run_f1 : zq1t)
@[reducible] def slices_IndexFunc_int_int_vdelivery_Run_f1_X : Ctx := ⟨look tab, pick1 [(45, .spec (zq1u c_delivery_Run_f1))], false, false, false, false⟩
def zqe1 {β : Type} (rec : (List Int) → Int → Int → Int → Int → Int → Option β) (k1 : zqdw β) (k2 : zqdx β) (s : List Int) (t7 : Int) (t8 : Int) (b0_ : Int) (b0_2 : Int) (b0_3 : Int) : Option β :=
  cond (decide (t8 < t7))
  (cond (decide (0 ≤ t8) && decide (t8 < (List.length s : Int)))
  (let e : Int := List.getD s (Int.toNat t8) (0 : Int);
  c_delivery_Run_f1 e (b0_, (b0_2, b0_3)) (fun (rRun1 : Bool) (mrRun1 : (Int × (Int × Int))) =>
  cond rRun1
  (k1 t8 mrRun1.1 mrRun1.2.1 mrRun1.2.2)
  (rec s t7 (IntKind.i64.wrap (t8 + (1 : Int))) mrRun1.1 mrRun1.2.1 mrRun1.2.2)))
  none)
  (k2 b0_ b0_2 b0_3)
def zqe2 {β : Type} : Nat → zqdw β → zqdx β → (List Int) → Int → Int → Int → Int → Int → Option β
  | 0 => fun _ _ _ _ _ _ _ _ => none
  | i + 1 => fun k1 k2 s t7 t8 b0_ b0_2 b0_3 => zqe1 c_delivery_Run_f1 (zqe2 i k1 k2) k1 k2 s t7 t8 b0_ b0_2 b0_3
theorem zqe3 (hΓ : ΓOk Try.prog (slices_IndexFunc_int_int_vdelivery_Run_f1_X c_delivery_Run_f1).Γ) (i : Nat) : PieceOk Try.prog 19 1 slices_IndexFunc_int_int_vdelivery_Run_f1_p1_code zqdz zqe0 (slices_IndexFunc_int_int_vdelivery_Run_f1_p1_G (zqe2 c_delivery_Run_f1 i)) := by
  rw [show slices_IndexFunc_int_int_vdelivery_Run_f1_p1_code = .loop (loopBody slices_IndexFunc_int_int_vdelivery_Run_f1_p1_code) by kernel_rfl]
  exact piece_loop (X := (slices_IndexFunc_int_int_vdelivery_Run_f1_X c_delivery_Run_f1)) (p := 1) (Λ := pick1 []) (G := fun i => @fun β d ks => slices_IndexFunc_int_int_vdelivery_Run_f1_p1_G (zqe2 c_delivery_Run_f1 i) d ks) mixed tab_ok hΓ rfl (by kernel_rfl) CutsOk_nil (fun _ _ => rfl) (fun i => @fun β d ks r h => Eq.trans (b := slices_IndexFunc_int_int_vdelivery_Run_f1_p1_G (zqe2 c_delivery_Run_f1 (i + 1)) d ks) (by kernel_rfl) h) i
def zqe4 (p1 : zqdy) {β : Type} (s : List Int) (b0_ : (Int × (Int × Int))) (k : (Int → (Int × (Int × Int)) → Option β)) : Option β :=
  p1 (fun (t4 : Int) (b0_2 : Int) (b0_3 : Int) (b0_4 : Int) =>
  k t4 (b0_2, (b0_3, b0_4))) (fun (b0_2 : Int) (b0_3 : Int) (b0_4 : Int) =>
  k (-1 : Int) (b0_2, (b0_3, b0_4))) s (List.length s : Int) (0 : Int) b0_.1 b0_.2.1 b0_.2.2
theorem zqe5 (hΓ : ΓOk Try.prog (slices_IndexFunc_int_int_vdelivery_Run_f1_X c_delivery_Run_f1).Γ) (p1 : zqdy) (hp1 : PieceOk Try.prog 19 1 slices_IndexFunc_int_int_vdelivery_Run_f1_p1_code zqdz zqe0 (slices_IndexFunc_int_int_vdelivery_Run_f1_p1_G p1)) : SpecOk Try.prog 67 (zqdv (zqe4 p1)) :=
  spec_exec (X := (slices_IndexFunc_int_int_vdelivery_Run_f1_X c_delivery_Run_f1)) (Λ := pick1 [(26, pieceCut zqdz zqe0 (slices_IndexFunc_int_int_vdelivery_Run_f1_p1_G p1))]) (rs := [.tmp 4]) (c := bodyOf Try.f67) mixed tab_ok hΓ Try.func67 (by kernel_rfl) (by kernel_rfl) (by kernel_rfl) (by kernel_rfl) (CutsOk_cons (q := 26) (c' := slices_IndexFunc_int_int_vdelivery_Run_f1_p1_code) (by kernel_rfl) rfl hp1 CutsOk_nil) (fun x k r h => Eq.trans (b := (zqdv (zqe4 p1)).run x k) (by kernel_rfl) h)
end
theorem zqe6Γ : ΓOk Try.prog (pick1 [(45, .spec (zq1u zq1y))]) := (ΓOk_cons zq1z ΓOk_nil)
def zqe7 (m : Nat) : zqdy := zqe2 zq1y m
theorem zqe8 {β : Type} (i : Nat) (k1 k2 s t7 t8 b0_ b0_2 b0_3) : (zqe7 (i + 1) k1 k2 s t7 t8 b0_ b0_2 b0_3 : Option β) = zqe1 zq1y (zqe7 i k1 k2) k1 k2 s t7 t8 b0_ b0_2 b0_3 := rfl
def zqe9 : zqdy := zqe7 fuel
theorem zqea : PieceOk Try.prog 19 1 slices_IndexFunc_int_int_vdelivery_Run_f1_p1_code zqdz zqe0 (slices_IndexFunc_int_int_vdelivery_Run_f1_p1_G zqe9) := zqe3 zq1y zqe6Γ fuel
def zqeb : zqdu := zqe4 zqe9
theorem zqec : SpecOk Try.prog 67 (zqdv zqeb) := zqe5 zq1y zqe6Γ zqe9 zqea

/-- slices.ContainsFunc[[]int,int] -/
abbrev zqed := {β : Type} → (List Int) → (Int × (Int × Int)) → (Bool → (Int × (Int × Int)) → Option β) → Option β
def zqee (c : zqed) : Spec :=
  ⟨[(false, [.data (.slice (.int .i64))]), (false, [.fn 45 [0]])], [.cells 39 [.data (.prod (.int .i64) (.prod (.int .i64) (.int .i64)))]], [(false, [.data .bool])], [.cells 39 [.data (.prod (.int .i64) (.prod (.int .i64) (.int .i64)))]], fun x k => c x.1.1.1 x.2.1.1 (fun r0 r1 => k (((r0, ()), ()), ((r1, ()), ())))⟩
section
variable (c_slices_IndexFunc_int_int_vdelivery_Run_f1 : zqdu)
@[reducible] def slices_ContainsFunc_int_int_vdelivery_Run_f1_X : Ctx := ⟨look tab, pick1 [(67, .spec (zqdv c_slices_IndexFunc_int_int_vdelivery_Run_f1))], false, false, false, false⟩
def zqef {β : Type} (s : List Int) (b0_ : (Int × (Int × Int))) (k : (Bool → (Int × (Int × Int)) → Option β)) : Option β :=
  c_slices_IndexFunc_int_int_vdelivery_Run_f1 s b0_ (fun (rIndexFuncintint : Int) (mrIndexFuncintint : (Int × (Int × Int))) =>
  let t : Bool := (decide ((0 : Int) ≤ rIndexFuncintint));
  k t mrIndexFuncintint)
theorem zqeg (hΓ : ΓOk Try.prog (slices_ContainsFunc_int_int_vdelivery_Run_f1_X c_slices_IndexFunc_int_int_vdelivery_Run_f1).Γ) : SpecOk Try.prog 44 (zqee (zqef c_slices_IndexFunc_int_int_vdelivery_Run_f1)) :=
  spec_exec (X := (slices_ContainsFunc_int_int_vdelivery_Run_f1_X c_slices_IndexFunc_int_int_vdelivery_Run_f1)) (Λ := pick1 []) (rs := [.tmp 4]) (c := bodyOf Try.f44) mixed tab_ok hΓ Try.func44 (by kernel_rfl) (by kernel_rfl) (by kernel_rfl) (by kernel_rfl) CutsOk_nil (fun x k r h => Eq.trans (b := (zqee (zqef c_slices_IndexFunc_int_int_vdelivery_Run_f1)).run x k) (by kernel_rfl) h)
end
theorem zqehΓ : ΓOk Try.prog (pick1 [(67, .spec (zqdv zqeb))]) := (ΓOk_cons zqec ΓOk_nil)
def zqei : zqed := zqef zqeb
theorem zqej : SpecOk Try.prog 44 (zqee zqei) := zqeg zqeb zqehΓ

/-- pagewatch/delivery.Run -/
abbrev zqek := {β : Type} → (Int × List (Int × (Int × (Int × Int)))) → Int → (List (List zq0)) → (Int → (List Int) → (List Int) → Option β) → Option β
def zqel (c : zqek) : Spec :=
  ⟨[(true, [.data (.prod (.int .i64) (.slice (.prod (.int .i64) (.prod (.int .i64) (.prod (.int .i64) (.int .i64))))))]), (false, [.data (.int .i64)]), (false, [.data (.slice (.slice zq1))])], [], [(false, [.rowh 0]), (false, [.rowh 1]), (false, [.data (.int .i64)])], [.row 3 (.int .i64), .row 3 (.int .i64)], fun x k => c x.1.1.1 x.1.2.1.1 x.1.2.2.1.1 (fun r0 r1 r2 => k (((), (), (r0, ()), ()), (r1, r2, ())))⟩
noncomputable def delivery_Run_p3_code : Code := codeAt 58 (bodyOf Try.f16)
noncomputable def delivery_Run_p1_code : Code := codeAt 463 (loopBody delivery_Run_p3_code)
noncomputable def delivery_Run_p2_code : Code := codeAt 115 (loopBody delivery_Run_p3_code)
abbrev zqem (β : Type) := (List (List zq0)) → Int → Int → Int → (List Int) → (List Int) → (List (Int × (Int × Int))) → Option β
abbrev zqen := {β : Type} → zqem β → (List (List zq0)) → Int → (List zq0) → Int → Int → (List Int) → (List Int) → (List (Int × (Int × Int))) → Int → Int → Int → Option β
def zqeo : View := ⟨0, [2, 6, 7, 8, 9, 11, 12, 17, 18, 19], [(false, [.data (.slice (.slice zq1))]), (false, [.rowh 0]), (false, [.rowh 1]), (false, [.data (.int .i64)]), (false, [.rowh 2]), (false, [.ptr 3 0]), (false, [.data (.slice zq1)]), (false, [.rowh 2]), (false, [.data (.int .i64)]), (false, [.data (.int .i64)])], [.row 3 (.int .i64), .row 3 (.int .i64), .row 39 (.prod (.int .i64) (.prod (.int .i64) (.int .i64))), .cells 39 [.data (.int .i64), .data (.int .i64), .data (.int .i64)]]⟩
def zqep : List (AExit × View) := [(.normal, ⟨0, [2, 6, 7, 8, 9, 17, 18, 19], [(false, [.data (.slice (.slice zq1))]), (false, [.rowh 0]), (false, [.rowh 1]), (false, [.data (.int .i64)]), (false, [.rowh 2]), (false, [.rowh 2]), (false, [.data (.int .i64)]), (false, [.data (.int .i64)])], [.row 3 (.int .i64), .row 3 (.int .i64), .row 39 (.prod (.int .i64) (.prod (.int .i64) (.int .i64)))]⟩)]
@[reducible] def delivery_Run_p1_G (p : zqen) {β : Type} (d : zqeo.den) (ks : Outs.K β zqep) : Option β :=
  p (fun a0 a1 a2 a3 a4 a5 a6 => ks.1 (((a0, ()), (), (), (a1, ()), (), (), (a2, ()), (a3, ()), ()), (a4, a5, a6, ()))) d.1.1.1 d.1.2.2.2.1.1 d.1.2.2.2.2.2.2.1.1 d.1.2.2.2.2.2.2.2.2.1.1 d.1.2.2.2.2.2.2.2.2.2.1.1 d.2.1 d.2.2.1 d.2.2.2.1 d.2.2.2.2.1.1 d.2.2.2.2.1.2.1 d.2.2.2.2.1.2.2.1
abbrev zqeq (β : Type) := (List (List zq0)) → Int → Int → Int → (List Int) → (List Int) → (List (Int × (Int × Int))) → Option β
abbrev zqer := {β : Type} → zqeq β → (List (List zq0)) → Int → Int → Int → (List Int) → (List Int) → (List (Int × (Int × Int))) → Int → Int → Int → Option β
def zqes : View := ⟨0, [2, 6, 7, 8, 9, 11, 17, 18, 19], [(false, [.data (.slice (.slice zq1))]), (false, [.rowh 0]), (false, [.rowh 1]), (false, [.data (.int .i64)]), (false, [.rowh 2]), (false, [.ptr 3 0]), (false, [.rowh 2]), (false, [.data (.int .i64)]), (false, [.data (.int .i64)])], [.row 3 (.int .i64), .row 3 (.int .i64), .row 39 (.prod (.int .i64) (.prod (.int .i64) (.int .i64))), .cells 39 [.data (.int .i64), .data (.int .i64), .data (.int .i64)]]⟩
def zqet : List (AExit × View) := [(.normal, ⟨0, [2, 6, 7, 8, 9, 17, 18, 19], [(false, [.data (.slice (.slice zq1))]), (false, [.rowh 0]), (false, [.rowh 1]), (false, [.data (.int .i64)]), (false, [.rowh 2]), (false, [.rowh 2]), (false, [.data (.int .i64)]), (false, [.data (.int .i64)])], [.row 3 (.int .i64), .row 3 (.int .i64), .row 39 (.prod (.int .i64) (.prod (.int .i64) (.int .i64)))]⟩)]
@[reducible] def delivery_Run_p2_G (p : zqer) {β : Type} (d : zqes.den) (ks : Outs.K β zqet) : Option β :=
  p (fun a0 a1 a2 a3 a4 a5 a6 => ks.1 (((a0, ()), (), (), (a1, ()), (), (), (a2, ()), (a3, ()), ()), (a4, a5, a6, ()))) d.1.1.1 d.1.2.2.2.1.1 d.1.2.2.2.2.2.2.2.1.1 d.1.2.2.2.2.2.2.2.2.1.1 d.2.1 d.2.2.1 d.2.2.2.1 d.2.2.2.2.1.1 d.2.2.2.2.1.2.1 d.2.2.2.2.1.2.2.1
abbrev zqeu (β : Type) := Int → (List Int) → (List Int) → Option β
abbrev zqev := {β : Type} → zqeu β → (List (List zq0)) → Int → Int → Int → (List Int) → (List Int) → (List (Int × (Int × Int))) → Option β
def zqew : View := ⟨0, [2, 6, 7, 8, 9, 17, 18, 19], [(false, [.data (.slice (.slice zq1))]), (false, [.rowh 0]), (false, [.rowh 1]), (false, [.data (.int .i64)]), (false, [.rowh 2]), (false, [.rowh 2]), (false, [.data (.int .i64)]), (false, [.data (.int .i64)])], [.row 3 (.int .i64), .row 3 (.int .i64), .row 39 (.prod (.int .i64) (.prod (.int .i64) (.int .i64)))]⟩
def zqex : List (AExit × View) := [(.exit 0, ⟨0, [6, 7, 8], [(false, [.rowh 0]), (false, [.rowh 1]), (false, [.data (.int .i64)])], [.row 3 (.int .i64), .row 3 (.int .i64)]⟩)]
@[reducible] def delivery_Run_p3_G (p : zqev) {β : Type} (d : zqew.den) (ks : Outs.K β zqex) : Option β :=
  p (fun a0 a1 a2 => ks.1 (((), (), (a0, ()), ()), (a1, a2, ()))) d.1.1.1 d.1.2.2.2.1.1 d.1.2.2.2.2.2.2.1.1 d.1.2.2.2.2.2.2.2.1.1 d.2.1 d.2.2.1 d.2.2.2.1
section
variable (c_channel_Arrivals : zq46) (c_channel_Fates : zq3z) (c_channel_Receipts : zq4d) (c_delivery_Plan : zqby) (c_slices_ContainsFunc_int_int_vdelivery_Run_f1 : zqed)
@[reducible] def delivery_Run_X : Ctx := ⟨look tab, pick1 [(47, .spec (zq47 c_channel_Arrivals)), (46, .spec (zq40 c_channel_Fates)), (48, .spec (zq4e c_channel_Receipts)), (13, .spec (zqbz c_delivery_Plan)), (44, .spec (zqee c_slices_ContainsFunc_int_int_vdelivery_Run_f1)), (49, .rows zq22)], false, false, false, false⟩
def zqey {β : Type} (k1 : zqem β) (fates : List (List zq0)) (sent : Int) (f : List zq0) (t18 : Int) (t19 : Int) (arrivals : List Int) (receipts : List Int) (l : List (Int × (Int × Int))) (a : Int) (a2 : Int) (a3 : Int) : Option β :=
  c_channel_Fates f a2 (fun (rFates : zq0) =>
  c_channel_Arrivals a3 rFates (fun (lrArrivals : List Int) =>
  cond (decide ((List.length arrivals + List.length lrArrivals) * 8 ≤ roomMax))
  (let l2 : List Int := (arrivals ++ lrArrivals);
  c_channel_Receipts a3 rFates (fun (lrReceipts : List Int) =>
  cond (decide ((List.length receipts + List.length lrReceipts) * 8 ≤ roomMax))
  (let l3 : List Int := (receipts ++ lrReceipts);
  let sent2 : Int := (IntKind.i64.wrap (sent + (1 : Int)));
  k1 fates sent2 t18 t19 l2 l3 l)
  none))
  none))
def zqez {β : Type} (k1 : zqem β) (fates : List (List zq0)) (sent : Int) (f : List zq0) (t18 : Int) (t19 : Int) (arrivals : List Int) (receipts : List Int) (l : List (Int × (Int × Int))) (a : Int) (a2 : Int) (a3 : Int) : Option β := zqey c_channel_Arrivals c_channel_Fates c_channel_Receipts k1 fates sent f t18 t19 arrivals receipts l a a2 a3
theorem zqf0 (hΓ : ΓOk Try.prog (delivery_Run_X c_channel_Arrivals c_channel_Fates c_channel_Receipts c_delivery_Plan c_slices_ContainsFunc_int_int_vdelivery_Run_f1).Γ) : PieceOk Try.prog 76 0 delivery_Run_p1_code zqeo zqep (delivery_Run_p1_G (zqez c_channel_Arrivals c_channel_Fates c_channel_Receipts)) :=
  piece_exec (X := (delivery_Run_X c_channel_Arrivals c_channel_Fates c_channel_Receipts c_delivery_Plan c_slices_ContainsFunc_int_int_vdelivery_Run_f1)) (p := 463) (Λ := pick1 []) mixed tab_ok hΓ (by kernel_rfl) CutsOk_nil (fun d ks r h => Eq.trans (b := delivery_Run_p1_G (zqez c_channel_Arrivals c_channel_Fates c_channel_Receipts) d ks) (by kernel_rfl) h)
def zqf1 (p1 : zqen) {β : Type} (k1 : zqeq β) (fates : List (List zq0)) (sent : Int) (t18 : Int) (t19 : Int) (arrivals : List Int) (receipts : List Int) (l : List (Int × (Int × Int))) (a : Int) (a2 : Int) (a3 : Int) : Option β :=
  cond (decide (a < (List.length fates : Int)))
  (cond (decide (0 ≤ a) && decide (a < (List.length fates : Int)))
  (let e : List zq0 := List.getD fates (Int.toNat a) ([] : List zq0);
  p1 (fun (fates2 : List (List zq0)) (sent2 : Int) (t182 : Int) (t192 : Int) (arrivals2 : List Int) (receipts2 : List Int) (l2 : List (Int × (Int × Int))) =>
  k1 fates2 sent2 t182 t192 arrivals2 receipts2 l2) fates sent e t18 t19 arrivals receipts l a a2 a3)
  none)
  (p1 (fun (fates2 : List (List zq0)) (sent2 : Int) (t182 : Int) (t192 : Int) (arrivals2 : List Int) (receipts2 : List Int) (l2 : List (Int × (Int × Int))) =>
  k1 fates2 sent2 t182 t192 arrivals2 receipts2 l2) fates sent ([] : List zq0) t18 t19 arrivals receipts l a a2 a3)
def zqf2 (p1 : zqen) {β : Type} (k1 : zqeq β) (fates : List (List zq0)) (sent : Int) (t18 : Int) (t19 : Int) (arrivals : List Int) (receipts : List Int) (l : List (Int × (Int × Int))) (a : Int) (a2 : Int) (a3 : Int) : Option β := zqf1 p1 k1 fates sent t18 t19 arrivals receipts l a a2 a3
theorem zqf3 (hΓ : ΓOk Try.prog (delivery_Run_X c_channel_Arrivals c_channel_Fates c_channel_Receipts c_delivery_Plan c_slices_ContainsFunc_int_int_vdelivery_Run_f1).Γ) (p1 : zqen) (hp1 : PieceOk Try.prog 76 0 delivery_Run_p1_code zqeo zqep (delivery_Run_p1_G p1)) : PieceOk Try.prog 76 0 delivery_Run_p2_code zqes zqet (delivery_Run_p2_G (zqf2 p1)) :=
  piece_exec (X := (delivery_Run_X c_channel_Arrivals c_channel_Fates c_channel_Receipts c_delivery_Plan c_slices_ContainsFunc_int_int_vdelivery_Run_f1)) (p := 115) (Λ := pick1 [(463, pieceCut zqeo zqep (delivery_Run_p1_G p1))]) mixed tab_ok hΓ (by kernel_rfl) (CutsOk_cons (q := 463) (c' := delivery_Run_p1_code) (by kernel_rfl) rfl hp1 CutsOk_nil) (fun d ks r h => Eq.trans (b := delivery_Run_p2_G (zqf2 p1) d ks) (by kernel_rfl) h)
def zqf4 (p2 : zqer) {β : Type} (rec : (List (List zq0)) → Int → Int → Int → (List Int) → (List Int) → (List (Int × (Int × Int))) → Option β) (k1 : zqeu β) (fates : List (List zq0)) (sent : Int) (t18 : Int) (t19 : Int) (arrivals : List Int) (receipts : List Int) (l : List (Int × (Int × Int))) : Option β :=
  cond (decide (t19 < t18))
  (cond (decide (0 ≤ t19) && decide (t19 < (List.length l : Int)))
  (cond (decide (t19 = (0 : Int)))
  (c_slices_ContainsFunc_int_int_vdelivery_Run_f1 receipts ((List.getD l (Int.toNat t19) ((0 : Int), ((0 : Int), (0 : Int)))).1, ((List.getD l (Int.toNat t19) ((0 : Int), ((0 : Int), (0 : Int)))).2)) (fun (rContainsFuncintint : Bool) (mrContainsFuncintint : (Int × (Int × Int))) =>
  cond rContainsFuncintint
  (k1 sent arrivals receipts)
  (p2 (fun (fates2 : List (List zq0)) (sent2 : Int) (t182 : Int) (t192 : Int) (arrivals2 : List Int) (receipts2 : List Int) (l2 : List (Int × (Int × Int))) =>
  rec fates2 sent2 t182 (IntKind.i64.wrap (t192 + (1 : Int))) arrivals2 receipts2 l2) fates sent t18 t19 arrivals receipts l mrContainsFuncintint.1 mrContainsFuncintint.2.1 mrContainsFuncintint.2.2)))
  (cond (decide (0 ≤ (IntKind.i64.wrap (t19 - (1 : Int)))) && decide ((IntKind.i64.wrap (t19 - (1 : Int))) < (List.length l : Int)))
  (cond (!decide ((((List.getD l (Int.toNat (IntKind.i64.wrap (t19 - (1 : Int)))) ((0 : Int), ((0 : Int), (0 : Int)))).2).2) = (((List.getD l (Int.toNat t19) ((0 : Int), ((0 : Int), (0 : Int)))).2).2)))
  (c_slices_ContainsFunc_int_int_vdelivery_Run_f1 receipts ((List.getD l (Int.toNat t19) ((0 : Int), ((0 : Int), (0 : Int)))).1, ((List.getD l (Int.toNat t19) ((0 : Int), ((0 : Int), (0 : Int)))).2)) (fun (rContainsFuncintint : Bool) (mrContainsFuncintint : (Int × (Int × Int))) =>
  cond rContainsFuncintint
  (k1 sent arrivals receipts)
  (p2 (fun (fates2 : List (List zq0)) (sent2 : Int) (t182 : Int) (t192 : Int) (arrivals2 : List Int) (receipts2 : List Int) (l2 : List (Int × (Int × Int))) =>
  rec fates2 sent2 t182 (IntKind.i64.wrap (t192 + (1 : Int))) arrivals2 receipts2 l2) fates sent t18 t19 arrivals receipts l mrContainsFuncintint.1 mrContainsFuncintint.2.1 mrContainsFuncintint.2.2)))
  (p2 (fun (fates2 : List (List zq0)) (sent2 : Int) (t182 : Int) (t192 : Int) (arrivals2 : List Int) (receipts2 : List Int) (l2 : List (Int × (Int × Int))) =>
  rec fates2 sent2 t182 (IntKind.i64.wrap (t192 + (1 : Int))) arrivals2 receipts2 l2) fates sent t18 t19 arrivals receipts l ((List.getD l (Int.toNat t19) ((0 : Int), ((0 : Int), (0 : Int)))).1) (((List.getD l (Int.toNat t19) ((0 : Int), ((0 : Int), (0 : Int)))).2).1) (((List.getD l (Int.toNat t19) ((0 : Int), ((0 : Int), (0 : Int)))).2).2)))
  none))
  none)
  (k1 sent arrivals receipts)
def zqf5 (p2 : zqer) {β : Type} : Nat → zqeu β → (List (List zq0)) → Int → Int → Int → (List Int) → (List Int) → (List (Int × (Int × Int))) → Option β
  | 0 => fun _ _ _ _ _ _ _ _ => none
  | i + 1 => fun k1 fates sent t18 t19 arrivals receipts l => zqf4 c_slices_ContainsFunc_int_int_vdelivery_Run_f1 p2 (zqf5 p2 i k1) k1 fates sent t18 t19 arrivals receipts l
theorem zqf6 (hΓ : ΓOk Try.prog (delivery_Run_X c_channel_Arrivals c_channel_Fates c_channel_Receipts c_delivery_Plan c_slices_ContainsFunc_int_int_vdelivery_Run_f1).Γ) (p2 : zqer) (hp2 : PieceOk Try.prog 76 0 delivery_Run_p2_code zqes zqet (delivery_Run_p2_G p2)) (i : Nat) : PieceOk Try.prog 76 0 delivery_Run_p3_code zqew zqex (delivery_Run_p3_G (zqf5 c_slices_ContainsFunc_int_int_vdelivery_Run_f1 p2 i)) := by
  rw [show delivery_Run_p3_code = .loop (loopBody delivery_Run_p3_code) by kernel_rfl]
  exact piece_loop (X := (delivery_Run_X c_channel_Arrivals c_channel_Fates c_channel_Receipts c_delivery_Plan c_slices_ContainsFunc_int_int_vdelivery_Run_f1)) (p := 1) (Λ := pick1 [(115, pieceCut zqes zqet (delivery_Run_p2_G p2))]) (G := fun i => @fun β d ks => delivery_Run_p3_G (zqf5 c_slices_ContainsFunc_int_int_vdelivery_Run_f1 p2 i) d ks) mixed tab_ok hΓ rfl (by kernel_rfl) (CutsOk_cons (q := 115) (c' := delivery_Run_p2_code) (by kernel_rfl) rfl hp2 CutsOk_nil) (fun _ _ => rfl) (fun i => @fun β d ks r h => Eq.trans (b := delivery_Run_p3_G (zqf5 c_slices_ContainsFunc_int_int_vdelivery_Run_f1 p2 (i + 1)) d ks) (by kernel_rfl) h) i
def zqf7 (p3 : zqev) {β : Type} (p_ : (Int × List (Int × (Int × (Int × Int))))) (start : Int) (fates : List (List zq0)) (k : (Int → (List Int) → (List Int) → Option β)) : Option β :=
  c_delivery_Plan p_ start (fun (lrPlan : List (Int × (Int × Int))) =>
  p3 (fun (sent : Int) (arrivals : List Int) (receipts : List Int) =>
  cond (decide (List.length arrivals < 4611686018427387904))
  (let l : List Int := (sortInts arrivals);
  cond (decide (List.length receipts < 4611686018427387904))
  (let l2 : List Int := (sortInts receipts);
  k sent l l2)
  none)
  none) fates (0 : Int) (List.length lrPlan : Int) (0 : Int) ([] : List Int) ([] : List Int) lrPlan)
theorem zqf8 (hΓ : ΓOk Try.prog (delivery_Run_X c_channel_Arrivals c_channel_Fates c_channel_Receipts c_delivery_Plan c_slices_ContainsFunc_int_int_vdelivery_Run_f1).Γ) (p3 : zqev) (hp3 : PieceOk Try.prog 76 0 delivery_Run_p3_code zqew zqex (delivery_Run_p3_G p3)) : SpecOk Try.prog 16 (zqel (zqf7 c_delivery_Plan p3)) :=
  spec_exec (X := (delivery_Run_X c_channel_Arrivals c_channel_Fates c_channel_Receipts c_delivery_Plan c_slices_ContainsFunc_int_int_vdelivery_Run_f1)) (Λ := pick1 [(58, pieceCut zqew zqex (delivery_Run_p3_G p3))]) (rs := [.tmp 6, .tmp 7, .tmp 8]) (c := bodyOf Try.f16) mixed tab_ok hΓ Try.func16 (by kernel_rfl) (by kernel_rfl) (by kernel_rfl) (by kernel_rfl) (CutsOk_cons (q := 58) (c' := delivery_Run_p3_code) (by kernel_rfl) rfl hp3 CutsOk_nil) (fun x k r h => Eq.trans (b := (zqel (zqf7 c_delivery_Plan p3)).run x k) (by kernel_rfl) h)
end
theorem zqf9Γ : ΓOk Try.prog (pick1 [(47, .spec (zq47 zq4b)), (46, .spec (zq40 zq44)), (48, .spec (zq4e zq4t)), (13, .spec (zqbz zqcp)), (44, .spec (zqee zqei)), (49, .rows zq22)]) := (ΓOk_cons zq4c (ΓOk_cons zq45 (ΓOk_cons zq4u (ΓOk_cons zqcq (ΓOk_cons zqej (ΓOk_row zq23 ΓOk_nil))))))
def zqfa : zqen := zqez zq4b zq44 zq4t
theorem zqfb : PieceOk Try.prog 76 0 delivery_Run_p1_code zqeo zqep (delivery_Run_p1_G zqfa) := zqf0 zq4b zq44 zq4t zqcp zqei zqf9Γ
def zqfc : zqer := zqf2 zqfa
theorem zqfd : PieceOk Try.prog 76 0 delivery_Run_p2_code zqes zqet (delivery_Run_p2_G zqfc) := zqf3 zq4b zq44 zq4t zqcp zqei zqf9Γ zqfa zqfb
def zqfe (m : Nat) : zqev := zqf5 zqei zqfc m
theorem zqff {β : Type} (i : Nat) (k1 fates sent t18 t19 arrivals receipts l) : (zqfe (i + 1) k1 fates sent t18 t19 arrivals receipts l : Option β) = zqf4 zqei zqfc (zqfe i k1) k1 fates sent t18 t19 arrivals receipts l := rfl
def zqfg : zqev := zqfe fuel
theorem zqfh : PieceOk Try.prog 76 0 delivery_Run_p3_code zqew zqex (delivery_Run_p3_G zqfg) := zqf6 zq4b zq44 zq4t zqcp zqei zqf9Γ zqfc zqfd fuel
def zqfi : zqek := zqf7 zqcp zqfg
theorem zqfj : SpecOk Try.prog 16 (zqel zqfi) := zqf8 zq4b zq44 zq4t zqcp zqei zqf9Γ zqfg zqfh

/-- pagewatch/pagewatchlaw27.sane -/
abbrev zqfk := {β : Type} → (Bool → Option β) → Option β
def zqfl (c : zqfk) : Spec :=
  ⟨[], [], [(false, [.data .bool])], [], fun x k => c  (fun r0 => k (((r0, ()), ()), ()))⟩
section
variable (c_delivery_Plan : zqby) (c_delivery_Run : zqek)
@[reducible] def law27_sane_X : Ctx := ⟨look tab, pick1 [(13, .spec (zqbz c_delivery_Plan)), (16, .spec (zqel c_delivery_Run))], false, false, false, false⟩
def zqfm {β : Type} (k : (Bool → Option β)) : Option β :=
  let l : List (Int × (Int × (Int × Int))) := ([((0 : Int), ((9 : Int), ((2 : Int), (60 : Int)))), ((0 : Int), ((9 : Int), ((2 : Int), (90 : Int))))] : List (Int × (Int × (Int × Int))));
  c_delivery_Plan ((0 : Int), l) (0 : Int) (fun (lrPlan : List (Int × (Int × Int))) =>
  let l2 : List zq0 := ([(false, ((30 : Int), ((0 : Int), (0 : Int))))] : List zq0);
  let l3 : List (List zq0) := ([l2] : List (List zq0));
  c_delivery_Run ((0 : Int), l) (0 : Int) l3 (fun (rRun : Int) (lrRun : List Int) (lrRun2 : List Int) =>
  cond (decide ((List.length lrPlan : Int) = (4 : Int)))
  (cond (decide (0 ≤ (2 : Int)) && decide ((2 : Int) < (List.length lrPlan : Int)))
  (cond (decide ((((List.getD lrPlan (Int.toNat (2 : Int)) ((0 : Int), ((0 : Int), (0 : Int)))).2).2) = (60 : Int)))
  (cond (decide (0 ≤ (3 : Int)) && decide ((3 : Int) < (List.length lrPlan : Int)))
  (cond (decide ((((List.getD lrPlan (Int.toNat (3 : Int)) ((0 : Int), ((0 : Int), (0 : Int)))).2).2) = (90 : Int)))
  (cond (decide (rRun = (2 : Int)))
  (cond (decide ((List.length lrRun2 : Int) = (1 : Int)))
  (cond (decide (0 ≤ (0 : Int)) && decide ((0 : Int) < (List.length lrRun2 : Int)))
  (let t : Bool := (decide ((List.getD lrRun2 (Int.toNat (0 : Int)) (0 : Int)) = (30 : Int)));
  k t)
  none)
  (k false))
  (k false))
  (k false))
  none)
  (k false))
  none)
  (k false)))
theorem zqfn (hΓ : ΓOk Try.prog (law27_sane_X c_delivery_Plan c_delivery_Run).Γ) : SpecOk Try.prog 10 (zqfl (zqfm c_delivery_Plan c_delivery_Run)) :=
  spec_exec (X := (law27_sane_X c_delivery_Plan c_delivery_Run)) (Λ := pick1 []) (rs := [.tmp 0]) (c := bodyOf Try.f10) mixed tab_ok hΓ Try.func10 (by kernel_rfl) (by kernel_rfl) (by kernel_rfl) (by kernel_rfl) CutsOk_nil (fun x k r h => Eq.trans (b := (zqfl (zqfm c_delivery_Plan c_delivery_Run)).run x k) (by kernel_rfl) h)
end
theorem zqfoΓ : ΓOk Try.prog (pick1 [(13, .spec (zqbz zqcp)), (16, .spec (zqel zqfi))]) := (ΓOk_cons zqcq (ΓOk_cons zqfj ΓOk_nil))
def zqfp : zqfk := zqfm zqcp zqfi
theorem zqfq : SpecOk Try.prog 10 (zqfl zqfp) := zqfn zqcp zqfi zqfoΓ
end
end Go.Lift
namespace Go.Lift
open Go.Proofs
noncomputable section
set_option maxRecDepth 100000
set_option linter.unusedVariables false

/-- pagewatch/pagewatchlaw27.DeliverySteps -/
abbrev zqfr := {β : Type} → (List Int) → (Int × List (Int × (Int × (Int × Int)))) → Int → Int → Int → Int → (Bool → Option β) → Option β
def zqfs (c : zqfr) : Spec :=
  ⟨[(false, [.data (.slice (.int .i64))]), (true, [.data (.prod (.int .i64) (.slice (.prod (.int .i64) (.prod (.int .i64) (.prod (.int .i64) (.int .i64))))))]), (false, [.data (.int .i64)]), (false, [.data (.int .i64)]), (false, [.data (.int .i64)]), (false, [.data (.int .i64)])], [], [(false, [.data .bool])], [], fun x k => c x.1.1.1 x.1.2.1.1 x.1.2.2.1.1 x.1.2.2.2.1.1 x.1.2.2.2.2.1.1 x.1.2.2.2.2.2.1.1 (fun r0 => k (((r0, ()), ()), ()))⟩
noncomputable def law27_DeliverySteps_p3_code : Code := codeAt 2042 (bodyOf Try.f8)
noncomputable def law27_DeliverySteps_p4_code : Code := codeAt 255 (bodyOf Try.f8)
noncomputable def law27_DeliverySteps_p2_code : Code := codeAt 230 (loopBody law27_DeliverySteps_p3_code)
noncomputable def law27_DeliverySteps_p1_code : Code := codeAt 1854 (loopBody law27_DeliverySteps_p2_code)
abbrev zqft (β : Type) := Bool → Option β
abbrev zqfu (β : Type) := Int → Int → Int → Int → Int → Int → Int → Int → Int → Int → (List (Int × (Int × (Int × Int)))) → (List Int) → Int → Int → (List (Int × (Int × (Int × Int)))) → Int → Int → Int → Int → Int → Int → (List zq2) → (List (Int × List (Int × (Int × (Int × Int))))) → Option β
abbrev zqfv := {β : Type} → zqft β → zqfu β → Int → Int → Int → Int → Int → Int → Int → Int → Int → Int → Int → Int → (List (Int × (Int × (Int × Int)))) → (List Int) → Int → Int → (List (Int × (Int × (Int × Int)))) → Int → Int → Int → Int → Int → Int → Int → (List (Int × (Int × (Int × Int)))) → (List zq2) → (List (Int × List (Int × (Int × (Int × Int))))) → (List Int) → Option β
def zqfw : View := ⟨0, [2, 3, 4, 5, 7, 13, 14, 16, 19, 21, 101, 102, 103, 109, 110, 111, 176, 177, 178], [(false, [.data (.int .i64)]), (false, [.data (.int .i64)]), (false, [.data (.int .i64)]), (false, [.data (.int .i64)]), (false, [.ptr 0 0]), (false, [.ptr 1 0]), (false, [.ptr 2 0]), (false, [.data (.int .i64)]), (false, [.ptr 3 0]), (false, [.ptr 4 0]), (false, [.rowh 5]), (false, [.data (.int .i64)]), (false, [.data (.int .i64)]), (false, [.rowh 6]), (false, [.data (.int .i64)]), (false, [.data (.int .i64)]), (false, [.rowh 7]), (false, [.data (.int .i64)]), (false, [.data (.int .i64)])], [.cells 29 [.data (.int .i64), .data (.slice (.prod (.int .i64) (.prod (.int .i64) (.prod (.int .i64) (.int .i64)))))], .cells 77 [.data (.slice (.int .i64)), .data (.int .i64)], .cells 29 [.data (.int .i64), .data (.slice (.prod (.int .i64) (.prod (.int .i64) (.prod (.int .i64) (.int .i64)))))], .cells 55 [.data (.int .i64), .data (.int .i64), .data (.int .i64), .data (.int .i64), .data (.int .i64), .data (.int .i64)], .cells 29 [.data (.int .i64), .data (.slice (.prod (.int .i64) (.prod (.int .i64) (.prod (.int .i64) (.int .i64)))))], .row 55 zq3, .row 29 (.prod (.int .i64) (.slice (.prod (.int .i64) (.prod (.int .i64) (.prod (.int .i64) (.int .i64)))))), .row 3 (.int .i64)]⟩
def zqfx : List (AExit × View) := [(.ret, ⟨0, [12], [(false, [.data .bool])], []⟩), (.exit 5, ⟨0, [2, 3, 4, 5, 7, 13, 14, 16, 19, 101, 102, 103, 109, 110, 111], [(false, [.data (.int .i64)]), (false, [.data (.int .i64)]), (false, [.data (.int .i64)]), (false, [.data (.int .i64)]), (false, [.ptr 0 0]), (false, [.ptr 1 0]), (false, [.ptr 2 0]), (false, [.data (.int .i64)]), (false, [.ptr 3 0]), (false, [.rowh 4]), (false, [.data (.int .i64)]), (false, [.data (.int .i64)]), (false, [.rowh 5]), (false, [.data (.int .i64)]), (false, [.data (.int .i64)])], [.cells 29 [.data (.int .i64), .data (.slice (.prod (.int .i64) (.prod (.int .i64) (.prod (.int .i64) (.int .i64)))))], .cells 77 [.data (.slice (.int .i64)), .data (.int .i64)], .cells 29 [.data (.int .i64), .data (.slice (.prod (.int .i64) (.prod (.int .i64) (.prod (.int .i64) (.int .i64)))))], .cells 55 [.data (.int .i64), .data (.int .i64), .data (.int .i64), .data (.int .i64), .data (.int .i64), .data (.int .i64)], .row 55 zq3, .row 29 (.prod (.int .i64) (.slice (.prod (.int .i64) (.prod (.int .i64) (.prod (.int .i64) (.int .i64))))))]⟩)]
@[reducible] def law27_DeliverySteps_p1_G (p : zqfv) {β : Type} (d : zqfw.den) (ks : Outs.K β zqfx) : Option β :=
  p (fun a0 => ks.1 (((a0, ()), ()), ())) (fun a0 a1 a2 a3 a4 a5 a6 a7 a8 a9 a10 a11 a12 a13 a14 a15 a16 a17 a18 a19 a20 a21 a22 => ks.2.1 (((a0, ()), (a1, ()), (a2, ()), (a3, ()), (), (), (), (a4, ()), (), (), (a5, ()), (a6, ()), (), (a7, ()), (a8, ()), ()), ((a9, a10, ()), (a11, a12, ()), (a13, a14, ()), (a15, a16, a17, a18, a19, a20, ()), a21, a22, ()))) d.1.1.1 d.1.2.1.1 d.1.2.2.1.1 d.1.2.2.2.1.1 d.1.2.2.2.2.2.2.2.1.1 d.1.2.2.2.2.2.2.2.2.2.2.2.1.1 d.1.2.2.2.2.2.2.2.2.2.2.2.2.1.1 d.1.2.2.2.2.2.2.2.2.2.2.2.2.2.2.1.1 d.1.2.2.2.2.2.2.2.2.2.2.2.2.2.2.2.1.1 d.1.2.2.2.2.2.2.2.2.2.2.2.2.2.2.2.2.2.1.1 d.1.2.2.2.2.2.2.2.2.2.2.2.2.2.2.2.2.2.2.1.1 d.2.1.1 d.2.1.2.1 d.2.2.1.1 d.2.2.1.2.1 d.2.2.2.1.1 d.2.2.2.1.2.1 d.2.2.2.2.1.1 d.2.2.2.2.1.2.1 d.2.2.2.2.1.2.2.1 d.2.2.2.2.1.2.2.2.1 d.2.2.2.2.1.2.2.2.2.1 d.2.2.2.2.1.2.2.2.2.2.1 d.2.2.2.2.2.1.1 d.2.2.2.2.2.1.2.1 d.2.2.2.2.2.2.1 d.2.2.2.2.2.2.2.1 d.2.2.2.2.2.2.2.2.1
abbrev zqfy (β : Type) := Bool → Option β
abbrev zqfz (β : Type) := Int → Int → Int → Int → Int → Int → Int → Int → (List (Int × (Int × (Int × Int)))) → (List Int) → Int → Int → (List (Int × (Int × (Int × Int)))) → (List zq2) → Option β
abbrev zqg0 := {β : Type} → zqfy β → zqfz β → Int → Int → Int → Int → Int → Int → Int → Int → Int → Int → (List (Int × (Int × (Int × Int)))) → (List Int) → Int → Int → (List (Int × (Int × (Int × Int)))) → Int → Int → Int → Int → Int → Int → (List zq2) → (List (Int × List (Int × (Int × (Int × Int))))) → Option β
def zqg1 : View := ⟨0, [2, 3, 4, 5, 7, 13, 14, 16, 19, 101, 102, 103, 109, 110, 111], [(false, [.data (.int .i64)]), (false, [.data (.int .i64)]), (false, [.data (.int .i64)]), (false, [.data (.int .i64)]), (false, [.ptr 0 0]), (false, [.ptr 1 0]), (false, [.ptr 2 0]), (false, [.data (.int .i64)]), (false, [.ptr 3 0]), (false, [.rowh 4]), (false, [.data (.int .i64)]), (false, [.data (.int .i64)]), (false, [.rowh 5]), (false, [.data (.int .i64)]), (false, [.data (.int .i64)])], [.cells 29 [.data (.int .i64), .data (.slice (.prod (.int .i64) (.prod (.int .i64) (.prod (.int .i64) (.int .i64)))))], .cells 77 [.data (.slice (.int .i64)), .data (.int .i64)], .cells 29 [.data (.int .i64), .data (.slice (.prod (.int .i64) (.prod (.int .i64) (.prod (.int .i64) (.int .i64)))))], .cells 55 [.data (.int .i64), .data (.int .i64), .data (.int .i64), .data (.int .i64), .data (.int .i64), .data (.int .i64)], .row 55 zq3, .row 29 (.prod (.int .i64) (.slice (.prod (.int .i64) (.prod (.int .i64) (.prod (.int .i64) (.int .i64))))))]⟩
def zqg2 : List (AExit × View) := [(.ret, ⟨0, [12], [(false, [.data .bool])], []⟩), (.exit 3, ⟨0, [2, 3, 4, 5, 7, 13, 14, 16, 101, 102, 103], [(false, [.data (.int .i64)]), (false, [.data (.int .i64)]), (false, [.data (.int .i64)]), (false, [.data (.int .i64)]), (false, [.ptr 0 0]), (false, [.ptr 1 0]), (false, [.ptr 2 0]), (false, [.data (.int .i64)]), (false, [.rowh 3]), (false, [.data (.int .i64)]), (false, [.data (.int .i64)])], [.cells 29 [.data (.int .i64), .data (.slice (.prod (.int .i64) (.prod (.int .i64) (.prod (.int .i64) (.int .i64)))))], .cells 77 [.data (.slice (.int .i64)), .data (.int .i64)], .cells 29 [.data (.int .i64), .data (.slice (.prod (.int .i64) (.prod (.int .i64) (.prod (.int .i64) (.int .i64)))))], .row 55 zq3]⟩)]
@[reducible] def law27_DeliverySteps_p2_G (p : zqg0) {β : Type} (d : zqg1.den) (ks : Outs.K β zqg2) : Option β :=
  p (fun a0 => ks.1 (((a0, ()), ()), ())) (fun a0 a1 a2 a3 a4 a5 a6 a7 a8 a9 a10 a11 a12 a13 => ks.2.1 (((a0, ()), (a1, ()), (a2, ()), (a3, ()), (), (), (), (a4, ()), (), (a5, ()), (a6, ()), ()), ((a7, a8, ()), (a9, a10, ()), (a11, a12, ()), a13, ()))) d.1.1.1 d.1.2.1.1 d.1.2.2.1.1 d.1.2.2.2.1.1 d.1.2.2.2.2.2.2.2.1.1 d.1.2.2.2.2.2.2.2.2.2.2.1.1 d.1.2.2.2.2.2.2.2.2.2.2.2.1.1 d.1.2.2.2.2.2.2.2.2.2.2.2.2.2.1.1 d.1.2.2.2.2.2.2.2.2.2.2.2.2.2.2.1.1 d.2.1.1 d.2.1.2.1 d.2.2.1.1 d.2.2.1.2.1 d.2.2.2.1.1 d.2.2.2.1.2.1 d.2.2.2.2.1.1 d.2.2.2.2.1.2.1 d.2.2.2.2.1.2.2.1 d.2.2.2.2.1.2.2.2.1 d.2.2.2.2.1.2.2.2.2.1 d.2.2.2.2.1.2.2.2.2.2.1 d.2.2.2.2.2.1 d.2.2.2.2.2.2.1
abbrev zqg3 (β : Type) := Bool → Option β
abbrev zqg4 (β : Type) := Int → Int → Int → Int → Option β
abbrev zqg5 := {β : Type} → zqg3 β → zqg4 β → Int → Int → Int → Int → Int → Int → Int → Int → (List (Int × (Int × (Int × Int)))) → (List Int) → Int → Int → (List (Int × (Int × (Int × Int)))) → (List zq2) → Option β
def zqg6 : View := ⟨0, [2, 3, 4, 5, 7, 13, 14, 16, 101, 102, 103], [(false, [.data (.int .i64)]), (false, [.data (.int .i64)]), (false, [.data (.int .i64)]), (false, [.data (.int .i64)]), (false, [.ptr 0 0]), (false, [.ptr 1 0]), (false, [.ptr 2 0]), (false, [.data (.int .i64)]), (false, [.rowh 3]), (false, [.data (.int .i64)]), (false, [.data (.int .i64)])], [.cells 29 [.data (.int .i64), .data (.slice (.prod (.int .i64) (.prod (.int .i64) (.prod (.int .i64) (.int .i64)))))], .cells 77 [.data (.slice (.int .i64)), .data (.int .i64)], .cells 29 [.data (.int .i64), .data (.slice (.prod (.int .i64) (.prod (.int .i64) (.prod (.int .i64) (.int .i64)))))], .row 55 zq3]⟩
def zqg7 : List (AExit × View) := [(.ret, ⟨0, [12], [(false, [.data .bool])], []⟩), (.exit 1, ⟨0, [2, 3, 4, 5], [(false, [.data (.int .i64)]), (false, [.data (.int .i64)]), (false, [.data (.int .i64)]), (false, [.data (.int .i64)])], []⟩)]
@[reducible] def law27_DeliverySteps_p3_G (p : zqg5) {β : Type} (d : zqg6.den) (ks : Outs.K β zqg7) : Option β :=
  p (fun a0 => ks.1 (((a0, ()), ()), ())) (fun a0 a1 a2 a3 => ks.2.1 (((a0, ()), (a1, ()), (a2, ()), (a3, ()), ()), ())) d.1.1.1 d.1.2.1.1 d.1.2.2.1.1 d.1.2.2.2.1.1 d.1.2.2.2.2.2.2.2.1.1 d.1.2.2.2.2.2.2.2.2.2.1.1 d.1.2.2.2.2.2.2.2.2.2.2.1.1 d.2.1.1 d.2.1.2.1 d.2.2.1.1 d.2.2.1.2.1 d.2.2.2.1.1 d.2.2.2.1.2.1 d.2.2.2.2.1
abbrev zqg8 (β : Type) := Bool → Option β
abbrev zqg9 := {β : Type} → zqg8 β → Int → Int → Int → Int → Int → Int → (List (Int × (Int × (Int × Int)))) → (List Int) → Int → Int → (List (Int × (Int × (Int × Int)))) → Int → Int → Int → Int → Int → Int → Int → Int → Int → Int → Int → Int → Option β
def zqga : View := ⟨0, [2, 3, 4, 5, 7, 13, 14, 15, 16, 17], [(false, [.data (.int .i64)]), (false, [.data (.int .i64)]), (false, [.data (.int .i64)]), (false, [.data (.int .i64)]), (false, [.ptr 0 0]), (false, [.ptr 1 0]), (false, [.ptr 2 0]), (false, [.ptr 3 0]), (false, [.data (.int .i64)]), (false, [.ptr 4 0])], [.cells 29 [.data (.int .i64), .data (.slice (.prod (.int .i64) (.prod (.int .i64) (.prod (.int .i64) (.int .i64)))))], .cells 77 [.data (.slice (.int .i64)), .data (.int .i64)], .cells 29 [.data (.int .i64), .data (.slice (.prod (.int .i64) (.prod (.int .i64) (.prod (.int .i64) (.int .i64)))))], .cells 55 [.data (.int .i64), .data (.int .i64), .data (.int .i64), .data (.int .i64), .data (.int .i64), .data (.int .i64)], .cells 55 [.data (.int .i64), .data (.int .i64), .data (.int .i64), .data (.int .i64), .data (.int .i64), .data (.int .i64)]]⟩
def zqgb : List (AExit × View) := [(.ret, ⟨0, [12], [(false, [.data .bool])], []⟩)]
@[reducible] def law27_DeliverySteps_p4_G (p : zqg9) {β : Type} (d : zqga.den) (ks : Outs.K β zqgb) : Option β :=
  p (fun a0 => ks.1 (((a0, ()), ()), ())) d.1.1.1 d.1.2.1.1 d.1.2.2.1.1 d.1.2.2.2.1.1 d.1.2.2.2.2.2.2.2.2.1.1 d.2.1.1 d.2.1.2.1 d.2.2.1.1 d.2.2.1.2.1 d.2.2.2.1.1 d.2.2.2.1.2.1 d.2.2.2.2.1.1 d.2.2.2.2.1.2.1 d.2.2.2.2.1.2.2.1 d.2.2.2.2.1.2.2.2.1 d.2.2.2.2.1.2.2.2.2.1 d.2.2.2.2.1.2.2.2.2.2.1 d.2.2.2.2.2.1.1 d.2.2.2.2.2.1.2.1 d.2.2.2.2.2.1.2.2.1 d.2.2.2.2.2.1.2.2.2.1 d.2.2.2.2.2.1.2.2.2.2.1 d.2.2.2.2.2.1.2.2.2.2.2.1
section
variable (c_delivery_Bound : zqb4) (c_delivery_Check : zqcr) (c_delivery_New : zq6o) (c_delivery_Next : zqdn) (c_delivery_Plan : zqby) (c_delivery_Receipt : zqdg) (c_delivery_Send : zqcy) (c_delivery_Valid : zqax) (c_law27_contact : zq9z) (c_law27_sane : zqfk) (c_made_Dice_Next : zqi) (c_made_Dice_One : zq18) (c_made_Dice_Person : zq3a) (c_made_Light : zq4) (c_made_Roll : zqb) (c_ref27_Bound : zq66) (c_ref27_Check : zq8d) (c_ref27_New : zq3s) (c_ref27_Next : zq8k) (c_ref27_Plan : zq79) (c_ref27_Receipt : zq99) (c_ref27_SameAttempts : zqp) (c_ref27_Send : zq8r) (c_ref27_Valid : zq5n)
@[reducible] def law27_DeliverySteps_X : Ctx := ⟨look tab, pick1 [(20, .spec (zqb5 c_delivery_Bound)), (30, .spec (zqcs c_delivery_Check)), (36, .spec (zq6p c_delivery_New)), (27, .spec (zqdo c_delivery_Next)), (13, .spec (zqbz c_delivery_Plan)), (26, .spec (zqdh c_delivery_Receipt)), (23, .spec (zqcz c_delivery_Send)), (31, .spec (zqay c_delivery_Valid)), (22, .spec (zqa0 c_law27_contact)), (10, .spec (zqfl c_law27_sane)), (14, .spec (zqj c_made_Dice_Next)), (28, .spec (zq19 c_made_Dice_One)), (12, .spec (zq3b c_made_Dice_Person)), (9, .spec (zq5 c_made_Light)), (11, .spec (zqc c_made_Roll)), (33, .spec (zq67 c_ref27_Bound)), (25, .spec (zq8e c_ref27_Check)), (37, .spec (zq3t c_ref27_New)), (29, .spec (zq8l c_ref27_Next)), (21, .spec (zq7a c_ref27_Plan)), (35, .spec (zq9a c_ref27_Receipt)), (24, .spec (zqq c_ref27_SameAttempts)), (34, .spec (zq8s c_ref27_Send)), (32, .spec (zq5o c_ref27_Valid))], false, false, false, false⟩
def zqgc {β : Type} (rec : Int → Int → Int → Int → Int → Int → Int → Int → Int → Int → Int → Int → (List (Int × (Int × (Int × Int)))) → (List Int) → Int → Int → (List (Int × (Int × (Int × Int)))) → Int → Int → Int → Int → Int → Int → Int → (List (Int × (Int × (Int × Int)))) → (List zq2) → (List (Int × List (Int × (Int × (Int × Int))))) → (List Int) → Option β) (k1 : zqft β) (k2 : zqfu β) (page : Int) (step : Int) (person : Int) (start : Int) (now : Int) (t102 : Int) (t103 : Int) (t110 : Int) (t111 : Int) (t177 : Int) (t178 : Int) (raw : Int) (raw2 : List (Int × (Int × (Int × Int)))) (d : List Int) (d2 : Int) (p_ : Int) (p_2 : List (Int × (Int × (Int × Int)))) (x : Int) (x2 : Int) (x3 : Int) (x4 : Int) (x5 : Int) (x6 : Int) (q : Int) (q2 : List (Int × (Int × (Int × Int)))) (t101 : List zq2) (t109 : List (Int × List (Int × (Int × (Int × Int))))) (t176 : List Int) : Option β :=
  cond (decide (t178 < t177))
  (cond (decide (0 ≤ t178) && decide (t178 < (List.length t176 : Int)))
  (let n : Int := (List.getD t176 (Int.toNat t178) (0 : Int));
  c_delivery_Send (q, q2) (x, (x2, (x3, (x4, (x5, x6))))) n (fun (rSend : zq2) (rSend2 : Int) (lrSend : List (Int × (Int × Int))) =>
  c_ref27_Send (q, q2) (x, (x2, (x3, (x4, (x5, x6))))) n (fun (rSend3 : zq2) (rSend4 : Int) (lrSend2 : List (Int × (Int × Int))) =>
  c_made_Dice_Next (6 : Int) (d, d2) (fun (rNext : Int) (mrNext : (List Int × Int)) =>
  let k_ : Int := (IntKind.i64.wrap (rNext - (1 : Int)));
  c_delivery_Receipt (q, q2) (x, (x2, (x3, (x4, (x5, x6))))) k_ n (fun (rReceipt : zq2) (rReceipt2 : Int) =>
  c_ref27_Receipt (q, q2) (x, (x2, (x3, (x4, (x5, x6))))) k_ n (fun (rReceipt3 : zq2) (rReceipt4 : Int) =>
  cond (!(decide (rSend.1 = rSend3.1) && (decide (rSend.2.1 = rSend3.2.1) && (decide (rSend.2.2.1 = rSend3.2.2.1) && (decide (rSend.2.2.2.1 = rSend3.2.2.2.1) && (decide (rSend.2.2.2.2.1 = rSend3.2.2.2.2.1) && (decide (rSend.2.2.2.2.2 = rSend3.2.2.2.2.2) && true)))))))
  (k1 false)
  (cond (!decide (rSend2 = rSend4))
  (k1 false)
  (c_ref27_SameAttempts lrSend lrSend2 (fun (rSameAttempts : Bool) =>
  cond (!rSameAttempts)
  (k1 false)
  (cond (!(decide (rReceipt.1 = rReceipt3.1) && (decide (rReceipt.2.1 = rReceipt3.2.1) && (decide (rReceipt.2.2.1 = rReceipt3.2.2.1) && (decide (rReceipt.2.2.2.1 = rReceipt3.2.2.2.1) && (decide (rReceipt.2.2.2.2.1 = rReceipt3.2.2.2.2.1) && (decide (rReceipt.2.2.2.2.2 = rReceipt3.2.2.2.2.2) && true)))))))
  (k1 false)
  (cond (!decide (rReceipt2 = rReceipt4))
  (k1 false)
  (rec page step person start now t102 t103 t110 t111 t177 (IntKind.i64.wrap (t178 + (1 : Int))) raw raw2 mrNext.1 mrNext.2 p_ p_2 x x2 x3 x4 x5 x6 q q2 t101 t109 t176))))))))))))
  none)
  (k2 page step person start now t102 t103 t110 t111 raw raw2 d d2 p_ p_2 x x2 x3 x4 x5 x6 t101 t109)
def zqgd {β : Type} : Nat → zqft β → zqfu β → Int → Int → Int → Int → Int → Int → Int → Int → Int → Int → Int → Int → (List (Int × (Int × (Int × Int)))) → (List Int) → Int → Int → (List (Int × (Int × (Int × Int)))) → Int → Int → Int → Int → Int → Int → Int → (List (Int × (Int × (Int × Int)))) → (List zq2) → (List (Int × List (Int × (Int × (Int × Int))))) → (List Int) → Option β
  | 0 => fun _ _ _ _ _ _ _ _ _ _ _ _ _ _ _ _ _ _ _ _ _ _ _ _ _ _ _ _ _ _ => none
  | i + 1 => fun k1 k2 page step person start now t102 t103 t110 t111 t177 t178 raw raw2 d d2 p_ p_2 x x2 x3 x4 x5 x6 q q2 t101 t109 t176 => zqgc c_delivery_Receipt c_delivery_Send c_made_Dice_Next c_ref27_Receipt c_ref27_SameAttempts c_ref27_Send (zqgd i k1 k2) k1 k2 page step person start now t102 t103 t110 t111 t177 t178 raw raw2 d d2 p_ p_2 x x2 x3 x4 x5 x6 q q2 t101 t109 t176
theorem zqge (hΓ : ΓOk Try.prog (law27_DeliverySteps_X c_delivery_Bound c_delivery_Check c_delivery_New c_delivery_Next c_delivery_Plan c_delivery_Receipt c_delivery_Send c_delivery_Valid c_law27_contact c_law27_sane c_made_Dice_Next c_made_Dice_One c_made_Dice_Person c_made_Light c_made_Roll c_ref27_Bound c_ref27_Check c_ref27_New c_ref27_Next c_ref27_Plan c_ref27_Receipt c_ref27_SameAttempts c_ref27_Send c_ref27_Valid).Γ) (i : Nat) : PieceOk Try.prog 271 0 law27_DeliverySteps_p1_code zqfw zqfx (law27_DeliverySteps_p1_G (zqgd c_delivery_Receipt c_delivery_Send c_made_Dice_Next c_ref27_Receipt c_ref27_SameAttempts c_ref27_Send i)) := by
  rw [show law27_DeliverySteps_p1_code = .loop (loopBody law27_DeliverySteps_p1_code) by kernel_rfl]
  exact piece_loop (X := (law27_DeliverySteps_X c_delivery_Bound c_delivery_Check c_delivery_New c_delivery_Next c_delivery_Plan c_delivery_Receipt c_delivery_Send c_delivery_Valid c_law27_contact c_law27_sane c_made_Dice_Next c_made_Dice_One c_made_Dice_Person c_made_Light c_made_Roll c_ref27_Bound c_ref27_Check c_ref27_New c_ref27_Next c_ref27_Plan c_ref27_Receipt c_ref27_SameAttempts c_ref27_Send c_ref27_Valid)) (p := 1) (Λ := pick1 []) (G := fun i => @fun β d ks => law27_DeliverySteps_p1_G (zqgd c_delivery_Receipt c_delivery_Send c_made_Dice_Next c_ref27_Receipt c_ref27_SameAttempts c_ref27_Send i) d ks) mixed tab_ok hΓ rfl (by kernel_rfl) CutsOk_nil (fun _ _ => rfl) (fun i => @fun β d ks r h => Eq.trans (b := law27_DeliverySteps_p1_G (zqgd c_delivery_Receipt c_delivery_Send c_made_Dice_Next c_ref27_Receipt c_ref27_SameAttempts c_ref27_Send (i + 1)) d ks) (by kernel_rfl) h) i
def zqgf (p1 : zqfv) {β : Type} (rec : Int → Int → Int → Int → Int → Int → Int → Int → Int → Int → (List (Int × (Int × (Int × Int)))) → (List Int) → Int → Int → (List (Int × (Int × (Int × Int)))) → Int → Int → Int → Int → Int → Int → (List zq2) → (List (Int × List (Int × (Int × (Int × Int))))) → Option β) (k1 : zqfy β) (k2 : zqfz β) (page : Int) (step : Int) (person : Int) (start : Int) (now : Int) (t102 : Int) (t103 : Int) (t110 : Int) (t111 : Int) (raw : Int) (raw2 : List (Int × (Int × (Int × Int)))) (d : List Int) (d2 : Int) (p_ : Int) (p_2 : List (Int × (Int × (Int × Int)))) (x : Int) (x2 : Int) (x3 : Int) (x4 : Int) (x5 : Int) (x6 : Int) (t101 : List zq2) (t109 : List (Int × List (Int × (Int × (Int × Int))))) : Option β :=
  cond (decide (t111 < t110))
  (cond (decide (0 ≤ t111) && decide (t111 < (List.length t109 : Int)))
  (c_delivery_Next (List.getD t109 (Int.toNat t111) ((0 : Int), ([] : List (Int × (Int × (Int × Int)))))) (x, (x2, (x3, (x4, (x5, x6))))) (fun (rNext : Int) (rNext2 : Bool) =>
  c_ref27_Next (List.getD t109 (Int.toNat t111) ((0 : Int), ([] : List (Int × (Int × (Int × Int)))))) (x, (x2, (x3, (x4, (x5, x6))))) (fun (rNext3 : Int) (rNext4 : Bool) =>
  cond (!decide (rNext = rNext3))
  (k1 false)
  (cond (!(rNext2 == rNext4))
  (k1 false)
  (c_delivery_Check (List.getD t109 (Int.toNat t111) ((0 : Int), ([] : List (Int × (Int × (Int × Int)))))) (x, (x2, (x3, (x4, (x5, x6))))) (fun (rCheck : Bool) =>
  c_ref27_Check (List.getD t109 (Int.toNat t111) ((0 : Int), ([] : List (Int × (Int × (Int × Int)))))) (x, (x2, (x3, (x4, (x5, x6))))) (fun (rCheck2 : Bool) =>
  cond (!(rCheck == rCheck2))
  (k1 false)
  (c_delivery_Valid (List.getD t109 (Int.toNat t111) ((0 : Int), ([] : List (Int × (Int × (Int × Int)))))) (fun (rValid : Bool) =>
  c_ref27_Valid (List.getD t109 (Int.toNat t111) ((0 : Int), ([] : List (Int × (Int × (Int × Int)))))) (fun (rValid2 : Bool) =>
  cond (!(rValid == rValid2))
  (k1 false)
  (c_delivery_Bound (List.getD t109 (Int.toNat t111) ((0 : Int), ([] : List (Int × (Int × (Int × Int)))))) (fun (rBound : Int) =>
  c_ref27_Bound (List.getD t109 (Int.toNat t111) ((0 : Int), ([] : List (Int × (Int × (Int × Int)))))) (fun (rBound2 : Int) =>
  cond (!decide (rBound = rBound2))
  (k1 false)
  (c_delivery_Plan (List.getD t109 (Int.toNat t111) ((0 : Int), ([] : List (Int × (Int × (Int × Int)))))) x4 (fun (lrPlan : List (Int × (Int × Int))) =>
  c_ref27_Plan (List.getD t109 (Int.toNat t111) ((0 : Int), ([] : List (Int × (Int × (Int × Int)))))) x4 (fun (lrPlan2 : List (Int × (Int × Int))) =>
  c_ref27_SameAttempts lrPlan lrPlan2 (fun (rSameAttempts : Bool) =>
  cond (!rSameAttempts)
  (k1 false)
  (let l : List Int := ([now, (IntKind.i64.wrap (now + (60 : Int))), start, (IntKind.i64.wrap (now + (9999 : Int)))] : List Int);
  p1 (fun (t12 : Bool) =>
  k1 t12) (fun (page2 : Int) (step2 : Int) (person2 : Int) (start2 : Int) (now2 : Int) (t1022 : Int) (t1032 : Int) (t1102 : Int) (t1112 : Int) (raw3 : Int) (raw4 : List (Int × (Int × (Int × Int)))) (d3 : List Int) (d4 : Int) (p_3 : Int) (p_4 : List (Int × (Int × (Int × Int)))) (x7 : Int) (x8 : Int) (x9 : Int) (x10 : Int) (x11 : Int) (x12 : Int) (t1012 : List zq2) (t1092 : List (Int × List (Int × (Int × (Int × Int))))) =>
  rec page2 step2 person2 start2 now2 t1022 t1032 t1102 (IntKind.i64.wrap (t1112 + (1 : Int))) raw3 raw4 d3 d4 p_3 p_4 x7 x8 x9 x10 x11 x12 t1012 t1092) page step person start now t102 t103 t110 t111 (List.length l : Int) (0 : Int) raw raw2 d d2 p_ p_2 x x2 x3 x4 x5 x6 ((List.getD t109 (Int.toNat t111) ((0 : Int), ([] : List (Int × (Int × (Int × Int)))))).1) ((List.getD t109 (Int.toNat t111) ((0 : Int), ([] : List (Int × (Int × (Int × Int)))))).2) t101 t109 l))))))))))))))))))
  none)
  (k2 page step person start now t102 t103 raw raw2 d d2 p_ p_2 t101)
def zqgg (p1 : zqfv) {β : Type} : Nat → zqfy β → zqfz β → Int → Int → Int → Int → Int → Int → Int → Int → Int → Int → (List (Int × (Int × (Int × Int)))) → (List Int) → Int → Int → (List (Int × (Int × (Int × Int)))) → Int → Int → Int → Int → Int → Int → (List zq2) → (List (Int × List (Int × (Int × (Int × Int))))) → Option β
  | 0 => fun _ _ _ _ _ _ _ _ _ _ _ _ _ _ _ _ _ _ _ _ _ _ _ _ _ => none
  | i + 1 => fun k1 k2 page step person start now t102 t103 t110 t111 raw raw2 d d2 p_ p_2 x x2 x3 x4 x5 x6 t101 t109 => zqgf c_delivery_Bound c_delivery_Check c_delivery_Next c_delivery_Plan c_delivery_Valid c_ref27_Bound c_ref27_Check c_ref27_Next c_ref27_Plan c_ref27_SameAttempts c_ref27_Valid p1 (zqgg p1 i k1 k2) k1 k2 page step person start now t102 t103 t110 t111 raw raw2 d d2 p_ p_2 x x2 x3 x4 x5 x6 t101 t109
theorem zqgh (hΓ : ΓOk Try.prog (law27_DeliverySteps_X c_delivery_Bound c_delivery_Check c_delivery_New c_delivery_Next c_delivery_Plan c_delivery_Receipt c_delivery_Send c_delivery_Valid c_law27_contact c_law27_sane c_made_Dice_Next c_made_Dice_One c_made_Dice_Person c_made_Light c_made_Roll c_ref27_Bound c_ref27_Check c_ref27_New c_ref27_Next c_ref27_Plan c_ref27_Receipt c_ref27_SameAttempts c_ref27_Send c_ref27_Valid).Γ) (p1 : zqfv) (hp1 : PieceOk Try.prog 271 0 law27_DeliverySteps_p1_code zqfw zqfx (law27_DeliverySteps_p1_G p1)) (i : Nat) : PieceOk Try.prog 271 0 law27_DeliverySteps_p2_code zqg1 zqg2 (law27_DeliverySteps_p2_G (zqgg c_delivery_Bound c_delivery_Check c_delivery_Next c_delivery_Plan c_delivery_Valid c_ref27_Bound c_ref27_Check c_ref27_Next c_ref27_Plan c_ref27_SameAttempts c_ref27_Valid p1 i)) := by
  rw [show law27_DeliverySteps_p2_code = .loop (loopBody law27_DeliverySteps_p2_code) by kernel_rfl]
  exact piece_loop (X := (law27_DeliverySteps_X c_delivery_Bound c_delivery_Check c_delivery_New c_delivery_Next c_delivery_Plan c_delivery_Receipt c_delivery_Send c_delivery_Valid c_law27_contact c_law27_sane c_made_Dice_Next c_made_Dice_One c_made_Dice_Person c_made_Light c_made_Roll c_ref27_Bound c_ref27_Check c_ref27_New c_ref27_Next c_ref27_Plan c_ref27_Receipt c_ref27_SameAttempts c_ref27_Send c_ref27_Valid)) (p := 1) (Λ := pick1 [(1854, pieceCut zqfw zqfx (law27_DeliverySteps_p1_G p1))]) (G := fun i => @fun β d ks => law27_DeliverySteps_p2_G (zqgg c_delivery_Bound c_delivery_Check c_delivery_Next c_delivery_Plan c_delivery_Valid c_ref27_Bound c_ref27_Check c_ref27_Next c_ref27_Plan c_ref27_SameAttempts c_ref27_Valid p1 i) d ks) mixed tab_ok hΓ rfl (by kernel_rfl) (CutsOk_cons (q := 1854) (c' := law27_DeliverySteps_p1_code) (by kernel_rfl) rfl hp1 CutsOk_nil) (fun _ _ => rfl) (fun i => @fun β d ks r h => Eq.trans (b := law27_DeliverySteps_p2_G (zqgg c_delivery_Bound c_delivery_Check c_delivery_Next c_delivery_Plan c_delivery_Valid c_ref27_Bound c_ref27_Check c_ref27_Next c_ref27_Plan c_ref27_SameAttempts c_ref27_Valid p1 (i + 1)) d ks) (by kernel_rfl) h) i
def zqgi (p2 : zqg0) {β : Type} (rec : Int → Int → Int → Int → Int → Int → Int → Int → (List (Int × (Int × (Int × Int)))) → (List Int) → Int → Int → (List (Int × (Int × (Int × Int)))) → (List zq2) → Option β) (k1 : zqg3 β) (k2 : zqg4 β) (page : Int) (step : Int) (person : Int) (start : Int) (now : Int) (t102 : Int) (t103 : Int) (raw : Int) (raw2 : List (Int × (Int × (Int × Int)))) (d : List Int) (d2 : Int) (p_ : Int) (p_2 : List (Int × (Int × (Int × Int)))) (t101 : List zq2) : Option β :=
  cond (decide (t103 < t102))
  (cond (decide (0 ≤ t103) && decide (t103 < (List.length t101 : Int)))
  (let l : List (Int × List (Int × (Int × (Int × Int)))) := ([(p_, p_2), (raw, raw2)] : List (Int × List (Int × (Int × (Int × Int)))));
  p2 (fun (t12 : Bool) =>
  k1 t12) (fun (page2 : Int) (step2 : Int) (person2 : Int) (start2 : Int) (now2 : Int) (t1022 : Int) (t1032 : Int) (raw3 : Int) (raw4 : List (Int × (Int × (Int × Int)))) (d3 : List Int) (d4 : Int) (p_3 : Int) (p_4 : List (Int × (Int × (Int × Int)))) (t1012 : List zq2) =>
  rec page2 step2 person2 start2 now2 t1022 (IntKind.i64.wrap (t1032 + (1 : Int))) raw3 raw4 d3 d4 p_3 p_4 t1012) page step person start now t102 t103 (List.length l : Int) (0 : Int) raw raw2 d d2 p_ p_2 ((List.getD t101 (Int.toNat t103) ((0 : Int), ((0 : Int), ((0 : Int), ((0 : Int), ((0 : Int), (0 : Int))))))).1) (((List.getD t101 (Int.toNat t103) ((0 : Int), ((0 : Int), ((0 : Int), ((0 : Int), ((0 : Int), (0 : Int))))))).2).1) ((((List.getD t101 (Int.toNat t103) ((0 : Int), ((0 : Int), ((0 : Int), ((0 : Int), ((0 : Int), (0 : Int))))))).2).2).1) (((((List.getD t101 (Int.toNat t103) ((0 : Int), ((0 : Int), ((0 : Int), ((0 : Int), ((0 : Int), (0 : Int))))))).2).2).2).1) ((((((List.getD t101 (Int.toNat t103) ((0 : Int), ((0 : Int), ((0 : Int), ((0 : Int), ((0 : Int), (0 : Int))))))).2).2).2).2).1) ((((((List.getD t101 (Int.toNat t103) ((0 : Int), ((0 : Int), ((0 : Int), ((0 : Int), ((0 : Int), (0 : Int))))))).2).2).2).2).2) t101 l)
  none)
  (k2 page step person start)
def zqgj (p2 : zqg0) {β : Type} : Nat → zqg3 β → zqg4 β → Int → Int → Int → Int → Int → Int → Int → Int → (List (Int × (Int × (Int × Int)))) → (List Int) → Int → Int → (List (Int × (Int × (Int × Int)))) → (List zq2) → Option β
  | 0 => fun _ _ _ _ _ _ _ _ _ _ _ _ _ _ _ _ => none
  | i + 1 => fun k1 k2 page step person start now t102 t103 raw raw2 d d2 p_ p_2 t101 => zqgi p2 (zqgj p2 i k1 k2) k1 k2 page step person start now t102 t103 raw raw2 d d2 p_ p_2 t101
theorem zqgk (hΓ : ΓOk Try.prog (law27_DeliverySteps_X c_delivery_Bound c_delivery_Check c_delivery_New c_delivery_Next c_delivery_Plan c_delivery_Receipt c_delivery_Send c_delivery_Valid c_law27_contact c_law27_sane c_made_Dice_Next c_made_Dice_One c_made_Dice_Person c_made_Light c_made_Roll c_ref27_Bound c_ref27_Check c_ref27_New c_ref27_Next c_ref27_Plan c_ref27_Receipt c_ref27_SameAttempts c_ref27_Send c_ref27_Valid).Γ) (p2 : zqg0) (hp2 : PieceOk Try.prog 271 0 law27_DeliverySteps_p2_code zqg1 zqg2 (law27_DeliverySteps_p2_G p2)) (i : Nat) : PieceOk Try.prog 271 0 law27_DeliverySteps_p3_code zqg6 zqg7 (law27_DeliverySteps_p3_G (zqgj p2 i)) := by
  rw [show law27_DeliverySteps_p3_code = .loop (loopBody law27_DeliverySteps_p3_code) by kernel_rfl]
  exact piece_loop (X := (law27_DeliverySteps_X c_delivery_Bound c_delivery_Check c_delivery_New c_delivery_Next c_delivery_Plan c_delivery_Receipt c_delivery_Send c_delivery_Valid c_law27_contact c_law27_sane c_made_Dice_Next c_made_Dice_One c_made_Dice_Person c_made_Light c_made_Roll c_ref27_Bound c_ref27_Check c_ref27_New c_ref27_Next c_ref27_Plan c_ref27_Receipt c_ref27_SameAttempts c_ref27_Send c_ref27_Valid)) (p := 1) (Λ := pick1 [(230, pieceCut zqg1 zqg2 (law27_DeliverySteps_p2_G p2))]) (G := fun i => @fun β d ks => law27_DeliverySteps_p3_G (zqgj p2 i) d ks) mixed tab_ok hΓ rfl (by kernel_rfl) (CutsOk_cons (q := 230) (c' := law27_DeliverySteps_p2_code) (by kernel_rfl) rfl hp2 CutsOk_nil) (fun _ _ => rfl) (fun i => @fun β d ks r h => Eq.trans (b := law27_DeliverySteps_p3_G (zqgj p2 (i + 1)) d ks) (by kernel_rfl) h) i
def zqgl (p3 : zqg5) {β : Type} (k1 : zqg8 β) (page : Int) (step : Int) (person : Int) (start : Int) (now : Int) (raw : Int) (raw2 : List (Int × (Int × (Int × Int)))) (d : List Int) (d2 : Int) (p_ : Int) (p_2 : List (Int × (Int × (Int × Int)))) (c : Int) (c2 : Int) (c3 : Int) (c4 : Int) (c5 : Int) (c6 : Int) (odd : Int) (odd2 : Int) (odd3 : Int) (odd4 : Int) (odd5 : Int) (odd6 : Int) : Option β :=
  let l : List zq2 := ([(c, (c2, (c3, (c4, (c5, c6))))), (odd, (odd2, (odd3, (odd4, (odd5, odd6)))))] : List zq2);
  p3 (fun (t12 : Bool) =>
  k1 t12) (fun (page2 : Int) (step2 : Int) (person2 : Int) (start2 : Int) =>
  c_delivery_New page2 step2 person2 start2 (fun (rNew : zq2) (rNew2 : Int) =>
  c_ref27_New page2 step2 person2 start2 (fun (rNew3 : zq2) (rNew4 : Int) =>
  cond (decide (rNew.1 = rNew3.1) && (decide (rNew.2.1 = rNew3.2.1) && (decide (rNew.2.2.1 = rNew3.2.2.1) && (decide (rNew.2.2.2.1 = rNew3.2.2.2.1) && (decide (rNew.2.2.2.2.1 = rNew3.2.2.2.2.1) && (decide (rNew.2.2.2.2.2 = rNew3.2.2.2.2.2) && true))))))
  (cond (decide (rNew2 = rNew4))
  (c_law27_sane  (fun (rsane : Bool) =>
  k1 rsane))
  (k1 false))
  (k1 false)))) page step person start now (List.length l : Int) (0 : Int) raw raw2 d d2 p_ p_2 l
def zqgm (p3 : zqg5) {β : Type} (k1 : zqg8 β) (page : Int) (step : Int) (person : Int) (start : Int) (now : Int) (raw : Int) (raw2 : List (Int × (Int × (Int × Int)))) (d : List Int) (d2 : Int) (p_ : Int) (p_2 : List (Int × (Int × (Int × Int)))) (c : Int) (c2 : Int) (c3 : Int) (c4 : Int) (c5 : Int) (c6 : Int) (odd : Int) (odd2 : Int) (odd3 : Int) (odd4 : Int) (odd5 : Int) (odd6 : Int) : Option β := zqgl c_delivery_New c_law27_sane c_ref27_New p3 k1 page step person start now raw raw2 d d2 p_ p_2 c c2 c3 c4 c5 c6 odd odd2 odd3 odd4 odd5 odd6
theorem zqgn (hΓ : ΓOk Try.prog (law27_DeliverySteps_X c_delivery_Bound c_delivery_Check c_delivery_New c_delivery_Next c_delivery_Plan c_delivery_Receipt c_delivery_Send c_delivery_Valid c_law27_contact c_law27_sane c_made_Dice_Next c_made_Dice_One c_made_Dice_Person c_made_Light c_made_Roll c_ref27_Bound c_ref27_Check c_ref27_New c_ref27_Next c_ref27_Plan c_ref27_Receipt c_ref27_SameAttempts c_ref27_Send c_ref27_Valid).Γ) (p3 : zqg5) (hp3 : PieceOk Try.prog 271 0 law27_DeliverySteps_p3_code zqg6 zqg7 (law27_DeliverySteps_p3_G p3)) : PieceOk Try.prog 271 0 law27_DeliverySteps_p4_code zqga zqgb (law27_DeliverySteps_p4_G (zqgm c_delivery_New c_law27_sane c_ref27_New p3)) :=
  piece_exec (X := (law27_DeliverySteps_X c_delivery_Bound c_delivery_Check c_delivery_New c_delivery_Next c_delivery_Plan c_delivery_Receipt c_delivery_Send c_delivery_Valid c_law27_contact c_law27_sane c_made_Dice_Next c_made_Dice_One c_made_Dice_Person c_made_Light c_made_Roll c_ref27_Bound c_ref27_Check c_ref27_New c_ref27_Next c_ref27_Plan c_ref27_Receipt c_ref27_SameAttempts c_ref27_Send c_ref27_Valid)) (p := 255) (Λ := pick1 [(2042, pieceCut zqg6 zqg7 (law27_DeliverySteps_p3_G p3))]) mixed tab_ok hΓ (by kernel_rfl) (CutsOk_cons (q := 2042) (c' := law27_DeliverySteps_p3_code) (by kernel_rfl) rfl hp3 CutsOk_nil) (fun d ks r h => Eq.trans (b := law27_DeliverySteps_p4_G (zqgm c_delivery_New c_law27_sane c_ref27_New p3) d ks) (by kernel_rfl) h)
def zqgo (p4 : zqg9) {β : Type} (t : List Int) (raw : (Int × List (Int × (Int × (Int × Int))))) (page : Int) (step : Int) (person : Int) (start : Int) (k : (Bool → Option β)) : Option β :=
  c_made_Light t (fun (rLight : Bool) =>
  cond (!rLight)
  (c_law27_sane  (fun (rsane : Bool) =>
  k rsane))
  (cond (decide ((10 : Int) < (List.length raw.2 : Int)))
  (c_law27_sane  (fun (rsane : Bool) =>
  k rsane))
  (c_made_Roll t (fun (mrRoll : (List Int × Int)) =>
  c_made_Dice_Next (4 : Int) mrRoll (fun (rNext : Int) (mrNext : (List Int × Int)) =>
  c_made_Dice_Person rNext mrNext (fun (rPerson : (Int × List (Int × (Int × (Int × Int))))) (mrPerson : (List Int × Int)) =>
  c_law27_contact rPerson mrPerson (fun (rcontact : zq2) (rcontact2 : Int) (mrcontact : (List Int × Int)) =>
  c_made_Dice_Next (6 : Int) mrcontact (fun (rNext2 : Int) (mrNext2 : (List Int × Int)) =>
  let t2 : Bool := (decide (rNext2 = (0 : Int)));
  cond t2
  (let l : List Int := ([(-1 : Int), (0 : Int), (99 : Int)] : List Int);
  c_made_Dice_One l mrNext2 (fun (rOne : Int) (mrOne : (List Int × Int)) =>
  p4 (fun (t12 : Bool) =>
  k t12) page step person start rcontact2 raw.1 raw.2 mrOne.1 mrOne.2 rPerson.1 rPerson.2 rcontact.1 rcontact.2.1 rcontact.2.2.1 rcontact.2.2.2.1 rcontact.2.2.2.2.1 rcontact.2.2.2.2.2 rcontact.1 rcontact.2.1 rcontact.2.2.1 rcontact.2.2.2.1 rOne rcontact.2.2.2.2.2))
  (let t3 : Bool := (decide (rNext2 = (1 : Int)));
  cond t3
  (let l : List Int := ([(0 : Int), rcontact2, (-2 : Int)] : List Int);
  c_made_Dice_One l mrNext2 (fun (rOne : Int) (mrOne : (List Int × Int)) =>
  p4 (fun (t12 : Bool) =>
  k t12) page step person start rcontact2 raw.1 raw.2 mrOne.1 mrOne.2 rPerson.1 rPerson.2 rcontact.1 rcontact.2.1 rcontact.2.2.1 rcontact.2.2.2.1 rcontact.2.2.2.2.1 rcontact.2.2.2.2.2 rcontact.1 rcontact.2.1 rcontact.2.2.1 rcontact.2.2.2.1 rcontact.2.2.2.2.1 rOne))
  (let t4 : Bool := (decide (rNext2 = (2 : Int)));
  cond t4
  (let l : List Int := ([(-1 : Int), (8589934592 : Int), (8589934593 : Int)] : List Int);
  c_made_Dice_One l mrNext2 (fun (rOne : Int) (mrOne : (List Int × Int)) =>
  p4 (fun (t12 : Bool) =>
  k t12) page step person start rcontact2 raw.1 raw.2 mrOne.1 mrOne.2 rPerson.1 rPerson.2 rcontact.1 rcontact.2.1 rcontact.2.2.1 rcontact.2.2.2.1 rcontact.2.2.2.2.1 rcontact.2.2.2.2.2 rcontact.1 rcontact.2.1 rcontact.2.2.1 rOne rcontact.2.2.2.2.1 rcontact.2.2.2.2.2))
  (let t5 : Bool := (decide (rNext2 = (3 : Int)));
  cond t5
  (p4 (fun (t12 : Bool) =>
  k t12) page step person start rcontact2 raw.1 raw.2 mrNext2.1 mrNext2.2 rPerson.1 rPerson.2 rcontact.1 rcontact.2.1 rcontact.2.2.1 rcontact.2.2.2.1 rcontact.2.2.2.2.1 rcontact.2.2.2.2.2 rcontact.1 rcontact.2.1 (IntKind.i64.wrap (rcontact.2.2.1 + (1 : Int))) rcontact.2.2.2.1 rcontact.2.2.2.2.1 rcontact.2.2.2.2.2)
  (let t6 : Bool := (decide (rNext2 = (4 : Int)));
  cond t6
  (p4 (fun (t12 : Bool) =>
  k t12) page step person start rcontact2 raw.1 raw.2 mrNext2.1 mrNext2.2 rPerson.1 rPerson.2 rcontact.1 rcontact.2.1 rcontact.2.2.1 rcontact.2.2.2.1 rcontact.2.2.2.2.1 rcontact.2.2.2.2.2 (0 : Int) rcontact.2.1 rcontact.2.2.1 rcontact.2.2.2.1 rcontact.2.2.2.2.1 rcontact.2.2.2.2.2)
  (let t7 : Bool := (decide (rNext2 = (5 : Int)));
  cond t7
  (p4 (fun (t12 : Bool) =>
  k t12) page step person start rcontact2 raw.1 raw.2 mrNext2.1 mrNext2.2 rPerson.1 rPerson.2 rcontact.1 rcontact.2.1 rcontact.2.2.1 rcontact.2.2.2.1 rcontact.2.2.2.2.1 rcontact.2.2.2.2.2 rcontact.1 (-2 : Int) rcontact.2.2.1 rcontact.2.2.2.1 rcontact.2.2.2.2.1 rcontact.2.2.2.2.2)
  (p4 (fun (t12 : Bool) =>
  k t12) page step person start rcontact2 raw.1 raw.2 mrNext2.1 mrNext2.2 rPerson.1 rPerson.2 rcontact.1 rcontact.2.1 rcontact.2.2.1 rcontact.2.2.2.1 rcontact.2.2.2.2.1 rcontact.2.2.2.2.2 rcontact.1 rcontact.2.1 rcontact.2.2.1 rcontact.2.2.2.1 rcontact.2.2.2.2.1 rcontact.2.2.2.2.2))))))))))))))
theorem zqgp (hΓ : ΓOk Try.prog (law27_DeliverySteps_X c_delivery_Bound c_delivery_Check c_delivery_New c_delivery_Next c_delivery_Plan c_delivery_Receipt c_delivery_Send c_delivery_Valid c_law27_contact c_law27_sane c_made_Dice_Next c_made_Dice_One c_made_Dice_Person c_made_Light c_made_Roll c_ref27_Bound c_ref27_Check c_ref27_New c_ref27_Next c_ref27_Plan c_ref27_Receipt c_ref27_SameAttempts c_ref27_Send c_ref27_Valid).Γ) (p4 : zqg9) (hp4 : PieceOk Try.prog 271 0 law27_DeliverySteps_p4_code zqga zqgb (law27_DeliverySteps_p4_G p4)) : SpecOk Try.prog 8 (zqfs (zqgo c_law27_contact c_law27_sane c_made_Dice_Next c_made_Dice_One c_made_Dice_Person c_made_Light c_made_Roll p4)) :=
  spec_exec (X := (law27_DeliverySteps_X c_delivery_Bound c_delivery_Check c_delivery_New c_delivery_Next c_delivery_Plan c_delivery_Receipt c_delivery_Send c_delivery_Valid c_law27_contact c_law27_sane c_made_Dice_Next c_made_Dice_One c_made_Dice_Person c_made_Light c_made_Roll c_ref27_Bound c_ref27_Check c_ref27_New c_ref27_Next c_ref27_Plan c_ref27_Receipt c_ref27_SameAttempts c_ref27_Send c_ref27_Valid)) (Λ := pick1 [(255, pieceCut zqga zqgb (law27_DeliverySteps_p4_G p4))]) (rs := [.tmp 12]) (c := bodyOf Try.f8) mixed tab_ok hΓ Try.func8 (by kernel_rfl) (by kernel_rfl) (by kernel_rfl) (by kernel_rfl) (CutsOk_cons (q := 255) (c' := law27_DeliverySteps_p4_code) (by kernel_rfl) rfl hp4 CutsOk_nil) (fun x k r h => Eq.trans (b := (zqfs (zqgo c_law27_contact c_law27_sane c_made_Dice_Next c_made_Dice_One c_made_Dice_Person c_made_Light c_made_Roll p4)).run x k) (by kernel_rfl) h)
end
theorem zqgqΓ : ΓOk Try.prog (pick1 [(20, .spec (zqb5 zqbk)), (30, .spec (zqcs zqcw)), (36, .spec (zq6p zq6t)), (27, .spec (zqdo zqds)), (13, .spec (zqbz zqcp)), (26, .spec (zqdh zqdl)), (23, .spec (zqcz zqde)), (31, .spec (zqay zqb2)), (22, .spec (zqa0 zqao)), (10, .spec (zqfl zqfp)), (14, .spec (zqj zqn)), (28, .spec (zq19 zq1d)), (12, .spec (zq3b zq3q)), (9, .spec (zq5 zq9)), (11, .spec (zqc zqg)), (33, .spec (zq67 zq6m)), (25, .spec (zq8e zq8i)), (37, .spec (zq3t zq3x)), (29, .spec (zq8l zq8p)), (21, .spec (zq7a zq8b)), (35, .spec (zq9a zq9e)), (24, .spec (zqq zq16)), (34, .spec (zq8s zq97)), (32, .spec (zq5o zq64))]) := (ΓOk_cons zqbl (ΓOk_cons zqcx (ΓOk_cons zq6u (ΓOk_cons zqdt (ΓOk_cons zqcq (ΓOk_cons zqdm (ΓOk_cons zqdf (ΓOk_cons zqb3 (ΓOk_cons zqap (ΓOk_cons zqfq (ΓOk_cons zqo (ΓOk_cons zq1e (ΓOk_cons zq3r (ΓOk_cons zqa (ΓOk_cons zqh (ΓOk_cons zq6n (ΓOk_cons zq8j (ΓOk_cons zq3y (ΓOk_cons zq8q (ΓOk_cons zq8c (ΓOk_cons zq9f (ΓOk_cons zq17 (ΓOk_cons zq98 (ΓOk_cons zq65 ΓOk_nil))))))))))))))))))))))))
def zqgr (m : Nat) : zqfv := zqgd zqdl zqde zqn zq9e zq16 zq97 m
theorem zqgs {β : Type} (i : Nat) (k1 k2 page step person start now t102 t103 t110 t111 t177 t178 raw raw2 d d2 p_ p_2 x x2 x3 x4 x5 x6 q q2 t101 t109 t176) : (zqgr (i + 1) k1 k2 page step person start now t102 t103 t110 t111 t177 t178 raw raw2 d d2 p_ p_2 x x2 x3 x4 x5 x6 q q2 t101 t109 t176 : Option β) = zqgc zqdl zqde zqn zq9e zq16 zq97 (zqgr i k1 k2) k1 k2 page step person start now t102 t103 t110 t111 t177 t178 raw raw2 d d2 p_ p_2 x x2 x3 x4 x5 x6 q q2 t101 t109 t176 := rfl
def zqgt : zqfv := zqgr fuel
theorem zqgu : PieceOk Try.prog 271 0 law27_DeliverySteps_p1_code zqfw zqfx (law27_DeliverySteps_p1_G zqgt) := zqge zqbk zqcw zq6t zqds zqcp zqdl zqde zqb2 zqao zqfp zqn zq1d zq3q zq9 zqg zq6m zq8i zq3x zq8p zq8b zq9e zq16 zq97 zq64 zqgqΓ fuel
def zqgv (m : Nat) : zqg0 := zqgg zqbk zqcw zqds zqcp zqb2 zq6m zq8i zq8p zq8b zq16 zq64 zqgt m
theorem zqgw {β : Type} (i : Nat) (k1 k2 page step person start now t102 t103 t110 t111 raw raw2 d d2 p_ p_2 x x2 x3 x4 x5 x6 t101 t109) : (zqgv (i + 1) k1 k2 page step person start now t102 t103 t110 t111 raw raw2 d d2 p_ p_2 x x2 x3 x4 x5 x6 t101 t109 : Option β) = zqgf zqbk zqcw zqds zqcp zqb2 zq6m zq8i zq8p zq8b zq16 zq64 zqgt (zqgv i k1 k2) k1 k2 page step person start now t102 t103 t110 t111 raw raw2 d d2 p_ p_2 x x2 x3 x4 x5 x6 t101 t109 := rfl
def zqgx : zqg0 := zqgv fuel
theorem zqgy : PieceOk Try.prog 271 0 law27_DeliverySteps_p2_code zqg1 zqg2 (law27_DeliverySteps_p2_G zqgx) := zqgh zqbk zqcw zq6t zqds zqcp zqdl zqde zqb2 zqao zqfp zqn zq1d zq3q zq9 zqg zq6m zq8i zq3x zq8p zq8b zq9e zq16 zq97 zq64 zqgqΓ zqgt zqgu fuel
def zqgz (m : Nat) : zqg5 := zqgj zqgx m
theorem zqh0 {β : Type} (i : Nat) (k1 k2 page step person start now t102 t103 raw raw2 d d2 p_ p_2 t101) : (zqgz (i + 1) k1 k2 page step person start now t102 t103 raw raw2 d d2 p_ p_2 t101 : Option β) = zqgi zqgx (zqgz i k1 k2) k1 k2 page step person start now t102 t103 raw raw2 d d2 p_ p_2 t101 := rfl
def zqh1 : zqg5 := zqgz fuel
theorem zqh2 : PieceOk Try.prog 271 0 law27_DeliverySteps_p3_code zqg6 zqg7 (law27_DeliverySteps_p3_G zqh1) := zqgk zqbk zqcw zq6t zqds zqcp zqdl zqde zqb2 zqao zqfp zqn zq1d zq3q zq9 zqg zq6m zq8i zq3x zq8p zq8b zq9e zq16 zq97 zq64 zqgqΓ zqgx zqgy fuel
def zqh3 : zqg9 := zqgm zq6t zqfp zq3x zqh1
theorem zqh4 : PieceOk Try.prog 271 0 law27_DeliverySteps_p4_code zqga zqgb (law27_DeliverySteps_p4_G zqh3) := zqgn zqbk zqcw zq6t zqds zqcp zqdl zqde zqb2 zqao zqfp zqn zq1d zq3q zq9 zqg zq6m zq8i zq3x zq8p zq8b zq9e zq16 zq97 zq64 zqgqΓ zqh1 zqh2
def zqh5 : zqfr := zqgo zqao zqfp zqn zq1d zq3q zq9 zqg zqh3
theorem zqh6 : SpecOk Try.prog 8 (zqfs zqh5) := zqgp zqbk zqcw zq6t zqds zqcp zqdl zqde zqb2 zqao zqfp zqn zq1d zq3q zq9 zqg zq6m zq8i zq3x zq8p zq8b zq9e zq16 zq97 zq64 zqgqΓ zqh3 zqh4
end
end Go.Lift
/- Plain lemmas about functional forms: tests that are known, loops. -/
namespace Go.Lift
open Go.RowKit Go.IntWalk

section
variable {β : Type}
/-! ### Tests -/
theorem c_inb {i n : Int} {a b : Option β} (h : 0 ≤ i ∧ i < n) : cond (decide (0 ≤ i) && decide (i < n)) a b = a := by
  rw [decide_eq_true h.1, decide_eq_true h.2]; rfl
theorem c_room {n : Nat} {a b : Option β} (h : n ≤ 140737488355328) : cond (decide (n ≤ roomMax)) a b = a := by
  rw [decide_eq_true (p := n ≤ roomMax) h]; rfl
theorem c_pos {p : Prop} [Decidable p] {a b : Option β} (h : p) : cond (decide p) a b = a := by rw [decide_eq_true h]; rfl
theorem c_neg {p : Prop} [Decidable p] {a b : Option β} (h : ¬ p) : cond (decide p) a b = b := by rw [decide_eq_false h]; rfl
theorem c_npos {p : Prop} [Decidable p] {a b : Option β} (h : p) : cond (!decide p) a b = b := by rw [decide_eq_true h]; rfl
theorem c_nneg {p : Prop} [Decidable p] {a b : Option β} (h : ¬ p) : cond (!decide p) a b = a := by rw [decide_eq_false h]; rfl
theorem k_eq {γ : Type} {k : γ → Option β} {x y : γ} (h : x = y) : k x = k y := by rw [h]

/-! ### Loops over the numbers from 0 on -/
/-- A walk over a list that may end early. -/
def walk {α σ ε : Type} (g : Nat → α → σ → ε ⊕ σ) : List α → Nat → σ → ε ⊕ σ
  | [], _, s => .inr s
  | x :: r, j, s =>
    match g j x s with
    | .inl e => .inl e
    | .inr s' => walk g r (j + 1) s'

def sumK {ε σ : Type} (E : ε → Option β) (K : σ → Option β) : ε ⊕ σ → Option β
  | .inl e => E e
  | .inr s => K s

theorem walk_loop {α σ ε : Type} (F : Nat → Int → σ → Option β) (g : Nat → α → σ → ε ⊕ σ) (E : ε → Option β) (K : σ → Option β) (d : α) (xs : List α)
    (h1 : ∀ (m i : Nat) s, i < xs.length → F (m + 1) (i : Int) s = sumK E (fun s' => F m ((i : Int) + 1) s') (g i (xs.getD i d) s))
    (h2 : ∀ (m : Nat) s, F (m + 1) (xs.length : Int) s = K s) :
    ∀ (r : List α) (j fuel : Nat) (s : σ), xs.drop j = r → j + r.length = xs.length → r.length < fuel → F fuel (j : Int) s = sumK E K (walk g r j s)
  | r, j, 0, s, _, _, h => absurd h (Nat.not_lt_zero _)
  | [], j, m + 1, s, hd, hj, _ => by
    simp only [List.length_nil, Nat.add_zero] at hj
    subst hj
    rw [h2]; rfl
  | x :: r, j, m + 1, s, hd, hj, hm => by
    simp only [List.length_cons] at hj hm
    have h3 : j < xs.length := by omega
    have hx : xs.getD j d = x := by
      rw [List.drop_eq_getElem_cons h3] at hd
      injection hd with hd1 hd2
      simp [List.getD, h3, hd1]
    have hr : xs.drop (j + 1) = r := by
      rw [List.drop_eq_getElem_cons h3] at hd
      injection hd with hd1 hd2
    rw [h1 m j s h3, hx, walk]
    cases hg : g j x s with
    | inl e => rfl
    | inr s' =>
      simp only [sumK]
      exact walk_loop F g E K d xs h1 h2 r (j + 1) m s' hr (by omega) (by omega)

theorem walk_loop0 {α σ ε : Type} (F : Nat → Int → σ → Option β) (g : Nat → α → σ → ε ⊕ σ) (E : ε → Option β) (K : σ → Option β) (d : α) (xs : List α) (s : σ) (n : Nat) (hn : xs.length < n)
    (h1 : ∀ (m i : Nat) s, i < xs.length → F (m + 1) (i : Int) s = sumK E (fun s' => F m ((i : Int) + 1) s') (g i (xs.getD i d) s))
    (h2 : ∀ (m : Nat) s, F (m + 1) (xs.length : Int) s = K s) : F n 0 s = sumK E K (walk g xs 0 s) :=
  walk_loop F g E K d xs h1 h2 xs 0 n s rfl (by simp) hn

/-- A loop that only looks: every element, or out. -/
theorem check_loop {α : Type} (F : Nat → Int → Option β) (p : α → Bool) (E K : Option β) (d : α) (xs : List α) (n : Nat) (hn : xs.length < n)
    (h1 : ∀ (m i : Nat), i < xs.length → F (m + 1) (i : Int) = cond (p (xs.getD i d)) (F m ((i : Int) + 1)) E)
    (h2 : ∀ (m : Nat), F (m + 1) (xs.length : Int) = K) : F n 0 = cond (xs.all p) K E := by
  have h := walk_loop0 (ε := Unit) (fun m i (_ : Unit) => F m i) (fun _ x s => cond (p x) (.inr s) (.inl ())) (fun _ => E) (fun _ => K) d xs () n hn
    (fun m i s hi => by rw [h1 m i hi]; cases p (xs.getD i d) <;> rfl) (fun m s => h2 m)
  rw [h]
  have key : ∀ (l : List α) (j : Nat), sumK (fun _ => E) (fun _ => K) (walk (ε := Unit) (fun _ x (s : Unit) => cond (p x) (.inr s) (.inl ())) l j ()) = cond (l.all p) K E := by
    intro l
    induction l with
    | nil => intro j; rfl
    | cons x l ih =>
      intro j
      simp only [walk, List.all_cons]
      cases p x with
      | true => simpa using ih (j + 1)
      | false => rfl
  exact key xs 0

/-- A loop that goes through all elements. -/
theorem fold_loop {α σ : Type} (F : Nat → Int → σ → Option β) (g : σ → α → σ) (K : σ → Option β) (d : α) (xs : List α) (s : σ) (n : Nat) (hn : xs.length < n)
    (h1 : ∀ (m i : Nat) s, i < xs.length → F (m + 1) (i : Int) s = F m ((i : Int) + 1) (g s (xs.getD i d)))
    (h2 : ∀ (m : Nat) s, F (m + 1) (xs.length : Int) s = K s) : F n 0 s = K (xs.foldl g s) := by
  have h := walk_loop0 (ε := Empty) F (fun _ x s => .inr (g s x)) (fun e => e.elim) K d xs s n hn (fun m i s hi => h1 m i s hi) h2
  rw [h]
  have key : ∀ (l : List α) (j : Nat) (s : σ), sumK (fun e : Empty => e.elim) K (walk (fun _ x s => .inr (g s x)) l j s) = K (l.foldl g s) := by
    intro l
    induction l with
    | nil => intro j s; rfl
    | cons x l ih => intro j s; exact ih (j + 1) (g s x)
  exact key xs 0 s

end
end Go.Lift

/- Attempts in their order: the plain side of the laws of chapter 27. -/
namespace Go.Lift
set_option linter.unusedVariables false
set_option linter.unusedSimpArgs false

/-- An attempt: its channel, its try, its instant. -/
abbrev Att := Int × Int × Int
abbrev at0 : Att := (0, 0, 0)
def attLt (a b : Att) : Prop := a.2.2 < b.2.2 ∨ (a.2.2 = b.2.2 ∧ (a.1 < b.1 ∨ (a.1 = b.1 ∧ a.2.1 < b.2.1)))
instance (a b : Att) : Decidable (attLt a b) := by unfold attLt; infer_instance
theorem attLt_irr (a : Att) : ¬ attLt a a := by unfold attLt; omega
theorem attLt_trans {a b c : Att} (h1 : attLt a b) (h2 : attLt b c) : attLt a c := by unfold attLt at *; omega
theorem attLt_anti {a b : Att} (h1 : ¬ attLt a b) (h2 : ¬ attLt b a) : a = b := by
  obtain ⟨a1, a2, a3⟩ := a
  obtain ⟨b1, b2, b3⟩ := b
  unfold attLt at *
  simp only at h1 h2
  simp only [Prod.mk.injEq]
  omega
/-- Not behind. -/
def attLe (a b : Att) : Prop := ¬ attLt b a
/-- Into its place. -/
def insA : List Att → Att → List Att
  | [], x => [x]
  | y :: l, x => if attLt x y then x :: y :: l else y :: insA l x
def sortA (l : List Att) : List Att := l.foldl insA []

abbrev AscA (l : List Att) : Prop := l.Pairwise attLe

theorem insA_perm : ∀ (l : List Att) (x : Att), (insA l x).Perm (x :: l)
  | [], x => List.Perm.refl _
  | y :: l, x => by
    unfold insA
    split
    · exact List.Perm.refl _
    · exact ((insA_perm l x).cons y).trans (List.Perm.swap x y l)
theorem insA_asc : ∀ {l : List Att} {x : Att}, AscA l → AscA (insA l x)
  | [], x, _ => by simp [insA]
  | y :: l, x, h => by
    obtain ⟨h1, h2⟩ := List.pairwise_cons.1 h
    unfold insA
    split
    · rename_i hx
      refine List.pairwise_cons.2 ⟨fun z hz => ?_, h⟩
      rcases List.mem_cons.1 hz with rfl | hz
      · exact fun hh => attLt_irr _ (attLt_trans hx hh)
      · have := h1 z hz
        intro hh
        exact this (attLt_trans hh hx)
    · rename_i hx
      refine List.pairwise_cons.2 ⟨fun z hz => ?_, insA_asc h2⟩
      rcases List.mem_cons.1 ((insA_perm l x).mem_iff.1 hz) with rfl | hz
      · exact hx
      · exact h1 z hz
theorem fold_ins_perm : ∀ (l a : List Att), (l.foldl insA a).Perm (a ++ l)
  | [], a => by simp
  | x :: l, a => by
    have h1 := fold_ins_perm l (insA a x)
    refine h1.trans ?_
    have h2 := (insA_perm a x).append_right l
    refine h2.trans ?_
    simp only [List.cons_append]
    exact (List.perm_middle (a := x) (l₁ := a) (l₂ := l)).symm
theorem fold_ins_asc : ∀ (l : List Att) {a : List Att}, AscA a → AscA (l.foldl insA a)
  | [], a, h => h
  | x :: l, a, h => fold_ins_asc l (insA_asc h)
theorem sortA_perm (l : List Att) : (sortA l).Perm l := fold_ins_perm l []
theorem sortA_asc (l : List Att) : AscA (sortA l) := fold_ins_asc l .nil
theorem sortA_len (l : List Att) : (sortA l).length = l.length := (sortA_perm l).length_eq
theorem asc_unique {a b : List Att} (ha : AscA a) (hb : AscA b) (h : a.Perm b) : a = b :=
  List.Perm.eq_of_pairwise (fun x y _ _ h1 h2 => attLt_anti h2 h1) ha hb h

/-- The place of an insertion: behind all that x does not go ahead of. -/
theorem insA_append {a b : List Att} {x : Att} (ha : ∀ y ∈ a, ¬ attLt x y) (hb : ∀ y ∈ b, attLt x y) : insA (a ++ b) x = a ++ x :: b := by
  induction a with
  | nil =>
    cases b with
    | nil => rfl
    | cons y b => simp [insA, hb y (by simp)]
  | cons y a ih =>
    simp only [List.cons_append, insA]
    rw [if_neg (ha y (by simp)), ih fun z hz => ha z (by simp [hz])]

/-- Channels: their kind, latency, number of tries and pause. -/
abbrev Chan := Int × Int × Int × Int
def triesOf (start : Int) (c : Nat) (ch : Chan) : List Att := (List.range ch.2.2.1.toNat).map fun (i : Nat) => ((c : Int), (i : Int), start + (i : Int) * ch.2.2.2)
def rawFrom (start : Int) : Nat → List Chan → List Att
  | _, [] => []
  | c, ch :: l => triesOf start c ch ++ rawFrom start (c + 1) l
theorem triesOf_len (start : Int) (c : Nat) (ch : Chan) : (triesOf start c ch).length = ch.2.2.1.toNat := by simp [triesOf]
theorem rawFrom_append (start : Int) : ∀ (c : Nat) (a b : List Chan), rawFrom start c (a ++ b) = rawFrom start c a ++ rawFrom start (c + a.length) b
  | c, [], b => rfl
  | c, ch :: a, b => by
    simp only [List.cons_append, rawFrom, rawFrom_append start (c + 1) a b, List.append_assoc, List.length_cons]
    rw [show c + 1 + a.length = c + (a.length + 1) by omega]
end Go.Lift

/- Chapter 27 in plain Lean: channels, profiles, plans; code and reference. -/
namespace Go.Lift
open Go.RowKit Go.IntWalk
noncomputable section
set_option linter.unusedVariables false
set_option linter.unusedSimpArgs false
set_option maxRecDepth 10000

abbrev Prof := Int × List Chan
abbrev ch0 : Chan := (0, 0, 0, 0)

section
variable {β : Type}
theorem c_andk {b q : Bool} {k : Bool → Option β} {X : Option β} (h : b = true → X = k q) : cond b X (k false) = k (b && q) := by
  cases b with
  | false => rfl
  | true => exact h rfl
theorem c_nandk {b q : Bool} {k : Bool → Option β} {X : Option β} (h : b = true → X = k q) : cond (!b) (k false) X = k (b && q) := by
  cases b with
  | false => rfl
  | true => exact h rfl
theorem c_ff' {b : Bool} {x y : Option β} (h : b = false) : cond b x y = y := by rw [h]; rfl
theorem c_tt' {b : Bool} {x y : Option β} (h : b = true) : cond b x y = x := by rw [h]; rfl
end

def inB (n lo hi : Int) : Bool := decide (lo ≤ n) && decide (n ≤ hi)
theorem inB_iff {n lo hi : Int} : inB n lo hi = true ↔ lo ≤ n ∧ n ≤ hi := by simp [inB]
def chanV (c : Chan) : Bool := inB c.1 0 2 && (inB c.2.1 0 3600 && (inB c.2.2.1 1 6 && inB c.2.2.2 1 3600))
def profV (p : Prof) : Bool := inB p.1 0 31 && (decide ((p.2.length : Int) ≤ 4) && p.2.all chanV)
def planOf (p : Prof) (start : Int) : List Att := cond (profV p && inB start 0 8589934592) (sortA (rawFrom start 0 p.2)) []

structure ChanOk (c : Chan) : Prop where
  l1 : 0 ≤ c.2.1
  l2 : c.2.1 ≤ 3600
  t1 : 1 ≤ c.2.2.1
  t2 : c.2.2.1 ≤ 6
  p1 : 1 ≤ c.2.2.2
  p2 : c.2.2.2 ≤ 3600
theorem chanV_ok {c : Chan} (h : chanV c = true) : ChanOk c := by
  unfold chanV at h
  simp only [Bool.and_eq_true, inB_iff] at h
  exact ⟨h.2.1.1, h.2.1.2, h.2.2.1.1, h.2.2.1.2, h.2.2.2.1, h.2.2.2.2⟩
structure ProfOk (p : Prof) : Prop where
  who : 0 ≤ p.1 ∧ p.1 ≤ 31
  few : p.2.length ≤ 4
  all : ∀ c ∈ p.2, chanV c = true
theorem profV_ok {p : Prof} (h : profV p = true) : ProfOk p := by
  unfold profV at h
  simp only [Bool.and_eq_true, inB_iff, decide_eq_true_eq, List.all_eq_true] at h
  exact ⟨h.1, by omega, h.2.2⟩

section
variable {β : Type}
theorem d_in (n lo hi : Int) (k : Bool → Option β) : zq1r n lo hi k = k (inB n lo hi) := by
  unfold zq1r zq1o
  exact c_andk fun _ => rfl
theorem ch_in (n lo hi : Int) (k : Bool → Option β) : zq31 n lo hi k = k (inB n lo hi) := by
  unfold zq31 zq2y
  exact c_andk fun _ => rfl
theorem r_in (n lo hi : Int) (k : Bool → Option β) : zq29 n lo hi k = k (inB n lo hi) := by
  unfold zq29 zq26
  exact c_andk fun _ => rfl
theorem ch_valid (c : Chan) (k : Bool → Option β) : zq5e c k = k (chanV c) := by
  unfold zq5e zq5b
  refine (ch_in _ _ _ _).trans ?_
  refine c_andk fun _ => ?_
  refine (ch_in _ _ _ _).trans ?_
  refine c_andk fun _ => ?_
  refine (ch_in _ _ _ _).trans ?_
  refine c_andk fun _ => ?_
  exact ch_in _ _ _ _
theorem r26_valid (c : Chan) (k : Bool → Option β) : zq50 c k = k (chanV c) := by
  unfold zq50 zq4x
  refine (r_in _ _ _ _).trans ?_
  refine c_andk fun _ => ?_
  refine (r_in _ _ _ _).trans ?_
  refine c_andk fun _ => ?_
  refine (r_in _ _ _ _).trans ?_
  refine c_andk fun _ => ?_
  exact r_in _ _ _ _

theorem d_index {l : List Chan} (hl : l.length ≤ 4) (k1 : zq9i β) (k2 : zq9j β) (E : Option β) (hE : ∀ i : Nat, k1 (i : Int) = E) :
    zq9v k1 k2 l (l.length : Int) 0 = cond (l.all chanV) (k2 ()) E := by
  refine check_loop (fun m i => zq9t m k1 k2 l (l.length : Int) i) chanV E (k2 ()) ch0 l fuel (lt_fuel (by omega)) (fun m i hi => ?_) (fun m => ?_)
  · simp only [zq9u, zq9n, Int.toNat_natCast]
    refine (c_pos (by omega)).trans ?_
    refine (c_inb (by omega)).trans ?_
    unfold zq77 zq74
    refine (ch_valid _ _).trans ?_
    rw [i64_in ((i : Int) + 1) (by omega)]
    cases chanV (l.getD i ch0) with
    | true => rfl
    | false => exact hE i
  · simp only [zq9u, zq9n]
    rw [c_neg (by omega)]

theorem d_contains {l : List Chan} (hl : l.length ≤ 4) (k : Bool → Option β) : zqav l k = k (!l.all chanV) := by
  unfold zqav zqas zq9x zq9q
  refine (d_index hl _ _ (k true) fun i => ?_).trans ?_
  · show k (decide ((0 : Int) ≤ (i : Int))) = k true
    rw [decide_eq_true (by omega)]
  · cases l.all chanV <;> rfl

theorem d_valid (p : Prof) (k : Bool → Option β) : zqb2 p k = k (profV p) := by
  unfold zqb2 zqaz zq2u zq2r
  refine (d_in _ _ _ _).trans ?_
  refine c_andk fun _ => ?_
  refine c_andk fun h => ?_
  have h := of_decide_eq_true h
  refine (d_contains (by omega) _).trans ?_
  show k (!!p.2.all chanV) = _
  rw [Bool.not_not]

theorem r27_valid (p : Prof) (k : Bool → Option β) : zq64 p k = k (profV p) := by
  unfold zq64 zq5x
  refine (r_in _ _ _ _).trans ?_
  refine c_nandk fun _ => ?_
  by_cases h : (p.2.length : Int) ≤ 4
  · refine (c_neg (by omega)).trans ?_
    rw [decide_eq_true h, Bool.true_and]
    refine (check_loop (fun m i => zq60 m (fun t2 => k t2) (fun _ => k true) i p.1 p.2) chanV (k false) (k true) ch0 p.2 fuel (lt_fuel (by omega)) (fun m i hi => ?_) (fun m => ?_)).trans ?_
    · simp only [zq61, zq5u, Int.toNat_natCast]
      refine (c_pos (by omega)).trans ?_
      refine (c_inb (by omega)).trans ?_
      refine (r26_valid _ _).trans ?_
      rw [i64_in ((i : Int) + 1) (by omega)]
      cases chanV (p.2.getD i ch0) <;> rfl
    · simp only [zq61, zq5u]
      rw [c_neg (by omega)]
    · cases p.2.all chanV <;> rfl
  · refine (c_pos (by omega)).trans ?_
    rw [decide_eq_false h]
    rfl
end

/-! ### Plans -/
theorem rawFrom_len {start : Int} : ∀ {l : List Chan} {c : Nat}, (∀ x ∈ l, chanV x = true) → (rawFrom start c l).length ≤ 6 * l.length
  | [], c, _ => by simp [rawFrom]
  | ch :: l, c, h => by
    have h1 := rawFrom_len (start := start) (l := l) (c := c + 1) fun x hx => h x (by simp [hx])
    have h2 := chanV_ok (h ch (by simp))
    have a := h2.t2
    simp only [rawFrom, List.length_append, triesOf_len, List.length_cons]
    omega

structure AttOk (start : Int) (n : Nat) (a : Att) : Prop where
  c1 : 0 ≤ a.1
  c2 : a.1 < n
  i1 : 0 ≤ a.2.1
  i2 : a.2.1 < 6
  s1 : start ≤ a.2.2
  s2 : a.2.2 ≤ start + 21600

theorem triesOf_ok {start : Int} {c n : Nat} {ch : Chan} (h : chanV ch = true) (hc : c < n) : ∀ a ∈ triesOf start c ch, AttOk start n a := by
  intro a ha
  have q := chanV_ok h
  have q1 := q.t1; have q2 := q.t2; have q3 := q.p1; have q4 := q.p2
  unfold triesOf at ha
  obtain ⟨i, hi, rfl⟩ := List.mem_map.1 ha
  have hi := List.mem_range.1 hi
  have m1 : 0 ≤ (i : Int) * ch.2.2.2 := Int.mul_nonneg (by omega) (by omega)
  have m2 : (i : Int) * ch.2.2.2 ≤ 6 * 3600 := Int.mul_le_mul (by omega) (by omega) (by omega) (by omega)
  exact ⟨by show (0 : Int) ≤ c; omega, by show (c : Int) < n; omega, by show (0 : Int) ≤ i; omega, by show (i : Int) < 6; omega, by show start ≤ start + i * ch.2.2.2; omega, by show start + i * ch.2.2.2 ≤ _; omega⟩
theorem rawFrom_ok {start : Int} : ∀ {l : List Chan} {c n : Nat}, (∀ x ∈ l, chanV x = true) → c + l.length ≤ n → ∀ a ∈ rawFrom start c l, AttOk start n a
  | [], c, n, _, _, a, ha => by simp [rawFrom] at ha
  | ch :: l, c, n, h, hn, a, ha => by
    simp only [List.length_cons] at hn
    simp only [rawFrom, List.mem_append] at ha
    rcases ha with ha | ha
    · exact triesOf_ok (h ch (by simp)) (by omega) a ha
    · exact rawFrom_ok (fun x hx => h x (by simp [hx])) (by omega) a ha

theorem planOf_len (p : Prof) (start : Int) : (planOf p start).length ≤ 24 := by
  unfold planOf
  cases h : profV p with
  | false => simp
  | true =>
    have q := profV_ok h
    have := q.few
    cases inB start 0 8589934592 with
    | false => simp
    | true =>
      simp only [Bool.and_self, cond_true, sortA_len]
      have := rawFrom_len (start := start) (c := 0) q.all
      omega
theorem planOf_ok {p : Prof} {start : Int} : ∀ a ∈ planOf p start, AttOk start 4 a ∧ 0 ≤ start ∧ start ≤ 8589934592 := by
  intro a ha
  unfold planOf at ha
  cases h : profV p with
  | false => rw [h] at ha; simp at ha
  | true =>
    have q := profV_ok h
    cases h2 : inB start 0 8589934592 with
    | false => rw [h2] at ha; simp at ha
    | true =>
      rw [h, h2] at ha
      simp only [Bool.and_self, cond_true] at ha
      exact ⟨rawFrom_ok q.all (by have := q.few; omega) a ((sortA_perm _).mem_iff.1 ha), inB_iff.1 h2⟩
theorem cmp_att_lt (a b : Att) : zqbq a b < 0 ↔ attLt a b := by
  unfold zqbq zqbo attLt
  split
  · omega
  · split <;> omega

/-- The code's sort is the sort. -/
theorem att_run {l : List Att} (h : ∀ x ∈ l, zqbp x = true) : zqbr l = sortA l := by
  obtain ⟨h1, h2⟩ := sortRun_good (d0 := ((0, 0, 0) : Int × Int × Int)) (h0 := rfl) zqbv h
  have hlen : (zqbr l).length = l.length := h1.length_eq
  refine asc_unique ?_ (sortA_asc l) (h1.trans (sortA_perm l).symm)
  refine List.pairwise_iff_getElem.2 fun i j hi hj hij => ?_
  have h3 := h2 i j hij (by omega)
  intro hlt
  have e : ∀ q, (hq : q < (zqbr l).length) → (zqbr l).getD q ((0, 0, 0) : Int × Int × Int) = (zqbr l)[q] := fun q hq => by simp [List.getD, hq]
  refine h3 ?_
  show zqbq ((zqbr l).getD j _) ((zqbr l).getD i _) < 0
  rw [e i hi, e j hj, cmp_att_lt]
  exact hlt

theorem att_good {start : Int} {n : Nat} {a : Att} (h : AttOk start n a) (hn : n ≤ 4) (h0 : 0 ≤ start ∧ start ≤ 8589934592) : zqbp a = true := by
  obtain ⟨a1, a2, a3, a4, a5, a6⟩ := h
  unfold zqbp
  simp only [Bool.and_eq_true, decide_eq_true_eq]
  omega

section
variable {β : Type}
theorem range_map_succ {α : Type} (f : Nat → α) (n : Nat) : (List.range (n + 1)).map f = (List.range n).map f ++ [f n] := by
  rw [List.range_succ, List.map_append]; rfl

/-- The first i tries. -/
def someTries (start : Int) (c : Nat) (ch : Chan) (i : Nat) : List Att := (List.range i).map fun (i : Nat) => ((c : Int), (i : Int), start + (i : Int) * ch.2.2.2)
theorem someTries_len (start : Int) (c : Nat) (ch : Chan) (i : Nat) : (someTries start c ch i).length = i := by simp [someTries]
theorem someTries_all (start : Int) (c : Nat) (ch : Chan) : someTries start c ch ch.2.2.1.toNat = triesOf start c ch := rfl
theorem someTries_succ (start : Int) (c : Nat) (ch : Chan) (i : Nat) : someTries start c ch (i + 1) = someTries start c ch i ++ [((c : Int), (i : Int), start + (i : Int) * ch.2.2.2)] := range_map_succ _ _
theorem try_wrap {start : Int} {i : Nat} {ch : Chan} (h0 : 0 ≤ start ∧ start ≤ 8589934592) (hch : ChanOk ch) (hi : i < 6) : IntKind.i64.wrap (start + IntKind.i64.wrap ((i : Int) * ch.2.2.2)) = start + (i : Int) * ch.2.2.2 := by
  have q3 := hch.p1; have q4 := hch.p2
  have m1 : 0 ≤ (i : Int) * ch.2.2.2 := Int.mul_nonneg (by omega) (by omega)
  have m2 : (i : Int) * ch.2.2.2 ≤ 6 * 3600 := Int.mul_le_mul (by omega) (by omega) (by omega) (by omega)
  rw [i64_in ((i : Int) * ch.2.2.2) (by omega), i64_in _ (by omega)]

theorem d_plan1 {start : Int} {ch : Chan} (h0 : 0 ≤ start ∧ start ≤ 8589934592) (hch : ChanOk ch) (c : Nat) (t18 : List Chan) (t19 t20 : Int) (out : List Att) (hout : out.length ≤ 100) (k1 : zqc0 β) :
    zqcj k1 start c t18 t19 t20 ch.2.2.1 0 out ch.1 ch.2.1 ch.2.2.1 ch.2.2.2 = k1 start t18 t19 t20 (out ++ triesOf start c ch) := by
  have q1 := hch.t1; have q2 := hch.t2
  have key : ∀ (j i : Nat) (m : Nat), i + j = ch.2.2.1.toNat → j < m → zqch m k1 start c t18 t19 t20 ch.2.2.1 (i : Int) (out ++ someTries start c ch i) ch.1 ch.2.1 ch.2.2.1 ch.2.2.2 = k1 start t18 t19 t20 (out ++ triesOf start c ch) := by
    intro j
    induction j with
    | zero =>
      intro i m hi hm
      obtain ⟨m, rfl⟩ : ∃ m', m = m' + 1 := ⟨m - 1, by omega⟩
      simp only [zqci, zqc8]
      refine (c_neg (by omega)).trans ?_
      have : i = ch.2.2.1.toNat := by omega
      rw [this, someTries_all]
    | succ j ih =>
      intro i m hi hm
      obtain ⟨m, rfl⟩ : ∃ m', m = m' + 1 := ⟨m - 1, by omega⟩
      simp only [zqci, zqc8]
      refine (c_pos (by omega)).trans ?_
      have hl := someTries_len start c ch i
      refine (c_room (by simp only [List.length_append, List.length_cons, List.length_nil]; omega)).trans ?_
      rw [try_wrap h0 hch (by omega), i64_in ((i : Int) + 1) (by omega), List.append_assoc, ← someTries_succ]
      exact ih (i + 1) m (by omega) (by omega)
  have h := key ch.2.2.1.toNat 0 fuel (by omega) (lt_fuel (by omega))
  simp only [someTries, List.range_zero, List.map_nil, List.append_nil] at h
  exact h

theorem rawFrom_snoc {start : Int} {l : List Chan} {i : Nat} (hi : i < l.length) : rawFrom start 0 (l.take (i + 1)) = rawFrom start 0 (l.take i) ++ triesOf start i (l.getD i ch0) := by
  rw [List.take_add_one, List.getElem?_eq_getElem hi, Option.toList_some, rawFrom_append]
  have : l.getD i ch0 = l[i] := by simp [List.getD, hi]
  rw [this]
  simp only [rawFrom, List.append_nil, List.length_take, Nat.zero_add]
  rw [show min i l.length = i by omega]
theorem take_all {l : List Chan} {p : Chan → Bool} (h : ∀ x ∈ l, p x = true) (i : Nat) : ∀ x ∈ l.take i, p x = true := fun x hx => h x (List.mem_of_mem_take hx)
theorem getD_all {l : List Chan} (h : ∀ x ∈ l, chanV x = true) {i : Nat} (hi : i < l.length) : chanV (l.getD i ch0) = true := by
  have : l.getD i ch0 = l[i] := by simp [List.getD, hi]
  rw [this]
  exact h _ (List.getElem_mem hi)

theorem d_plan2 {start : Int} {l : List Chan} (h0 : 0 ≤ start ∧ start ≤ 8589934592) (hl : l.length ≤ 4) (h : ∀ x ∈ l, chanV x = true) (k1 : zqc4 β) :
    zqcn k1 start l (l.length : Int) 0 [] = k1 (rawFrom start 0 l) := by
  have key : ∀ (j i : Nat) (m : Nat), i + j = l.length → j < m → zqcl m k1 start l (l.length : Int) (i : Int) (rawFrom start 0 (l.take i)) = k1 (rawFrom start 0 l) := by
    intro j
    induction j with
    | zero =>
      intro i m hi hm
      obtain ⟨m, rfl⟩ : ∃ m', m = m' + 1 := ⟨m - 1, by omega⟩
      simp only [zqcm, zqcb]
      refine (c_neg (by omega)).trans ?_
      rw [List.take_of_length_le (by omega)]
    | succ j ih =>
      intro i m hi hm
      obtain ⟨m, rfl⟩ : ∃ m', m = m' + 1 := ⟨m - 1, by omega⟩
      simp only [zqcm, zqcb, Int.toNat_natCast]
      refine (c_pos (by omega)).trans ?_
      refine (c_inb (by omega)).trans ?_
      have hlen := rawFrom_len (start := start) (c := 0) (take_all h i)
      have hlt : (l.take i).length ≤ 4 := by simp only [List.length_take]; omega
      refine (d_plan1 h0 (chanV_ok (getD_all h (by omega))) i l _ _ _ (by omega) _).trans ?_
      rw [i64_in ((i : Int) + 1) (by omega), ← rawFrom_snoc (by omega)]
      exact ih (i + 1) m (by omega) (by omega)
  exact key l.length 0 fuel (by omega) (lt_fuel (by omega))

theorem d_plan (p : Prof) (start : Int) (k : List Att → Option β) : zqcp p start k = k (planOf p start) := by
  unfold zqcp zqce planOf
  refine (d_valid _ _).trans ?_
  cases hv : profV p with
  | false => rfl
  | true =>
    refine (c_ff' rfl).trans ?_
    refine (d_in _ _ _ _).trans ?_
    cases hs : inB start 0 8589934592 with
    | false => rfl
    | true =>
      refine (c_ff' rfl).trans ?_
      have q := profV_ok hv
      have h0 := inB_iff.1 hs
      have few := q.few
      refine (d_plan2 h0 few q.all _).trans ?_
      have hok := rawFrom_ok (start := start) (c := 0) (n := 4) q.all (by omega)
      have hg : ∀ x ∈ rawFrom start 0 p.2, zqbp x = true := fun x hx => att_good (hok x hx) (by omega) h0
      have hlen := rawFrom_len (start := start) (c := 0) q.all
      refine (c_tt' (by rw [List.all_eq_true.2 hg, decide_eq_true (by omega)]; rfl)).trans ?_
      show k (zqbr _) = _
      rw [att_run hg]
      rfl
end
end
end Go.Lift

/- The reference's plan of chapter 27: sorting by insertion. -/
namespace Go.Lift
open Go.RowKit Go.IntWalk
noncomputable section
set_option linter.unusedVariables false
set_option linter.unusedSimpArgs false
set_option maxRecDepth 10000

theorem attLt_le {x y z : Att} (h1 : attLt x y) (h2 : attLe y z) : attLt x z := by unfold attLe attLt at *; omega

/-- A list written over its own part by one place, and the place filled. -/
theorem shift_ins {α : Type} (a b : List α) (x : α) (l2 : List α) (h : l2 = a ++ b ++ [x]) (q : List α)
    (hq : q = List.take (a.length + 1) l2 ++ (List.take (l2.length - (a.length + 1)) (List.drop a.length (List.take l2.length l2)) ++ List.drop (a.length + 1 + Nat.min (List.length (List.drop a.length (List.take l2.length l2))) (l2.length - (a.length + 1))) l2)) :
    q.length = l2.length ∧ List.set q a.length x = a ++ x :: b := by
  obtain ⟨y, r, hy⟩ : ∃ y r, b ++ [x] = y :: r := by
    cases b with
    | nil => exact ⟨_, _, rfl⟩
    | cons y b => exact ⟨_, _, rfl⟩
  have hl : l2.length = a.length + b.length + 1 := by rw [h]; simp; omega
  have e1 : List.take (a.length + 1) l2 = a ++ [y] := by
    rw [h, List.append_assoc, hy, List.take_append, List.take_of_length_le (by omega)]
    simp
  have e2 : List.drop a.length (List.take l2.length l2) = b ++ [x] := by
    rw [List.take_length, h, List.append_assoc, List.drop_left]
  have e3 : List.take (l2.length - (a.length + 1)) (b ++ [x]) = b := by
    rw [hl, show a.length + b.length + 1 - (a.length + 1) = b.length by omega, List.take_left]
  have e4 : List.drop (a.length + 1 + Nat.min (List.length (b ++ [x])) (l2.length - (a.length + 1))) l2 = [] := by
    refine List.drop_eq_nil_of_le ?_
    have : Nat.min (List.length (b ++ [x])) (l2.length - (a.length + 1)) = b.length := by
      rw [List.length_append, List.length_cons, List.length_nil, hl]
      show min _ _ = _
      omega
    rw [this, hl]
    omega
  rw [e1, e2, e3, e4, List.append_nil] at hq
  subst hq
  refine ⟨by rw [hl]; simp; omega, ?_⟩
  rw [List.append_assoc, List.set_append_right _ _ (Nat.le_refl _), Nat.sub_self]
  rfl

section
theorem r_ahead {β : Type} (x y : Att) (k : Bool → Option β) : zq2g x y k = k (decide (attLt x y)) := by
  unfold zq2g zq2d
  by_cases h1 : x.2.2 = y.2.2
  · refine (c_npos h1).trans ?_
    by_cases h2 : x.1 = y.1
    · refine (c_npos h2).trans (k_eq ?_)
      congr 1
      exact propext ⟨fun h => by unfold attLt; omega, fun h => by unfold attLt at h; omega⟩
    · refine (c_nneg h2).trans (k_eq ?_)
      congr 1
      exact propext ⟨fun h => by unfold attLt; omega, fun h => by unfold attLt at h; omega⟩
  · refine (c_nneg h1).trans (k_eq ?_)
    congr 1
    exact propext ⟨fun h => by unfold attLt; omega, fun h => by unfold attLt at h; omega⟩

theorem r_plan1 (start c i_ p_ : Int) (p2 : List Chan) {out : List Att} (hs : AscA out) (hl : out.length ≤ 100) (x : Att) :
    ∃ a b, out = a ++ b ∧ (∀ y ∈ a, ¬ attLt x y) ∧ (∀ y ∈ b, attLt x y) ∧ ∀ {β : Type} (k1 : zq7b β), zq81 k1 start c i_ (out.length : Int) p_ p2 out x.1 x.2.1 x.2.2 = k1 start c i_ (a.length : Int) p_ p2 out x.1 x.2.1 x.2.2 := by
  have key : ∀ (n m : Nat), n ≤ out.length → n < m → (∀ y ∈ out.drop n, attLt x y) → ∃ a b, out = a ++ b ∧ (∀ y ∈ a, ¬ attLt x y) ∧ (∀ y ∈ b, attLt x y) ∧ ∀ {β : Type} (k1 : zq7b β), zq7z m k1 start c i_ (n : Int) p_ p2 out x.1 x.2.1 x.2.2 = k1 start c i_ (a.length : Int) p_ p2 out x.1 x.2.1 x.2.2 := by
    intro n
    induction n with
    | zero =>
      intro m _ hm hd
      obtain ⟨m, rfl⟩ : ∃ m', m = m' + 1 := ⟨m - 1, by omega⟩
      refine ⟨[], out, rfl, by simp, by simpa using hd, fun k1 => ?_⟩
      simp only [zq80, zq7n]
      exact c_neg (by omega)
    | succ n ih =>
      intro m hn hm hd
      obtain ⟨m, rfl⟩ : ∃ m', m = m' + 1 := ⟨m - 1, by omega⟩
      have hlt : n < out.length := by omega
      have eg : out.getD n at0 = out[n] := by simp [List.getD, hlt]
      have e1 : IntKind.i64.wrap (((n + 1 : Nat) : Int) - 1) = (n : Int) := by rw [i64_in _ (by omega)]; omega
      by_cases hx : attLt x out[n]
      · obtain ⟨a, b, h1, h2, h3, h4⟩ := ih m (by omega) (by omega) (fun y hy => by
          rw [List.drop_eq_getElem_cons hlt] at hy
          rcases List.mem_cons.1 hy with rfl | hy
          · exact hx
          · exact hd y hy)
        refine ⟨a, b, h1, h2, h3, fun k1 => ?_⟩
        simp only [zq80, zq7n, e1, Int.toNat_natCast]
        refine (c_pos (by omega)).trans ?_
        refine (c_inb (by omega)).trans ?_
        refine (r_ahead x (out.getD n at0) _).trans ?_
        rw [eg]
        refine (c_pos hx).trans ?_
        exact h4 k1
      · refine ⟨out.take (n + 1), out.drop (n + 1), (List.take_append_drop _ _).symm, fun y hy hlt2 => ?_, hd, fun k1 => ?_⟩
        · rw [List.take_add_one, List.getElem?_eq_getElem hlt, Option.toList_some] at hy
          rcases List.mem_append.1 hy with hy | hy
          · obtain ⟨q, hq, rfl⟩ := List.getElem_of_mem hy
            have hq' : q < n := by simp only [List.length_take] at hq; omega
            rw [List.getElem_take] at hlt2
            exact hx (attLt_le hlt2 (List.pairwise_iff_getElem.1 hs q n (by omega) hlt hq'))
          · rw [List.mem_singleton.1 hy] at hlt2
            exact hx hlt2
        · simp only [zq80, zq7n, e1, Int.toNat_natCast]
          refine (c_pos (by omega)).trans ?_
          refine (c_inb (by omega)).trans ?_
          refine (r_ahead x (out.getD n at0) _).trans ?_
          rw [eg]
          refine (c_neg hx).trans ?_
          rw [List.length_take, show min (n + 1) out.length = n + 1 by omega]
  exact key out.length fuel (Nat.le_refl _) (lt_fuel (by omega)) (by simp)

variable {β : Type}
theorem r_plan2 {start : Int} {p_ : Int} {p2 : List Chan} {c : Nat} (h0 : 0 ≤ start ∧ start ≤ 8589934592) (hc : c < p2.length) (hlp : p2.length ≤ 4) (hch : chanV (p2.getD c ch0) = true) {out : List Att} (hs : AscA out) (hl : out.length ≤ 50) (k1 : zq7f β) :
    zq85 k1 start (c : Int) 0 p_ p2 out = k1 start (c : Int) p_ p2 ((triesOf start c (p2.getD c ch0)).foldl insA out) := by
  generalize hch' : p2.getD c ch0 = ch at hch
  have q := chanV_ok hch
  have q1 := q.t1; have q2 := q.t2
  have key : ∀ (j i : Nat) (m : Nat), i + j = ch.2.2.1.toNat → j < m → zq83 m k1 start (c : Int) (i : Int) p_ p2 ((someTries start c ch i).foldl insA out) = k1 start (c : Int) p_ p2 ((triesOf start c ch).foldl insA out) := by
    intro j
    induction j with
    | zero =>
      intro i m hi hm
      obtain ⟨m, rfl⟩ : ∃ m', m = m' + 1 := ⟨m - 1, by omega⟩
      simp only [zq84, zq7q, Int.toNat_natCast, hch']
      refine (c_inb (by omega)).trans ?_
      refine (c_neg (by omega)).trans ?_
      have : i = ch.2.2.1.toNat := by omega
      rw [this, someTries_all]
    | succ j ih =>
      intro i m hi hm
      obtain ⟨m, rfl⟩ : ∃ m', m = m' + 1 := ⟨m - 1, by omega⟩
      have hlen : ((someTries start c ch i).foldl insA out).length = out.length + i := by
        rw [(fold_ins_perm _ _).length_eq, List.length_append, someTries_len]
      have hasc : AscA ((someTries start c ch i).foldl insA out) := fold_ins_asc _ hs
      have hnext := ih (i + 1) m (by omega) (by omega)
      rw [someTries_succ, List.foldl_append] at hnext
      simp only [List.foldl_cons, List.foldl_nil] at hnext
      generalize (someTries start c ch i).foldl insA out = w at hlen hasc hnext ⊢
      obtain ⟨a, b, h1, h2, h3, h4⟩ := r_plan1 start (c : Int) (i : Int) p_ p2 hasc (by omega) ((c : Int), (i : Int), start + (i : Int) * ch.2.2.2)
      simp only [zq84, zq7q, Int.toNat_natCast, hch']
      refine (c_inb (by omega)).trans ?_
      refine (c_pos (by omega)).trans ?_
      refine (c_inb (by omega)).trans ?_
      rw [try_wrap h0 q (by omega)]
      refine (h4 _).trans ?_
      have hab : w.length = a.length + b.length := by rw [h1, List.length_append]
      refine (c_room (by simp only [List.length_cons, List.length_nil]; omega)).trans ?_
      have e1 : IntKind.i64.wrap ((a.length : Int) + 1) = ((a.length + 1 : Nat) : Int) := by rw [i64_in _ (by omega)]; omega
      simp only [e1, Int.toNat_natCast]
      have hl2 : (w ++ [((c : Int), (i : Int), start + (i : Int) * ch.2.2.2)]).length = a.length + b.length + 1 := by simp; omega
      refine (c_tt' (by simp only [Bool.and_eq_true, decide_eq_true_eq]; omega)).trans ?_
      refine (c_tt' (by simp only [Bool.and_eq_true, decide_eq_true_eq]; omega)).trans ?_
      obtain ⟨g1, g2⟩ := shift_ins a b ((c : Int), (i : Int), start + (i : Int) * ch.2.2.2) (w ++ [((c : Int), (i : Int), start + (i : Int) * ch.2.2.2)]) (by rw [h1]) _ rfl
      refine (c_inb (by omega)).trans ?_
      rw [g2, i64_in ((i : Int) + 1) (by omega), ← insA_append h2 h3, ← h1]
      exact hnext
  exact key ch.2.2.1.toNat 0 fuel (by omega) (lt_fuel (by omega))

theorem r_plan3 {start : Int} {p_ : Int} {p2 : List Chan} (h0 : 0 ≤ start ∧ start ≤ 8589934592) (hlp : p2.length ≤ 4) (h : ∀ x ∈ p2, chanV x = true) (k1 : zq7j β) :
    zq89 k1 start 0 p_ p2 [] = k1 (sortA (rawFrom start 0 p2)) := by
  have key : ∀ (j i : Nat) (m : Nat), i + j = p2.length → j < m → zq87 m k1 start (i : Int) p_ p2 (sortA (rawFrom start 0 (p2.take i))) = k1 (sortA (rawFrom start 0 p2)) := by
    intro j
    induction j with
    | zero =>
      intro i m hi hm
      obtain ⟨m, rfl⟩ : ∃ m', m = m' + 1 := ⟨m - 1, by omega⟩
      simp only [zq88, zq7t]
      refine (c_neg (by omega)).trans ?_
      rw [List.take_of_length_le (by omega)]
    | succ j ih =>
      intro i m hi hm
      obtain ⟨m, rfl⟩ : ∃ m', m = m' + 1 := ⟨m - 1, by omega⟩
      simp only [zq88, zq7t]
      refine (c_pos (by omega)).trans ?_
      have hlen := rawFrom_len (start := start) (c := 0) (take_all h i)
      have hlt : (p2.take i).length ≤ 4 := by simp only [List.length_take]; omega
      refine (r_plan2 h0 (by omega) hlp (getD_all h (by omega)) (sortA_asc _) (by rw [sortA_len]; omega) _).trans ?_
      rw [i64_in ((i : Int) + 1) (by omega)]
      have := ih (i + 1) m (by omega) (by omega)
      rw [rawFrom_snoc (by omega)] at this
      unfold sortA at this ⊢
      rw [List.foldl_append] at this
      exact this
  exact key p2.length 0 fuel (by omega) (lt_fuel (by omega))

theorem r_plan (p : Prof) (start : Int) (k : List Att → Option β) : zq8b p start k = k (planOf p start) := by
  unfold zq8b zq7w planOf
  refine (r27_valid _ _).trans ?_
  cases hv : profV p with
  | false => rfl
  | true =>
    refine (c_ff' rfl).trans ?_
    refine (r_in _ _ _ _).trans ?_
    cases hs : inB start 0 8589934592 with
    | false => rfl
    | true =>
      refine (c_ff' rfl).trans ?_
      have q := profV_ok hv
      exact r_plan3 (inB_iff.1 hs) q.few q.all _
end
end
end Go.Lift

