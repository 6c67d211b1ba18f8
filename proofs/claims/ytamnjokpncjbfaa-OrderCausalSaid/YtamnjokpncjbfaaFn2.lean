import Derived.Test.YtamnjokpncjbfaaLiftY
import Derived.Test.YtamnjokpncjbfaaFn1
import Derived.Test.YtamnjokpncjbfaaProg
namespace Go.Lift
open Go.Proofs
noncomputable section
set_option maxRecDepth 100000
set_option linter.unusedVariables false

/-- pagewatch/pagewatchref25.Same -/
abbrev T_ref25_Same := {β : Type} → (List Int) → (List Int) → (Bool → Option β) → Option β
def ref25_Same_S (c : T_ref25_Same) : Spec :=
  ⟨[(false, [.data (.slice (.int .i64))]), (false, [.data (.slice (.int .i64))])], [], [(false, [.data .bool])], [], fun x k => c x.1.1.1 x.1.2.1.1 (fun r0 => k (((r0, ()), ()), ()))⟩
noncomputable def ref25_Same_p1_code : Code := codeAt 58 (bodyOf Try.f47)
abbrev ref25_Same_p1_K1 (β : Type) := Bool → Option β
abbrev ref25_Same_p1_K2 (β : Type) := Unit → Option β
abbrev ref25_Same_p1_T := {β : Type} → ref25_Same_p1_K1 β → ref25_Same_p1_K2 β → (List Int) → (List Int) → Int → Option β
def ref25_Same_p1_v : View := ⟨0, [0, 1, 5], [(false, [.data (.slice (.int .i64))]), (false, [.data (.slice (.int .i64))]), (false, [.data (.int .i64)])], []⟩
def ref25_Same_p1_o : List (AExit × View) := [(.ret, ⟨0, [4], [(false, [.data .bool])], []⟩), (.exit 0, ⟨0, [], [], []⟩)]
@[reducible] def ref25_Same_p1_G (p : ref25_Same_p1_T) {β : Type} (d : ref25_Same_p1_v.den) (ks : Outs.K β ref25_Same_p1_o) : Option β :=
  p (fun a0 => ks.1 (((a0, ()), ()), ())) (fun _ => ks.2.1 ((), ())) d.1.1.1 d.1.2.1.1 d.1.2.2.1.1
section
@[reducible] def ref25_Same_X : Ctx := ⟨look tab, pick1 [], false⟩
def ref25_Same_p1_s {β : Type} (rec : (List Int) → (List Int) → Int → Option β) (k1 : ref25_Same_p1_K1 β) (k2 : ref25_Same_p1_K2 β) (a : List Int) (b : List Int) (i_ : Int) : Option β :=
  cond (decide (i_ < (List.length a : Int)))
  (cond (decide (0 ≤ i_) && decide (i_ < (List.length a : Int)))
  (let e : Int := List.getD a (Int.toNat i_) (0 : Int);
  cond (decide (0 ≤ i_) && decide (i_ < (List.length b : Int)))
  (let e2 : Int := List.getD b (Int.toNat i_) (0 : Int);
  cond (!decide (e = e2))
  (k1 false)
  (let i_2 : Int := (IntKind.i64.wrap (i_ + (1 : Int)));
  rec a b i_2))
  none)
  none)
  (k2 ())
def ref25_Same_p1_l {β : Type} : Nat → ref25_Same_p1_K1 β → ref25_Same_p1_K2 β → (List Int) → (List Int) → Int → Option β
  | 0 => fun _ _ _ _ _ => none
  | i + 1 => fun k1 k2 a b i_ => ref25_Same_p1_s (ref25_Same_p1_l i k1 k2) k1 k2 a b i_
theorem ref25_Same_p1_ok' (hΓ : ΓOk Try.prog ref25_Same_X.Γ) (i : Nat) : PieceOk Try.prog 26 0 ref25_Same_p1_code ref25_Same_p1_v ref25_Same_p1_o (ref25_Same_p1_G (ref25_Same_p1_l i)) := by
  rw [show ref25_Same_p1_code = .loop (loopBody ref25_Same_p1_code) by kernel_rfl]
  exact piece_loop (X := ref25_Same_X) (p := 1) (Λ := pick1 []) (G := fun i => @fun β d ks => ref25_Same_p1_G (ref25_Same_p1_l i) d ks) mixed tab_ok hΓ rfl (by kernel_rfl) CutsOk_nil (fun _ _ => rfl) (fun i => @fun β d ks r h => Eq.trans (b := ref25_Same_p1_G (ref25_Same_p1_l (i + 1)) d ks) (by kernel_rfl) h) i
def ref25_Same_s (p1 : ref25_Same_p1_T) {β : Type} (a : List Int) (b : List Int) (k : (Bool → Option β)) : Option β :=
  cond (!decide ((List.length a : Int) = (List.length b : Int)))
  (k false)
  (p1 (fun (t4 : Bool) =>
  k t4) (fun (_ : Unit) =>
  k true) a b (0 : Int))
theorem ref25_Same_ok' (hΓ : ΓOk Try.prog ref25_Same_X.Γ) (p1 : ref25_Same_p1_T) (hp1 : PieceOk Try.prog 26 0 ref25_Same_p1_code ref25_Same_p1_v ref25_Same_p1_o (ref25_Same_p1_G p1)) : SpecOk Try.prog 47 (ref25_Same_S (ref25_Same_s p1)) :=
  spec_exec (X := ref25_Same_X) (Λ := pick1 [(58, pieceCut ref25_Same_p1_v ref25_Same_p1_o (ref25_Same_p1_G p1))]) (rs := [.tmp 4]) (c := bodyOf Try.f47) mixed tab_ok hΓ Try.func47 (by kernel_rfl) (by kernel_rfl) (by kernel_rfl) (by kernel_rfl) (CutsOk_cons (q := 58) (c' := ref25_Same_p1_code) (by kernel_rfl) rfl hp1 CutsOk_nil) (fun x k r h => Eq.trans (b := (ref25_Same_S (ref25_Same_s p1)).run x k) (by kernel_rfl) h)
end
theorem ref25_Same_Γ : ΓOk Try.prog (pick1 []) := ΓOk_nil
def ref25_Same_p1_n (m : Nat) : ref25_Same_p1_T := ref25_Same_p1_l m
theorem ref25_Same_p1_step {β : Type} (i : Nat) (k1 k2 a b i_) : (ref25_Same_p1_n (i + 1) k1 k2 a b i_ : Option β) = ref25_Same_p1_s (ref25_Same_p1_n i k1 k2) k1 k2 a b i_ := rfl
def ref25_Same_p1 : ref25_Same_p1_T := ref25_Same_p1_n fuel
theorem ref25_Same_p1_ok : PieceOk Try.prog 26 0 ref25_Same_p1_code ref25_Same_p1_v ref25_Same_p1_o (ref25_Same_p1_G ref25_Same_p1) := ref25_Same_p1_ok' ref25_Same_Γ fuel
def ref25_Same : T_ref25_Same := ref25_Same_s ref25_Same_p1
theorem ref25_Same_ok : SpecOk Try.prog 47 (ref25_Same_S ref25_Same) := ref25_Same_ok' ref25_Same_Γ ref25_Same_p1 ref25_Same_p1_ok

/-- pagewatch/clock.bound -/
abbrev T_clock_bound := {β : Type} → Int → (Bool → Option β) → Option β
def clock_bound_S (c : T_clock_bound) : Spec :=
  ⟨[(false, [.data (.int .i64)])], [], [(false, [.data .bool])], [], fun x k => c x.1.1.1 (fun r0 => k (((r0, ()), ()), ()))⟩
section
variable (c_clock_in : T_clock_in)
@[reducible] def clock_bound_X : Ctx := ⟨look tab, pick1 [(50, .spec (clock_in_S c_clock_in))], false⟩
def clock_bound_s {β : Type} (n : Int) (k : (Bool → Option β)) : Option β :=
  c_clock_in n (-1099511627776 : Int) (1099511627776 : Int) (fun (rin : Bool) =>
  k rin)
theorem clock_bound_ok' (hΓ : ΓOk Try.prog (clock_bound_X c_clock_in).Γ) : SpecOk Try.prog 54 (clock_bound_S (clock_bound_s c_clock_in)) :=
  spec_exec (X := (clock_bound_X c_clock_in)) (Λ := pick1 []) (rs := [.tmp 2]) (c := bodyOf Try.f54) mixed tab_ok hΓ Try.func54 (by kernel_rfl) (by kernel_rfl) (by kernel_rfl) (by kernel_rfl) CutsOk_nil (fun x k r h => Eq.trans (b := (clock_bound_S (clock_bound_s c_clock_in)).run x k) (by kernel_rfl) h)
end
theorem clock_bound_Γ : ΓOk Try.prog (pick1 [(50, .spec (clock_in_S clock_in))]) := (ΓOk_cons clock_in_ok ΓOk_nil)
def clock_bound : T_clock_bound := clock_bound_s clock_in
theorem clock_bound_ok : SpecOk Try.prog 54 (clock_bound_S clock_bound) := clock_bound_ok' clock_in clock_bound_Γ

/-- pagewatch/clock.moved -/
abbrev T_clock_moved := {β : Type} → Int → Int → (Int → Option β) → Option β
def clock_moved_S (c : T_clock_moved) : Spec :=
  ⟨[(false, [.data (.int .i64)]), (false, [.data (.int .i64)])], [], [(false, [.data (.int .i64)])], [], fun x k => c x.1.1.1 x.1.2.1.1 (fun r0 => k (((r0, ()), ()), ()))⟩
section
@[reducible] def clock_moved_X : Ctx := ⟨look tab, pick1 [], false⟩
def clock_moved_s {β : Type} (x : Int) (d : Int) (k : (Int → Option β)) : Option β :=
  cond (decide (x = (-1099511627776 : Int)))
  (k x)
  (cond (decide (x = (1099511627776 : Int)))
  (k x)
  (let t : Int := (if (1099511627776 : Int) < (if (-1099511627776 : Int) > (IntKind.i64.wrap (x + d)) then (-1099511627776 : Int) else (IntKind.i64.wrap (x + d))) then (1099511627776 : Int) else (if (-1099511627776 : Int) > (IntKind.i64.wrap (x + d)) then (-1099511627776 : Int) else (IntKind.i64.wrap (x + d))));
  k t))
theorem clock_moved_ok' (hΓ : ΓOk Try.prog clock_moved_X.Γ) : SpecOk Try.prog 55 (clock_moved_S (clock_moved_s)) :=
  spec_exec (X := clock_moved_X) (Λ := pick1 []) (rs := [.tmp 4]) (c := bodyOf Try.f55) mixed tab_ok hΓ Try.func55 (by kernel_rfl) (by kernel_rfl) (by kernel_rfl) (by kernel_rfl) CutsOk_nil (fun x k r h => Eq.trans (b := (clock_moved_S (clock_moved_s)).run x k) (by kernel_rfl) h)
end
theorem clock_moved_Γ : ΓOk Try.prog (pick1 []) := ΓOk_nil
def clock_moved : T_clock_moved := clock_moved_s
theorem clock_moved_ok : SpecOk Try.prog 55 (clock_moved_S clock_moved) := clock_moved_ok' clock_moved_Γ

/-- pagewatch/clock.Shift -/
abbrev T_clock_Shift := {β : Type} → (Int × Int) → Int → ((Int × Int) → Option β) → Option β
def clock_Shift_S (c : T_clock_Shift) : Spec :=
  ⟨[(true, [.data (.prod (.int .i64) (.int .i64))]), (false, [.data (.int .i64)])], [], [(true, [.data (.prod (.int .i64) (.int .i64))])], [], fun x k => c x.1.1.1 x.1.2.1.1 (fun r0 => k (((r0, ()), ()), ()))⟩
section
variable (c_clock_bound : T_clock_bound) (c_clock_moved : T_clock_moved)
@[reducible] def clock_Shift_X : Ctx := ⟨look tab, pick1 [(54, .spec (clock_bound_S c_clock_bound)), (55, .spec (clock_moved_S c_clock_moved))], false⟩
def clock_Shift_s {β : Type} (a : (Int × Int)) (d : Int) (k : ((Int × Int) → Option β)) : Option β :=
  c_clock_bound a.1 (fun (rbound : Bool) =>
  cond (!rbound)
  (k a)
  (c_clock_bound a.2 (fun (rbound2 : Bool) =>
  cond (!rbound2)
  (k a)
  (c_clock_bound d (fun (rbound3 : Bool) =>
  cond (!rbound3)
  (k a)
  (c_clock_moved a.1 d (fun (rmoved : Int) =>
  c_clock_moved a.2 d (fun (rmoved2 : Int) =>
  k (rmoved, rmoved2)))))))))
theorem clock_Shift_ok' (hΓ : ΓOk Try.prog (clock_Shift_X c_clock_bound c_clock_moved).Γ) : SpecOk Try.prog 27 (clock_Shift_S (clock_Shift_s c_clock_bound c_clock_moved)) :=
  spec_exec (X := (clock_Shift_X c_clock_bound c_clock_moved)) (Λ := pick1 []) (rs := [.cell 4 45]) (c := bodyOf Try.f27) mixed tab_ok hΓ Try.func27 (by kernel_rfl) (by kernel_rfl) (by kernel_rfl) (by kernel_rfl) CutsOk_nil (fun x k r h => Eq.trans (b := (clock_Shift_S (clock_Shift_s c_clock_bound c_clock_moved)).run x k) (by kernel_rfl) h)
end
theorem clock_Shift_Γ : ΓOk Try.prog (pick1 [(54, .spec (clock_bound_S clock_bound)), (55, .spec (clock_moved_S clock_moved))]) := (ΓOk_cons clock_bound_ok (ΓOk_cons clock_moved_ok ΓOk_nil))
def clock_Shift : T_clock_Shift := clock_Shift_s clock_bound clock_moved
theorem clock_Shift_ok : SpecOk Try.prog 27 (clock_Shift_S clock_Shift) := clock_Shift_ok' clock_bound clock_moved clock_Shift_Γ

/-- (*pagewatch/pagewatchmade.Dice).OddRecord -/
abbrev T_made_Dice_OddRecord := {β : Type} → api_Record → (List Int × Int) → (api_Record → (List Int × Int) → Option β) → Option β
def made_Dice_OddRecord_S (c : T_made_Dice_OddRecord) : Spec :=
  ⟨[(false, [.ptr 0 0]), (true, [.data y_api_Record])], [.cells 82 [.data (.prod (.slice (.int .i64)) (.int .i64))]], [(true, [.data y_api_Record])], [.cells 82 [.data (.prod (.slice (.int .i64)) (.int .i64))]], fun x k => c x.1.2.1.1 x.2.1.1 (fun r0 r1 => k (((r0, ()), ()), ((r1, ()), ())))⟩
noncomputable def made_Dice_OddRecord_p1_code : Code := codeAt 7551 (bodyOf Try.f28)
abbrev made_Dice_OddRecord_p1_K1 (β : Type) := (List Int) → Int → (List (List UInt8 × Int)) → (List (Int × (Int × (Int × Int)))) → (List api_Event) → (List (Int × (Int × Int))) → (List (List UInt8 × Int)) → (List (Int × (Int × (Int × Int)))) → (List api_Event) → (List (Int × (Int × Int))) → Option β
abbrev made_Dice_OddRecord_p1_T := {β : Type} → made_Dice_OddRecord_p1_K1 β → Bool → (List Int) → Int → (List (List UInt8 × Int)) → (List (Int × (Int × (Int × Int)))) → (List api_Event) → (List (Int × (Int × Int))) → (List (List UInt8 × Int)) → (List (Int × (Int × (Int × Int)))) → (List api_Event) → (List (Int × (Int × Int))) → Option β
def made_Dice_OddRecord_p1_v : View := ⟨1, [0, 4, 5, 64], [(false, [.ptr 0 0]), (false, [.ptr 1 0]), (false, [.ptr 2 0]), (false, [.data .bool])], [.cells 82 [.data (.slice (.int .i64)), .data (.int .i64)], .cells 41 [.rowh 7, .rowh 8, .rowh 9, .rowh 10], .cells 41 [.rowh 3, .rowh 4, .rowh 5, .rowh 6], .row 35 (.prod .str (.int .i64)), .row 43 (.prod (.int .i64) (.prod (.int .i64) (.prod (.int .i64) (.int .i64)))), .row 65 y_api_Event, .row 67 (.prod (.int .i64) (.prod (.int .i64) (.int .i64))), .row 35 (.prod .str (.int .i64)), .row 43 (.prod (.int .i64) (.prod (.int .i64) (.prod (.int .i64) (.int .i64)))), .row 65 y_api_Event, .row 67 (.prod (.int .i64) (.prod (.int .i64) (.int .i64)))]⟩
def made_Dice_OddRecord_p1_o : List (AExit × View) := [(.normal, ⟨1, [4, 5], [(false, [.ptr 1 0]), (false, [.ptr 2 0])], [.cells 82 [.data (.slice (.int .i64)), .data (.int .i64)], .cells 41 [.rowh 3, .rowh 4, .rowh 5, .rowh 6], .cells 41 [.rowh 7, .rowh 8, .rowh 9, .rowh 10], .row 35 (.prod .str (.int .i64)), .row 43 (.prod (.int .i64) (.prod (.int .i64) (.prod (.int .i64) (.int .i64)))), .row 65 y_api_Event, .row 67 (.prod (.int .i64) (.prod (.int .i64) (.int .i64))), .row 35 (.prod .str (.int .i64)), .row 43 (.prod (.int .i64) (.prod (.int .i64) (.prod (.int .i64) (.int .i64)))), .row 65 y_api_Event, .row 67 (.prod (.int .i64) (.prod (.int .i64) (.int .i64)))]⟩)]
@[reducible] def made_Dice_OddRecord_p1_G (p : made_Dice_OddRecord_p1_T) {β : Type} (d : made_Dice_OddRecord_p1_v.den) (ks : Outs.K β made_Dice_OddRecord_p1_o) : Option β :=
  p (fun a0 a1 a2 a3 a4 a5 a6 a7 a8 a9 => ks.1 (((), (), ()), ((a0, a1, ()), (), (), a2, a3, a4, a5, a6, a7, a8, a9, ()))) d.1.2.2.2.1.1 d.2.1.1 d.2.1.2.1 d.2.2.2.2.1 d.2.2.2.2.2.1 d.2.2.2.2.2.2.1 d.2.2.2.2.2.2.2.1 d.2.2.2.2.2.2.2.2.1 d.2.2.2.2.2.2.2.2.2.1 d.2.2.2.2.2.2.2.2.2.2.1 d.2.2.2.2.2.2.2.2.2.2.2.1
section
variable (c_made_Dice_Next : T_made_Dice_Next) (c_made_Dice_One : T_made_Dice_One)
@[reducible] def made_Dice_OddRecord_X : Ctx := ⟨look tab, pick1 [(20, .spec (made_Dice_Next_S c_made_Dice_Next)), (19, .spec (made_Dice_One_S c_made_Dice_One))], false⟩
def made_Dice_OddRecord_p1_s {β : Type} (k1 : made_Dice_OddRecord_p1_K1 β) (t64 : Bool) (d : List Int) (d2 : Int) (b3_ : List (List UInt8 × Int)) (b4_ : List (Int × (Int × (Int × Int)))) (b5_ : List api_Event) (b6_ : List (Int × (Int × Int))) (b7_ : List (List UInt8 × Int)) (b8_ : List (Int × (Int × (Int × Int)))) (b9_ : List api_Event) (b10_ : List (Int × (Int × Int))) : Option β :=
  cond t64
  (c_made_Dice_Next (5 : Int) (d, d2) (fun (rNext : Int) (mrNext : (List Int × Int)) =>
  c_made_Dice_Next (5 : Int) mrNext (fun (rNext2 : Int) (mrNext2 : (List Int × Int)) =>
  let l : List Int := ([(-1 : Int), (0 : Int), (1 : Int), (100 : Int), (400 : Int)] : List Int);
  c_made_Dice_One l mrNext2 (fun (rOne : Int) (mrOne : (List Int × Int)) =>
  let l2 : List (Int × (Int × Int)) := ([((IntKind.i64.wrap (rNext - (1 : Int))), (rNext2, rOne))] : List (Int × (Int × Int)));
  cond (decide ((List.length b6_ + List.length l2) * 24 ≤ roomMax))
  (let l3 : List (Int × (Int × Int)) := (b6_ ++ l2);
  k1 mrOne.1 mrOne.2 b7_ b8_ b9_ b10_ b3_ b4_ b5_ l3)
  none))))
  (k1 d d2 b7_ b8_ b9_ b10_ b3_ b4_ b5_ b6_)
def made_Dice_OddRecord_p1_u {β : Type} (k1 : made_Dice_OddRecord_p1_K1 β) (t64 : Bool) (d : List Int) (d2 : Int) (b3_ : List (List UInt8 × Int)) (b4_ : List (Int × (Int × (Int × Int)))) (b5_ : List api_Event) (b6_ : List (Int × (Int × Int))) (b7_ : List (List UInt8 × Int)) (b8_ : List (Int × (Int × (Int × Int)))) (b9_ : List api_Event) (b10_ : List (Int × (Int × Int))) : Option β := made_Dice_OddRecord_p1_s c_made_Dice_Next c_made_Dice_One k1 t64 d d2 b3_ b4_ b5_ b6_ b7_ b8_ b9_ b10_
theorem made_Dice_OddRecord_p1_ok' (hΓ : ΓOk Try.prog (made_Dice_OddRecord_X c_made_Dice_Next c_made_Dice_One).Γ) : PieceOk Try.prog 82 1 made_Dice_OddRecord_p1_code made_Dice_OddRecord_p1_v made_Dice_OddRecord_p1_o (made_Dice_OddRecord_p1_G (made_Dice_OddRecord_p1_u c_made_Dice_Next c_made_Dice_One)) :=
  piece_exec (X := (made_Dice_OddRecord_X c_made_Dice_Next c_made_Dice_One)) (p := 7551) (Λ := pick1 []) mixed tab_ok hΓ (by kernel_rfl) CutsOk_nil (fun d ks r h => Eq.trans (b := made_Dice_OddRecord_p1_G (made_Dice_OddRecord_p1_u c_made_Dice_Next c_made_Dice_One) d ks) (by kernel_rfl) h)
def made_Dice_OddRecord_s (p1 : made_Dice_OddRecord_p1_T) {β : Type} (r_ : api_Record) (d : (List Int × Int)) (k : (api_Record → (List Int × Int) → Option β)) : Option β :=
  cond (decide (List.length r_.1 * 24 ≤ roomMax))
  (cond (decide (List.length r_.2.1 * 32 ≤ roomMax))
  (cond (decide (List.length r_.2.2.1 * 32 ≤ roomMax))
  (cond (decide (List.length r_.2.2.2 * 24 ≤ roomMax))
  (c_made_Dice_Next (7 : Int) d (fun (rNext : Int) (mrNext : (List Int × Int)) =>
  let t : Bool := (decide (rNext = (0 : Int)));
  cond t
  (let l : List Int := ([(-1 : Int), (500001 : Int)] : List Int);
  c_made_Dice_One l mrNext (fun (rOne : Int) (mrOne : (List Int × Int)) =>
  cond (decide (0 ≤ (0 : Int)) && decide ((0 : Int) < (List.length r_.1 : Int)))
  (let l2 : List (List UInt8 × Int) := (List.set r_.1 (Int.toNat (0 : Int)) ((List.getD r_.1 (Int.toNat (0 : Int)) (([] : List UInt8), (0 : Int))).1, rOne));
  k (l2, r_.2) mrOne)
  none))
  (let t2 : Bool := (decide (rNext = (1 : Int)));
  cond t2
  (c_made_Dice_Next (4 : Int) mrNext (fun (rNext2 : Int) (mrNext2 : (List Int × Int)) =>
  c_made_Dice_Next (300 : Int) mrNext2 (fun (rNext3 : Int) (mrNext3 : (List Int × Int)) =>
  c_made_Dice_Next (300 : Int) mrNext3 (fun (rNext4 : Int) (mrNext4 : (List Int × Int)) =>
  c_made_Dice_Next (300 : Int) mrNext4 (fun (rNext5 : Int) (mrNext5 : (List Int × Int)) =>
  let l : List (Int × (Int × (Int × Int))) := ([((IntKind.i64.wrap (rNext2 - (1 : Int))), ((IntKind.i64.wrap ((864000 : Int) + rNext3)), ((IntKind.i64.wrap ((864000 : Int) + rNext4)), (IntKind.i64.wrap ((864000 : Int) + rNext5)))))] : List (Int × (Int × (Int × Int))));
  cond (decide ((List.length r_.2.1 + List.length l) * 32 ≤ roomMax))
  (let l2 : List (Int × (Int × (Int × Int))) := (r_.2.1 ++ l);
  k (r_.1, (l2, r_.2.2)) mrNext5)
  none)))))
  (let t3 : Bool := (decide (rNext = (2 : Int)));
  cond t3
  (c_made_Dice_Next (4 : Int) mrNext (fun (rNext2 : Int) (mrNext2 : (List Int × Int)) =>
  let l : List Int := ([(-1 : Int), (0 : Int), (864000 : Int), (8589934592 : Int), (8589934593 : Int)] : List Int);
  c_made_Dice_One l mrNext2 (fun (rOne : Int) (mrOne : (List Int × Int)) =>
  let l2 : List api_Event := ([((IntKind.i64.wrap (rNext2 - (1 : Int))), (rOne, ([] : List UInt8)))] : List api_Event);
  cond (decide ((List.length r_.2.2.1 + List.length l2) * 32 ≤ roomMax))
  (let l3 : List api_Event := (r_.2.2.1 ++ l2);
  k (r_.1, (r_.2.1, (l3, r_.2.2.2))) mrOne)
  none)))
  (let t4 : Bool := (decide (rNext = (3 : Int)));
  cond t4
  (p1 (fun (b0_ : List Int) (b0_2 : Int) (b3_ : List (List UInt8 × Int)) (b4_ : List (Int × (Int × (Int × Int)))) (b5_ : List api_Event) (b6_ : List (Int × (Int × Int))) (b7_ : List (List UInt8 × Int)) (b8_ : List (Int × (Int × (Int × Int)))) (b9_ : List api_Event) (b10_ : List (Int × (Int × Int))) =>
  k (b7_, (b8_, (b9_, b10_))) (b0_, b0_2)) t4 mrNext.1 mrNext.2 r_.1 r_.2.1 r_.2.2.1 r_.2.2.2 ([] : List (List UInt8 × Int)) ([] : List (Int × (Int × (Int × Int)))) ([] : List api_Event) ([] : List (Int × (Int × Int))))
  (let t5 : Bool := (decide (rNext = (4 : Int)));
  p1 (fun (b0_ : List Int) (b0_2 : Int) (b3_ : List (List UInt8 × Int)) (b4_ : List (Int × (Int × (Int × Int)))) (b5_ : List api_Event) (b6_ : List (Int × (Int × Int))) (b7_ : List (List UInt8 × Int)) (b8_ : List (Int × (Int × (Int × Int)))) (b9_ : List api_Event) (b10_ : List (Int × (Int × Int))) =>
  k (b7_, (b8_, (b9_, b10_))) (b0_, b0_2)) t5 mrNext.1 mrNext.2 r_.1 r_.2.1 r_.2.2.1 r_.2.2.2 ([] : List (List UInt8 × Int)) ([] : List (Int × (Int × (Int × Int)))) ([] : List api_Event) ([] : List (Int × (Int × Int)))))))))
  none)
  none)
  none)
  none
theorem made_Dice_OddRecord_ok' (hΓ : ΓOk Try.prog (made_Dice_OddRecord_X c_made_Dice_Next c_made_Dice_One).Γ) (p1 : made_Dice_OddRecord_p1_T) (hp1 : PieceOk Try.prog 82 1 made_Dice_OddRecord_p1_code made_Dice_OddRecord_p1_v made_Dice_OddRecord_p1_o (made_Dice_OddRecord_p1_G p1)) : SpecOk Try.prog 28 (made_Dice_OddRecord_S (made_Dice_OddRecord_s c_made_Dice_Next c_made_Dice_One p1)) :=
  spec_exec (X := (made_Dice_OddRecord_X c_made_Dice_Next c_made_Dice_One)) (Λ := pick1 [(7551, pieceCut made_Dice_OddRecord_p1_v made_Dice_OddRecord_p1_o (made_Dice_OddRecord_p1_G p1))]) (rs := [.cell 4 41]) (c := bodyOf Try.f28) mixed tab_ok hΓ Try.func28 (by kernel_rfl) (by kernel_rfl) (by kernel_rfl) (by kernel_rfl) (CutsOk_cons (q := 7551) (c' := made_Dice_OddRecord_p1_code) (by kernel_rfl) rfl hp1 CutsOk_nil) (fun x k r h => Eq.trans (b := (made_Dice_OddRecord_S (made_Dice_OddRecord_s c_made_Dice_Next c_made_Dice_One p1)).run x k) (by kernel_rfl) h)
end
theorem made_Dice_OddRecord_Γ : ΓOk Try.prog (pick1 [(20, .spec (made_Dice_Next_S made_Dice_Next)), (19, .spec (made_Dice_One_S made_Dice_One))]) := (ΓOk_cons made_Dice_Next_ok (ΓOk_cons made_Dice_One_ok ΓOk_nil))
def made_Dice_OddRecord_p1 : made_Dice_OddRecord_p1_T := made_Dice_OddRecord_p1_u made_Dice_Next made_Dice_One
theorem made_Dice_OddRecord_p1_ok : PieceOk Try.prog 82 1 made_Dice_OddRecord_p1_code made_Dice_OddRecord_p1_v made_Dice_OddRecord_p1_o (made_Dice_OddRecord_p1_G made_Dice_OddRecord_p1) := made_Dice_OddRecord_p1_ok' made_Dice_Next made_Dice_One made_Dice_OddRecord_Γ
def made_Dice_OddRecord : T_made_Dice_OddRecord := made_Dice_OddRecord_s made_Dice_Next made_Dice_One made_Dice_OddRecord_p1
theorem made_Dice_OddRecord_ok : SpecOk Try.prog 28 (made_Dice_OddRecord_S made_Dice_OddRecord) := made_Dice_OddRecord_ok' made_Dice_Next made_Dice_One made_Dice_OddRecord_Γ made_Dice_OddRecord_p1 made_Dice_OddRecord_p1_ok

/-- pagewatch/pagewatchlaw40.OrderCausal -/
abbrev T_law40_OrderCausal := {β : Type} → (List Int) → (Bool → Option β) → Option β
def law40_OrderCausal_S (c : T_law40_OrderCausal) : Spec :=
  ⟨[(false, [.data (.slice (.int .i64))])], [], [(false, [.data .bool])], [], fun x k => c x.1.1.1 (fun r0 => k (((r0, ()), ()), ()))⟩
noncomputable def law40_OrderCausal_p2_code : Code := codeAt 1018 (bodyOf Try.f13)
noncomputable def law40_OrderCausal_p3_code : Code := codeAt 131066 (bodyOf Try.f13)
noncomputable def law40_OrderCausal_p1_code : Code := codeAt 51 (loopBody law40_OrderCausal_p2_code)
abbrev law40_OrderCausal_p1_K1 (β : Type) := Int → Int → Int → (List Int) → Int → (List (List UInt8 × Int)) → (List (Int × (Int × (Int × Int)))) → (List api_Event) → (List (Int × (Int × Int))) → Option β
abbrev law40_OrderCausal_p1_T := {β : Type} → law40_OrderCausal_p1_K1 β → Int → Int → Int → (List Int) → Int → (List (List UInt8 × Int)) → (List (Int × (Int × (Int × Int)))) → (List api_Event) → (List (Int × (Int × Int))) → Option β
def law40_OrderCausal_p1_v : View := ⟨0, [3, 4, 5, 6, 7], [(false, [.ptr 0 0]), (false, [.ptr 1 0]), (false, [.data (.int .i64)]), (false, [.data (.int .i64)]), (false, [.data (.int .i64)])], [.cells 82 [.data (.slice (.int .i64)), .data (.int .i64)], .cells 41 [.rowh 2, .rowh 3, .rowh 4, .rowh 5], .row 35 (.prod .str (.int .i64)), .row 43 (.prod (.int .i64) (.prod (.int .i64) (.prod (.int .i64) (.int .i64)))), .row 65 y_api_Event, .row 67 (.prod (.int .i64) (.prod (.int .i64) (.int .i64)))]⟩
def law40_OrderCausal_p1_o : List (AExit × View) := [(.normal, ⟨0, [3, 4, 5, 6, 7], [(false, [.ptr 0 0]), (false, [.ptr 1 0]), (false, [.data (.int .i64)]), (false, [.data (.int .i64)]), (false, [.data (.int .i64)])], [.cells 82 [.data (.slice (.int .i64)), .data (.int .i64)], .cells 41 [.rowh 2, .rowh 3, .rowh 4, .rowh 5], .row 35 (.prod .str (.int .i64)), .row 43 (.prod (.int .i64) (.prod (.int .i64) (.prod (.int .i64) (.int .i64)))), .row 65 y_api_Event, .row 67 (.prod (.int .i64) (.prod (.int .i64) (.int .i64)))]⟩)]
@[reducible] def law40_OrderCausal_p1_G (p : law40_OrderCausal_p1_T) {β : Type} (d : law40_OrderCausal_p1_v.den) (ks : Outs.K β law40_OrderCausal_p1_o) : Option β :=
  p (fun a0 a1 a2 a3 a4 a5 a6 a7 a8 => ks.1 (((), (), (a0, ()), (a1, ()), (a2, ()), ()), ((a3, a4, ()), (), a5, a6, a7, a8, ()))) d.1.2.2.1.1 d.1.2.2.2.1.1 d.1.2.2.2.2.1.1 d.2.1.1 d.2.1.2.1 d.2.2.2.1 d.2.2.2.2.1 d.2.2.2.2.2.1 d.2.2.2.2.2.2.1
abbrev law40_OrderCausal_p2_K1 (β : Type) := Int → (List (List UInt8 × Int)) → (List (Int × (Int × (Int × Int)))) → (List api_Event) → (List (Int × (Int × Int))) → Option β
abbrev law40_OrderCausal_p2_T := {β : Type} → law40_OrderCausal_p2_K1 β → Int → Int → Int → (List Int) → Int → (List (List UInt8 × Int)) → (List (Int × (Int × (Int × Int)))) → (List api_Event) → (List (Int × (Int × Int))) → Option β
def law40_OrderCausal_p2_v : View := ⟨0, [3, 4, 5, 6, 7], [(false, [.ptr 0 0]), (false, [.ptr 1 0]), (false, [.data (.int .i64)]), (false, [.data (.int .i64)]), (false, [.data (.int .i64)])], [.cells 82 [.data (.slice (.int .i64)), .data (.int .i64)], .cells 41 [.rowh 2, .rowh 3, .rowh 4, .rowh 5], .row 35 (.prod .str (.int .i64)), .row 43 (.prod (.int .i64) (.prod (.int .i64) (.prod (.int .i64) (.int .i64)))), .row 65 y_api_Event, .row 67 (.prod (.int .i64) (.prod (.int .i64) (.int .i64)))]⟩
def law40_OrderCausal_p2_o : List (AExit × View) := [(.exit 0, ⟨0, [4, 6], [(false, [.ptr 0 0]), (false, [.data (.int .i64)])], [.cells 41 [.rowh 1, .rowh 2, .rowh 3, .rowh 4], .row 35 (.prod .str (.int .i64)), .row 43 (.prod (.int .i64) (.prod (.int .i64) (.prod (.int .i64) (.int .i64)))), .row 65 y_api_Event, .row 67 (.prod (.int .i64) (.prod (.int .i64) (.int .i64)))]⟩)]
@[reducible] def law40_OrderCausal_p2_G (p : law40_OrderCausal_p2_T) {β : Type} (d : law40_OrderCausal_p2_v.den) (ks : Outs.K β law40_OrderCausal_p2_o) : Option β :=
  p (fun a0 a1 a2 a3 a4 => ks.1 (((), (a0, ()), ()), ((), a1, a2, a3, a4, ()))) d.1.2.2.1.1 d.1.2.2.2.1.1 d.1.2.2.2.2.1.1 d.2.1.1 d.2.1.2.1 d.2.2.2.1 d.2.2.2.2.1 d.2.2.2.2.2.1 d.2.2.2.2.2.2.1
abbrev law40_OrderCausal_p3_K1 (β : Type) := Int → Bool → Int → Bool → Bool → (List Int) → Int → Int → (List Int) → (List (List UInt8 × Int)) → (List (Int × (Int × (Int × Int)))) → (List api_Event) → (List (Int × (Int × Int))) → Option β
abbrev law40_OrderCausal_p3_T := {β : Type} → law40_OrderCausal_p3_K1 β → Int → Int → Bool → Int → Bool → Bool → Int → (List Int) → Int → Int → (List Int) → (List (List UInt8 × Int)) → (List (Int × (Int × (Int × Int)))) → (List api_Event) → (List (Int × (Int × Int))) → Option β
def law40_OrderCausal_p3_v : View := ⟨0, [4, 6, 9, 10, 11, 12, 13, 14, 15, 16, 17], [(false, [.ptr 0 0]), (false, [.data (.int .i64)]), (false, [.data (.int .i64)]), (false, [.rowh 1]), (false, [.data .bool]), (false, [.data (.int .i64)]), (false, [.data .bool]), (false, [.ptr 2 0]), (false, [.data .bool]), (false, [.rowh 3]), (false, [.data (.int .i64)])], [.cells 41 [.rowh 4, .rowh 5, .rowh 6, .rowh 7], .row 3 (.int .i64), .cells 45 [.data (.int .i64), .data (.int .i64)], .row 3 (.int .i64), .row 35 (.prod .str (.int .i64)), .row 43 (.prod (.int .i64) (.prod (.int .i64) (.prod (.int .i64) (.int .i64)))), .row 65 y_api_Event, .row 67 (.prod (.int .i64) (.prod (.int .i64) (.int .i64)))]⟩
def law40_OrderCausal_p3_o : List (AExit × View) := [(.exit 2, ⟨0, [4, 6, 10, 11, 12, 13, 14, 15, 16], [(false, [.ptr 0 0]), (false, [.data (.int .i64)]), (false, [.rowh 1]), (false, [.data .bool]), (false, [.data (.int .i64)]), (false, [.data .bool]), (false, [.ptr 2 0]), (false, [.data .bool]), (false, [.rowh 3])], [.cells 41 [.rowh 4, .rowh 5, .rowh 6, .rowh 7], .row 3 (.int .i64), .cells 45 [.data (.int .i64), .data (.int .i64)], .row 3 (.int .i64), .row 35 (.prod .str (.int .i64)), .row 43 (.prod (.int .i64) (.prod (.int .i64) (.prod (.int .i64) (.int .i64)))), .row 65 y_api_Event, .row 67 (.prod (.int .i64) (.prod (.int .i64) (.int .i64)))]⟩)]
@[reducible] def law40_OrderCausal_p3_G (p : law40_OrderCausal_p3_T) {β : Type} (d : law40_OrderCausal_p3_v.den) (ks : Outs.K β law40_OrderCausal_p3_o) : Option β :=
  p (fun a0 a1 a2 a3 a4 a5 a6 a7 a8 a9 a10 a11 a12 => ks.1 (((), (a0, ()), (), (a1, ()), (a2, ()), (a3, ()), (), (a4, ()), (), ()), ((), a5, (a6, a7, ()), a8, a9, a10, a11, a12, ()))) d.1.2.1.1 d.1.2.2.1.1 d.1.2.2.2.2.1.1 d.1.2.2.2.2.2.1.1 d.1.2.2.2.2.2.2.1.1 d.1.2.2.2.2.2.2.2.2.1.1 d.1.2.2.2.2.2.2.2.2.2.2.1.1 d.2.2.1 d.2.2.2.1.1 d.2.2.2.1.2.1 d.2.2.2.2.1 d.2.2.2.2.2.1 d.2.2.2.2.2.2.1 d.2.2.2.2.2.2.2.1 d.2.2.2.2.2.2.2.2.1
section
variable (c_law40_sane : T_law40_sane) (c_made_Dice_Next : T_made_Dice_Next) (c_made_Light : T_made_Light) (c_made_Roll : T_made_Roll) (c_order_Compare : T_order_Compare) (c_order_Consistent : T_order_Consistent) (c_order_Gap : T_order_Gap) (c_order_Open : T_order_Open) (c_order_Sort : T_order_Sort) (c_ref25_Same : T_ref25_Same)
@[reducible] def law40_OrderCausal_X : Ctx := ⟨look tab, pick1 [(39, .spec (law40_sane_S c_law40_sane)), (20, .spec (made_Dice_Next_S c_made_Dice_Next)), (17, .spec (made_Light_S c_made_Light)), (18, .spec (made_Roll_S c_made_Roll)), (40, .spec (order_Compare_S c_order_Compare)), (42, .spec (order_Consistent_S c_order_Consistent)), (45, .spec (order_Gap_S c_order_Gap)), (41, .spec (order_Open_S c_order_Open)), (46, .spec (order_Sort_S c_order_Sort)), (47, .spec (ref25_Same_S c_ref25_Same))], false⟩
def law40_OrderCausal_p1_s {β : Type} (k1 : law40_OrderCausal_p1_K1 β) (at_ : Int) (sum : Int) (i_ : Int) (d : List Int) (d2 : Int) (b2_ : List (List UInt8 × Int)) (b3_ : List (Int × (Int × (Int × Int)))) (b4_ : List api_Event) (b5_ : List (Int × (Int × Int))) : Option β :=
  let l : List api_Event := ([(i_, ((50 : Int), ([120] : List UInt8)))] : List api_Event);
  cond (decide ((List.length b4_ + List.length l) * 32 ≤ roomMax))
  (let l2 : List api_Event := (b4_ ++ l);
  cond (decide ((0 : Int) < i_))
  (c_made_Dice_Next (9 : Int) (d, d2) (fun (rNext : Int) (mrNext : (List Int × Int)) =>
  let m : Int := (IntKind.i64.wrap ((1 : Int) + rNext));
  let l3 : List (Int × (Int × Int)) := ([((IntKind.i64.wrap (i_ - (1 : Int))), (i_, m))] : List (Int × (Int × Int)));
  cond (decide ((List.length b5_ + List.length l3) * 24 ≤ roomMax))
  (let l4 : List (Int × (Int × Int)) := (b5_ ++ l3);
  let sum2 : Int := (IntKind.i64.wrap (sum + m));
  let at_2 : Int := (IntKind.i64.wrap (at_ + (9 : Int)));
  k1 at_2 sum2 i_ mrNext.1 mrNext.2 b2_ b3_ l2 l4)
  none))
  (let at_2 : Int := (IntKind.i64.wrap (at_ + (9 : Int)));
  k1 at_2 sum i_ d d2 b2_ b3_ l2 b5_))
  none
def law40_OrderCausal_p1_u {β : Type} (k1 : law40_OrderCausal_p1_K1 β) (at_ : Int) (sum : Int) (i_ : Int) (d : List Int) (d2 : Int) (b2_ : List (List UInt8 × Int)) (b3_ : List (Int × (Int × (Int × Int)))) (b4_ : List api_Event) (b5_ : List (Int × (Int × Int))) : Option β := law40_OrderCausal_p1_s c_made_Dice_Next k1 at_ sum i_ d d2 b2_ b3_ b4_ b5_
theorem law40_OrderCausal_p1_ok' (hΓ : ΓOk Try.prog (law40_OrderCausal_X c_law40_sane c_made_Dice_Next c_made_Light c_made_Roll c_order_Compare c_order_Consistent c_order_Gap c_order_Open c_order_Sort c_ref25_Same).Γ) : PieceOk Try.prog 143 0 law40_OrderCausal_p1_code law40_OrderCausal_p1_v law40_OrderCausal_p1_o (law40_OrderCausal_p1_G (law40_OrderCausal_p1_u c_made_Dice_Next)) :=
  piece_exec (X := (law40_OrderCausal_X c_law40_sane c_made_Dice_Next c_made_Light c_made_Roll c_order_Compare c_order_Consistent c_order_Gap c_order_Open c_order_Sort c_ref25_Same)) (p := 51) (Λ := pick1 []) mixed tab_ok hΓ (by kernel_rfl) CutsOk_nil (fun d ks r h => Eq.trans (b := law40_OrderCausal_p1_G (law40_OrderCausal_p1_u c_made_Dice_Next) d ks) (by kernel_rfl) h)
def law40_OrderCausal_p2_s (p1 : law40_OrderCausal_p1_T) {β : Type} (rec : Int → Int → Int → (List Int) → Int → (List (List UInt8 × Int)) → (List (Int × (Int × (Int × Int)))) → (List api_Event) → (List (Int × (Int × Int))) → Option β) (k1 : law40_OrderCausal_p2_K1 β) (at_ : Int) (sum : Int) (i_ : Int) (d : List Int) (d2 : Int) (b2_ : List (List UInt8 × Int)) (b3_ : List (Int × (Int × (Int × Int)))) (b4_ : List api_Event) (b5_ : List (Int × (Int × Int))) : Option β :=
  c_made_Dice_Next (4 : Int) (d, d2) (fun (rNext : Int) (mrNext : (List Int × Int)) =>
  cond (decide (i_ < (IntKind.i64.wrap ((2 : Int) + rNext))))
  (let l : List (List UInt8 × Int) := ([(([104] : List UInt8), (0 : Int))] : List (List UInt8 × Int));
  cond (decide ((List.length b2_ + List.length l) * 24 ≤ roomMax))
  (let l2 : List (List UInt8 × Int) := (b2_ ++ l);
  c_made_Dice_Next (2 : Int) mrNext (fun (rNext2 : Int) (mrNext2 : (List Int × Int)) =>
  cond (decide (rNext2 = (0 : Int)))
  (let l3 : List (Int × (Int × (Int × Int))) := ([(i_, ((50 : Int), ((IntKind.i64.wrap (at_ - (9 : Int))), (IntKind.i64.wrap (at_ + (9 : Int))))))] : List (Int × (Int × (Int × Int))));
  cond (decide ((List.length b3_ + List.length l3) * 32 ≤ roomMax))
  (let l4 : List (Int × (Int × (Int × Int))) := (b3_ ++ l3);
  p1 (fun (at_2 : Int) (sum2 : Int) (i_2 : Int) (d3 : List Int) (d4 : Int) (b2_2 : List (List UInt8 × Int)) (b3_2 : List (Int × (Int × (Int × Int)))) (b4_2 : List api_Event) (b5_2 : List (Int × (Int × Int))) =>
  let i_3 : Int := (IntKind.i64.wrap (i_2 + (1 : Int)));
  rec at_2 sum2 i_3 d3 d4 b2_2 b3_2 b4_2 b5_2) at_ sum i_ mrNext2.1 mrNext2.2 l2 l4 b4_ b5_)
  none)
  (p1 (fun (at_2 : Int) (sum2 : Int) (i_2 : Int) (d3 : List Int) (d4 : Int) (b2_2 : List (List UInt8 × Int)) (b3_2 : List (Int × (Int × (Int × Int)))) (b4_2 : List api_Event) (b5_2 : List (Int × (Int × Int))) =>
  let i_3 : Int := (IntKind.i64.wrap (i_2 + (1 : Int)));
  rec at_2 sum2 i_3 d3 d4 b2_2 b3_2 b4_2 b5_2) at_ sum i_ mrNext2.1 mrNext2.2 l2 b3_ b4_ b5_)))
  none)
  (k1 sum b2_ b3_ b4_ b5_))
def law40_OrderCausal_p2_l (p1 : law40_OrderCausal_p1_T) {β : Type} : Nat → law40_OrderCausal_p2_K1 β → Int → Int → Int → (List Int) → Int → (List (List UInt8 × Int)) → (List (Int × (Int × (Int × Int)))) → (List api_Event) → (List (Int × (Int × Int))) → Option β
  | 0 => fun _ _ _ _ _ _ _ _ _ _ => none
  | i + 1 => fun k1 at_ sum i_ d d2 b2_ b3_ b4_ b5_ => law40_OrderCausal_p2_s c_made_Dice_Next p1 (law40_OrderCausal_p2_l p1 i k1) k1 at_ sum i_ d d2 b2_ b3_ b4_ b5_
theorem law40_OrderCausal_p2_ok' (hΓ : ΓOk Try.prog (law40_OrderCausal_X c_law40_sane c_made_Dice_Next c_made_Light c_made_Roll c_order_Compare c_order_Consistent c_order_Gap c_order_Open c_order_Sort c_ref25_Same).Γ) (p1 : law40_OrderCausal_p1_T) (hp1 : PieceOk Try.prog 143 0 law40_OrderCausal_p1_code law40_OrderCausal_p1_v law40_OrderCausal_p1_o (law40_OrderCausal_p1_G p1)) (i : Nat) : PieceOk Try.prog 143 0 law40_OrderCausal_p2_code law40_OrderCausal_p2_v law40_OrderCausal_p2_o (law40_OrderCausal_p2_G (law40_OrderCausal_p2_l c_made_Dice_Next p1 i)) := by
  rw [show law40_OrderCausal_p2_code = .loop (loopBody law40_OrderCausal_p2_code) by kernel_rfl]
  exact piece_loop (X := (law40_OrderCausal_X c_law40_sane c_made_Dice_Next c_made_Light c_made_Roll c_order_Compare c_order_Consistent c_order_Gap c_order_Open c_order_Sort c_ref25_Same)) (p := 1) (Λ := pick1 [(51, pieceCut law40_OrderCausal_p1_v law40_OrderCausal_p1_o (law40_OrderCausal_p1_G p1))]) (G := fun i => @fun β d ks => law40_OrderCausal_p2_G (law40_OrderCausal_p2_l c_made_Dice_Next p1 i) d ks) mixed tab_ok hΓ rfl (by kernel_rfl) (CutsOk_cons (q := 51) (c' := law40_OrderCausal_p1_code) (by kernel_rfl) rfl hp1 CutsOk_nil) (fun _ _ => rfl) (fun i => @fun β d ks r h => Eq.trans (b := law40_OrderCausal_p2_G (law40_OrderCausal_p2_l c_made_Dice_Next p1 (i + 1)) d ks) (by kernel_rfl) h) i
def law40_OrderCausal_p3_s {β : Type} (rec : Int → Int → Bool → Int → Bool → Bool → Int → (List Int) → Int → Int → (List Int) → (List (List UInt8 × Int)) → (List (Int × (Int × (Int × Int)))) → (List api_Event) → (List (Int × (Int × Int))) → Option β) (k1 : law40_OrderCausal_p3_K1 β) (sum : Int) (n : Int) (ok : Bool) (x : Int) (is : Bool) (still : Bool) (i_ : Int) (l : List Int) (g : Int) (g2 : Int) (want : List Int) (b4_ : List (List UInt8 × Int)) (b5_ : List (Int × (Int × (Int × Int)))) (b6_ : List api_Event) (b7_ : List (Int × (Int × Int))) : Option β :=
  cond (decide (i_ < n))
  (let l2 : List Int := ([i_] : List Int);
  cond (decide ((List.length want + List.length l2) * 8 ≤ roomMax))
  (let l3 : List Int := (want ++ l2);
  let i_2 : Int := (IntKind.i64.wrap (i_ + (1 : Int)));
  rec sum n ok x is still i_2 l g g2 l3 b4_ b5_ b6_ b7_)
  none)
  (k1 sum ok x is still l g g2 want b4_ b5_ b6_ b7_)
def law40_OrderCausal_p3_l {β : Type} : Nat → law40_OrderCausal_p3_K1 β → Int → Int → Bool → Int → Bool → Bool → Int → (List Int) → Int → Int → (List Int) → (List (List UInt8 × Int)) → (List (Int × (Int × (Int × Int)))) → (List api_Event) → (List (Int × (Int × Int))) → Option β
  | 0 => fun _ _ _ _ _ _ _ _ _ _ _ _ _ _ _ _ => none
  | i + 1 => fun k1 sum n ok x is still i_ l g g2 want b4_ b5_ b6_ b7_ => law40_OrderCausal_p3_s (law40_OrderCausal_p3_l i k1) k1 sum n ok x is still i_ l g g2 want b4_ b5_ b6_ b7_
theorem law40_OrderCausal_p3_ok' (hΓ : ΓOk Try.prog (law40_OrderCausal_X c_law40_sane c_made_Dice_Next c_made_Light c_made_Roll c_order_Compare c_order_Consistent c_order_Gap c_order_Open c_order_Sort c_ref25_Same).Γ) (i : Nat) : PieceOk Try.prog 143 0 law40_OrderCausal_p3_code law40_OrderCausal_p3_v law40_OrderCausal_p3_o (law40_OrderCausal_p3_G (law40_OrderCausal_p3_l i)) := by
  rw [show law40_OrderCausal_p3_code = .loop (loopBody law40_OrderCausal_p3_code) by kernel_rfl]
  exact piece_loop (X := (law40_OrderCausal_X c_law40_sane c_made_Dice_Next c_made_Light c_made_Roll c_order_Compare c_order_Consistent c_order_Gap c_order_Open c_order_Sort c_ref25_Same)) (p := 1) (Λ := pick1 []) (G := fun i => @fun β d ks => law40_OrderCausal_p3_G (law40_OrderCausal_p3_l i) d ks) mixed tab_ok hΓ rfl (by kernel_rfl) CutsOk_nil (fun _ _ => rfl) (fun i => @fun β d ks r h => Eq.trans (b := law40_OrderCausal_p3_G (law40_OrderCausal_p3_l (i + 1)) d ks) (by kernel_rfl) h) i
def law40_OrderCausal_s (p2 : law40_OrderCausal_p2_T) (p3 : law40_OrderCausal_p3_T) {β : Type} (t : List Int) (k : (Bool → Option β)) : Option β :=
  c_made_Light t (fun (rLight : Bool) =>
  cond (!rLight)
  (c_law40_sane  (fun (rsane : Bool) =>
  k rsane))
  (c_made_Roll t (fun (mrRoll : (List Int × Int)) =>
  p2 (fun (sum : Int) (b1_ : List (List UInt8 × Int)) (b2_ : List (Int × (Int × (Int × Int)))) (b3_ : List api_Event) (b4_ : List (Int × (Int × Int))) =>
  c_order_Consistent (b1_, (b2_, (b3_, b4_))) (fun (rConsistent : Bool) =>
  cond (!rConsistent)
  (k false)
  (c_order_Sort (b1_, (b2_, (b3_, b4_))) (fun (rSort : Bool) (lrSort : List Int) =>
  c_order_Compare (b1_, (b2_, (b3_, b4_))) (0 : Int) (IntKind.i64.wrap ((List.length b3_ : Int) - (1 : Int))) (fun (rCompare : Int) (rCompare2 : Bool) =>
  c_order_Gap (b1_, (b2_, (b3_, b4_))) (0 : Int) (IntKind.i64.wrap ((List.length b3_ : Int) - (1 : Int))) (fun (rGap : (Int × Int)) (rGap2 : Bool) =>
  p3 (fun (sum2 : Int) (ok : Bool) (x : Int) (is : Bool) (still : Bool) (l : List Int) (g : Int) (g2 : Int) (want : List Int) (b4_2 : List (List UInt8 × Int)) (b5_ : List (Int × (Int × (Int × Int)))) (b6_ : List api_Event) (b7_ : List (Int × (Int × Int))) =>
  cond ok
  (c_ref25_Same l want (fun (rSame : Bool) =>
  cond rSame
  (cond is
  (cond still
  (cond (decide (x = (-1 : Int)))
  (cond (decide (sum2 ≤ g))
  (c_order_Open (b4_2, (b5_, (b6_, b7_))) (fun (lrOpen : List (Int × Int)) =>
  cond (decide ((List.length lrOpen : Int) = (0 : Int)))
  (c_law40_sane  (fun (rsane : Bool) =>
  k rsane))
  (k false)))
  (k false))
  (k false))
  (k false))
  (k false))
  (k false)))
  (k false)) sum (List.length b3_ : Int) rSort rCompare rCompare2 rGap2 (0 : Int) lrSort rGap.1 rGap.2 ([] : List Int) b1_ b2_ b3_ b4_)))))) (864000 : Int) (0 : Int) (0 : Int) mrRoll.1 mrRoll.2 ([] : List (List UInt8 × Int)) ([] : List (Int × (Int × (Int × Int)))) ([] : List api_Event) ([] : List (Int × (Int × Int))))))
theorem law40_OrderCausal_ok' (hΓ : ΓOk Try.prog (law40_OrderCausal_X c_law40_sane c_made_Dice_Next c_made_Light c_made_Roll c_order_Compare c_order_Consistent c_order_Gap c_order_Open c_order_Sort c_ref25_Same).Γ) (p2 : law40_OrderCausal_p2_T) (p3 : law40_OrderCausal_p3_T) (hp2 : PieceOk Try.prog 143 0 law40_OrderCausal_p2_code law40_OrderCausal_p2_v law40_OrderCausal_p2_o (law40_OrderCausal_p2_G p2)) (hp3 : PieceOk Try.prog 143 0 law40_OrderCausal_p3_code law40_OrderCausal_p3_v law40_OrderCausal_p3_o (law40_OrderCausal_p3_G p3)) : SpecOk Try.prog 13 (law40_OrderCausal_S (law40_OrderCausal_s c_law40_sane c_made_Light c_made_Roll c_order_Compare c_order_Consistent c_order_Gap c_order_Open c_order_Sort c_ref25_Same p2 p3)) :=
  spec_exec (X := (law40_OrderCausal_X c_law40_sane c_made_Dice_Next c_made_Light c_made_Roll c_order_Compare c_order_Consistent c_order_Gap c_order_Open c_order_Sort c_ref25_Same)) (Λ := pick1 [(1018, pieceCut law40_OrderCausal_p2_v law40_OrderCausal_p2_o (law40_OrderCausal_p2_G p2)), (131066, pieceCut law40_OrderCausal_p3_v law40_OrderCausal_p3_o (law40_OrderCausal_p3_G p3))]) (rs := [.tmp 2]) (c := bodyOf Try.f13) mixed tab_ok hΓ Try.func13 (by kernel_rfl) (by kernel_rfl) (by kernel_rfl) (by kernel_rfl) (CutsOk_cons (q := 1018) (c' := law40_OrderCausal_p2_code) (by kernel_rfl) rfl hp2 (CutsOk_cons (q := 131066) (c' := law40_OrderCausal_p3_code) (by kernel_rfl) rfl hp3 CutsOk_nil)) (fun x k r h => Eq.trans (b := (law40_OrderCausal_S (law40_OrderCausal_s c_law40_sane c_made_Light c_made_Roll c_order_Compare c_order_Consistent c_order_Gap c_order_Open c_order_Sort c_ref25_Same p2 p3)).run x k) (by kernel_rfl) h)
end
theorem law40_OrderCausal_Γ : ΓOk Try.prog (pick1 [(39, .spec (law40_sane_S law40_sane)), (20, .spec (made_Dice_Next_S made_Dice_Next)), (17, .spec (made_Light_S made_Light)), (18, .spec (made_Roll_S made_Roll)), (40, .spec (order_Compare_S order_Compare)), (42, .spec (order_Consistent_S order_Consistent)), (45, .spec (order_Gap_S order_Gap)), (41, .spec (order_Open_S order_Open)), (46, .spec (order_Sort_S order_Sort)), (47, .spec (ref25_Same_S ref25_Same))]) := (ΓOk_cons law40_sane_ok (ΓOk_cons made_Dice_Next_ok (ΓOk_cons made_Light_ok (ΓOk_cons made_Roll_ok (ΓOk_cons order_Compare_ok (ΓOk_cons order_Consistent_ok (ΓOk_cons order_Gap_ok (ΓOk_cons order_Open_ok (ΓOk_cons order_Sort_ok (ΓOk_cons ref25_Same_ok ΓOk_nil))))))))))
def law40_OrderCausal_p1 : law40_OrderCausal_p1_T := law40_OrderCausal_p1_u made_Dice_Next
theorem law40_OrderCausal_p1_ok : PieceOk Try.prog 143 0 law40_OrderCausal_p1_code law40_OrderCausal_p1_v law40_OrderCausal_p1_o (law40_OrderCausal_p1_G law40_OrderCausal_p1) := law40_OrderCausal_p1_ok' law40_sane made_Dice_Next made_Light made_Roll order_Compare order_Consistent order_Gap order_Open order_Sort ref25_Same law40_OrderCausal_Γ
def law40_OrderCausal_p2_n (m : Nat) : law40_OrderCausal_p2_T := law40_OrderCausal_p2_l made_Dice_Next law40_OrderCausal_p1 m
theorem law40_OrderCausal_p2_step {β : Type} (i : Nat) (k1 at_ sum i_ d d2 b2_ b3_ b4_ b5_) : (law40_OrderCausal_p2_n (i + 1) k1 at_ sum i_ d d2 b2_ b3_ b4_ b5_ : Option β) = law40_OrderCausal_p2_s made_Dice_Next law40_OrderCausal_p1 (law40_OrderCausal_p2_n i k1) k1 at_ sum i_ d d2 b2_ b3_ b4_ b5_ := rfl
def law40_OrderCausal_p2 : law40_OrderCausal_p2_T := law40_OrderCausal_p2_n fuel
theorem law40_OrderCausal_p2_ok : PieceOk Try.prog 143 0 law40_OrderCausal_p2_code law40_OrderCausal_p2_v law40_OrderCausal_p2_o (law40_OrderCausal_p2_G law40_OrderCausal_p2) := law40_OrderCausal_p2_ok' law40_sane made_Dice_Next made_Light made_Roll order_Compare order_Consistent order_Gap order_Open order_Sort ref25_Same law40_OrderCausal_Γ law40_OrderCausal_p1 law40_OrderCausal_p1_ok fuel
def law40_OrderCausal_p3_n (m : Nat) : law40_OrderCausal_p3_T := law40_OrderCausal_p3_l m
theorem law40_OrderCausal_p3_step {β : Type} (i : Nat) (k1 sum n ok x is still i_ l g g2 want b4_ b5_ b6_ b7_) : (law40_OrderCausal_p3_n (i + 1) k1 sum n ok x is still i_ l g g2 want b4_ b5_ b6_ b7_ : Option β) = law40_OrderCausal_p3_s (law40_OrderCausal_p3_n i k1) k1 sum n ok x is still i_ l g g2 want b4_ b5_ b6_ b7_ := rfl
def law40_OrderCausal_p3 : law40_OrderCausal_p3_T := law40_OrderCausal_p3_n fuel
theorem law40_OrderCausal_p3_ok : PieceOk Try.prog 143 0 law40_OrderCausal_p3_code law40_OrderCausal_p3_v law40_OrderCausal_p3_o (law40_OrderCausal_p3_G law40_OrderCausal_p3) := law40_OrderCausal_p3_ok' law40_sane made_Dice_Next made_Light made_Roll order_Compare order_Consistent order_Gap order_Open order_Sort ref25_Same law40_OrderCausal_Γ fuel
def law40_OrderCausal : T_law40_OrderCausal := law40_OrderCausal_s law40_sane made_Light made_Roll order_Compare order_Consistent order_Gap order_Open order_Sort ref25_Same law40_OrderCausal_p2 law40_OrderCausal_p3
theorem law40_OrderCausal_ok : SpecOk Try.prog 13 (law40_OrderCausal_S law40_OrderCausal) := law40_OrderCausal_ok' law40_sane made_Dice_Next made_Light made_Roll order_Compare order_Consistent order_Gap order_Open order_Sort ref25_Same law40_OrderCausal_Γ law40_OrderCausal_p2 law40_OrderCausal_p3 law40_OrderCausal_p2_ok law40_OrderCausal_p3_ok
end
end Go.Lift
