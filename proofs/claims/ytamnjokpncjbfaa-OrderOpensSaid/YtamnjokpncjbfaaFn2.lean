import Derived.Test.YtamnjokpncjbfaaLiftY
import Derived.Test.YtamnjokpncjbfaaFn1
import Derived.Test.YtamnjokpncjbfaaProg
namespace Go.Lift
open Go.Proofs
noncomputable section
set_option maxRecDepth 100000
set_option linter.unusedVariables false

/-- pagewatch/clock.bound -/
abbrev T_clock_bound := {β : Type} → Int → (Bool → Option β) → Option β
def clock_bound_S (c : T_clock_bound) : Spec :=
  ⟨[(false, [.data (.int .i64)])], [], [(false, [.data .bool])], [], fun x k => c x.1.1.1 (fun r0 => k (((r0, ()), ()), ()))⟩
section
variable (c_clock_in : T_clock_in)
@[reducible] def clock_bound_X : Ctx := ⟨look tab, pick1 [(50, .spec (clock_in_S c_clock_in))], false⟩
def clock_bound_s {β : Type} (n : Int) (k : (Bool → Option β)) : Option β :=
  c_clock_in n (-1099511627776 : Int) (1099511627776 : Int) (fun (rin : Bool) =>
  k rin)
theorem clock_bound_ok' (hΓ : ΓOk Try.prog (clock_bound_X c_clock_in).Γ) : SpecOk Try.prog 54 (clock_bound_S (clock_bound_s c_clock_in)) :=
  spec_exec (X := (clock_bound_X c_clock_in)) (Λ := pick1 []) (rs := [.tmp 2]) (c := bodyOf Try.f54) mixed tab_ok hΓ Try.func54 (by kernel_rfl) (by kernel_rfl) (by kernel_rfl) (by kernel_rfl) CutsOk_nil (fun x k r h => Eq.trans (b := (clock_bound_S (clock_bound_s c_clock_in)).run x k) (by kernel_rfl) h)
end
theorem clock_bound_Γ : ΓOk Try.prog (pick1 [(50, .spec (clock_in_S clock_in))]) := (ΓOk_cons clock_in_ok ΓOk_nil)
def clock_bound : T_clock_bound := clock_bound_s clock_in
theorem clock_bound_ok : SpecOk Try.prog 54 (clock_bound_S clock_bound) := clock_bound_ok' clock_in clock_bound_Γ

/-- pagewatch/clock.moved -/
abbrev T_clock_moved := {β : Type} → Int → Int → (Int → Option β) → Option β
def clock_moved_S (c : T_clock_moved) : Spec :=
  ⟨[(false, [.data (.int .i64)]), (false, [.data (.int .i64)])], [], [(false, [.data (.int .i64)])], [], fun x k => c x.1.1.1 x.1.2.1.1 (fun r0 => k (((r0, ()), ()), ()))⟩
section
@[reducible] def clock_moved_X : Ctx := ⟨look tab, pick1 [], false⟩
def clock_moved_s {β : Type} (x : Int) (d : Int) (k : (Int → Option β)) : Option β :=
  cond (decide (x = (-1099511627776 : Int)))
  (k x)
  (cond (decide (x = (1099511627776 : Int)))
  (k x)
  (let t : Int := (if (1099511627776 : Int) < (if (-1099511627776 : Int) > (IntKind.i64.wrap (x + d)) then (-1099511627776 : Int) else (IntKind.i64.wrap (x + d))) then (1099511627776 : Int) else (if (-1099511627776 : Int) > (IntKind.i64.wrap (x + d)) then (-1099511627776 : Int) else (IntKind.i64.wrap (x + d))));
  k t))
theorem clock_moved_ok' (hΓ : ΓOk Try.prog clock_moved_X.Γ) : SpecOk Try.prog 55 (clock_moved_S (clock_moved_s)) :=
  spec_exec (X := clock_moved_X) (Λ := pick1 []) (rs := [.tmp 4]) (c := bodyOf Try.f55) mixed tab_ok hΓ Try.func55 (by kernel_rfl) (by kernel_rfl) (by kernel_rfl) (by kernel_rfl) CutsOk_nil (fun x k r h => Eq.trans (b := (clock_moved_S (clock_moved_s)).run x k) (by kernel_rfl) h)
end
theorem clock_moved_Γ : ΓOk Try.prog (pick1 []) := ΓOk_nil
def clock_moved : T_clock_moved := clock_moved_s
theorem clock_moved_ok : SpecOk Try.prog 55 (clock_moved_S clock_moved) := clock_moved_ok' clock_moved_Γ

/-- pagewatch/clock.Shift -/
abbrev T_clock_Shift := {β : Type} → (Int × Int) → Int → ((Int × Int) → Option β) → Option β
def clock_Shift_S (c : T_clock_Shift) : Spec :=
  ⟨[(true, [.data (.prod (.int .i64) (.int .i64))]), (false, [.data (.int .i64)])], [], [(true, [.data (.prod (.int .i64) (.int .i64))])], [], fun x k => c x.1.1.1 x.1.2.1.1 (fun r0 => k (((r0, ()), ()), ()))⟩
section
variable (c_clock_bound : T_clock_bound) (c_clock_moved : T_clock_moved)
@[reducible] def clock_Shift_X : Ctx := ⟨look tab, pick1 [(54, .spec (clock_bound_S c_clock_bound)), (55, .spec (clock_moved_S c_clock_moved))], false⟩
def clock_Shift_s {β : Type} (a : (Int × Int)) (d : Int) (k : ((Int × Int) → Option β)) : Option β :=
  c_clock_bound a.1 (fun (rbound : Bool) =>
  cond (!rbound)
  (k a)
  (c_clock_bound a.2 (fun (rbound2 : Bool) =>
  cond (!rbound2)
  (k a)
  (c_clock_bound d (fun (rbound3 : Bool) =>
  cond (!rbound3)
  (k a)
  (c_clock_moved a.1 d (fun (rmoved : Int) =>
  c_clock_moved a.2 d (fun (rmoved2 : Int) =>
  k (rmoved, rmoved2)))))))))
theorem clock_Shift_ok' (hΓ : ΓOk Try.prog (clock_Shift_X c_clock_bound c_clock_moved).Γ) : SpecOk Try.prog 27 (clock_Shift_S (clock_Shift_s c_clock_bound c_clock_moved)) :=
  spec_exec (X := (clock_Shift_X c_clock_bound c_clock_moved)) (Λ := pick1 []) (rs := [.cell 4 45]) (c := bodyOf Try.f27) mixed tab_ok hΓ Try.func27 (by kernel_rfl) (by kernel_rfl) (by kernel_rfl) (by kernel_rfl) CutsOk_nil (fun x k r h => Eq.trans (b := (clock_Shift_S (clock_Shift_s c_clock_bound c_clock_moved)).run x k) (by kernel_rfl) h)
end
theorem clock_Shift_Γ : ΓOk Try.prog (pick1 [(54, .spec (clock_bound_S clock_bound)), (55, .spec (clock_moved_S clock_moved))]) := (ΓOk_cons clock_bound_ok (ΓOk_cons clock_moved_ok ΓOk_nil))
def clock_Shift : T_clock_Shift := clock_Shift_s clock_bound clock_moved
theorem clock_Shift_ok : SpecOk Try.prog 27 (clock_Shift_S clock_Shift) := clock_Shift_ok' clock_bound clock_moved clock_Shift_Γ

/-- (*pagewatch/pagewatchmade.Dice).OddRecord -/
abbrev T_made_Dice_OddRecord := {β : Type} → api_Record → (List Int × Int) → (api_Record → (List Int × Int) → Option β) → Option β
def made_Dice_OddRecord_S (c : T_made_Dice_OddRecord) : Spec :=
  ⟨[(false, [.ptr 0 0]), (true, [.data y_api_Record])], [.cells 82 [.data (.prod (.slice (.int .i64)) (.int .i64))]], [(true, [.data y_api_Record])], [.cells 82 [.data (.prod (.slice (.int .i64)) (.int .i64))]], fun x k => c x.1.2.1.1 x.2.1.1 (fun r0 r1 => k (((r0, ()), ()), ((r1, ()), ())))⟩
noncomputable def made_Dice_OddRecord_p1_code : Code := codeAt 7551 (bodyOf Try.f28)
abbrev made_Dice_OddRecord_p1_K1 (β : Type) := (List Int) → Int → (List (List UInt8 × Int)) → (List (Int × (Int × (Int × Int)))) → (List api_Event) → (List (Int × (Int × Int))) → (List (List UInt8 × Int)) → (List (Int × (Int × (Int × Int)))) → (List api_Event) → (List (Int × (Int × Int))) → Option β
abbrev made_Dice_OddRecord_p1_T := {β : Type} → made_Dice_OddRecord_p1_K1 β → Bool → (List Int) → Int → (List (List UInt8 × Int)) → (List (Int × (Int × (Int × Int)))) → (List api_Event) → (List (Int × (Int × Int))) → (List (List UInt8 × Int)) → (List (Int × (Int × (Int × Int)))) → (List api_Event) → (List (Int × (Int × Int))) → Option β
def made_Dice_OddRecord_p1_v : View := ⟨1, [0, 4, 5, 64], [(false, [.ptr 0 0]), (false, [.ptr 1 0]), (false, [.ptr 2 0]), (false, [.data .bool])], [.cells 82 [.data (.slice (.int .i64)), .data (.int .i64)], .cells 41 [.rowh 7, .rowh 8, .rowh 9, .rowh 10], .cells 41 [.rowh 3, .rowh 4, .rowh 5, .rowh 6], .row 35 (.prod .str (.int .i64)), .row 43 (.prod (.int .i64) (.prod (.int .i64) (.prod (.int .i64) (.int .i64)))), .row 65 y_api_Event, .row 67 (.prod (.int .i64) (.prod (.int .i64) (.int .i64))), .row 35 (.prod .str (.int .i64)), .row 43 (.prod (.int .i64) (.prod (.int .i64) (.prod (.int .i64) (.int .i64)))), .row 65 y_api_Event, .row 67 (.prod (.int .i64) (.prod (.int .i64) (.int .i64)))]⟩
def made_Dice_OddRecord_p1_o : List (AExit × View) := [(.normal, ⟨1, [4, 5], [(false, [.ptr 1 0]), (false, [.ptr 2 0])], [.cells 82 [.data (.slice (.int .i64)), .data (.int .i64)], .cells 41 [.rowh 3, .rowh 4, .rowh 5, .rowh 6], .cells 41 [.rowh 7, .rowh 8, .rowh 9, .rowh 10], .row 35 (.prod .str (.int .i64)), .row 43 (.prod (.int .i64) (.prod (.int .i64) (.prod (.int .i64) (.int .i64)))), .row 65 y_api_Event, .row 67 (.prod (.int .i64) (.prod (.int .i64) (.int .i64))), .row 35 (.prod .str (.int .i64)), .row 43 (.prod (.int .i64) (.prod (.int .i64) (.prod (.int .i64) (.int .i64)))), .row 65 y_api_Event, .row 67 (.prod (.int .i64) (.prod (.int .i64) (.int .i64)))]⟩)]
@[reducible] def made_Dice_OddRecord_p1_G (p : made_Dice_OddRecord_p1_T) {β : Type} (d : made_Dice_OddRecord_p1_v.den) (ks : Outs.K β made_Dice_OddRecord_p1_o) : Option β :=
  p (fun a0 a1 a2 a3 a4 a5 a6 a7 a8 a9 => ks.1 (((), (), ()), ((a0, a1, ()), (), (), a2, a3, a4, a5, a6, a7, a8, a9, ()))) d.1.2.2.2.1.1 d.2.1.1 d.2.1.2.1 d.2.2.2.2.1 d.2.2.2.2.2.1 d.2.2.2.2.2.2.1 d.2.2.2.2.2.2.2.1 d.2.2.2.2.2.2.2.2.1 d.2.2.2.2.2.2.2.2.2.1 d.2.2.2.2.2.2.2.2.2.2.1 d.2.2.2.2.2.2.2.2.2.2.2.1
section
variable (c_made_Dice_Next : T_made_Dice_Next) (c_made_Dice_One : T_made_Dice_One)
@[reducible] def made_Dice_OddRecord_X : Ctx := ⟨look tab, pick1 [(20, .spec (made_Dice_Next_S c_made_Dice_Next)), (19, .spec (made_Dice_One_S c_made_Dice_One))], false⟩
def made_Dice_OddRecord_p1_s {β : Type} (k1 : made_Dice_OddRecord_p1_K1 β) (t64 : Bool) (d : List Int) (d2 : Int) (b3_ : List (List UInt8 × Int)) (b4_ : List (Int × (Int × (Int × Int)))) (b5_ : List api_Event) (b6_ : List (Int × (Int × Int))) (b7_ : List (List UInt8 × Int)) (b8_ : List (Int × (Int × (Int × Int)))) (b9_ : List api_Event) (b10_ : List (Int × (Int × Int))) : Option β :=
  cond t64
  (c_made_Dice_Next (5 : Int) (d, d2) (fun (rNext : Int) (mrNext : (List Int × Int)) =>
  c_made_Dice_Next (5 : Int) mrNext (fun (rNext2 : Int) (mrNext2 : (List Int × Int)) =>
  let l : List Int := ([(-1 : Int), (0 : Int), (1 : Int), (100 : Int), (400 : Int)] : List Int);
  c_made_Dice_One l mrNext2 (fun (rOne : Int) (mrOne : (List Int × Int)) =>
  let l2 : List (Int × (Int × Int)) := ([((IntKind.i64.wrap (rNext - (1 : Int))), (rNext2, rOne))] : List (Int × (Int × Int)));
  cond (decide ((List.length b6_ + List.length l2) * 24 ≤ roomMax))
  (let l3 : List (Int × (Int × Int)) := (b6_ ++ l2);
  k1 mrOne.1 mrOne.2 b7_ b8_ b9_ b10_ b3_ b4_ b5_ l3)
  none))))
  (k1 d d2 b7_ b8_ b9_ b10_ b3_ b4_ b5_ b6_)
def made_Dice_OddRecord_p1_u {β : Type} (k1 : made_Dice_OddRecord_p1_K1 β) (t64 : Bool) (d : List Int) (d2 : Int) (b3_ : List (List UInt8 × Int)) (b4_ : List (Int × (Int × (Int × Int)))) (b5_ : List api_Event) (b6_ : List (Int × (Int × Int))) (b7_ : List (List UInt8 × Int)) (b8_ : List (Int × (Int × (Int × Int)))) (b9_ : List api_Event) (b10_ : List (Int × (Int × Int))) : Option β := made_Dice_OddRecord_p1_s c_made_Dice_Next c_made_Dice_One k1 t64 d d2 b3_ b4_ b5_ b6_ b7_ b8_ b9_ b10_
theorem made_Dice_OddRecord_p1_ok' (hΓ : ΓOk Try.prog (made_Dice_OddRecord_X c_made_Dice_Next c_made_Dice_One).Γ) : PieceOk Try.prog 82 1 made_Dice_OddRecord_p1_code made_Dice_OddRecord_p1_v made_Dice_OddRecord_p1_o (made_Dice_OddRecord_p1_G (made_Dice_OddRecord_p1_u c_made_Dice_Next c_made_Dice_One)) :=
  piece_exec (X := (made_Dice_OddRecord_X c_made_Dice_Next c_made_Dice_One)) (p := 7551) (Λ := pick1 []) mixed tab_ok hΓ (by kernel_rfl) CutsOk_nil (fun d ks r h => Eq.trans (b := made_Dice_OddRecord_p1_G (made_Dice_OddRecord_p1_u c_made_Dice_Next c_made_Dice_One) d ks) (by kernel_rfl) h)
def made_Dice_OddRecord_s (p1 : made_Dice_OddRecord_p1_T) {β : Type} (r_ : api_Record) (d : (List Int × Int)) (k : (api_Record → (List Int × Int) → Option β)) : Option β :=
  cond (decide (List.length r_.1 * 24 ≤ roomMax))
  (cond (decide (List.length r_.2.1 * 32 ≤ roomMax))
  (cond (decide (List.length r_.2.2.1 * 32 ≤ roomMax))
  (cond (decide (List.length r_.2.2.2 * 24 ≤ roomMax))
  (c_made_Dice_Next (7 : Int) d (fun (rNext : Int) (mrNext : (List Int × Int)) =>
  let t : Bool := (decide (rNext = (0 : Int)));
  cond t
  (let l : List Int := ([(-1 : Int), (500001 : Int)] : List Int);
  c_made_Dice_One l mrNext (fun (rOne : Int) (mrOne : (List Int × Int)) =>
  cond (decide (0 ≤ (0 : Int)) && decide ((0 : Int) < (List.length r_.1 : Int)))
  (let l2 : List (List UInt8 × Int) := (List.set r_.1 (Int.toNat (0 : Int)) ((List.getD r_.1 (Int.toNat (0 : Int)) (([] : List UInt8), (0 : Int))).1, rOne));
  k (l2, r_.2) mrOne)
  none))
  (let t2 : Bool := (decide (rNext = (1 : Int)));
  cond t2
  (c_made_Dice_Next (4 : Int) mrNext (fun (rNext2 : Int) (mrNext2 : (List Int × Int)) =>
  c_made_Dice_Next (300 : Int) mrNext2 (fun (rNext3 : Int) (mrNext3 : (List Int × Int)) =>
  c_made_Dice_Next (300 : Int) mrNext3 (fun (rNext4 : Int) (mrNext4 : (List Int × Int)) =>
  c_made_Dice_Next (300 : Int) mrNext4 (fun (rNext5 : Int) (mrNext5 : (List Int × Int)) =>
  let l : List (Int × (Int × (Int × Int))) := ([((IntKind.i64.wrap (rNext2 - (1 : Int))), ((IntKind.i64.wrap ((864000 : Int) + rNext3)), ((IntKind.i64.wrap ((864000 : Int) + rNext4)), (IntKind.i64.wrap ((864000 : Int) + rNext5)))))] : List (Int × (Int × (Int × Int))));
  cond (decide ((List.length r_.2.1 + List.length l) * 32 ≤ roomMax))
  (let l2 : List (Int × (Int × (Int × Int))) := (r_.2.1 ++ l);
  k (r_.1, (l2, r_.2.2)) mrNext5)
  none)))))
  (let t3 : Bool := (decide (rNext = (2 : Int)));
  cond t3
  (c_made_Dice_Next (4 : Int) mrNext (fun (rNext2 : Int) (mrNext2 : (List Int × Int)) =>
  let l : List Int := ([(-1 : Int), (0 : Int), (864000 : Int), (8589934592 : Int), (8589934593 : Int)] : List Int);
  c_made_Dice_One l mrNext2 (fun (rOne : Int) (mrOne : (List Int × Int)) =>
  let l2 : List api_Event := ([((IntKind.i64.wrap (rNext2 - (1 : Int))), (rOne, ([] : List UInt8)))] : List api_Event);
  cond (decide ((List.length r_.2.2.1 + List.length l2) * 32 ≤ roomMax))
  (let l3 : List api_Event := (r_.2.2.1 ++ l2);
  k (r_.1, (r_.2.1, (l3, r_.2.2.2))) mrOne)
  none)))
  (let t4 : Bool := (decide (rNext = (3 : Int)));
  cond t4
  (p1 (fun (b0_ : List Int) (b0_2 : Int) (b3_ : List (List UInt8 × Int)) (b4_ : List (Int × (Int × (Int × Int)))) (b5_ : List api_Event) (b6_ : List (Int × (Int × Int))) (b7_ : List (List UInt8 × Int)) (b8_ : List (Int × (Int × (Int × Int)))) (b9_ : List api_Event) (b10_ : List (Int × (Int × Int))) =>
  k (b7_, (b8_, (b9_, b10_))) (b0_, b0_2)) t4 mrNext.1 mrNext.2 r_.1 r_.2.1 r_.2.2.1 r_.2.2.2 ([] : List (List UInt8 × Int)) ([] : List (Int × (Int × (Int × Int)))) ([] : List api_Event) ([] : List (Int × (Int × Int))))
  (let t5 : Bool := (decide (rNext = (4 : Int)));
  p1 (fun (b0_ : List Int) (b0_2 : Int) (b3_ : List (List UInt8 × Int)) (b4_ : List (Int × (Int × (Int × Int)))) (b5_ : List api_Event) (b6_ : List (Int × (Int × Int))) (b7_ : List (List UInt8 × Int)) (b8_ : List (Int × (Int × (Int × Int)))) (b9_ : List api_Event) (b10_ : List (Int × (Int × Int))) =>
  k (b7_, (b8_, (b9_, b10_))) (b0_, b0_2)) t5 mrNext.1 mrNext.2 r_.1 r_.2.1 r_.2.2.1 r_.2.2.2 ([] : List (List UInt8 × Int)) ([] : List (Int × (Int × (Int × Int)))) ([] : List api_Event) ([] : List (Int × (Int × Int)))))))))
  none)
  none)
  none)
  none
theorem made_Dice_OddRecord_ok' (hΓ : ΓOk Try.prog (made_Dice_OddRecord_X c_made_Dice_Next c_made_Dice_One).Γ) (p1 : made_Dice_OddRecord_p1_T) (hp1 : PieceOk Try.prog 82 1 made_Dice_OddRecord_p1_code made_Dice_OddRecord_p1_v made_Dice_OddRecord_p1_o (made_Dice_OddRecord_p1_G p1)) : SpecOk Try.prog 28 (made_Dice_OddRecord_S (made_Dice_OddRecord_s c_made_Dice_Next c_made_Dice_One p1)) :=
  spec_exec (X := (made_Dice_OddRecord_X c_made_Dice_Next c_made_Dice_One)) (Λ := pick1 [(7551, pieceCut made_Dice_OddRecord_p1_v made_Dice_OddRecord_p1_o (made_Dice_OddRecord_p1_G p1))]) (rs := [.cell 4 41]) (c := bodyOf Try.f28) mixed tab_ok hΓ Try.func28 (by kernel_rfl) (by kernel_rfl) (by kernel_rfl) (by kernel_rfl) (CutsOk_cons (q := 7551) (c' := made_Dice_OddRecord_p1_code) (by kernel_rfl) rfl hp1 CutsOk_nil) (fun x k r h => Eq.trans (b := (made_Dice_OddRecord_S (made_Dice_OddRecord_s c_made_Dice_Next c_made_Dice_One p1)).run x k) (by kernel_rfl) h)
end
theorem made_Dice_OddRecord_Γ : ΓOk Try.prog (pick1 [(20, .spec (made_Dice_Next_S made_Dice_Next)), (19, .spec (made_Dice_One_S made_Dice_One))]) := (ΓOk_cons made_Dice_Next_ok (ΓOk_cons made_Dice_One_ok ΓOk_nil))
def made_Dice_OddRecord_p1 : made_Dice_OddRecord_p1_T := made_Dice_OddRecord_p1_u made_Dice_Next made_Dice_One
theorem made_Dice_OddRecord_p1_ok : PieceOk Try.prog 82 1 made_Dice_OddRecord_p1_code made_Dice_OddRecord_p1_v made_Dice_OddRecord_p1_o (made_Dice_OddRecord_p1_G made_Dice_OddRecord_p1) := made_Dice_OddRecord_p1_ok' made_Dice_Next made_Dice_One made_Dice_OddRecord_Γ
def made_Dice_OddRecord : T_made_Dice_OddRecord := made_Dice_OddRecord_s made_Dice_Next made_Dice_One made_Dice_OddRecord_p1
theorem made_Dice_OddRecord_ok : SpecOk Try.prog 28 (made_Dice_OddRecord_S made_Dice_OddRecord) := made_Dice_OddRecord_ok' made_Dice_Next made_Dice_One made_Dice_OddRecord_Γ made_Dice_OddRecord_p1 made_Dice_OddRecord_p1_ok

/-- pagewatch/pagewatchlaw40.OrderOpens -/
abbrev T_law40_OrderOpens := {β : Type} → (List Int) → (Bool → Option β) → Option β
def law40_OrderOpens_S (c : T_law40_OrderOpens) : Spec :=
  ⟨[(false, [.data (.slice (.int .i64))])], [], [(false, [.data .bool])], [], fun x k => c x.1.1.1 (fun r0 => k (((r0, ()), ()), ()))⟩
noncomputable def law40_OrderOpens_p1_code : Code := codeAt 131066 (bodyOf Try.f9)
abbrev law40_OrderOpens_p1_K1 (β : Type) := Int → Bool → Bool → (List (List UInt8 × Int)) → (List (Int × (Int × (Int × Int)))) → (List api_Event) → (List (List UInt8 × Int)) → (List (Int × (Int × (Int × Int)))) → (List api_Event) → (List (Int × (Int × Int))) → (List (Int × (Int × Int))) → Option β
abbrev law40_OrderOpens_p1_T := {β : Type} → law40_OrderOpens_p1_K1 β → Int → Int → Int → Bool → Bool → Int → Int → (List (List UInt8 × Int)) → (List (Int × (Int × (Int × Int)))) → (List api_Event) → (List (List UInt8 × Int)) → (List (Int × (Int × (Int × Int)))) → (List api_Event) → (List (Int × Int)) → (List (Int × (Int × Int))) → (List (Int × (Int × Int))) → Option β
def law40_OrderOpens_p1_v : View := ⟨0, [7, 8, 9, 10, 11, 12, 13, 73, 74, 75], [(false, [.data (.int .i64)]), (false, [.data (.int .i64)]), (false, [.data (.int .i64)]), (false, [.data .bool]), (false, [.ptr 0 0]), (false, [.ptr 1 0]), (false, [.data .bool]), (false, [.rowh 2]), (false, [.data (.int .i64)]), (false, [.data (.int .i64)])], [.cells 41 [.data (.slice (.prod .str (.int .i64))), .data (.slice (.prod (.int .i64) (.prod (.int .i64) (.prod (.int .i64) (.int .i64))))), .data (.slice y_api_Event), .rowh 3], .cells 41 [.data (.slice (.prod .str (.int .i64))), .data (.slice (.prod (.int .i64) (.prod (.int .i64) (.prod (.int .i64) (.int .i64))))), .data (.slice y_api_Event), .rowh 4], .row 56 (.prod (.int .i64) (.int .i64)), .row 67 (.prod (.int .i64) (.prod (.int .i64) (.int .i64))), .row 67 (.prod (.int .i64) (.prod (.int .i64) (.int .i64)))]⟩
def law40_OrderOpens_p1_o : List (AExit × View) := [(.exit 0, ⟨0, [9, 10, 11, 12, 13], [(false, [.data (.int .i64)]), (false, [.data .bool]), (false, [.ptr 0 0]), (false, [.ptr 1 0]), (false, [.data .bool])], [.cells 41 [.data (.slice (.prod .str (.int .i64))), .data (.slice (.prod (.int .i64) (.prod (.int .i64) (.prod (.int .i64) (.int .i64))))), .data (.slice y_api_Event), .rowh 2], .cells 41 [.data (.slice (.prod .str (.int .i64))), .data (.slice (.prod (.int .i64) (.prod (.int .i64) (.prod (.int .i64) (.int .i64))))), .data (.slice y_api_Event), .rowh 3], .row 67 (.prod (.int .i64) (.prod (.int .i64) (.int .i64))), .row 67 (.prod (.int .i64) (.prod (.int .i64) (.int .i64)))]⟩)]
@[reducible] def law40_OrderOpens_p1_G (p : law40_OrderOpens_p1_T) {β : Type} (d : law40_OrderOpens_p1_v.den) (ks : Outs.K β law40_OrderOpens_p1_o) : Option β :=
  p (fun a0 a1 a2 a3 a4 a5 a6 a7 a8 a9 a10 => ks.1 (((a0, ()), (a1, ()), (), (), (a2, ()), ()), ((a3, a4, a5, ()), (a6, a7, a8, ()), a9, a10, ()))) d.1.1.1 d.1.2.1.1 d.1.2.2.1.1 d.1.2.2.2.1.1 d.1.2.2.2.2.2.2.1.1 d.1.2.2.2.2.2.2.2.2.1.1 d.1.2.2.2.2.2.2.2.2.2.1.1 d.2.1.1 d.2.1.2.1 d.2.1.2.2.1 d.2.2.1.1 d.2.2.1.2.1 d.2.2.1.2.2.1 d.2.2.2.1 d.2.2.2.2.1 d.2.2.2.2.2.1
section
variable (c_law40_sane : T_law40_sane) (c_made_Dice_Next : T_made_Dice_Next) (c_made_Dice_Record : T_made_Dice_Record) (c_made_Light : T_made_Light) (c_made_Roll : T_made_Roll) (c_order_Compare : T_order_Compare) (c_order_Consistent : T_order_Consistent) (c_order_Open : T_order_Open)
@[reducible] def law40_OrderOpens_X : Ctx := ⟨look tab, pick1 [(39, .spec (law40_sane_S c_law40_sane)), (20, .spec (made_Dice_Next_S c_made_Dice_Next)), (25, .spec (made_Dice_Record_S c_made_Dice_Record)), (17, .spec (made_Light_S c_made_Light)), (18, .spec (made_Roll_S c_made_Roll)), (40, .spec (order_Compare_S c_order_Compare)), (42, .spec (order_Consistent_S c_order_Consistent)), (41, .spec (order_Open_S c_order_Open))], false⟩
def law40_OrderOpens_p1_s {β : Type} (rec : Int → Int → Int → Bool → Bool → Int → Int → (List (List UInt8 × Int)) → (List (Int × (Int × (Int × Int)))) → (List api_Event) → (List (List UInt8 × Int)) → (List (Int × (Int × (Int × Int)))) → (List api_Event) → (List (Int × Int)) → (List (Int × (Int × Int))) → (List (Int × (Int × Int))) → Option β) (k1 : law40_OrderOpens_p1_K1 β) (a : Int) (b : Int) (x : Int) (ok : Bool) (listed : Bool) (t74 : Int) (t75 : Int) (forward : List (List UInt8 × Int)) (forward2 : List (Int × (Int × (Int × Int)))) (forward3 : List api_Event) (back : List (List UInt8 × Int)) (back2 : List (Int × (Int × (Int × Int)))) (back3 : List api_Event) (t73 : List (Int × Int)) (b3_ : List (Int × (Int × Int))) (b4_ : List (Int × (Int × Int))) : Option β :=
  cond (decide (t75 < t74))
  (cond (decide (0 ≤ t75) && decide (t75 < (List.length t73 : Int)))
  (cond listed
  (rec a b x ok true t74 (IntKind.i64.wrap (t75 + (1 : Int))) forward forward2 forward3 back back2 back3 t73 b3_ b4_)
  (let listed2 : Bool := (decide ((List.getD t73 (Int.toNat t75) ((0 : Int), (0 : Int))).1 = (if b < a then b else a)) && (decide ((List.getD t73 (Int.toNat t75) ((0 : Int), (0 : Int))).2 = (if b > a then b else a)) && true));
  rec a b x ok listed2 t74 (IntKind.i64.wrap (t75 + (1 : Int))) forward forward2 forward3 back back2 back3 t73 b3_ b4_))
  none)
  (k1 x ok listed forward forward2 forward3 back back2 back3 b3_ b4_)
def law40_OrderOpens_p1_l {β : Type} : Nat → law40_OrderOpens_p1_K1 β → Int → Int → Int → Bool → Bool → Int → Int → (List (List UInt8 × Int)) → (List (Int × (Int × (Int × Int)))) → (List api_Event) → (List (List UInt8 × Int)) → (List (Int × (Int × (Int × Int)))) → (List api_Event) → (List (Int × Int)) → (List (Int × (Int × Int))) → (List (Int × (Int × Int))) → Option β
  | 0 => fun _ _ _ _ _ _ _ _ _ _ _ _ _ _ _ _ _ => none
  | i + 1 => fun k1 a b x ok listed t74 t75 forward forward2 forward3 back back2 back3 t73 b3_ b4_ => law40_OrderOpens_p1_s (law40_OrderOpens_p1_l i k1) k1 a b x ok listed t74 t75 forward forward2 forward3 back back2 back3 t73 b3_ b4_
theorem law40_OrderOpens_p1_ok' (hΓ : ΓOk Try.prog (law40_OrderOpens_X c_law40_sane c_made_Dice_Next c_made_Dice_Record c_made_Light c_made_Roll c_order_Compare c_order_Consistent c_order_Open).Γ) (i : Nat) : PieceOk Try.prog 115 0 law40_OrderOpens_p1_code law40_OrderOpens_p1_v law40_OrderOpens_p1_o (law40_OrderOpens_p1_G (law40_OrderOpens_p1_l i)) := by
  rw [show law40_OrderOpens_p1_code = .loop (loopBody law40_OrderOpens_p1_code) by kernel_rfl]
  exact piece_loop (X := (law40_OrderOpens_X c_law40_sane c_made_Dice_Next c_made_Dice_Record c_made_Light c_made_Roll c_order_Compare c_order_Consistent c_order_Open)) (p := 1) (Λ := pick1 []) (G := fun i => @fun β d ks => law40_OrderOpens_p1_G (law40_OrderOpens_p1_l i) d ks) mixed tab_ok hΓ rfl (by kernel_rfl) CutsOk_nil (fun _ _ => rfl) (fun i => @fun β d ks r h => Eq.trans (b := law40_OrderOpens_p1_G (law40_OrderOpens_p1_l (i + 1)) d ks) (by kernel_rfl) h) i
def law40_OrderOpens_s (p1 : law40_OrderOpens_p1_T) {β : Type} (t : List Int) (k : (Bool → Option β)) : Option β :=
  c_made_Light t (fun (rLight : Bool) =>
  cond (!rLight)
  (c_law40_sane  (fun (rsane : Bool) =>
  k rsane))
  (c_made_Roll t (fun (mrRoll : (List Int × Int)) =>
  c_made_Dice_Record (6 : Int) mrRoll (fun (rRecord : api_Record) (mrRecord : (List Int × Int)) (lrRecord : List Int) =>
  cond (decide ((List.length rRecord.2.2.1 : Int) < (2 : Int)))
  (c_law40_sane  (fun (rsane : Bool) =>
  k rsane))
  (c_made_Dice_Next (List.length rRecord.2.2.1 : Int) mrRecord (fun (rNext : Int) (mrNext : (List Int × Int)) =>
  c_made_Dice_Next (IntKind.i64.wrap ((List.length rRecord.2.2.1 : Int) - (1 : Int))) mrNext (fun (rNext2 : Int) (mrNext2 : (List Int × Int)) =>
  cond (!decide ((List.length rRecord.2.2.1 : Int) = 0))
  (let b : Int := (Int.tmod (IntKind.i64.wrap ((IntKind.i64.wrap (rNext + (1 : Int))) + rNext2)) (List.length rRecord.2.2.1 : Int));
  c_order_Compare rRecord rNext b (fun (rCompare : Int) (rCompare2 : Bool) =>
  cond (decide (List.length rRecord.2.2.2 * 24 ≤ roomMax))
  (let l : List (Int × (Int × Int)) := ([(rNext, (b, (0 : Int)))] : List (Int × (Int × Int)));
  cond (decide ((List.length rRecord.2.2.2 + List.length l) * 24 ≤ roomMax))
  (let l2 : List (Int × (Int × Int)) := (rRecord.2.2.2 ++ l);
  cond (decide (List.length rRecord.2.2.2 * 24 ≤ roomMax))
  (let l3 : List (Int × (Int × Int)) := ([(b, (rNext, (0 : Int)))] : List (Int × (Int × Int)));
  cond (decide ((List.length rRecord.2.2.2 + List.length l3) * 24 ≤ roomMax))
  (let l4 : List (Int × (Int × Int)) := (rRecord.2.2.2 ++ l3);
  c_order_Open rRecord (fun (lrOpen : List (Int × Int)) =>
  p1 (fun (x : Int) (ok : Bool) (listed : Bool) (forward : List (List UInt8 × Int)) (forward2 : List (Int × (Int × (Int × Int)))) (forward3 : List api_Event) (back : List (List UInt8 × Int)) (back2 : List (Int × (Int × (Int × Int)))) (back3 : List api_Event) (b2_ : List (Int × (Int × Int))) (b3_ : List (Int × (Int × Int))) =>
  cond (!ok)
  (k false)
  (cond (!(listed == (decide (x = (0 : Int)))))
  (k false)
  (c_order_Consistent (forward, (forward2, (forward3, b2_))) (fun (rConsistent : Bool) =>
  cond (rConsistent == (!decide (x = (1 : Int))))
  (c_order_Consistent (back, (back2, (back3, b3_))) (fun (rConsistent2 : Bool) =>
  cond (rConsistent2 == (!decide (x = (-1 : Int))))
  (c_law40_sane  (fun (rsane : Bool) =>
  k rsane))
  (k false)))
  (k false))))) rNext b rCompare rCompare2 false (List.length lrOpen : Int) (0 : Int) rRecord.1 rRecord.2.1 rRecord.2.2.1 rRecord.1 rRecord.2.1 rRecord.2.2.1 lrOpen l2 l4))
  none)
  none)
  none)
  none))
  none)))))))
theorem law40_OrderOpens_ok' (hΓ : ΓOk Try.prog (law40_OrderOpens_X c_law40_sane c_made_Dice_Next c_made_Dice_Record c_made_Light c_made_Roll c_order_Compare c_order_Consistent c_order_Open).Γ) (p1 : law40_OrderOpens_p1_T) (hp1 : PieceOk Try.prog 115 0 law40_OrderOpens_p1_code law40_OrderOpens_p1_v law40_OrderOpens_p1_o (law40_OrderOpens_p1_G p1)) : SpecOk Try.prog 9 (law40_OrderOpens_S (law40_OrderOpens_s c_law40_sane c_made_Dice_Next c_made_Dice_Record c_made_Light c_made_Roll c_order_Compare c_order_Consistent c_order_Open p1)) :=
  spec_exec (X := (law40_OrderOpens_X c_law40_sane c_made_Dice_Next c_made_Dice_Record c_made_Light c_made_Roll c_order_Compare c_order_Consistent c_order_Open)) (Λ := pick1 [(131066, pieceCut law40_OrderOpens_p1_v law40_OrderOpens_p1_o (law40_OrderOpens_p1_G p1))]) (rs := [.tmp 2]) (c := bodyOf Try.f9) mixed tab_ok hΓ Try.func9 (by kernel_rfl) (by kernel_rfl) (by kernel_rfl) (by kernel_rfl) (CutsOk_cons (q := 131066) (c' := law40_OrderOpens_p1_code) (by kernel_rfl) rfl hp1 CutsOk_nil) (fun x k r h => Eq.trans (b := (law40_OrderOpens_S (law40_OrderOpens_s c_law40_sane c_made_Dice_Next c_made_Dice_Record c_made_Light c_made_Roll c_order_Compare c_order_Consistent c_order_Open p1)).run x k) (by kernel_rfl) h)
end
theorem law40_OrderOpens_Γ : ΓOk Try.prog (pick1 [(39, .spec (law40_sane_S law40_sane)), (20, .spec (made_Dice_Next_S made_Dice_Next)), (25, .spec (made_Dice_Record_S made_Dice_Record)), (17, .spec (made_Light_S made_Light)), (18, .spec (made_Roll_S made_Roll)), (40, .spec (order_Compare_S order_Compare)), (42, .spec (order_Consistent_S order_Consistent)), (41, .spec (order_Open_S order_Open))]) := (ΓOk_cons law40_sane_ok (ΓOk_cons made_Dice_Next_ok (ΓOk_cons made_Dice_Record_ok (ΓOk_cons made_Light_ok (ΓOk_cons made_Roll_ok (ΓOk_cons order_Compare_ok (ΓOk_cons order_Consistent_ok (ΓOk_cons order_Open_ok ΓOk_nil))))))))
def law40_OrderOpens_p1_n (m : Nat) : law40_OrderOpens_p1_T := law40_OrderOpens_p1_l m
theorem law40_OrderOpens_p1_step {β : Type} (i : Nat) (k1 a b x ok listed t74 t75 forward forward2 forward3 back back2 back3 t73 b3_ b4_) : (law40_OrderOpens_p1_n (i + 1) k1 a b x ok listed t74 t75 forward forward2 forward3 back back2 back3 t73 b3_ b4_ : Option β) = law40_OrderOpens_p1_s (law40_OrderOpens_p1_n i k1) k1 a b x ok listed t74 t75 forward forward2 forward3 back back2 back3 t73 b3_ b4_ := rfl
def law40_OrderOpens_p1 : law40_OrderOpens_p1_T := law40_OrderOpens_p1_n fuel
theorem law40_OrderOpens_p1_ok : PieceOk Try.prog 115 0 law40_OrderOpens_p1_code law40_OrderOpens_p1_v law40_OrderOpens_p1_o (law40_OrderOpens_p1_G law40_OrderOpens_p1) := law40_OrderOpens_p1_ok' law40_sane made_Dice_Next made_Dice_Record made_Light made_Roll order_Compare order_Consistent order_Open law40_OrderOpens_Γ fuel
def law40_OrderOpens : T_law40_OrderOpens := law40_OrderOpens_s law40_sane made_Dice_Next made_Dice_Record made_Light made_Roll order_Compare order_Consistent order_Open law40_OrderOpens_p1
theorem law40_OrderOpens_ok : SpecOk Try.prog 9 (law40_OrderOpens_S law40_OrderOpens) := law40_OrderOpens_ok' law40_sane made_Dice_Next made_Dice_Record made_Light made_Roll order_Compare order_Consistent order_Open law40_OrderOpens_Γ law40_OrderOpens_p1 law40_OrderOpens_p1_ok
end
end Go.Lift
