import Derived.Test.YtamnjokpncjbfaaLiftY
import Derived.Test.YtamnjokpncjbfaaFn1
import Derived.Test.YtamnjokpncjbfaaProg
namespace Go.Lift
open Go.Proofs
noncomputable section
set_option maxRecDepth 100000
set_option linter.unusedVariables false

/-- pagewatch/pagewatchref25.Has -/
abbrev T_ref25_Has := {β : Type} → (List Int) → Int → (Bool → Option β) → Option β
def ref25_Has_S (c : T_ref25_Has) : Spec :=
  ⟨[(false, [.data (.slice (.int .i64))]), (false, [.data (.int .i64)])], [], [(false, [.data .bool])], [], fun x k => c x.1.1.1 x.1.2.1.1 (fun r0 => k (((r0, ()), ()), ()))⟩
noncomputable def ref25_Has_p1_code : Code := codeAt 26 (bodyOf Try.f49)
abbrev ref25_Has_p1_K1 (β : Type) := Bool → Option β
abbrev ref25_Has_p1_K2 (β : Type) := Unit → Option β
abbrev ref25_Has_p1_T := {β : Type} → ref25_Has_p1_K1 β → ref25_Has_p1_K2 β → (List Int) → Int → Int → Option β
def ref25_Has_p1_v : View := ⟨0, [0, 1, 5], [(false, [.data (.slice (.int .i64))]), (false, [.data (.int .i64)]), (false, [.data (.int .i64)])], []⟩
def ref25_Has_p1_o : List (AExit × View) := [(.ret, ⟨0, [4], [(false, [.data .bool])], []⟩), (.exit 0, ⟨0, [], [], []⟩)]
@[reducible] def ref25_Has_p1_G (p : ref25_Has_p1_T) {β : Type} (d : ref25_Has_p1_v.den) (ks : Outs.K β ref25_Has_p1_o) : Option β :=
  p (fun a0 => ks.1 (((a0, ()), ()), ())) (fun _ => ks.2.1 ((), ())) d.1.1.1 d.1.2.1.1 d.1.2.2.1.1
section
@[reducible] def ref25_Has_X : Ctx := ⟨look tab, pick1 [], false⟩
def ref25_Has_p1_s {β : Type} (rec : (List Int) → Int → Int → Option β) (k1 : ref25_Has_p1_K1 β) (k2 : ref25_Has_p1_K2 β) (l : List Int) (x : Int) (i_ : Int) : Option β :=
  cond (decide (i_ < (List.length l : Int)))
  (cond (decide (0 ≤ i_) && decide (i_ < (List.length l : Int)))
  (let e : Int := List.getD l (Int.toNat i_) (0 : Int);
  cond (decide (e = x))
  (k1 true)
  (let i_2 : Int := (IntKind.i64.wrap (i_ + (1 : Int)));
  rec l x i_2))
  none)
  (k2 ())
def ref25_Has_p1_l {β : Type} : Nat → ref25_Has_p1_K1 β → ref25_Has_p1_K2 β → (List Int) → Int → Int → Option β
  | 0 => fun _ _ _ _ _ => none
  | i + 1 => fun k1 k2 l x i_ => ref25_Has_p1_s (ref25_Has_p1_l i k1 k2) k1 k2 l x i_
theorem ref25_Has_p1_ok' (hΓ : ΓOk Try.prog ref25_Has_X.Γ) (i : Nat) : PieceOk Try.prog 18 0 ref25_Has_p1_code ref25_Has_p1_v ref25_Has_p1_o (ref25_Has_p1_G (ref25_Has_p1_l i)) := by
  rw [show ref25_Has_p1_code = .loop (loopBody ref25_Has_p1_code) by kernel_rfl]
  exact piece_loop (X := ref25_Has_X) (p := 1) (Λ := pick1 []) (G := fun i => @fun β d ks => ref25_Has_p1_G (ref25_Has_p1_l i) d ks) mixed tab_ok hΓ rfl (by kernel_rfl) CutsOk_nil (fun _ _ => rfl) (fun i => @fun β d ks r h => Eq.trans (b := ref25_Has_p1_G (ref25_Has_p1_l (i + 1)) d ks) (by kernel_rfl) h) i
def ref25_Has_s (p1 : ref25_Has_p1_T) {β : Type} (l : List Int) (x : Int) (k : (Bool → Option β)) : Option β :=
  p1 (fun (t4 : Bool) =>
  k t4) (fun (_ : Unit) =>
  k false) l x (0 : Int)
theorem ref25_Has_ok' (hΓ : ΓOk Try.prog ref25_Has_X.Γ) (p1 : ref25_Has_p1_T) (hp1 : PieceOk Try.prog 18 0 ref25_Has_p1_code ref25_Has_p1_v ref25_Has_p1_o (ref25_Has_p1_G p1)) : SpecOk Try.prog 49 (ref25_Has_S (ref25_Has_s p1)) :=
  spec_exec (X := ref25_Has_X) (Λ := pick1 [(26, pieceCut ref25_Has_p1_v ref25_Has_p1_o (ref25_Has_p1_G p1))]) (rs := [.tmp 4]) (c := bodyOf Try.f49) mixed tab_ok hΓ Try.func49 (by kernel_rfl) (by kernel_rfl) (by kernel_rfl) (by kernel_rfl) (CutsOk_cons (q := 26) (c' := ref25_Has_p1_code) (by kernel_rfl) rfl hp1 CutsOk_nil) (fun x k r h => Eq.trans (b := (ref25_Has_S (ref25_Has_s p1)).run x k) (by kernel_rfl) h)
end
theorem ref25_Has_Γ : ΓOk Try.prog (pick1 []) := ΓOk_nil
def ref25_Has_p1_n (m : Nat) : ref25_Has_p1_T := ref25_Has_p1_l m
theorem ref25_Has_p1_step {β : Type} (i : Nat) (k1 k2 l x i_) : (ref25_Has_p1_n (i + 1) k1 k2 l x i_ : Option β) = ref25_Has_p1_s (ref25_Has_p1_n i k1 k2) k1 k2 l x i_ := rfl
def ref25_Has_p1 : ref25_Has_p1_T := ref25_Has_p1_n fuel
theorem ref25_Has_p1_ok : PieceOk Try.prog 18 0 ref25_Has_p1_code ref25_Has_p1_v ref25_Has_p1_o (ref25_Has_p1_G ref25_Has_p1) := ref25_Has_p1_ok' ref25_Has_Γ fuel
def ref25_Has : T_ref25_Has := ref25_Has_s ref25_Has_p1
theorem ref25_Has_ok : SpecOk Try.prog 49 (ref25_Has_S ref25_Has) := ref25_Has_ok' ref25_Has_Γ ref25_Has_p1 ref25_Has_p1_ok

/-- pagewatch/clock.bound -/
abbrev T_clock_bound := {β : Type} → Int → (Bool → Option β) → Option β
def clock_bound_S (c : T_clock_bound) : Spec :=
  ⟨[(false, [.data (.int .i64)])], [], [(false, [.data .bool])], [], fun x k => c x.1.1.1 (fun r0 => k (((r0, ()), ()), ()))⟩
section
variable (c_clock_in : T_clock_in)
@[reducible] def clock_bound_X : Ctx := ⟨look tab, pick1 [(50, .spec (clock_in_S c_clock_in))], false⟩
def clock_bound_s {β : Type} (n : Int) (k : (Bool → Option β)) : Option β :=
  c_clock_in n (-1099511627776 : Int) (1099511627776 : Int) (fun (rin : Bool) =>
  k rin)
theorem clock_bound_ok' (hΓ : ΓOk Try.prog (clock_bound_X c_clock_in).Γ) : SpecOk Try.prog 54 (clock_bound_S (clock_bound_s c_clock_in)) :=
  spec_exec (X := (clock_bound_X c_clock_in)) (Λ := pick1 []) (rs := [.tmp 2]) (c := bodyOf Try.f54) mixed tab_ok hΓ Try.func54 (by kernel_rfl) (by kernel_rfl) (by kernel_rfl) (by kernel_rfl) CutsOk_nil (fun x k r h => Eq.trans (b := (clock_bound_S (clock_bound_s c_clock_in)).run x k) (by kernel_rfl) h)
end
theorem clock_bound_Γ : ΓOk Try.prog (pick1 [(50, .spec (clock_in_S clock_in))]) := (ΓOk_cons clock_in_ok ΓOk_nil)
def clock_bound : T_clock_bound := clock_bound_s clock_in
theorem clock_bound_ok : SpecOk Try.prog 54 (clock_bound_S clock_bound) := clock_bound_ok' clock_in clock_bound_Γ

/-- pagewatch/clock.moved -/
abbrev T_clock_moved := {β : Type} → Int → Int → (Int → Option β) → Option β
def clock_moved_S (c : T_clock_moved) : Spec :=
  ⟨[(false, [.data (.int .i64)]), (false, [.data (.int .i64)])], [], [(false, [.data (.int .i64)])], [], fun x k => c x.1.1.1 x.1.2.1.1 (fun r0 => k (((r0, ()), ()), ()))⟩
section
@[reducible] def clock_moved_X : Ctx := ⟨look tab, pick1 [], false⟩
def clock_moved_s {β : Type} (x : Int) (d : Int) (k : (Int → Option β)) : Option β :=
  cond (decide (x = (-1099511627776 : Int)))
  (k x)
  (cond (decide (x = (1099511627776 : Int)))
  (k x)
  (let t : Int := (if (1099511627776 : Int) < (if (-1099511627776 : Int) > (IntKind.i64.wrap (x + d)) then (-1099511627776 : Int) else (IntKind.i64.wrap (x + d))) then (1099511627776 : Int) else (if (-1099511627776 : Int) > (IntKind.i64.wrap (x + d)) then (-1099511627776 : Int) else (IntKind.i64.wrap (x + d))));
  k t))
theorem clock_moved_ok' (hΓ : ΓOk Try.prog clock_moved_X.Γ) : SpecOk Try.prog 55 (clock_moved_S (clock_moved_s)) :=
  spec_exec (X := clock_moved_X) (Λ := pick1 []) (rs := [.tmp 4]) (c := bodyOf Try.f55) mixed tab_ok hΓ Try.func55 (by kernel_rfl) (by kernel_rfl) (by kernel_rfl) (by kernel_rfl) CutsOk_nil (fun x k r h => Eq.trans (b := (clock_moved_S (clock_moved_s)).run x k) (by kernel_rfl) h)
end
theorem clock_moved_Γ : ΓOk Try.prog (pick1 []) := ΓOk_nil
def clock_moved : T_clock_moved := clock_moved_s
theorem clock_moved_ok : SpecOk Try.prog 55 (clock_moved_S clock_moved) := clock_moved_ok' clock_moved_Γ

/-- pagewatch/clock.Shift -/
abbrev T_clock_Shift := {β : Type} → (Int × Int) → Int → ((Int × Int) → Option β) → Option β
def clock_Shift_S (c : T_clock_Shift) : Spec :=
  ⟨[(true, [.data (.prod (.int .i64) (.int .i64))]), (false, [.data (.int .i64)])], [], [(true, [.data (.prod (.int .i64) (.int .i64))])], [], fun x k => c x.1.1.1 x.1.2.1.1 (fun r0 => k (((r0, ()), ()), ()))⟩
section
variable (c_clock_bound : T_clock_bound) (c_clock_moved : T_clock_moved)
@[reducible] def clock_Shift_X : Ctx := ⟨look tab, pick1 [(54, .spec (clock_bound_S c_clock_bound)), (55, .spec (clock_moved_S c_clock_moved))], false⟩
def clock_Shift_s {β : Type} (a : (Int × Int)) (d : Int) (k : ((Int × Int) → Option β)) : Option β :=
  c_clock_bound a.1 (fun (rbound : Bool) =>
  cond (!rbound)
  (k a)
  (c_clock_bound a.2 (fun (rbound2 : Bool) =>
  cond (!rbound2)
  (k a)
  (c_clock_bound d (fun (rbound3 : Bool) =>
  cond (!rbound3)
  (k a)
  (c_clock_moved a.1 d (fun (rmoved : Int) =>
  c_clock_moved a.2 d (fun (rmoved2 : Int) =>
  k (rmoved, rmoved2)))))))))
theorem clock_Shift_ok' (hΓ : ΓOk Try.prog (clock_Shift_X c_clock_bound c_clock_moved).Γ) : SpecOk Try.prog 27 (clock_Shift_S (clock_Shift_s c_clock_bound c_clock_moved)) :=
  spec_exec (X := (clock_Shift_X c_clock_bound c_clock_moved)) (Λ := pick1 []) (rs := [.cell 4 45]) (c := bodyOf Try.f27) mixed tab_ok hΓ Try.func27 (by kernel_rfl) (by kernel_rfl) (by kernel_rfl) (by kernel_rfl) CutsOk_nil (fun x k r h => Eq.trans (b := (clock_Shift_S (clock_Shift_s c_clock_bound c_clock_moved)).run x k) (by kernel_rfl) h)
end
theorem clock_Shift_Γ : ΓOk Try.prog (pick1 [(54, .spec (clock_bound_S clock_bound)), (55, .spec (clock_moved_S clock_moved))]) := (ΓOk_cons clock_bound_ok (ΓOk_cons clock_moved_ok ΓOk_nil))
def clock_Shift : T_clock_Shift := clock_Shift_s clock_bound clock_moved
theorem clock_Shift_ok : SpecOk Try.prog 27 (clock_Shift_S clock_Shift) := clock_Shift_ok' clock_bound clock_moved clock_Shift_Γ

/-- (*pagewatch/pagewatchmade.Dice).OddRecord -/
abbrev T_made_Dice_OddRecord := {β : Type} → api_Record → (List Int × Int) → (api_Record → (List Int × Int) → Option β) → Option β
def made_Dice_OddRecord_S (c : T_made_Dice_OddRecord) : Spec :=
  ⟨[(false, [.ptr 0 0]), (true, [.data y_api_Record])], [.cells 82 [.data (.prod (.slice (.int .i64)) (.int .i64))]], [(true, [.data y_api_Record])], [.cells 82 [.data (.prod (.slice (.int .i64)) (.int .i64))]], fun x k => c x.1.2.1.1 x.2.1.1 (fun r0 r1 => k (((r0, ()), ()), ((r1, ()), ())))⟩
noncomputable def made_Dice_OddRecord_p1_code : Code := codeAt 7551 (bodyOf Try.f28)
abbrev made_Dice_OddRecord_p1_K1 (β : Type) := (List Int) → Int → (List (List UInt8 × Int)) → (List (Int × (Int × (Int × Int)))) → (List api_Event) → (List (Int × (Int × Int))) → (List (List UInt8 × Int)) → (List (Int × (Int × (Int × Int)))) → (List api_Event) → (List (Int × (Int × Int))) → Option β
abbrev made_Dice_OddRecord_p1_T := {β : Type} → made_Dice_OddRecord_p1_K1 β → Bool → (List Int) → Int → (List (List UInt8 × Int)) → (List (Int × (Int × (Int × Int)))) → (List api_Event) → (List (Int × (Int × Int))) → (List (List UInt8 × Int)) → (List (Int × (Int × (Int × Int)))) → (List api_Event) → (List (Int × (Int × Int))) → Option β
def made_Dice_OddRecord_p1_v : View := ⟨1, [0, 4, 5, 64], [(false, [.ptr 0 0]), (false, [.ptr 1 0]), (false, [.ptr 2 0]), (false, [.data .bool])], [.cells 82 [.data (.slice (.int .i64)), .data (.int .i64)], .cells 41 [.rowh 7, .rowh 8, .rowh 9, .rowh 10], .cells 41 [.rowh 3, .rowh 4, .rowh 5, .rowh 6], .row 35 (.prod .str (.int .i64)), .row 43 (.prod (.int .i64) (.prod (.int .i64) (.prod (.int .i64) (.int .i64)))), .row 65 y_api_Event, .row 67 (.prod (.int .i64) (.prod (.int .i64) (.int .i64))), .row 35 (.prod .str (.int .i64)), .row 43 (.prod (.int .i64) (.prod (.int .i64) (.prod (.int .i64) (.int .i64)))), .row 65 y_api_Event, .row 67 (.prod (.int .i64) (.prod (.int .i64) (.int .i64)))]⟩
def made_Dice_OddRecord_p1_o : List (AExit × View) := [(.normal, ⟨1, [4, 5], [(false, [.ptr 1 0]), (false, [.ptr 2 0])], [.cells 82 [.data (.slice (.int .i64)), .data (.int .i64)], .cells 41 [.rowh 3, .rowh 4, .rowh 5, .rowh 6], .cells 41 [.rowh 7, .rowh 8, .rowh 9, .rowh 10], .row 35 (.prod .str (.int .i64)), .row 43 (.prod (.int .i64) (.prod (.int .i64) (.prod (.int .i64) (.int .i64)))), .row 65 y_api_Event, .row 67 (.prod (.int .i64) (.prod (.int .i64) (.int .i64))), .row 35 (.prod .str (.int .i64)), .row 43 (.prod (.int .i64) (.prod (.int .i64) (.prod (.int .i64) (.int .i64)))), .row 65 y_api_Event, .row 67 (.prod (.int .i64) (.prod (.int .i64) (.int .i64)))]⟩)]
@[reducible] def made_Dice_OddRecord_p1_G (p : made_Dice_OddRecord_p1_T) {β : Type} (d : made_Dice_OddRecord_p1_v.den) (ks : Outs.K β made_Dice_OddRecord_p1_o) : Option β :=
  p (fun a0 a1 a2 a3 a4 a5 a6 a7 a8 a9 => ks.1 (((), (), ()), ((a0, a1, ()), (), (), a2, a3, a4, a5, a6, a7, a8, a9, ()))) d.1.2.2.2.1.1 d.2.1.1 d.2.1.2.1 d.2.2.2.2.1 d.2.2.2.2.2.1 d.2.2.2.2.2.2.1 d.2.2.2.2.2.2.2.1 d.2.2.2.2.2.2.2.2.1 d.2.2.2.2.2.2.2.2.2.1 d.2.2.2.2.2.2.2.2.2.2.1 d.2.2.2.2.2.2.2.2.2.2.2.1
section
variable (c_made_Dice_Next : T_made_Dice_Next) (c_made_Dice_One : T_made_Dice_One)
@[reducible] def made_Dice_OddRecord_X : Ctx := ⟨look tab, pick1 [(20, .spec (made_Dice_Next_S c_made_Dice_Next)), (19, .spec (made_Dice_One_S c_made_Dice_One))], false⟩
def made_Dice_OddRecord_p1_s {β : Type} (k1 : made_Dice_OddRecord_p1_K1 β) (t64 : Bool) (d : List Int) (d2 : Int) (b3_ : List (List UInt8 × Int)) (b4_ : List (Int × (Int × (Int × Int)))) (b5_ : List api_Event) (b6_ : List (Int × (Int × Int))) (b7_ : List (List UInt8 × Int)) (b8_ : List (Int × (Int × (Int × Int)))) (b9_ : List api_Event) (b10_ : List (Int × (Int × Int))) : Option β :=
  cond t64
  (c_made_Dice_Next (5 : Int) (d, d2) (fun (rNext : Int) (mrNext : (List Int × Int)) =>
  c_made_Dice_Next (5 : Int) mrNext (fun (rNext2 : Int) (mrNext2 : (List Int × Int)) =>
  let l : List Int := ([(-1 : Int), (0 : Int), (1 : Int), (100 : Int), (400 : Int)] : List Int);
  c_made_Dice_One l mrNext2 (fun (rOne : Int) (mrOne : (List Int × Int)) =>
  let l2 : List (Int × (Int × Int)) := ([((IntKind.i64.wrap (rNext - (1 : Int))), (rNext2, rOne))] : List (Int × (Int × Int)));
  cond (decide ((List.length b6_ + List.length l2) * 24 ≤ roomMax))
  (let l3 : List (Int × (Int × Int)) := (b6_ ++ l2);
  k1 mrOne.1 mrOne.2 b7_ b8_ b9_ b10_ b3_ b4_ b5_ l3)
  none))))
  (k1 d d2 b7_ b8_ b9_ b10_ b3_ b4_ b5_ b6_)
def made_Dice_OddRecord_p1_u {β : Type} (k1 : made_Dice_OddRecord_p1_K1 β) (t64 : Bool) (d : List Int) (d2 : Int) (b3_ : List (List UInt8 × Int)) (b4_ : List (Int × (Int × (Int × Int)))) (b5_ : List api_Event) (b6_ : List (Int × (Int × Int))) (b7_ : List (List UInt8 × Int)) (b8_ : List (Int × (Int × (Int × Int)))) (b9_ : List api_Event) (b10_ : List (Int × (Int × Int))) : Option β := made_Dice_OddRecord_p1_s c_made_Dice_Next c_made_Dice_One k1 t64 d d2 b3_ b4_ b5_ b6_ b7_ b8_ b9_ b10_
theorem made_Dice_OddRecord_p1_ok' (hΓ : ΓOk Try.prog (made_Dice_OddRecord_X c_made_Dice_Next c_made_Dice_One).Γ) : PieceOk Try.prog 82 1 made_Dice_OddRecord_p1_code made_Dice_OddRecord_p1_v made_Dice_OddRecord_p1_o (made_Dice_OddRecord_p1_G (made_Dice_OddRecord_p1_u c_made_Dice_Next c_made_Dice_One)) :=
  piece_exec (X := (made_Dice_OddRecord_X c_made_Dice_Next c_made_Dice_One)) (p := 7551) (Λ := pick1 []) mixed tab_ok hΓ (by kernel_rfl) CutsOk_nil (fun d ks r h => Eq.trans (b := made_Dice_OddRecord_p1_G (made_Dice_OddRecord_p1_u c_made_Dice_Next c_made_Dice_One) d ks) (by kernel_rfl) h)
def made_Dice_OddRecord_s (p1 : made_Dice_OddRecord_p1_T) {β : Type} (r_ : api_Record) (d : (List Int × Int)) (k : (api_Record → (List Int × Int) → Option β)) : Option β :=
  cond (decide (List.length r_.1 * 24 ≤ roomMax))
  (cond (decide (List.length r_.2.1 * 32 ≤ roomMax))
  (cond (decide (List.length r_.2.2.1 * 32 ≤ roomMax))
  (cond (decide (List.length r_.2.2.2 * 24 ≤ roomMax))
  (c_made_Dice_Next (7 : Int) d (fun (rNext : Int) (mrNext : (List Int × Int)) =>
  let t : Bool := (decide (rNext = (0 : Int)));
  cond t
  (let l : List Int := ([(-1 : Int), (500001 : Int)] : List Int);
  c_made_Dice_One l mrNext (fun (rOne : Int) (mrOne : (List Int × Int)) =>
  cond (decide (0 ≤ (0 : Int)) && decide ((0 : Int) < (List.length r_.1 : Int)))
  (let l2 : List (List UInt8 × Int) := (List.set r_.1 (Int.toNat (0 : Int)) ((List.getD r_.1 (Int.toNat (0 : Int)) (([] : List UInt8), (0 : Int))).1, rOne));
  k (l2, r_.2) mrOne)
  none))
  (let t2 : Bool := (decide (rNext = (1 : Int)));
  cond t2
  (c_made_Dice_Next (4 : Int) mrNext (fun (rNext2 : Int) (mrNext2 : (List Int × Int)) =>
  c_made_Dice_Next (300 : Int) mrNext2 (fun (rNext3 : Int) (mrNext3 : (List Int × Int)) =>
  c_made_Dice_Next (300 : Int) mrNext3 (fun (rNext4 : Int) (mrNext4 : (List Int × Int)) =>
  c_made_Dice_Next (300 : Int) mrNext4 (fun (rNext5 : Int) (mrNext5 : (List Int × Int)) =>
  let l : List (Int × (Int × (Int × Int))) := ([((IntKind.i64.wrap (rNext2 - (1 : Int))), ((IntKind.i64.wrap ((864000 : Int) + rNext3)), ((IntKind.i64.wrap ((864000 : Int) + rNext4)), (IntKind.i64.wrap ((864000 : Int) + rNext5)))))] : List (Int × (Int × (Int × Int))));
  cond (decide ((List.length r_.2.1 + List.length l) * 32 ≤ roomMax))
  (let l2 : List (Int × (Int × (Int × Int))) := (r_.2.1 ++ l);
  k (r_.1, (l2, r_.2.2)) mrNext5)
  none)))))
  (let t3 : Bool := (decide (rNext = (2 : Int)));
  cond t3
  (c_made_Dice_Next (4 : Int) mrNext (fun (rNext2 : Int) (mrNext2 : (List Int × Int)) =>
  let l : List Int := ([(-1 : Int), (0 : Int), (864000 : Int), (8589934592 : Int), (8589934593 : Int)] : List Int);
  c_made_Dice_One l mrNext2 (fun (rOne : Int) (mrOne : (List Int × Int)) =>
  let l2 : List api_Event := ([((IntKind.i64.wrap (rNext2 - (1 : Int))), (rOne, ([] : List UInt8)))] : List api_Event);
  cond (decide ((List.length r_.2.2.1 + List.length l2) * 32 ≤ roomMax))
  (let l3 : List api_Event := (r_.2.2.1 ++ l2);
  k (r_.1, (r_.2.1, (l3, r_.2.2.2))) mrOne)
  none)))
  (let t4 : Bool := (decide (rNext = (3 : Int)));
  cond t4
  (p1 (fun (b0_ : List Int) (b0_2 : Int) (b3_ : List (List UInt8 × Int)) (b4_ : List (Int × (Int × (Int × Int)))) (b5_ : List api_Event) (b6_ : List (Int × (Int × Int))) (b7_ : List (List UInt8 × Int)) (b8_ : List (Int × (Int × (Int × Int)))) (b9_ : List api_Event) (b10_ : List (Int × (Int × Int))) =>
  k (b7_, (b8_, (b9_, b10_))) (b0_, b0_2)) t4 mrNext.1 mrNext.2 r_.1 r_.2.1 r_.2.2.1 r_.2.2.2 ([] : List (List UInt8 × Int)) ([] : List (Int × (Int × (Int × Int)))) ([] : List api_Event) ([] : List (Int × (Int × Int))))
  (let t5 : Bool := (decide (rNext = (4 : Int)));
  p1 (fun (b0_ : List Int) (b0_2 : Int) (b3_ : List (List UInt8 × Int)) (b4_ : List (Int × (Int × (Int × Int)))) (b5_ : List api_Event) (b6_ : List (Int × (Int × Int))) (b7_ : List (List UInt8 × Int)) (b8_ : List (Int × (Int × (Int × Int)))) (b9_ : List api_Event) (b10_ : List (Int × (Int × Int))) =>
  k (b7_, (b8_, (b9_, b10_))) (b0_, b0_2)) t5 mrNext.1 mrNext.2 r_.1 r_.2.1 r_.2.2.1 r_.2.2.2 ([] : List (List UInt8 × Int)) ([] : List (Int × (Int × (Int × Int)))) ([] : List api_Event) ([] : List (Int × (Int × Int)))))))))
  none)
  none)
  none)
  none
theorem made_Dice_OddRecord_ok' (hΓ : ΓOk Try.prog (made_Dice_OddRecord_X c_made_Dice_Next c_made_Dice_One).Γ) (p1 : made_Dice_OddRecord_p1_T) (hp1 : PieceOk Try.prog 82 1 made_Dice_OddRecord_p1_code made_Dice_OddRecord_p1_v made_Dice_OddRecord_p1_o (made_Dice_OddRecord_p1_G p1)) : SpecOk Try.prog 28 (made_Dice_OddRecord_S (made_Dice_OddRecord_s c_made_Dice_Next c_made_Dice_One p1)) :=
  spec_exec (X := (made_Dice_OddRecord_X c_made_Dice_Next c_made_Dice_One)) (Λ := pick1 [(7551, pieceCut made_Dice_OddRecord_p1_v made_Dice_OddRecord_p1_o (made_Dice_OddRecord_p1_G p1))]) (rs := [.cell 4 41]) (c := bodyOf Try.f28) mixed tab_ok hΓ Try.func28 (by kernel_rfl) (by kernel_rfl) (by kernel_rfl) (by kernel_rfl) (CutsOk_cons (q := 7551) (c' := made_Dice_OddRecord_p1_code) (by kernel_rfl) rfl hp1 CutsOk_nil) (fun x k r h => Eq.trans (b := (made_Dice_OddRecord_S (made_Dice_OddRecord_s c_made_Dice_Next c_made_Dice_One p1)).run x k) (by kernel_rfl) h)
end
theorem made_Dice_OddRecord_Γ : ΓOk Try.prog (pick1 [(20, .spec (made_Dice_Next_S made_Dice_Next)), (19, .spec (made_Dice_One_S made_Dice_One))]) := (ΓOk_cons made_Dice_Next_ok (ΓOk_cons made_Dice_One_ok ΓOk_nil))
def made_Dice_OddRecord_p1 : made_Dice_OddRecord_p1_T := made_Dice_OddRecord_p1_u made_Dice_Next made_Dice_One
theorem made_Dice_OddRecord_p1_ok : PieceOk Try.prog 82 1 made_Dice_OddRecord_p1_code made_Dice_OddRecord_p1_v made_Dice_OddRecord_p1_o (made_Dice_OddRecord_p1_G made_Dice_OddRecord_p1) := made_Dice_OddRecord_p1_ok' made_Dice_Next made_Dice_One made_Dice_OddRecord_Γ
def made_Dice_OddRecord : T_made_Dice_OddRecord := made_Dice_OddRecord_s made_Dice_Next made_Dice_One made_Dice_OddRecord_p1
theorem made_Dice_OddRecord_ok : SpecOk Try.prog 28 (made_Dice_OddRecord_S made_Dice_OddRecord) := made_Dice_OddRecord_ok' made_Dice_Next made_Dice_One made_Dice_OddRecord_Γ made_Dice_OddRecord_p1 made_Dice_OddRecord_p1_ok

/-- pagewatch/pagewatchlaw40.OrderSorts -/
abbrev T_law40_OrderSorts := {β : Type} → (List Int) → (Bool → Option β) → Option β
def law40_OrderSorts_S (c : T_law40_OrderSorts) : Spec :=
  ⟨[(false, [.data (.slice (.int .i64))])], [], [(false, [.data .bool])], [], fun x k => c x.1.1.1 (fun r0 => k (((r0, ()), ()), ()))⟩
noncomputable def law40_OrderSorts_p2_code : Code := codeAt 1018 (bodyOf Try.f14)
noncomputable def law40_OrderSorts_p3_code : Code := codeAt 2042 (bodyOf Try.f14)
noncomputable def law40_OrderSorts_p5_code : Code := codeAt 8186 (bodyOf Try.f14)
noncomputable def law40_OrderSorts_p1_code : Code := codeAt 230 (loopBody law40_OrderSorts_p2_code)
noncomputable def law40_OrderSorts_p4_code : Code := codeAt 458 (loopBody law40_OrderSorts_p5_code)
abbrev law40_OrderSorts_p1_K1 (β : Type) := Bool → Option β
abbrev law40_OrderSorts_p1_K2 (β : Type) := Int → Int → (List (List UInt8 × Int)) → (List (Int × (Int × (Int × Int)))) → (List api_Event) → (List (Int × (Int × Int))) → (List Int) → (List Int) → Option β
abbrev law40_OrderSorts_p1_T := {β : Type} → law40_OrderSorts_p1_K1 β → law40_OrderSorts_p1_K2 β → Int → Int → Int → Int → (List (List UInt8 × Int)) → (List (Int × (Int × (Int × Int)))) → (List api_Event) → (List (Int × (Int × Int))) → (List Int) → (List Int) → Option β
def law40_OrderSorts_p1_v : View := ⟨0, [4, 5, 6, 8, 9, 51, 52], [(false, [.ptr 0 0]), (false, [.rowh 1]), (false, [.rowh 2]), (false, [.data (.int .i64)]), (false, [.data (.int .i64)]), (false, [.data (.int .i64)]), (false, [.data (.int .i64)])], [.cells 41 [.data (.slice (.prod .str (.int .i64))), .data (.slice (.prod (.int .i64) (.prod (.int .i64) (.prod (.int .i64) (.int .i64))))), .data (.slice y_api_Event), .data (.slice (.prod (.int .i64) (.prod (.int .i64) (.int .i64))))], .row 3 (.int .i64), .row 3 (.int .i64)]⟩
def law40_OrderSorts_p1_o : List (AExit × View) := [(.ret, ⟨0, [2], [(false, [.data .bool])], []⟩), (.exit 2, ⟨0, [4, 5, 6, 51, 52], [(false, [.ptr 0 0]), (false, [.rowh 1]), (false, [.rowh 2]), (false, [.data (.int .i64)]), (false, [.data (.int .i64)])], [.cells 41 [.data (.slice (.prod .str (.int .i64))), .data (.slice (.prod (.int .i64) (.prod (.int .i64) (.prod (.int .i64) (.int .i64))))), .data (.slice y_api_Event), .data (.slice (.prod (.int .i64) (.prod (.int .i64) (.int .i64))))], .row 3 (.int .i64), .row 3 (.int .i64)]⟩)]
@[reducible] def law40_OrderSorts_p1_G (p : law40_OrderSorts_p1_T) {β : Type} (d : law40_OrderSorts_p1_v.den) (ks : Outs.K β law40_OrderSorts_p1_o) : Option β :=
  p (fun a0 => ks.1 (((a0, ()), ()), ())) (fun a0 a1 a2 a3 a4 a5 a6 a7 => ks.2.1 (((), (), (), (a0, ()), (a1, ()), ()), ((a2, a3, a4, a5, ()), a6, a7, ()))) d.1.2.2.2.1.1 d.1.2.2.2.2.1.1 d.1.2.2.2.2.2.1.1 d.1.2.2.2.2.2.2.1.1 d.2.1.1 d.2.1.2.1 d.2.1.2.2.1 d.2.1.2.2.2.1 d.2.2.1 d.2.2.2.1
abbrev law40_OrderSorts_p2_K1 (β : Type) := Bool → Option β
abbrev law40_OrderSorts_p2_K2 (β : Type) := (List (List UInt8 × Int)) → (List (Int × (Int × (Int × Int)))) → (List api_Event) → (List (Int × (Int × Int))) → (List Int) → (List Int) → Option β
abbrev law40_OrderSorts_p2_T := {β : Type} → law40_OrderSorts_p2_K1 β → law40_OrderSorts_p2_K2 β → Int → Int → (List (List UInt8 × Int)) → (List (Int × (Int × (Int × Int)))) → (List api_Event) → (List (Int × (Int × Int))) → (List Int) → (List Int) → Option β
def law40_OrderSorts_p2_v : View := ⟨0, [4, 5, 6, 51, 52], [(false, [.ptr 0 0]), (false, [.rowh 1]), (false, [.rowh 2]), (false, [.data (.int .i64)]), (false, [.data (.int .i64)])], [.cells 41 [.data (.slice (.prod .str (.int .i64))), .data (.slice (.prod (.int .i64) (.prod (.int .i64) (.prod (.int .i64) (.int .i64))))), .data (.slice y_api_Event), .data (.slice (.prod (.int .i64) (.prod (.int .i64) (.int .i64))))], .row 3 (.int .i64), .row 3 (.int .i64)]⟩
def law40_OrderSorts_p2_o : List (AExit × View) := [(.ret, ⟨0, [2], [(false, [.data .bool])], []⟩), (.exit 0, ⟨0, [4, 5, 6], [(false, [.ptr 0 0]), (false, [.rowh 1]), (false, [.rowh 2])], [.cells 41 [.data (.slice (.prod .str (.int .i64))), .data (.slice (.prod (.int .i64) (.prod (.int .i64) (.prod (.int .i64) (.int .i64))))), .data (.slice y_api_Event), .data (.slice (.prod (.int .i64) (.prod (.int .i64) (.int .i64))))], .row 3 (.int .i64), .row 3 (.int .i64)]⟩)]
@[reducible] def law40_OrderSorts_p2_G (p : law40_OrderSorts_p2_T) {β : Type} (d : law40_OrderSorts_p2_v.den) (ks : Outs.K β law40_OrderSorts_p2_o) : Option β :=
  p (fun a0 => ks.1 (((a0, ()), ()), ())) (fun a0 a1 a2 a3 a4 a5 => ks.2.1 (((), (), (), ()), ((a0, a1, a2, a3, ()), a4, a5, ()))) d.1.2.2.2.1.1 d.1.2.2.2.2.1.1 d.2.1.1 d.2.1.2.1 d.2.1.2.2.1 d.2.1.2.2.2.1 d.2.2.1 d.2.2.2.1
abbrev law40_OrderSorts_p3_K1 (β : Type) := Bool → Option β
abbrev law40_OrderSorts_p3_K2 (β : Type) := (List (List UInt8 × Int)) → (List (Int × (Int × (Int × Int)))) → (List api_Event) → (List (Int × (Int × Int))) → (List Int) → Option β
abbrev law40_OrderSorts_p3_T := {β : Type} → law40_OrderSorts_p3_K1 β → law40_OrderSorts_p3_K2 β → Int → (List (List UInt8 × Int)) → (List (Int × (Int × (Int × Int)))) → (List api_Event) → (List (Int × (Int × Int))) → (List Int) → (List Int) → Option β
def law40_OrderSorts_p3_v : View := ⟨0, [4, 5, 6, 12], [(false, [.ptr 0 0]), (false, [.rowh 1]), (false, [.rowh 2]), (false, [.data (.int .i64)])], [.cells 41 [.data (.slice (.prod .str (.int .i64))), .data (.slice (.prod (.int .i64) (.prod (.int .i64) (.prod (.int .i64) (.int .i64))))), .data (.slice y_api_Event), .data (.slice (.prod (.int .i64) (.prod (.int .i64) (.int .i64))))], .row 3 (.int .i64), .row 3 (.int .i64)]⟩
def law40_OrderSorts_p3_o : List (AExit × View) := [(.ret, ⟨0, [2], [(false, [.data .bool])], []⟩), (.exit 4, ⟨0, [4, 5], [(false, [.ptr 0 0]), (false, [.rowh 1])], [.cells 41 [.data (.slice (.prod .str (.int .i64))), .data (.slice (.prod (.int .i64) (.prod (.int .i64) (.prod (.int .i64) (.int .i64))))), .data (.slice y_api_Event), .data (.slice (.prod (.int .i64) (.prod (.int .i64) (.int .i64))))], .row 3 (.int .i64)]⟩)]
@[reducible] def law40_OrderSorts_p3_G (p : law40_OrderSorts_p3_T) {β : Type} (d : law40_OrderSorts_p3_v.den) (ks : Outs.K β law40_OrderSorts_p3_o) : Option β :=
  p (fun a0 => ks.1 (((a0, ()), ()), ())) (fun a0 a1 a2 a3 a4 => ks.2.1 (((), (), ()), ((a0, a1, a2, a3, ()), a4, ()))) d.1.2.2.2.1.1 d.2.1.1 d.2.1.2.1 d.2.1.2.2.1 d.2.1.2.2.2.1 d.2.2.1 d.2.2.2.1
abbrev law40_OrderSorts_p4_K1 (β : Type) := Int → Int → Int → (List (List UInt8 × Int)) → (List (Int × (Int × (Int × Int)))) → (List api_Event) → (List (Int × (Int × Int))) → (List Int) → (List Int) → Option β
abbrev law40_OrderSorts_p4_T := {β : Type} → law40_OrderSorts_p4_K1 β → Int → Int → Int → Int → Int → (List (List UInt8 × Int)) → (List (Int × (Int × (Int × Int)))) → (List api_Event) → (List (Int × (Int × Int))) → (List Int) → (List Int) → Option β
def law40_OrderSorts_p4_v : View := ⟨0, [4, 5, 16, 17, 122, 123, 126, 127], [(false, [.ptr 0 0]), (false, [.rowh 1]), (false, [.rowh 2]), (false, [.data (.int .i64)]), (false, [.data (.int .i64)]), (false, [.data (.int .i64)]), (false, [.data (.int .i64)]), (false, [.data (.int .i64)])], [.cells 41 [.data (.slice (.prod .str (.int .i64))), .data (.slice (.prod (.int .i64) (.prod (.int .i64) (.prod (.int .i64) (.int .i64))))), .data (.slice y_api_Event), .data (.slice (.prod (.int .i64) (.prod (.int .i64) (.int .i64))))], .row 3 (.int .i64), .row 3 (.int .i64)]⟩
def law40_OrderSorts_p4_o : List (AExit × View) := [(.exit 8, ⟨0, [4, 5, 16, 17, 122, 123], [(false, [.ptr 0 0]), (false, [.rowh 1]), (false, [.rowh 2]), (false, [.data (.int .i64)]), (false, [.data (.int .i64)]), (false, [.data (.int .i64)])], [.cells 41 [.data (.slice (.prod .str (.int .i64))), .data (.slice (.prod (.int .i64) (.prod (.int .i64) (.prod (.int .i64) (.int .i64))))), .data (.slice y_api_Event), .data (.slice (.prod (.int .i64) (.prod (.int .i64) (.int .i64))))], .row 3 (.int .i64), .row 3 (.int .i64)]⟩)]
@[reducible] def law40_OrderSorts_p4_G (p : law40_OrderSorts_p4_T) {β : Type} (d : law40_OrderSorts_p4_v.den) (ks : Outs.K β law40_OrderSorts_p4_o) : Option β :=
  p (fun a0 a1 a2 a3 a4 a5 a6 a7 a8 => ks.1 (((), (), (), (a0, ()), (a1, ()), (a2, ()), ()), ((a3, a4, a5, a6, ()), a7, a8, ()))) d.1.2.2.2.1.1 d.1.2.2.2.2.1.1 d.1.2.2.2.2.2.1.1 d.1.2.2.2.2.2.2.1.1 d.1.2.2.2.2.2.2.2.1.1 d.2.1.1 d.2.1.2.1 d.2.1.2.2.1 d.2.1.2.2.2.1 d.2.2.1 d.2.2.2.1
abbrev law40_OrderSorts_p5_K1 (β : Type) := (List (List UInt8 × Int)) → (List (Int × (Int × (Int × Int)))) → (List api_Event) → (List (Int × (Int × Int))) → (List Int) → Option β
abbrev law40_OrderSorts_p5_T := {β : Type} → law40_OrderSorts_p5_K1 β → Int → Int → (List (List UInt8 × Int)) → (List (Int × (Int × (Int × Int)))) → (List api_Event) → (List (Int × (Int × Int))) → (List Int) → (List Int) → Option β
def law40_OrderSorts_p5_v : View := ⟨0, [4, 5, 16, 122, 123], [(false, [.ptr 0 0]), (false, [.rowh 1]), (false, [.rowh 2]), (false, [.data (.int .i64)]), (false, [.data (.int .i64)])], [.cells 41 [.data (.slice (.prod .str (.int .i64))), .data (.slice (.prod (.int .i64) (.prod (.int .i64) (.prod (.int .i64) (.int .i64))))), .data (.slice y_api_Event), .data (.slice (.prod (.int .i64) (.prod (.int .i64) (.int .i64))))], .row 3 (.int .i64), .row 3 (.int .i64)]⟩
def law40_OrderSorts_p5_o : List (AExit × View) := [(.exit 6, ⟨0, [4, 16], [(false, [.ptr 0 0]), (false, [.rowh 1])], [.cells 41 [.data (.slice (.prod .str (.int .i64))), .data (.slice (.prod (.int .i64) (.prod (.int .i64) (.prod (.int .i64) (.int .i64))))), .data (.slice y_api_Event), .data (.slice (.prod (.int .i64) (.prod (.int .i64) (.int .i64))))], .row 3 (.int .i64)]⟩)]
@[reducible] def law40_OrderSorts_p5_G (p : law40_OrderSorts_p5_T) {β : Type} (d : law40_OrderSorts_p5_v.den) (ks : Outs.K β law40_OrderSorts_p5_o) : Option β :=
  p (fun a0 a1 a2 a3 a4 => ks.1 (((), (), ()), ((a0, a1, a2, a3, ()), a4, ()))) d.1.2.2.2.1.1 d.1.2.2.2.2.1.1 d.2.1.1 d.2.1.2.1 d.2.1.2.2.1 d.2.1.2.2.2.1 d.2.2.1 d.2.2.2.1
section
variable (c_law40_sane : T_law40_sane) (c_made_Dice_Record : T_made_Dice_Record) (c_made_Light : T_made_Light) (c_made_Roll : T_made_Roll) (c_order_Allows : T_order_Allows) (c_order_Compare : T_order_Compare) (c_order_Sort : T_order_Sort) (c_ref25_Has : T_ref25_Has)
@[reducible] def law40_OrderSorts_X : Ctx := ⟨look tab, pick1 [(39, .spec (law40_sane_S c_law40_sane)), (25, .spec (made_Dice_Record_S c_made_Dice_Record)), (17, .spec (made_Light_S c_made_Light)), (18, .spec (made_Roll_S c_made_Roll)), (48, .spec (order_Allows_S c_order_Allows)), (40, .spec (order_Compare_S c_order_Compare)), (46, .spec (order_Sort_S c_order_Sort)), (49, .spec (ref25_Has_S c_ref25_Has))], false⟩
def law40_OrderSorts_p1_s {β : Type} (rec : Int → Int → Int → Int → (List (List UInt8 × Int)) → (List (Int × (Int × (Int × Int)))) → (List api_Event) → (List (Int × (Int × Int))) → (List Int) → (List Int) → Option β) (k1 : law40_OrderSorts_p1_K1 β) (k2 : law40_OrderSorts_p1_K2 β) (i_ : Int) (k_ : Int) (t51 : Int) (t52 : Int) (r_ : List (List UInt8 × Int)) (r_2 : List (Int × (Int × (Int × Int)))) (r_3 : List api_Event) (r_4 : List (Int × (Int × Int))) (times : List Int) (l : List Int) : Option β :=
  cond (decide (k_ < i_))
  (cond (decide (0 ≤ i_) && decide (i_ < (List.length l : Int)))
  (cond (decide (0 ≤ k_) && decide (k_ < (List.length l : Int)))
  (c_order_Compare (r_, (r_2, (r_3, r_4))) (List.getD l (Int.toNat i_) (0 : Int)) (List.getD l (Int.toNat k_) (0 : Int)) (fun (rCompare : Int) (rCompare2 : Bool) =>
  cond (decide (rCompare = (-1 : Int)))
  (k1 false)
  (let k_2 : Int := (IntKind.i64.wrap (k_ + (1 : Int)));
  rec i_ k_2 t51 t52 r_ r_2 r_3 r_4 times l)))
  none)
  none)
  (k2 t51 t52 r_ r_2 r_3 r_4 times l)
def law40_OrderSorts_p1_l {β : Type} : Nat → law40_OrderSorts_p1_K1 β → law40_OrderSorts_p1_K2 β → Int → Int → Int → Int → (List (List UInt8 × Int)) → (List (Int × (Int × (Int × Int)))) → (List api_Event) → (List (Int × (Int × Int))) → (List Int) → (List Int) → Option β
  | 0 => fun _ _ _ _ _ _ _ _ _ _ _ _ => none
  | i + 1 => fun k1 k2 i_ k_ t51 t52 r_ r_2 r_3 r_4 times l => law40_OrderSorts_p1_s c_order_Compare (law40_OrderSorts_p1_l i k1 k2) k1 k2 i_ k_ t51 t52 r_ r_2 r_3 r_4 times l
theorem law40_OrderSorts_p1_ok' (hΓ : ΓOk Try.prog (law40_OrderSorts_X c_law40_sane c_made_Dice_Record c_made_Light c_made_Roll c_order_Allows c_order_Compare c_order_Sort c_ref25_Has).Γ) (i : Nat) : PieceOk Try.prog 162 0 law40_OrderSorts_p1_code law40_OrderSorts_p1_v law40_OrderSorts_p1_o (law40_OrderSorts_p1_G (law40_OrderSorts_p1_l c_order_Compare i)) := by
  rw [show law40_OrderSorts_p1_code = .loop (loopBody law40_OrderSorts_p1_code) by kernel_rfl]
  exact piece_loop (X := (law40_OrderSorts_X c_law40_sane c_made_Dice_Record c_made_Light c_made_Roll c_order_Allows c_order_Compare c_order_Sort c_ref25_Has)) (p := 1) (Λ := pick1 []) (G := fun i => @fun β d ks => law40_OrderSorts_p1_G (law40_OrderSorts_p1_l c_order_Compare i) d ks) mixed tab_ok hΓ rfl (by kernel_rfl) CutsOk_nil (fun _ _ => rfl) (fun i => @fun β d ks r h => Eq.trans (b := law40_OrderSorts_p1_G (law40_OrderSorts_p1_l c_order_Compare (i + 1)) d ks) (by kernel_rfl) h) i
def law40_OrderSorts_p2_s (p1 : law40_OrderSorts_p1_T) {β : Type} (rec : Int → Int → (List (List UInt8 × Int)) → (List (Int × (Int × (Int × Int)))) → (List api_Event) → (List (Int × (Int × Int))) → (List Int) → (List Int) → Option β) (k1 : law40_OrderSorts_p2_K1 β) (k2 : law40_OrderSorts_p2_K2 β) (t51 : Int) (t52 : Int) (r_ : List (List UInt8 × Int)) (r_2 : List (Int × (Int × (Int × Int)))) (r_3 : List api_Event) (r_4 : List (Int × (Int × Int))) (times : List Int) (l : List Int) : Option β :=
  cond (decide (t52 < t51))
  (p1 (fun (t2 : Bool) =>
  k1 t2) (fun (t512 : Int) (t522 : Int) (r_5 : List (List UInt8 × Int)) (r_6 : List (Int × (Int × (Int × Int)))) (r_7 : List api_Event) (r_8 : List (Int × (Int × Int))) (times2 : List Int) (l2 : List Int) =>
  rec t512 (IntKind.i64.wrap (t522 + (1 : Int))) r_5 r_6 r_7 r_8 times2 l2) t52 (0 : Int) t51 t52 r_ r_2 r_3 r_4 times l)
  (k2 r_ r_2 r_3 r_4 times l)
def law40_OrderSorts_p2_l (p1 : law40_OrderSorts_p1_T) {β : Type} : Nat → law40_OrderSorts_p2_K1 β → law40_OrderSorts_p2_K2 β → Int → Int → (List (List UInt8 × Int)) → (List (Int × (Int × (Int × Int)))) → (List api_Event) → (List (Int × (Int × Int))) → (List Int) → (List Int) → Option β
  | 0 => fun _ _ _ _ _ _ _ _ _ _ => none
  | i + 1 => fun k1 k2 t51 t52 r_ r_2 r_3 r_4 times l => law40_OrderSorts_p2_s p1 (law40_OrderSorts_p2_l p1 i k1 k2) k1 k2 t51 t52 r_ r_2 r_3 r_4 times l
theorem law40_OrderSorts_p2_ok' (hΓ : ΓOk Try.prog (law40_OrderSorts_X c_law40_sane c_made_Dice_Record c_made_Light c_made_Roll c_order_Allows c_order_Compare c_order_Sort c_ref25_Has).Γ) (p1 : law40_OrderSorts_p1_T) (hp1 : PieceOk Try.prog 162 0 law40_OrderSorts_p1_code law40_OrderSorts_p1_v law40_OrderSorts_p1_o (law40_OrderSorts_p1_G p1)) (i : Nat) : PieceOk Try.prog 162 0 law40_OrderSorts_p2_code law40_OrderSorts_p2_v law40_OrderSorts_p2_o (law40_OrderSorts_p2_G (law40_OrderSorts_p2_l p1 i)) := by
  rw [show law40_OrderSorts_p2_code = .loop (loopBody law40_OrderSorts_p2_code) by kernel_rfl]
  exact piece_loop (X := (law40_OrderSorts_X c_law40_sane c_made_Dice_Record c_made_Light c_made_Roll c_order_Allows c_order_Compare c_order_Sort c_ref25_Has)) (p := 1) (Λ := pick1 [(230, pieceCut law40_OrderSorts_p1_v law40_OrderSorts_p1_o (law40_OrderSorts_p1_G p1))]) (G := fun i => @fun β d ks => law40_OrderSorts_p2_G (law40_OrderSorts_p2_l p1 i) d ks) mixed tab_ok hΓ rfl (by kernel_rfl) (CutsOk_cons (q := 230) (c' := law40_OrderSorts_p1_code) (by kernel_rfl) rfl hp1 CutsOk_nil) (fun _ _ => rfl) (fun i => @fun β d ks r h => Eq.trans (b := law40_OrderSorts_p2_G (law40_OrderSorts_p2_l p1 (i + 1)) d ks) (by kernel_rfl) h) i
def law40_OrderSorts_p3_s {β : Type} (rec : Int → (List (List UInt8 × Int)) → (List (Int × (Int × (Int × Int)))) → (List api_Event) → (List (Int × (Int × Int))) → (List Int) → (List Int) → Option β) (k1 : law40_OrderSorts_p3_K1 β) (k2 : law40_OrderSorts_p3_K2 β) (i_ : Int) (r_ : List (List UInt8 × Int)) (r_2 : List (Int × (Int × (Int × Int)))) (r_3 : List api_Event) (r_4 : List (Int × (Int × Int))) (times : List Int) (l : List Int) : Option β :=
  cond (decide ((IntKind.i64.wrap (i_ + (1 : Int))) < (List.length l : Int)))
  (cond (decide (0 ≤ i_) && decide (i_ < (List.length l : Int)))
  (cond (decide (0 ≤ (IntKind.i64.wrap (i_ + (1 : Int)))) && decide ((IntKind.i64.wrap (i_ + (1 : Int))) < (List.length l : Int)))
  (c_order_Compare (r_, (r_2, (r_3, r_4))) (List.getD l (Int.toNat i_) (0 : Int)) (List.getD l (Int.toNat (IntKind.i64.wrap (i_ + (1 : Int)))) (0 : Int)) (fun (rCompare : Int) (rCompare2 : Bool) =>
  cond (decide (List.length l * 8 ≤ roomMax))
  (cond (decide (0 ≤ (IntKind.i64.wrap (i_ + (1 : Int)))) && decide ((IntKind.i64.wrap (i_ + (1 : Int))) < (List.length l : Int)))
  (cond (decide (0 ≤ i_) && decide (i_ < (List.length l : Int)))
  (cond (decide (0 ≤ i_) && decide (i_ < (List.length l : Int)))
  (let l2 : List Int := (List.set l (Int.toNat i_) (List.getD l (Int.toNat (IntKind.i64.wrap (i_ + (1 : Int)))) (0 : Int)));
  cond (decide (0 ≤ (IntKind.i64.wrap (i_ + (1 : Int)))) && decide ((IntKind.i64.wrap (i_ + (1 : Int))) < (List.length l2 : Int)))
  (let l3 : List Int := (List.set l2 (Int.toNat (IntKind.i64.wrap (i_ + (1 : Int)))) (List.getD l (Int.toNat i_) (0 : Int)));
  c_order_Allows (r_, (r_2, (r_3, r_4))) l3 (fun (rAllows : Bool) =>
  cond (!(rAllows == (decide (rCompare = (0 : Int)))))
  (k1 false)
  (let i_2 : Int := (IntKind.i64.wrap (i_ + (1 : Int)));
  rec i_2 r_ r_2 r_3 r_4 times l)))
  none)
  none)
  none)
  none)
  none))
  none)
  none)
  (k2 r_ r_2 r_3 r_4 times)
def law40_OrderSorts_p3_l {β : Type} : Nat → law40_OrderSorts_p3_K1 β → law40_OrderSorts_p3_K2 β → Int → (List (List UInt8 × Int)) → (List (Int × (Int × (Int × Int)))) → (List api_Event) → (List (Int × (Int × Int))) → (List Int) → (List Int) → Option β
  | 0 => fun _ _ _ _ _ _ _ _ _ => none
  | i + 1 => fun k1 k2 i_ r_ r_2 r_3 r_4 times l => law40_OrderSorts_p3_s c_order_Allows c_order_Compare (law40_OrderSorts_p3_l i k1 k2) k1 k2 i_ r_ r_2 r_3 r_4 times l
theorem law40_OrderSorts_p3_ok' (hΓ : ΓOk Try.prog (law40_OrderSorts_X c_law40_sane c_made_Dice_Record c_made_Light c_made_Roll c_order_Allows c_order_Compare c_order_Sort c_ref25_Has).Γ) (i : Nat) : PieceOk Try.prog 162 0 law40_OrderSorts_p3_code law40_OrderSorts_p3_v law40_OrderSorts_p3_o (law40_OrderSorts_p3_G (law40_OrderSorts_p3_l c_order_Allows c_order_Compare i)) := by
  rw [show law40_OrderSorts_p3_code = .loop (loopBody law40_OrderSorts_p3_code) by kernel_rfl]
  exact piece_loop (X := (law40_OrderSorts_X c_law40_sane c_made_Dice_Record c_made_Light c_made_Roll c_order_Allows c_order_Compare c_order_Sort c_ref25_Has)) (p := 1) (Λ := pick1 []) (G := fun i => @fun β d ks => law40_OrderSorts_p3_G (law40_OrderSorts_p3_l c_order_Allows c_order_Compare i) d ks) mixed tab_ok hΓ rfl (by kernel_rfl) CutsOk_nil (fun _ _ => rfl) (fun i => @fun β d ks r h => Eq.trans (b := law40_OrderSorts_p3_G (law40_OrderSorts_p3_l c_order_Allows c_order_Compare (i + 1)) d ks) (by kernel_rfl) h) i
def law40_OrderSorts_p4_s {β : Type} (rec : Int → Int → Int → Int → Int → (List (List UInt8 × Int)) → (List (Int × (Int × (Int × Int)))) → (List api_Event) → (List (Int × (Int × Int))) → (List Int) → (List Int) → Option β) (k1 : law40_OrderSorts_p4_K1 β) (best : Int) (t122 : Int) (t123 : Int) (t126 : Int) (t127 : Int) (r_ : List (List UInt8 × Int)) (r_2 : List (Int × (Int × (Int × Int)))) (r_3 : List api_Event) (r_4 : List (Int × (Int × Int))) (times : List Int) (byTime : List Int) : Option β :=
  cond (decide (t127 < t126))
  (c_ref25_Has byTime t127 (fun (rHas : Bool) =>
  cond (!rHas)
  (cond (decide (best < (0 : Int)))
  (rec t127 t122 t123 t126 (IntKind.i64.wrap (t127 + (1 : Int))) r_ r_2 r_3 r_4 times byTime)
  (cond (decide (0 ≤ t127) && decide (t127 < (List.length times : Int)))
  (cond (decide (0 ≤ best) && decide (best < (List.length times : Int)))
  (cond (decide ((List.getD times (Int.toNat t127) (0 : Int)) < (List.getD times (Int.toNat best) (0 : Int))))
  (rec t127 t122 t123 t126 (IntKind.i64.wrap (t127 + (1 : Int))) r_ r_2 r_3 r_4 times byTime)
  (rec best t122 t123 t126 (IntKind.i64.wrap (t127 + (1 : Int))) r_ r_2 r_3 r_4 times byTime))
  none)
  none))
  (rec best t122 t123 t126 (IntKind.i64.wrap (t127 + (1 : Int))) r_ r_2 r_3 r_4 times byTime)))
  (k1 best t122 t123 r_ r_2 r_3 r_4 times byTime)
def law40_OrderSorts_p4_l {β : Type} : Nat → law40_OrderSorts_p4_K1 β → Int → Int → Int → Int → Int → (List (List UInt8 × Int)) → (List (Int × (Int × (Int × Int)))) → (List api_Event) → (List (Int × (Int × Int))) → (List Int) → (List Int) → Option β
  | 0 => fun _ _ _ _ _ _ _ _ _ _ _ _ => none
  | i + 1 => fun k1 best t122 t123 t126 t127 r_ r_2 r_3 r_4 times byTime => law40_OrderSorts_p4_s c_ref25_Has (law40_OrderSorts_p4_l i k1) k1 best t122 t123 t126 t127 r_ r_2 r_3 r_4 times byTime
theorem law40_OrderSorts_p4_ok' (hΓ : ΓOk Try.prog (law40_OrderSorts_X c_law40_sane c_made_Dice_Record c_made_Light c_made_Roll c_order_Allows c_order_Compare c_order_Sort c_ref25_Has).Γ) (i : Nat) : PieceOk Try.prog 162 0 law40_OrderSorts_p4_code law40_OrderSorts_p4_v law40_OrderSorts_p4_o (law40_OrderSorts_p4_G (law40_OrderSorts_p4_l c_ref25_Has i)) := by
  rw [show law40_OrderSorts_p4_code = .loop (loopBody law40_OrderSorts_p4_code) by kernel_rfl]
  exact piece_loop (X := (law40_OrderSorts_X c_law40_sane c_made_Dice_Record c_made_Light c_made_Roll c_order_Allows c_order_Compare c_order_Sort c_ref25_Has)) (p := 1) (Λ := pick1 []) (G := fun i => @fun β d ks => law40_OrderSorts_p4_G (law40_OrderSorts_p4_l c_ref25_Has i) d ks) mixed tab_ok hΓ rfl (by kernel_rfl) CutsOk_nil (fun _ _ => rfl) (fun i => @fun β d ks r h => Eq.trans (b := law40_OrderSorts_p4_G (law40_OrderSorts_p4_l c_ref25_Has (i + 1)) d ks) (by kernel_rfl) h) i
def law40_OrderSorts_p5_s (p4 : law40_OrderSorts_p4_T) {β : Type} (rec : Int → Int → (List (List UInt8 × Int)) → (List (Int × (Int × (Int × Int)))) → (List api_Event) → (List (Int × (Int × Int))) → (List Int) → (List Int) → Option β) (k1 : law40_OrderSorts_p5_K1 β) (t122 : Int) (t123 : Int) (r_ : List (List UInt8 × Int)) (r_2 : List (Int × (Int × (Int × Int)))) (r_3 : List api_Event) (r_4 : List (Int × (Int × Int))) (times : List Int) (byTime : List Int) : Option β :=
  cond (decide (t123 < t122))
  (p4 (fun (best : Int) (t1222 : Int) (t1232 : Int) (r_5 : List (List UInt8 × Int)) (r_6 : List (Int × (Int × (Int × Int)))) (r_7 : List api_Event) (r_8 : List (Int × (Int × Int))) (times2 : List Int) (byTime2 : List Int) =>
  let l : List Int := ([best] : List Int);
  cond (decide ((List.length byTime2 + List.length l) * 8 ≤ roomMax))
  (let l2 : List Int := (byTime2 ++ l);
  rec t1222 (IntKind.i64.wrap (t1232 + (1 : Int))) r_5 r_6 r_7 r_8 times2 l2)
  none) (-1 : Int) t122 t123 (List.length times : Int) (0 : Int) r_ r_2 r_3 r_4 times byTime)
  (k1 r_ r_2 r_3 r_4 byTime)
def law40_OrderSorts_p5_l (p4 : law40_OrderSorts_p4_T) {β : Type} : Nat → law40_OrderSorts_p5_K1 β → Int → Int → (List (List UInt8 × Int)) → (List (Int × (Int × (Int × Int)))) → (List api_Event) → (List (Int × (Int × Int))) → (List Int) → (List Int) → Option β
  | 0 => fun _ _ _ _ _ _ _ _ _ => none
  | i + 1 => fun k1 t122 t123 r_ r_2 r_3 r_4 times byTime => law40_OrderSorts_p5_s p4 (law40_OrderSorts_p5_l p4 i k1) k1 t122 t123 r_ r_2 r_3 r_4 times byTime
theorem law40_OrderSorts_p5_ok' (hΓ : ΓOk Try.prog (law40_OrderSorts_X c_law40_sane c_made_Dice_Record c_made_Light c_made_Roll c_order_Allows c_order_Compare c_order_Sort c_ref25_Has).Γ) (p4 : law40_OrderSorts_p4_T) (hp4 : PieceOk Try.prog 162 0 law40_OrderSorts_p4_code law40_OrderSorts_p4_v law40_OrderSorts_p4_o (law40_OrderSorts_p4_G p4)) (i : Nat) : PieceOk Try.prog 162 0 law40_OrderSorts_p5_code law40_OrderSorts_p5_v law40_OrderSorts_p5_o (law40_OrderSorts_p5_G (law40_OrderSorts_p5_l p4 i)) := by
  rw [show law40_OrderSorts_p5_code = .loop (loopBody law40_OrderSorts_p5_code) by kernel_rfl]
  exact piece_loop (X := (law40_OrderSorts_X c_law40_sane c_made_Dice_Record c_made_Light c_made_Roll c_order_Allows c_order_Compare c_order_Sort c_ref25_Has)) (p := 1) (Λ := pick1 [(458, pieceCut law40_OrderSorts_p4_v law40_OrderSorts_p4_o (law40_OrderSorts_p4_G p4))]) (G := fun i => @fun β d ks => law40_OrderSorts_p5_G (law40_OrderSorts_p5_l p4 i) d ks) mixed tab_ok hΓ rfl (by kernel_rfl) (CutsOk_cons (q := 458) (c' := law40_OrderSorts_p4_code) (by kernel_rfl) rfl hp4 CutsOk_nil) (fun _ _ => rfl) (fun i => @fun β d ks r h => Eq.trans (b := law40_OrderSorts_p5_G (law40_OrderSorts_p5_l p4 (i + 1)) d ks) (by kernel_rfl) h) i
def law40_OrderSorts_s (p2 : law40_OrderSorts_p2_T) (p3 : law40_OrderSorts_p3_T) (p5 : law40_OrderSorts_p5_T) {β : Type} (t : List Int) (k : (Bool → Option β)) : Option β :=
  c_made_Light t (fun (rLight : Bool) =>
  cond (!rLight)
  (c_law40_sane  (fun (rsane : Bool) =>
  k rsane))
  (c_made_Roll t (fun (mrRoll : (List Int × Int)) =>
  c_made_Dice_Record (7 : Int) mrRoll (fun (rRecord : api_Record) (mrRecord : (List Int × Int)) (lrRecord : List Int) =>
  c_order_Sort rRecord (fun (rSort : Bool) (lrSort : List Int) =>
  cond (!rSort)
  (k false)
  (cond (!decide ((List.length lrSort : Int) = (List.length lrRecord : Int)))
  (k false)
  (c_order_Allows rRecord lrSort (fun (rAllows : Bool) =>
  cond (!rAllows)
  (k false)
  (p2 (fun (t2 : Bool) =>
  k t2) (fun (r_ : List (List UInt8 × Int)) (r_2 : List (Int × (Int × (Int × Int)))) (r_3 : List api_Event) (r_4 : List (Int × (Int × Int))) (times : List Int) (l : List Int) =>
  p3 (fun (t2 : Bool) =>
  k t2) (fun (r_5 : List (List UInt8 × Int)) (r_6 : List (Int × (Int × (Int × Int)))) (r_7 : List api_Event) (r_8 : List (Int × (Int × Int))) (times2 : List Int) =>
  p5 (fun (r_9 : List (List UInt8 × Int)) (r_10 : List (Int × (Int × (Int × Int)))) (r_11 : List api_Event) (r_12 : List (Int × (Int × Int))) (byTime : List Int) =>
  c_order_Allows (r_9, (r_10, (r_11, r_12))) byTime (fun (rAllows2 : Bool) =>
  cond rAllows2
  (c_law40_sane  (fun (rsane : Bool) =>
  k rsane))
  (k false))) (List.length times2 : Int) (0 : Int) r_5 r_6 r_7 r_8 times2 ([] : List Int)) (0 : Int) r_ r_2 r_3 r_4 times l) (List.length lrSort : Int) (0 : Int) rRecord.1 rRecord.2.1 rRecord.2.2.1 rRecord.2.2.2 lrRecord lrSort)))))))))
theorem law40_OrderSorts_ok' (hΓ : ΓOk Try.prog (law40_OrderSorts_X c_law40_sane c_made_Dice_Record c_made_Light c_made_Roll c_order_Allows c_order_Compare c_order_Sort c_ref25_Has).Γ) (p2 : law40_OrderSorts_p2_T) (p3 : law40_OrderSorts_p3_T) (p5 : law40_OrderSorts_p5_T) (hp2 : PieceOk Try.prog 162 0 law40_OrderSorts_p2_code law40_OrderSorts_p2_v law40_OrderSorts_p2_o (law40_OrderSorts_p2_G p2)) (hp3 : PieceOk Try.prog 162 0 law40_OrderSorts_p3_code law40_OrderSorts_p3_v law40_OrderSorts_p3_o (law40_OrderSorts_p3_G p3)) (hp5 : PieceOk Try.prog 162 0 law40_OrderSorts_p5_code law40_OrderSorts_p5_v law40_OrderSorts_p5_o (law40_OrderSorts_p5_G p5)) : SpecOk Try.prog 14 (law40_OrderSorts_S (law40_OrderSorts_s c_law40_sane c_made_Dice_Record c_made_Light c_made_Roll c_order_Allows c_order_Sort p2 p3 p5)) :=
  spec_exec (X := (law40_OrderSorts_X c_law40_sane c_made_Dice_Record c_made_Light c_made_Roll c_order_Allows c_order_Compare c_order_Sort c_ref25_Has)) (Λ := pick1 [(1018, pieceCut law40_OrderSorts_p2_v law40_OrderSorts_p2_o (law40_OrderSorts_p2_G p2)), (2042, pieceCut law40_OrderSorts_p3_v law40_OrderSorts_p3_o (law40_OrderSorts_p3_G p3)), (8186, pieceCut law40_OrderSorts_p5_v law40_OrderSorts_p5_o (law40_OrderSorts_p5_G p5))]) (rs := [.tmp 2]) (c := bodyOf Try.f14) mixed tab_ok hΓ Try.func14 (by kernel_rfl) (by kernel_rfl) (by kernel_rfl) (by kernel_rfl) (CutsOk_cons (q := 1018) (c' := law40_OrderSorts_p2_code) (by kernel_rfl) rfl hp2 (CutsOk_cons (q := 2042) (c' := law40_OrderSorts_p3_code) (by kernel_rfl) rfl hp3 (CutsOk_cons (q := 8186) (c' := law40_OrderSorts_p5_code) (by kernel_rfl) rfl hp5 CutsOk_nil))) (fun x k r h => Eq.trans (b := (law40_OrderSorts_S (law40_OrderSorts_s c_law40_sane c_made_Dice_Record c_made_Light c_made_Roll c_order_Allows c_order_Sort p2 p3 p5)).run x k) (by kernel_rfl) h)
end
theorem law40_OrderSorts_Γ : ΓOk Try.prog (pick1 [(39, .spec (law40_sane_S law40_sane)), (25, .spec (made_Dice_Record_S made_Dice_Record)), (17, .spec (made_Light_S made_Light)), (18, .spec (made_Roll_S made_Roll)), (48, .spec (order_Allows_S order_Allows)), (40, .spec (order_Compare_S order_Compare)), (46, .spec (order_Sort_S order_Sort)), (49, .spec (ref25_Has_S ref25_Has))]) := (ΓOk_cons law40_sane_ok (ΓOk_cons made_Dice_Record_ok (ΓOk_cons made_Light_ok (ΓOk_cons made_Roll_ok (ΓOk_cons order_Allows_ok (ΓOk_cons order_Compare_ok (ΓOk_cons order_Sort_ok (ΓOk_cons ref25_Has_ok ΓOk_nil))))))))
def law40_OrderSorts_p1_n (m : Nat) : law40_OrderSorts_p1_T := law40_OrderSorts_p1_l order_Compare m
theorem law40_OrderSorts_p1_step {β : Type} (i : Nat) (k1 k2 i_ k_ t51 t52 r_ r_2 r_3 r_4 times l) : (law40_OrderSorts_p1_n (i + 1) k1 k2 i_ k_ t51 t52 r_ r_2 r_3 r_4 times l : Option β) = law40_OrderSorts_p1_s order_Compare (law40_OrderSorts_p1_n i k1 k2) k1 k2 i_ k_ t51 t52 r_ r_2 r_3 r_4 times l := rfl
def law40_OrderSorts_p1 : law40_OrderSorts_p1_T := law40_OrderSorts_p1_n fuel
theorem law40_OrderSorts_p1_ok : PieceOk Try.prog 162 0 law40_OrderSorts_p1_code law40_OrderSorts_p1_v law40_OrderSorts_p1_o (law40_OrderSorts_p1_G law40_OrderSorts_p1) := law40_OrderSorts_p1_ok' law40_sane made_Dice_Record made_Light made_Roll order_Allows order_Compare order_Sort ref25_Has law40_OrderSorts_Γ fuel
def law40_OrderSorts_p2_n (m : Nat) : law40_OrderSorts_p2_T := law40_OrderSorts_p2_l law40_OrderSorts_p1 m
theorem law40_OrderSorts_p2_step {β : Type} (i : Nat) (k1 k2 t51 t52 r_ r_2 r_3 r_4 times l) : (law40_OrderSorts_p2_n (i + 1) k1 k2 t51 t52 r_ r_2 r_3 r_4 times l : Option β) = law40_OrderSorts_p2_s law40_OrderSorts_p1 (law40_OrderSorts_p2_n i k1 k2) k1 k2 t51 t52 r_ r_2 r_3 r_4 times l := rfl
def law40_OrderSorts_p2 : law40_OrderSorts_p2_T := law40_OrderSorts_p2_n fuel
theorem law40_OrderSorts_p2_ok : PieceOk Try.prog 162 0 law40_OrderSorts_p2_code law40_OrderSorts_p2_v law40_OrderSorts_p2_o (law40_OrderSorts_p2_G law40_OrderSorts_p2) := law40_OrderSorts_p2_ok' law40_sane made_Dice_Record made_Light made_Roll order_Allows order_Compare order_Sort ref25_Has law40_OrderSorts_Γ law40_OrderSorts_p1 law40_OrderSorts_p1_ok fuel
def law40_OrderSorts_p3_n (m : Nat) : law40_OrderSorts_p3_T := law40_OrderSorts_p3_l order_Allows order_Compare m
theorem law40_OrderSorts_p3_step {β : Type} (i : Nat) (k1 k2 i_ r_ r_2 r_3 r_4 times l) : (law40_OrderSorts_p3_n (i + 1) k1 k2 i_ r_ r_2 r_3 r_4 times l : Option β) = law40_OrderSorts_p3_s order_Allows order_Compare (law40_OrderSorts_p3_n i k1 k2) k1 k2 i_ r_ r_2 r_3 r_4 times l := rfl
def law40_OrderSorts_p3 : law40_OrderSorts_p3_T := law40_OrderSorts_p3_n fuel
theorem law40_OrderSorts_p3_ok : PieceOk Try.prog 162 0 law40_OrderSorts_p3_code law40_OrderSorts_p3_v law40_OrderSorts_p3_o (law40_OrderSorts_p3_G law40_OrderSorts_p3) := law40_OrderSorts_p3_ok' law40_sane made_Dice_Record made_Light made_Roll order_Allows order_Compare order_Sort ref25_Has law40_OrderSorts_Γ fuel
def law40_OrderSorts_p4_n (m : Nat) : law40_OrderSorts_p4_T := law40_OrderSorts_p4_l ref25_Has m
theorem law40_OrderSorts_p4_step {β : Type} (i : Nat) (k1 best t122 t123 t126 t127 r_ r_2 r_3 r_4 times byTime) : (law40_OrderSorts_p4_n (i + 1) k1 best t122 t123 t126 t127 r_ r_2 r_3 r_4 times byTime : Option β) = law40_OrderSorts_p4_s ref25_Has (law40_OrderSorts_p4_n i k1) k1 best t122 t123 t126 t127 r_ r_2 r_3 r_4 times byTime := rfl
def law40_OrderSorts_p4 : law40_OrderSorts_p4_T := law40_OrderSorts_p4_n fuel
theorem law40_OrderSorts_p4_ok : PieceOk Try.prog 162 0 law40_OrderSorts_p4_code law40_OrderSorts_p4_v law40_OrderSorts_p4_o (law40_OrderSorts_p4_G law40_OrderSorts_p4) := law40_OrderSorts_p4_ok' law40_sane made_Dice_Record made_Light made_Roll order_Allows order_Compare order_Sort ref25_Has law40_OrderSorts_Γ fuel
def law40_OrderSorts_p5_n (m : Nat) : law40_OrderSorts_p5_T := law40_OrderSorts_p5_l law40_OrderSorts_p4 m
theorem law40_OrderSorts_p5_step {β : Type} (i : Nat) (k1 t122 t123 r_ r_2 r_3 r_4 times byTime) : (law40_OrderSorts_p5_n (i + 1) k1 t122 t123 r_ r_2 r_3 r_4 times byTime : Option β) = law40_OrderSorts_p5_s law40_OrderSorts_p4 (law40_OrderSorts_p5_n i k1) k1 t122 t123 r_ r_2 r_3 r_4 times byTime := rfl
def law40_OrderSorts_p5 : law40_OrderSorts_p5_T := law40_OrderSorts_p5_n fuel
theorem law40_OrderSorts_p5_ok : PieceOk Try.prog 162 0 law40_OrderSorts_p5_code law40_OrderSorts_p5_v law40_OrderSorts_p5_o (law40_OrderSorts_p5_G law40_OrderSorts_p5) := law40_OrderSorts_p5_ok' law40_sane made_Dice_Record made_Light made_Roll order_Allows order_Compare order_Sort ref25_Has law40_OrderSorts_Γ law40_OrderSorts_p4 law40_OrderSorts_p4_ok fuel
def law40_OrderSorts : T_law40_OrderSorts := law40_OrderSorts_s law40_sane made_Dice_Record made_Light made_Roll order_Allows order_Sort law40_OrderSorts_p2 law40_OrderSorts_p3 law40_OrderSorts_p5
theorem law40_OrderSorts_ok : SpecOk Try.prog 14 (law40_OrderSorts_S law40_OrderSorts) := law40_OrderSorts_ok' law40_sane made_Dice_Record made_Light made_Roll order_Allows order_Compare order_Sort ref25_Has law40_OrderSorts_Γ law40_OrderSorts_p2 law40_OrderSorts_p3 law40_OrderSorts_p5 law40_OrderSorts_p2_ok law40_OrderSorts_p3_ok law40_OrderSorts_p5_ok
end
end Go.Lift
