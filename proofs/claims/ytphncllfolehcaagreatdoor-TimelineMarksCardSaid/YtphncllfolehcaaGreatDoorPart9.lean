/- Part9: Fn1, LBase, LMat, LClock, LDice, LDice1, LRecord, LWhen, LClose, LValid, LDirect, LClosure, LClosure2, LClosure3. -/
import Derived.Test.YtphncllfolehcaaGreatDoorProg
import Derived.Test.YtphncllfolehcaaGreatDoorPart8
namespace Go.Lift
open Go.Proofs
noncomputable section
set_option maxRecDepth 100000
set_option linter.unusedVariables false

/-- pagewatch/clock.When -/
abbrev zqk6 := {β : Type} → zq2 → Int → Int → ((Int × Int) → Bool → Option β) → Option β
def zqk7 (c : zqk6) : Spec :=
  ⟨[(true, [.data zq3]), (false, [.data (.int .i64)]), (false, [.data (.int .i64)])], [], [(true, [.data (.prod (.int .i64) (.int .i64))]), (false, [.data .bool])], [], fun x k => c x.1.1.1 x.1.2.1.1 x.1.2.2.1.1 (fun r0 r1 => k (((r0, ()), (r1, ()), ()), ()))⟩
noncomputable def clock_When_p1_code : Code := codeAt 122 (bodyOf Tryz.f81)
abbrev zqk8 (β : Type) := Int → Int → Int → Int → Option β
abbrev zqk9 := {β : Type} → zqk8 β → Int → Int → (List (Int × (Int × (Int × Int)))) → Int → Int → (List (List UInt8 × Int)) → (List (Int × (Int × (Int × Int)))) → (List zq0) → (List (Int × (Int × Int))) → Int → Int → Int → Int → Option β
def zqka : View := ⟨0, [1, 2, 3, 6, 8, 31, 32, 33], [(false, [.data (.int .i64)]), (false, [.data (.int .i64)]), (false, [.ptr 0 0]), (false, [.ptr 1 0]), (false, [.ptr 2 0]), (false, [.data (.slice (.prod (.int .i64) (.prod (.int .i64) (.prod (.int .i64) (.int .i64)))))]), (false, [.data (.int .i64)]), (false, [.data (.int .i64)])], [.cells 32 [.data (.slice (.prod .str (.int .i64))), .data (.slice (.prod (.int .i64) (.prod (.int .i64) (.prod (.int .i64) (.int .i64))))), .data (.slice zq1), .data (.slice (.prod (.int .i64) (.prod (.int .i64) (.int .i64))))], .cells 40 [.data (.int .i64), .data (.int .i64)], .cells 40 [.data (.int .i64), .data (.int .i64)]]⟩
def zqkb : List (AExit × View) := [(.exit 0, ⟨0, [6, 8], [(false, [.ptr 0 0]), (false, [.ptr 1 0])], [.cells 40 [.data (.int .i64), .data (.int .i64)], .cells 40 [.data (.int .i64), .data (.int .i64)]]⟩)]
@[reducible] def clock_When_p1_G (p : zqk9) {β : Type} (d : zqka.den) (ks : Outs.K β zqkb) : Option β :=
  p (fun a0 a1 a2 a3 => ks.1 (((), (), ()), ((a0, a1, ()), (a2, a3, ()), ()))) d.1.1.1 d.1.2.1.1 d.1.2.2.2.2.2.1.1 d.1.2.2.2.2.2.2.1.1 d.1.2.2.2.2.2.2.2.1.1 d.2.1.1 d.2.1.2.1 d.2.1.2.2.1 d.2.1.2.2.2.1 d.2.2.1.1 d.2.2.1.2.1 d.2.2.2.1.1 d.2.2.2.1.2.1
section
variable (c_clock_Empty : zq9j) (c_clock_From : zqjs) (c_clock_Meet : zq9c) (c_clock_Valid : zqg4) (c_clock_in : zq43) (c_clock_instant : zq4a)
@[reducible] def clock_When_X : Ctx := ⟨look tab, pick1 [(102, .spec (zq9k c_clock_Empty)), (101, .spec (zqjt c_clock_From)), (100, .spec (zq9d c_clock_Meet)), (33, .spec (zqg5 c_clock_Valid)), (55, .spec (zq44 c_clock_in)), (57, .spec (zq4b c_clock_instant))], false, false, false, false⟩
def zqkc {β : Type} (rec : Int → Int → (List (Int × (Int × (Int × Int)))) → Int → Int → (List (List UInt8 × Int)) → (List (Int × (Int × (Int × Int)))) → (List zq0) → (List (Int × (Int × Int))) → Int → Int → Int → Int → Option β) (k1 : zqk8 β) (host : Int) (clock : Int) (t31 : List (Int × (Int × (Int × Int)))) (t32 : Int) (t33 : Int) (r_ : List (List UInt8 × Int)) (r_2 : List (Int × (Int × (Int × Int)))) (r_3 : List zq0) (r_4 : List (Int × (Int × Int))) (t6 : Int) (t62 : Int) (out : Int) (out2 : Int) : Option β :=
  cond (decide (t33 < t32))
  (cond (decide (0 ≤ t33) && decide (t33 < (List.length t31 : Int)))
  (let e : (Int × (Int × (Int × Int))) := List.getD t31 (Int.toNat t33) ((0 : Int), ((0 : Int), ((0 : Int), (0 : Int))));
  cond (decide (e.1 = host))
  (cond (decide (0 ≤ host) && decide (host < (List.length r_ : Int)))
  (let e2 : (List UInt8 × Int) := List.getD r_ (Int.toNat host) (([] : List UInt8), (0 : Int));
  c_clock_From e2 e clock (fun (rFrom : (Int × Int)) =>
  c_clock_Meet (out, out2) rFrom (fun (rMeet : (Int × Int)) =>
  rec host clock t31 t32 (IntKind.i64.wrap (t33 + (1 : Int))) r_ r_2 r_3 r_4 t6 t62 rMeet.1 rMeet.2)))
  none)
  (rec host clock t31 t32 (IntKind.i64.wrap (t33 + (1 : Int))) r_ r_2 r_3 r_4 t6 t62 out out2))
  none)
  (k1 t6 t62 out out2)
def zqkd {β : Type} : Nat → zqk8 β → Int → Int → (List (Int × (Int × (Int × Int)))) → Int → Int → (List (List UInt8 × Int)) → (List (Int × (Int × (Int × Int)))) → (List zq0) → (List (Int × (Int × Int))) → Int → Int → Int → Int → Option β
  | 0 => fun _ _ _ _ _ _ _ _ _ _ _ _ _ _ => none
  | i + 1 => fun k1 host clock t31 t32 t33 r_ r_2 r_3 r_4 t6 t62 out out2 => zqkc c_clock_From c_clock_Meet (zqkd i k1) k1 host clock t31 t32 t33 r_ r_2 r_3 r_4 t6 t62 out out2
theorem zqke (hΓ : ΓOk Tryz.prog (clock_When_X c_clock_Empty c_clock_From c_clock_Meet c_clock_Valid c_clock_in c_clock_instant).Γ) (i : Nat) : PieceOk Tryz.prog 56 0 clock_When_p1_code zqka zqkb (clock_When_p1_G (zqkd c_clock_From c_clock_Meet i)) := by
  rw [show clock_When_p1_code = .loop (loopBody clock_When_p1_code) by kernel_rfl]
  exact piece_loop (X := (clock_When_X c_clock_Empty c_clock_From c_clock_Meet c_clock_Valid c_clock_in c_clock_instant)) (p := 1) (Λ := pick1 []) (G := fun i => @fun β d ks => clock_When_p1_G (zqkd c_clock_From c_clock_Meet i) d ks) mixed tab_ok hΓ rfl (by kernel_rfl) CutsOk_nil (fun _ _ => rfl) (fun i => @fun β d ks r h => Eq.trans (b := clock_When_p1_G (zqkd c_clock_From c_clock_Meet (i + 1)) d ks) (by kernel_rfl) h) i
def zqkf (p1 : zqk9) {β : Type} (r_ : zq2) (host : Int) (clock : Int) (k : ((Int × Int) → Bool → Option β)) : Option β :=
  c_clock_Valid r_ (fun (rValid : Bool) =>
  cond (!rValid)
  (k ((0 : Int), (0 : Int)) false)
  (c_clock_in host (0 : Int) (IntKind.i64.wrap ((List.length r_.1 : Int) - (1 : Int))) (fun (rin : Bool) =>
  cond (!rin)
  (k ((0 : Int), (0 : Int)) false)
  (c_clock_instant clock (fun (rinstant : Bool) =>
  cond (!rinstant)
  (k ((0 : Int), (0 : Int)) false)
  (p1 (fun (t6 : Int) (t62 : Int) (out : Int) (out2 : Int) =>
  c_clock_Empty (out, out2) (fun (rEmpty : Bool) =>
  k (out, out2) (!rEmpty))) host clock r_.2.1 (List.length r_.2.1 : Int) (0 : Int) r_.1 r_.2.1 r_.2.2.1 r_.2.2.2 (0 : Int) (0 : Int) (0 : Int) (8589934592 : Int)))))))
theorem zqkg (hΓ : ΓOk Tryz.prog (clock_When_X c_clock_Empty c_clock_From c_clock_Meet c_clock_Valid c_clock_in c_clock_instant).Γ) (p1 : zqk9) (hp1 : PieceOk Tryz.prog 56 0 clock_When_p1_code zqka zqkb (clock_When_p1_G p1)) : SpecOk Tryz.prog 81 (zqk7 (zqkf c_clock_Empty c_clock_Valid c_clock_in c_clock_instant p1)) :=
  spec_exec (X := (clock_When_X c_clock_Empty c_clock_From c_clock_Meet c_clock_Valid c_clock_in c_clock_instant)) (Λ := pick1 [(122, pieceCut zqka zqkb (clock_When_p1_G p1))]) (rs := [.cell 6 40, .tmp 7]) (c := bodyOf Tryz.f81) mixed tab_ok hΓ Tryz.func81 (by kernel_rfl) (by kernel_rfl) (by kernel_rfl) (by kernel_rfl) (CutsOk_cons (q := 122) (c' := clock_When_p1_code) (by kernel_rfl) rfl hp1 CutsOk_nil) (fun x k r h => Eq.trans (b := (zqk7 (zqkf c_clock_Empty c_clock_Valid c_clock_in c_clock_instant p1)).run x k) (by kernel_rfl) h)
end
theorem zqkhΓ : ΓOk Tryz.prog (pick1 [(102, .spec (zq9k zq9o)), (101, .spec (zqjt zqjx)), (100, .spec (zq9d zq9h)), (33, .spec (zqg5 zqhl)), (55, .spec (zq44 zq48)), (57, .spec (zq4b zq4f))]) := (ΓOk_cons zq9p (ΓOk_cons zqjy (ΓOk_cons zq9i (ΓOk_cons zqhm (ΓOk_cons zq49 (ΓOk_cons zq4g ΓOk_nil))))))
def zqki (m : Nat) : zqk9 := zqkd zqjx zq9h m
theorem zqkj {β : Type} (i : Nat) (k1 host clock t31 t32 t33 r_ r_2 r_3 r_4 t6 t62 out out2) : (zqki (i + 1) k1 host clock t31 t32 t33 r_ r_2 r_3 r_4 t6 t62 out out2 : Option β) = zqkc zqjx zq9h (zqki i k1) k1 host clock t31 t32 t33 r_ r_2 r_3 r_4 t6 t62 out out2 := rfl
def zqkk : zqk9 := zqki fuel
theorem zqkl : PieceOk Tryz.prog 56 0 clock_When_p1_code zqka zqkb (clock_When_p1_G zqkk) := zqke zq9o zqjx zq9h zqhl zq48 zq4f zqkhΓ fuel
def zqkm : zqk6 := zqkf zq9o zqhl zq48 zq4f zqkk
theorem zqkn : SpecOk Tryz.prog 81 (zqk7 zqkm) := zqkg zq9o zqjx zq9h zqhl zq48 zq4f zqkhΓ zqkk zqkl

/-- slices.IndexFunc[[]pagewatch/api.Diff,pagewatch/api.Diff] -/
abbrev zqko := {β : Type} → (List (Int × (Int × Int))) → Int → (Int → Int → Option β) → Option β
def zqkp (c : zqko) : Spec :=
  ⟨[(false, [.data (.slice (.prod (.int .i64) (.prod (.int .i64) (.int .i64))))]), (false, [.fn 106 [0]])], [.cells 3 [.data (.int .i64)]], [(false, [.data (.int .i64)])], [.cells 3 [.data (.int .i64)]], fun x k => c x.1.1.1 x.2.1.1 (fun r0 r1 => k (((r0, ()), ()), ((r1, ()), ())))⟩
noncomputable def slices_IndexFunc_api_Diff_api_Diff_vconstraint_Valid_f1_p1_code : Code := codeAt 26 (bodyOf Tryz.f118)
abbrev zqkq (β : Type) := Int → Int → Option β
abbrev zqkr (β : Type) := Int → Option β
abbrev zqks := {β : Type} → zqkq β → zqkr β → (List (Int × (Int × Int))) → Int → Int → Int → Option β
def zqkt : View := ⟨1, [0, 1, 7, 8], [(false, [.data (.slice (.prod (.int .i64) (.prod (.int .i64) (.int .i64))))]), (false, [.fn 106 [0]]), (false, [.data (.int .i64)]), (false, [.data (.int .i64)])], [.cells 3 [.data (.int .i64)]]⟩
def zqku : List (AExit × View) := [(.ret, ⟨1, [4], [(false, [.data (.int .i64)])], [.cells 3 [.data (.int .i64)]]⟩), (.exit 0, ⟨1, [], [], [.cells 3 [.data (.int .i64)]]⟩)]
@[reducible] def slices_IndexFunc_api_Diff_api_Diff_vconstraint_Valid_f1_p1_G (p : zqks) {β : Type} (d : zqkt.den) (ks : Outs.K β zqku) : Option β :=
  p (fun a0 a1 => ks.1 (((a0, ()), ()), ((a1, ()), ()))) (fun a0 => ks.2.1 ((), ((a0, ()), ()))) d.1.1.1 d.1.2.2.1.1 d.1.2.2.2.1.1 d.2.1.1
section
variable (c_constraint_Valid_f1 : zq9x)
@[reducible] def slices_IndexFunc_api_Diff_api_Diff_vconstraint_Valid_f1_X : Ctx := ⟨look tab, pick1 [(106, .spec (zq9y c_constraint_Valid_f1))], false, false, false, false⟩
def zqkv {β : Type} (rec : (List (Int × (Int × Int))) → Int → Int → Int → Option β) (k1 : zqkq β) (k2 : zqkr β) (s : List (Int × (Int × Int))) (t7 : Int) (t8 : Int) (b0_ : Int) : Option β :=
  cond (decide (t8 < t7))
  (cond (decide (0 ≤ t8) && decide (t8 < (List.length s : Int)))
  (let e : (Int × (Int × Int)) := List.getD s (Int.toNat t8) ((0 : Int), ((0 : Int), (0 : Int)));
  c_constraint_Valid_f1 e b0_ (fun (rValid1 : Bool) (mrValid1 : Int) =>
  cond rValid1
  (k1 t8 mrValid1)
  (rec s t7 (IntKind.i64.wrap (t8 + (1 : Int))) mrValid1)))
  none)
  (k2 b0_)
def zqkw {β : Type} : Nat → zqkq β → zqkr β → (List (Int × (Int × Int))) → Int → Int → Int → Option β
  | 0 => fun _ _ _ _ _ _ => none
  | i + 1 => fun k1 k2 s t7 t8 b0_ => zqkv c_constraint_Valid_f1 (zqkw i k1 k2) k1 k2 s t7 t8 b0_
theorem zqkx (hΓ : ΓOk Tryz.prog (slices_IndexFunc_api_Diff_api_Diff_vconstraint_Valid_f1_X c_constraint_Valid_f1).Γ) (i : Nat) : PieceOk Tryz.prog 19 1 slices_IndexFunc_api_Diff_api_Diff_vconstraint_Valid_f1_p1_code zqkt zqku (slices_IndexFunc_api_Diff_api_Diff_vconstraint_Valid_f1_p1_G (zqkw c_constraint_Valid_f1 i)) := by
  rw [show slices_IndexFunc_api_Diff_api_Diff_vconstraint_Valid_f1_p1_code = .loop (loopBody slices_IndexFunc_api_Diff_api_Diff_vconstraint_Valid_f1_p1_code) by kernel_rfl]
  exact piece_loop (X := (slices_IndexFunc_api_Diff_api_Diff_vconstraint_Valid_f1_X c_constraint_Valid_f1)) (p := 1) (Λ := pick1 []) (G := fun i => @fun β d ks => slices_IndexFunc_api_Diff_api_Diff_vconstraint_Valid_f1_p1_G (zqkw c_constraint_Valid_f1 i) d ks) mixed tab_ok hΓ rfl (by kernel_rfl) CutsOk_nil (fun _ _ => rfl) (fun i => @fun β d ks r h => Eq.trans (b := slices_IndexFunc_api_Diff_api_Diff_vconstraint_Valid_f1_p1_G (zqkw c_constraint_Valid_f1 (i + 1)) d ks) (by kernel_rfl) h) i
def zqky (p1 : zqks) {β : Type} (s : List (Int × (Int × Int))) (b0_ : Int) (k : (Int → Int → Option β)) : Option β :=
  p1 (fun (t4 : Int) (b0_2 : Int) =>
  k t4 b0_2) (fun (b0_2 : Int) =>
  k (-1 : Int) b0_2) s (List.length s : Int) (0 : Int) b0_
theorem zqkz (hΓ : ΓOk Tryz.prog (slices_IndexFunc_api_Diff_api_Diff_vconstraint_Valid_f1_X c_constraint_Valid_f1).Γ) (p1 : zqks) (hp1 : PieceOk Tryz.prog 19 1 slices_IndexFunc_api_Diff_api_Diff_vconstraint_Valid_f1_p1_code zqkt zqku (slices_IndexFunc_api_Diff_api_Diff_vconstraint_Valid_f1_p1_G p1)) : SpecOk Tryz.prog 118 (zqkp (zqky p1)) :=
  spec_exec (X := (slices_IndexFunc_api_Diff_api_Diff_vconstraint_Valid_f1_X c_constraint_Valid_f1)) (Λ := pick1 [(26, pieceCut zqkt zqku (slices_IndexFunc_api_Diff_api_Diff_vconstraint_Valid_f1_p1_G p1))]) (rs := [.tmp 4]) (c := bodyOf Tryz.f118) mixed tab_ok hΓ Tryz.func118 (by kernel_rfl) (by kernel_rfl) (by kernel_rfl) (by kernel_rfl) (CutsOk_cons (q := 26) (c' := slices_IndexFunc_api_Diff_api_Diff_vconstraint_Valid_f1_p1_code) (by kernel_rfl) rfl hp1 CutsOk_nil) (fun x k r h => Eq.trans (b := (zqkp (zqky p1)).run x k) (by kernel_rfl) h)
end
theorem zql0Γ : ΓOk Tryz.prog (pick1 [(106, .spec (zq9y zqa2))]) := (ΓOk_cons zqa3 ΓOk_nil)
def zql1 (m : Nat) : zqks := zqkw zqa2 m
theorem zql2 {β : Type} (i : Nat) (k1 k2 s t7 t8 b0_) : (zql1 (i + 1) k1 k2 s t7 t8 b0_ : Option β) = zqkv zqa2 (zql1 i k1 k2) k1 k2 s t7 t8 b0_ := rfl
def zql3 : zqks := zql1 fuel
theorem zql4 : PieceOk Tryz.prog 19 1 slices_IndexFunc_api_Diff_api_Diff_vconstraint_Valid_f1_p1_code zqkt zqku (slices_IndexFunc_api_Diff_api_Diff_vconstraint_Valid_f1_p1_G zql3) := zqkx zqa2 zql0Γ fuel
def zql5 : zqko := zqky zql3
theorem zql6 : SpecOk Tryz.prog 118 (zqkp zql5) := zqkz zqa2 zql0Γ zql3 zql4

/-- pagewatch/pagewatchref40.Compare -/
abbrev zql7 := {β : Type} → zq2 → Int → Int → (Int → Bool → Option β) → Option β
def zql8 (c : zql7) : Spec :=
  ⟨[(true, [.data zq3]), (false, [.data (.int .i64)]), (false, [.data (.int .i64)])], [], [(false, [.data (.int .i64)]), (false, [.data .bool])], [], fun x k => c x.1.1.1 x.1.2.1.1 x.1.2.2.1.1 (fun r0 r1 => k (((r0, ()), (r1, ()), ()), ()))⟩
section
variable (c_ref25_In : zq1z) (c_ref40_closed : zqjz) (c_ref40_compare : zq26)
@[reducible] def ref40_Compare_X : Ctx := ⟨look tab, pick1 [(31, .spec (zq20 c_ref25_In)), (30, .spec (zqk0 c_ref40_closed)), (32, .spec (zq27 c_ref40_compare))], false, false, false, false⟩
def zql9 {β : Type} (r_ : zq2) (a : Int) (b : Int) (k : (Int → Bool → Option β)) : Option β :=
  c_ref40_closed r_ (fun (rclosed : List (List Int)) (rclosed2 : Bool) =>
  cond (!rclosed2)
  (k (0 : Int) false)
  (c_ref25_In a (0 : Int) (IntKind.i64.wrap ((List.length r_.2.2.1 : Int) - (1 : Int))) (fun (rIn : Bool) =>
  cond (!rIn)
  (k (0 : Int) false)
  (c_ref25_In b (0 : Int) (IntKind.i64.wrap ((List.length r_.2.2.1 : Int) - (1 : Int))) (fun (rIn2 : Bool) =>
  cond (!rIn2)
  (k (0 : Int) false)
  (c_ref40_compare rclosed a b (fun (rcompare : Int) =>
  k rcompare true)))))))
theorem zqla (hΓ : ΓOk Tryz.prog (ref40_Compare_X c_ref25_In c_ref40_closed c_ref40_compare).Γ) : SpecOk Tryz.prog 13 (zql8 (zql9 c_ref25_In c_ref40_closed c_ref40_compare)) :=
  spec_exec (X := (ref40_Compare_X c_ref25_In c_ref40_closed c_ref40_compare)) (Λ := pick1 []) (rs := [.tmp 6, .tmp 7]) (c := bodyOf Tryz.f13) mixed tab_ok hΓ Tryz.func13 (by kernel_rfl) (by kernel_rfl) (by kernel_rfl) (by kernel_rfl) CutsOk_nil (fun x k r h => Eq.trans (b := (zql8 (zql9 c_ref25_In c_ref40_closed c_ref40_compare)).run x k) (by kernel_rfl) h)
end
theorem zqlbΓ : ΓOk Tryz.prog (pick1 [(31, .spec (zq20 zq24)), (30, .spec (zqk0 zqk4)), (32, .spec (zq27 zq2b))]) := (ΓOk_cons zq25 (ΓOk_cons zqk5 (ΓOk_cons zq2c ΓOk_nil)))
def zqlc : zql7 := zql9 zq24 zqk4 zq2b
theorem zqld : SpecOk Tryz.prog 13 (zql8 zqlc) := zqla zq24 zqk4 zq2b zqlbΓ

/-- pagewatch/order.Constraints -/
abbrev zqle := {β : Type} → zq2 → (Bool → (List (Int × (Int × Int))) → Option β) → Option β
def zqlf (c : zqle) : Spec :=
  ⟨[(true, [.data zq3])], [], [(false, [.rowh 0]), (false, [.data .bool])], [.row 122 (.prod (.int .i64) (.prod (.int .i64) (.int .i64)))], fun x k => c x.1.1.1 (fun r0 r1 => k (((), (r0, ()), ()), (r1, ())))⟩
noncomputable def order_Constraints_p1_code : Code := codeAt 122 (bodyOf Tryz.f68)
noncomputable def order_Constraints_p3_code : Code := codeAt 250 (bodyOf Tryz.f68)
noncomputable def order_Constraints_p4_code : Code := codeAt 506 (bodyOf Tryz.f68)
noncomputable def order_Constraints_p2_code : Code := codeAt 230 (loopBody order_Constraints_p3_code)
abbrev zqlg (β : Type) := Bool → (List (Int × (Int × Int))) → Option β
abbrev zqlh (β : Type) := (List (List UInt8 × Int)) → (List (Int × (Int × (Int × Int)))) → (List zq0) → (List (Int × (Int × Int))) → (List (Int × (Int × Int))) → Option β
abbrev zqli := {β : Type} → zqlg β → zqlh β → (List zq0) → Int → Int → (List (List UInt8 × Int)) → (List (Int × (Int × (Int × Int)))) → (List zq0) → (List (Int × (Int × Int))) → (List (Int × (Int × Int))) → Option β
def zqlj : View := ⟨0, [1, 4, 18, 19, 20], [(false, [.ptr 0 0]), (false, [.rowh 1]), (false, [.data (.slice zq1)]), (false, [.data (.int .i64)]), (false, [.data (.int .i64)])], [.cells 32 [.data (.slice (.prod .str (.int .i64))), .data (.slice (.prod (.int .i64) (.prod (.int .i64) (.prod (.int .i64) (.int .i64))))), .data (.slice zq1), .data (.slice (.prod (.int .i64) (.prod (.int .i64) (.int .i64))))], .row 122 (.prod (.int .i64) (.prod (.int .i64) (.int .i64)))]⟩
def zqlk : List (AExit × View) := [(.ret, ⟨0, [2, 3], [(false, [.rowh 0]), (false, [.data .bool])], [.row 122 (.prod (.int .i64) (.prod (.int .i64) (.int .i64)))]⟩), (.exit 0, ⟨0, [1, 4], [(false, [.ptr 0 0]), (false, [.rowh 1])], [.cells 32 [.data (.slice (.prod .str (.int .i64))), .data (.slice (.prod (.int .i64) (.prod (.int .i64) (.prod (.int .i64) (.int .i64))))), .data (.slice zq1), .data (.slice (.prod (.int .i64) (.prod (.int .i64) (.int .i64))))], .row 122 (.prod (.int .i64) (.prod (.int .i64) (.int .i64)))]⟩)]
@[reducible] def order_Constraints_p1_G (p : zqli) {β : Type} (d : zqlj.den) (ks : Outs.K β zqlk) : Option β :=
  p (fun a0 a1 => ks.1 (((), (a0, ()), ()), (a1, ()))) (fun a0 a1 a2 a3 a4 => ks.2.1 (((), (), ()), ((a0, a1, a2, a3, ()), a4, ()))) d.1.2.2.1.1 d.1.2.2.2.1.1 d.1.2.2.2.2.1.1 d.2.1.1 d.2.1.2.1 d.2.1.2.2.1 d.2.1.2.2.2.1 d.2.2.1
abbrev zqll (β : Type) := (List zq0) → Int → Int → (List (List UInt8 × Int)) → (List (Int × (Int × (Int × Int)))) → (List zq0) → (List (Int × (Int × Int))) → (List (Int × (Int × Int))) → Option β
abbrev zqlm := {β : Type} → zqll β → Int → Int → (List zq0) → Int → Int → (List (List UInt8 × Int)) → (List (Int × (Int × (Int × Int)))) → (List zq0) → (List (Int × (Int × Int))) → (List (Int × (Int × Int))) → Int → Int → (List UInt8) → Option β
def zqln : View := ⟨0, [1, 4, 9, 10, 11, 52, 53, 54], [(false, [.ptr 0 0]), (false, [.rowh 1]), (false, [.data (.int .i64)]), (false, [.ptr 2 0]), (false, [.data (.int .i64)]), (false, [.data (.slice zq1)]), (false, [.data (.int .i64)]), (false, [.data (.int .i64)])], [.cells 32 [.data (.slice (.prod .str (.int .i64))), .data (.slice (.prod (.int .i64) (.prod (.int .i64) (.prod (.int .i64) (.int .i64))))), .data (.slice zq1), .data (.slice (.prod (.int .i64) (.prod (.int .i64) (.int .i64))))], .row 122 (.prod (.int .i64) (.prod (.int .i64) (.int .i64))), .cells 60 [.data (.int .i64), .data (.int .i64), .data .str]]⟩
def zqlo : List (AExit × View) := [(.exit 4, ⟨0, [1, 4, 52, 53, 54], [(false, [.ptr 0 0]), (false, [.rowh 1]), (false, [.data (.slice zq1)]), (false, [.data (.int .i64)]), (false, [.data (.int .i64)])], [.cells 32 [.data (.slice (.prod .str (.int .i64))), .data (.slice (.prod (.int .i64) (.prod (.int .i64) (.prod (.int .i64) (.int .i64))))), .data (.slice zq1), .data (.slice (.prod (.int .i64) (.prod (.int .i64) (.int .i64))))], .row 122 (.prod (.int .i64) (.prod (.int .i64) (.int .i64)))]⟩)]
@[reducible] def order_Constraints_p2_G (p : zqlm) {β : Type} (d : zqln.den) (ks : Outs.K β zqlo) : Option β :=
  p (fun a0 a1 a2 a3 a4 a5 a6 a7 => ks.1 (((), (), (a0, ()), (a1, ()), (a2, ()), ()), ((a3, a4, a5, a6, ()), a7, ()))) d.1.2.2.1.1 d.1.2.2.2.2.1.1 d.1.2.2.2.2.2.1.1 d.1.2.2.2.2.2.2.1.1 d.1.2.2.2.2.2.2.2.1.1 d.2.1.1 d.2.1.2.1 d.2.1.2.2.1 d.2.1.2.2.2.1 d.2.2.1 d.2.2.2.1.1 d.2.2.2.1.2.1 d.2.2.2.1.2.2.1
abbrev zqlp (β : Type) := (List (List UInt8 × Int)) → (List (Int × (Int × (Int × Int)))) → (List zq0) → (List (Int × (Int × Int))) → (List (Int × (Int × Int))) → Option β
abbrev zqlq := {β : Type} → zqlp β → (List zq0) → Int → Int → (List (List UInt8 × Int)) → (List (Int × (Int × (Int × Int)))) → (List zq0) → (List (Int × (Int × Int))) → (List (Int × (Int × Int))) → Option β
def zqlr : View := ⟨0, [1, 4, 52, 53, 54], [(false, [.ptr 0 0]), (false, [.rowh 1]), (false, [.data (.slice zq1)]), (false, [.data (.int .i64)]), (false, [.data (.int .i64)])], [.cells 32 [.data (.slice (.prod .str (.int .i64))), .data (.slice (.prod (.int .i64) (.prod (.int .i64) (.prod (.int .i64) (.int .i64))))), .data (.slice zq1), .data (.slice (.prod (.int .i64) (.prod (.int .i64) (.int .i64))))], .row 122 (.prod (.int .i64) (.prod (.int .i64) (.int .i64)))]⟩
def zqls : List (AExit × View) := [(.exit 2, ⟨0, [1, 4], [(false, [.ptr 0 0]), (false, [.rowh 1])], [.cells 32 [.data (.slice (.prod .str (.int .i64))), .data (.slice (.prod (.int .i64) (.prod (.int .i64) (.prod (.int .i64) (.int .i64))))), .data (.slice zq1), .data (.slice (.prod (.int .i64) (.prod (.int .i64) (.int .i64))))], .row 122 (.prod (.int .i64) (.prod (.int .i64) (.int .i64)))]⟩)]
@[reducible] def order_Constraints_p3_G (p : zqlq) {β : Type} (d : zqlr.den) (ks : Outs.K β zqls) : Option β :=
  p (fun a0 a1 a2 a3 a4 => ks.1 (((), (), ()), ((a0, a1, a2, a3, ()), a4, ()))) d.1.2.2.1.1 d.1.2.2.2.1.1 d.1.2.2.2.2.1.1 d.2.1.1 d.2.1.2.1 d.2.1.2.2.1 d.2.1.2.2.2.1 d.2.2.1
abbrev zqlt (β : Type) := (List (Int × (Int × Int))) → Option β
abbrev zqlu := {β : Type} → zqlt β → (List (Int × (Int × Int))) → Int → Int → (List (Int × (Int × Int))) → Option β
def zqlv : View := ⟨0, [4, 85, 86, 87], [(false, [.rowh 0]), (false, [.data (.slice (.prod (.int .i64) (.prod (.int .i64) (.int .i64))))]), (false, [.data (.int .i64)]), (false, [.data (.int .i64)])], [.row 122 (.prod (.int .i64) (.prod (.int .i64) (.int .i64)))]⟩
def zqlw : List (AExit × View) := [(.exit 6, ⟨0, [4], [(false, [.rowh 0])], [.row 122 (.prod (.int .i64) (.prod (.int .i64) (.int .i64)))]⟩)]
@[reducible] def order_Constraints_p4_G (p : zqlu) {β : Type} (d : zqlv.den) (ks : Outs.K β zqlw) : Option β :=
  p (fun a0 => ks.1 (((), ()), (a0, ()))) d.1.2.1.1 d.1.2.2.1.1 d.1.2.2.2.1.1 d.2.1
section
variable (c_clock_Valid : zqg4) (c_clock_When : zqk6) (c_order_pair : zqjc)
@[reducible] def order_Constraints_X : Ctx := ⟨look tab, pick1 [(33, .spec (zqg5 c_clock_Valid)), (81, .spec (zqk7 c_clock_When)), (82, .spec (zqjd c_order_pair))], false, false, false, false⟩
def zqlx {β : Type} (rec : (List zq0) → Int → Int → (List (List UInt8 × Int)) → (List (Int × (Int × (Int × Int)))) → (List zq0) → (List (Int × (Int × Int))) → (List (Int × (Int × Int))) → Option β) (k1 : zqlg β) (k2 : zqlh β) (t18 : List zq0) (t19 : Int) (t20 : Int) (r_ : List (List UInt8 × Int)) (r_2 : List (Int × (Int × (Int × Int)))) (r_3 : List zq0) (r_4 : List (Int × (Int × Int))) (out : List (Int × (Int × Int))) : Option β :=
  cond (decide (t20 < t19))
  (cond (decide (0 ≤ t20) && decide (t20 < (List.length t18 : Int)))
  (let e : zq0 := List.getD t18 (Int.toNat t20) ((0 : Int), ((0 : Int), ([] : List UInt8)));
  c_clock_When (r_, (r_2, (r_3, r_4))) e.1 e.2.1 (fun (rWhen : (Int × Int)) (rWhen2 : Bool) =>
  cond (!rWhen2)
  (k1 false ([] : List (Int × (Int × Int))))
  (let l : List (Int × (Int × Int)) := ([((0 : Int), ((IntKind.i64.wrap (t20 + (1 : Int))), rWhen.2)), ((IntKind.i64.wrap (t20 + (1 : Int))), ((0 : Int), (IntKind.i64.wrap (0 - rWhen.1))))] : List (Int × (Int × Int)));
  cond (decide ((List.length out + List.length l) * 24 ≤ roomMax))
  (let l2 : List (Int × (Int × Int)) := (out ++ l);
  rec t18 t19 (IntKind.i64.wrap (t20 + (1 : Int))) r_ r_2 r_3 r_4 l2)
  none)))
  none)
  (k2 r_ r_2 r_3 r_4 out)
def zqly {β : Type} : Nat → zqlg β → zqlh β → (List zq0) → Int → Int → (List (List UInt8 × Int)) → (List (Int × (Int × (Int × Int)))) → (List zq0) → (List (Int × (Int × Int))) → (List (Int × (Int × Int))) → Option β
  | 0 => fun _ _ _ _ _ _ _ _ _ _ => none
  | i + 1 => fun k1 k2 t18 t19 t20 r_ r_2 r_3 r_4 out => zqlx c_clock_When (zqly i k1 k2) k1 k2 t18 t19 t20 r_ r_2 r_3 r_4 out
theorem zqlz (hΓ : ΓOk Tryz.prog (order_Constraints_X c_clock_Valid c_clock_When c_order_pair).Γ) (i : Nat) : PieceOk Tryz.prog 106 0 order_Constraints_p1_code zqlj zqlk (order_Constraints_p1_G (zqly c_clock_When i)) := by
  rw [show order_Constraints_p1_code = .loop (loopBody order_Constraints_p1_code) by kernel_rfl]
  exact piece_loop (X := (order_Constraints_X c_clock_Valid c_clock_When c_order_pair)) (p := 1) (Λ := pick1 []) (G := fun i => @fun β d ks => order_Constraints_p1_G (zqly c_clock_When i) d ks) mixed tab_ok hΓ rfl (by kernel_rfl) CutsOk_nil (fun _ _ => rfl) (fun i => @fun β d ks r h => Eq.trans (b := order_Constraints_p1_G (zqly c_clock_When (i + 1)) d ks) (by kernel_rfl) h) i
def zqm0 {β : Type} (rec : Int → Int → (List zq0) → Int → Int → (List (List UInt8 × Int)) → (List (Int × (Int × (Int × Int)))) → (List zq0) → (List (Int × (Int × Int))) → (List (Int × (Int × Int))) → Int → Int → (List UInt8) → Option β) (k1 : zqll β) (i_ : Int) (j : Int) (t52 : List zq0) (t53 : Int) (t54 : Int) (r_ : List (List UInt8 × Int)) (r_2 : List (Int × (Int × (Int × Int)))) (r_3 : List zq0) (r_4 : List (Int × (Int × Int))) (out : List (Int × (Int × Int))) (a : Int) (a2 : Int) (a3 : List UInt8) : Option β :=
  cond (decide (j < (List.length r_3 : Int)))
  (cond (decide (0 ≤ j) && decide (j < (List.length r_3 : Int)))
  (let e : zq0 := List.getD r_3 (Int.toNat j) ((0 : Int), ((0 : Int), ([] : List UInt8)));
  cond (decide (e.1 = a))
  (c_order_pair (r_, (r_2, (r_3, r_4))) i_ j (fun (lrpair : List (Int × (Int × Int))) =>
  cond (decide ((List.length out + List.length lrpair) * 24 ≤ roomMax))
  (let l : List (Int × (Int × Int)) := (out ++ lrpair);
  let j2 : Int := (IntKind.i64.wrap (j + (1 : Int)));
  rec i_ j2 t52 t53 t54 r_ r_2 r_3 r_4 l a a2 a3)
  none))
  (let j2 : Int := (IntKind.i64.wrap (j + (1 : Int)));
  rec i_ j2 t52 t53 t54 r_ r_2 r_3 r_4 out a a2 a3))
  none)
  (k1 t52 t53 t54 r_ r_2 r_3 r_4 out)
def zqm1 {β : Type} : Nat → zqll β → Int → Int → (List zq0) → Int → Int → (List (List UInt8 × Int)) → (List (Int × (Int × (Int × Int)))) → (List zq0) → (List (Int × (Int × Int))) → (List (Int × (Int × Int))) → Int → Int → (List UInt8) → Option β
  | 0 => fun _ _ _ _ _ _ _ _ _ _ _ _ _ _ => none
  | i + 1 => fun k1 i_ j t52 t53 t54 r_ r_2 r_3 r_4 out a a2 a3 => zqm0 c_order_pair (zqm1 i k1) k1 i_ j t52 t53 t54 r_ r_2 r_3 r_4 out a a2 a3
theorem zqm2 (hΓ : ΓOk Tryz.prog (order_Constraints_X c_clock_Valid c_clock_When c_order_pair).Γ) (i : Nat) : PieceOk Tryz.prog 106 0 order_Constraints_p2_code zqln zqlo (order_Constraints_p2_G (zqm1 c_order_pair i)) := by
  rw [show order_Constraints_p2_code = .loop (loopBody order_Constraints_p2_code) by kernel_rfl]
  exact piece_loop (X := (order_Constraints_X c_clock_Valid c_clock_When c_order_pair)) (p := 1) (Λ := pick1 []) (G := fun i => @fun β d ks => order_Constraints_p2_G (zqm1 c_order_pair i) d ks) mixed tab_ok hΓ rfl (by kernel_rfl) CutsOk_nil (fun _ _ => rfl) (fun i => @fun β d ks r h => Eq.trans (b := order_Constraints_p2_G (zqm1 c_order_pair (i + 1)) d ks) (by kernel_rfl) h) i
def zqm3 (p2 : zqlm) {β : Type} (rec : (List zq0) → Int → Int → (List (List UInt8 × Int)) → (List (Int × (Int × (Int × Int)))) → (List zq0) → (List (Int × (Int × Int))) → (List (Int × (Int × Int))) → Option β) (k1 : zqlp β) (t52 : List zq0) (t53 : Int) (t54 : Int) (r_ : List (List UInt8 × Int)) (r_2 : List (Int × (Int × (Int × Int)))) (r_3 : List zq0) (r_4 : List (Int × (Int × Int))) (out : List (Int × (Int × Int))) : Option β :=
  cond (decide (t54 < t53))
  (cond (decide (0 ≤ t54) && decide (t54 < (List.length t52 : Int)))
  (let e : zq0 := List.getD t52 (Int.toNat t54) ((0 : Int), ((0 : Int), ([] : List UInt8)));
  let j : Int := (IntKind.i64.wrap (t54 + (1 : Int)));
  p2 (fun (t522 : List zq0) (t532 : Int) (t542 : Int) (r_5 : List (List UInt8 × Int)) (r_6 : List (Int × (Int × (Int × Int)))) (r_7 : List zq0) (r_8 : List (Int × (Int × Int))) (out2 : List (Int × (Int × Int))) =>
  rec t522 t532 (IntKind.i64.wrap (t542 + (1 : Int))) r_5 r_6 r_7 r_8 out2) t54 j t52 t53 t54 r_ r_2 r_3 r_4 out e.1 e.2.1 e.2.2)
  none)
  (k1 r_ r_2 r_3 r_4 out)
def zqm4 (p2 : zqlm) {β : Type} : Nat → zqlp β → (List zq0) → Int → Int → (List (List UInt8 × Int)) → (List (Int × (Int × (Int × Int)))) → (List zq0) → (List (Int × (Int × Int))) → (List (Int × (Int × Int))) → Option β
  | 0 => fun _ _ _ _ _ _ _ _ _ => none
  | i + 1 => fun k1 t52 t53 t54 r_ r_2 r_3 r_4 out => zqm3 p2 (zqm4 p2 i k1) k1 t52 t53 t54 r_ r_2 r_3 r_4 out
theorem zqm5 (hΓ : ΓOk Tryz.prog (order_Constraints_X c_clock_Valid c_clock_When c_order_pair).Γ) (p2 : zqlm) (hp2 : PieceOk Tryz.prog 106 0 order_Constraints_p2_code zqln zqlo (order_Constraints_p2_G p2)) (i : Nat) : PieceOk Tryz.prog 106 0 order_Constraints_p3_code zqlr zqls (order_Constraints_p3_G (zqm4 p2 i)) := by
  rw [show order_Constraints_p3_code = .loop (loopBody order_Constraints_p3_code) by kernel_rfl]
  exact piece_loop (X := (order_Constraints_X c_clock_Valid c_clock_When c_order_pair)) (p := 1) (Λ := pick1 [(230, pieceCut zqln zqlo (order_Constraints_p2_G p2))]) (G := fun i => @fun β d ks => order_Constraints_p3_G (zqm4 p2 i) d ks) mixed tab_ok hΓ rfl (by kernel_rfl) (CutsOk_cons (q := 230) (c' := order_Constraints_p2_code) (by kernel_rfl) rfl hp2 CutsOk_nil) (fun _ _ => rfl) (fun i => @fun β d ks r h => Eq.trans (b := order_Constraints_p3_G (zqm4 p2 (i + 1)) d ks) (by kernel_rfl) h) i
def zqm6 {β : Type} (rec : (List (Int × (Int × Int))) → Int → Int → (List (Int × (Int × Int))) → Option β) (k1 : zqlt β) (t85 : List (Int × (Int × Int))) (t86 : Int) (t87 : Int) (out : List (Int × (Int × Int))) : Option β :=
  cond (decide (t87 < t86))
  (cond (decide (0 ≤ t87) && decide (t87 < (List.length t85 : Int)))
  (let e : (Int × (Int × Int)) := List.getD t85 (Int.toNat t87) ((0 : Int), ((0 : Int), (0 : Int)));
  let l : List (Int × (Int × Int)) := ([((IntKind.i64.wrap (e.2.1 + (1 : Int))), ((IntKind.i64.wrap (e.1 + (1 : Int))), (IntKind.i64.wrap (0 - e.2.2))))] : List (Int × (Int × Int)));
  cond (decide ((List.length out + List.length l) * 24 ≤ roomMax))
  (let l2 : List (Int × (Int × Int)) := (out ++ l);
  rec t85 t86 (IntKind.i64.wrap (t87 + (1 : Int))) l2)
  none)
  none)
  (k1 out)
def zqm7 {β : Type} : Nat → zqlt β → (List (Int × (Int × Int))) → Int → Int → (List (Int × (Int × Int))) → Option β
  | 0 => fun _ _ _ _ _ => none
  | i + 1 => fun k1 t85 t86 t87 out => zqm6 (zqm7 i k1) k1 t85 t86 t87 out
theorem zqm8 (hΓ : ΓOk Tryz.prog (order_Constraints_X c_clock_Valid c_clock_When c_order_pair).Γ) (i : Nat) : PieceOk Tryz.prog 106 0 order_Constraints_p4_code zqlv zqlw (order_Constraints_p4_G (zqm7 i)) := by
  rw [show order_Constraints_p4_code = .loop (loopBody order_Constraints_p4_code) by kernel_rfl]
  exact piece_loop (X := (order_Constraints_X c_clock_Valid c_clock_When c_order_pair)) (p := 1) (Λ := pick1 []) (G := fun i => @fun β d ks => order_Constraints_p4_G (zqm7 i) d ks) mixed tab_ok hΓ rfl (by kernel_rfl) CutsOk_nil (fun _ _ => rfl) (fun i => @fun β d ks r h => Eq.trans (b := order_Constraints_p4_G (zqm7 (i + 1)) d ks) (by kernel_rfl) h) i
def zqm9 (p1 : zqli) (p3 : zqlq) (p4 : zqlu) {β : Type} (r_ : zq2) (k : (Bool → (List (Int × (Int × Int))) → Option β)) : Option β :=
  c_clock_Valid r_ (fun (rValid : Bool) =>
  cond (!rValid)
  (k false ([] : List (Int × (Int × Int))))
  (p1 (fun (t3 : Bool) (t2 : List (Int × (Int × Int))) =>
  k t3 t2) (fun (r_2 : List (List UInt8 × Int)) (r_3 : List (Int × (Int × (Int × Int)))) (r_4 : List zq0) (r_5 : List (Int × (Int × Int))) (out : List (Int × (Int × Int))) =>
  p3 (fun (r_6 : List (List UInt8 × Int)) (r_7 : List (Int × (Int × (Int × Int)))) (r_8 : List zq0) (r_9 : List (Int × (Int × Int))) (out2 : List (Int × (Int × Int))) =>
  p4 (fun (out3 : List (Int × (Int × Int))) =>
  k true out3) r_9 (List.length r_9 : Int) (0 : Int) out2) r_4 (List.length r_4 : Int) (0 : Int) r_2 r_3 r_4 r_5 out) r_.2.2.1 (List.length r_.2.2.1 : Int) (0 : Int) r_.1 r_.2.1 r_.2.2.1 r_.2.2.2 ([] : List (Int × (Int × Int)))))
theorem zqma (hΓ : ΓOk Tryz.prog (order_Constraints_X c_clock_Valid c_clock_When c_order_pair).Γ) (p1 : zqli) (p3 : zqlq) (p4 : zqlu) (hp1 : PieceOk Tryz.prog 106 0 order_Constraints_p1_code zqlj zqlk (order_Constraints_p1_G p1)) (hp3 : PieceOk Tryz.prog 106 0 order_Constraints_p3_code zqlr zqls (order_Constraints_p3_G p3)) (hp4 : PieceOk Tryz.prog 106 0 order_Constraints_p4_code zqlv zqlw (order_Constraints_p4_G p4)) : SpecOk Tryz.prog 68 (zqlf (zqm9 c_clock_Valid p1 p3 p4)) :=
  spec_exec (X := (order_Constraints_X c_clock_Valid c_clock_When c_order_pair)) (Λ := pick1 [(122, pieceCut zqlj zqlk (order_Constraints_p1_G p1)), (250, pieceCut zqlr zqls (order_Constraints_p3_G p3)), (506, pieceCut zqlv zqlw (order_Constraints_p4_G p4))]) (rs := [.tmp 2, .tmp 3]) (c := bodyOf Tryz.f68) mixed tab_ok hΓ Tryz.func68 (by kernel_rfl) (by kernel_rfl) (by kernel_rfl) (by kernel_rfl) (CutsOk_cons (q := 122) (c' := order_Constraints_p1_code) (by kernel_rfl) rfl hp1 (CutsOk_cons (q := 250) (c' := order_Constraints_p3_code) (by kernel_rfl) rfl hp3 (CutsOk_cons (q := 506) (c' := order_Constraints_p4_code) (by kernel_rfl) rfl hp4 CutsOk_nil))) (fun x k r h => Eq.trans (b := (zqlf (zqm9 c_clock_Valid p1 p3 p4)).run x k) (by kernel_rfl) h)
end
theorem zqmbΓ : ΓOk Tryz.prog (pick1 [(33, .spec (zqg5 zqhl)), (81, .spec (zqk7 zqkm)), (82, .spec (zqjd zqjq))]) := (ΓOk_cons zqhm (ΓOk_cons zqkn (ΓOk_cons zqjr ΓOk_nil)))
def zqmc (m : Nat) : zqli := zqly zqkm m
theorem zqmd {β : Type} (i : Nat) (k1 k2 t18 t19 t20 r_ r_2 r_3 r_4 out) : (zqmc (i + 1) k1 k2 t18 t19 t20 r_ r_2 r_3 r_4 out : Option β) = zqlx zqkm (zqmc i k1 k2) k1 k2 t18 t19 t20 r_ r_2 r_3 r_4 out := rfl
def zqme : zqli := zqmc fuel
theorem zqmf : PieceOk Tryz.prog 106 0 order_Constraints_p1_code zqlj zqlk (order_Constraints_p1_G zqme) := zqlz zqhl zqkm zqjq zqmbΓ fuel
def zqmg (m : Nat) : zqlm := zqm1 zqjq m
theorem zqmh {β : Type} (i : Nat) (k1 i_ j t52 t53 t54 r_ r_2 r_3 r_4 out a a2 a3) : (zqmg (i + 1) k1 i_ j t52 t53 t54 r_ r_2 r_3 r_4 out a a2 a3 : Option β) = zqm0 zqjq (zqmg i k1) k1 i_ j t52 t53 t54 r_ r_2 r_3 r_4 out a a2 a3 := rfl
def zqmi : zqlm := zqmg fuel
theorem zqmj : PieceOk Tryz.prog 106 0 order_Constraints_p2_code zqln zqlo (order_Constraints_p2_G zqmi) := zqm2 zqhl zqkm zqjq zqmbΓ fuel
def zqmk (m : Nat) : zqlq := zqm4 zqmi m
theorem zqml {β : Type} (i : Nat) (k1 t52 t53 t54 r_ r_2 r_3 r_4 out) : (zqmk (i + 1) k1 t52 t53 t54 r_ r_2 r_3 r_4 out : Option β) = zqm3 zqmi (zqmk i k1) k1 t52 t53 t54 r_ r_2 r_3 r_4 out := rfl
def zqmm : zqlq := zqmk fuel
theorem zqmn : PieceOk Tryz.prog 106 0 order_Constraints_p3_code zqlr zqls (order_Constraints_p3_G zqmm) := zqm5 zqhl zqkm zqjq zqmbΓ zqmi zqmj fuel
def zqmo (m : Nat) : zqlu := zqm7 m
theorem zqmp {β : Type} (i : Nat) (k1 t85 t86 t87 out) : (zqmo (i + 1) k1 t85 t86 t87 out : Option β) = zqm6 (zqmo i k1) k1 t85 t86 t87 out := rfl
def zqmq : zqlu := zqmo fuel
theorem zqmr : PieceOk Tryz.prog 106 0 order_Constraints_p4_code zqlv zqlw (order_Constraints_p4_G zqmq) := zqm8 zqhl zqkm zqjq zqmbΓ fuel
def zqms : zqle := zqm9 zqhl zqme zqmm zqmq
theorem zqmt : SpecOk Tryz.prog 68 (zqlf zqms) := zqma zqhl zqkm zqjq zqmbΓ zqme zqmm zqmq zqmf zqmn zqmr

/-- slices.ContainsFunc[[]pagewatch/api.Diff,pagewatch/api.Diff] -/
abbrev zqmu := {β : Type} → (List (Int × (Int × Int))) → Int → (Bool → Int → Option β) → Option β
def zqmv (c : zqmu) : Spec :=
  ⟨[(false, [.data (.slice (.prod (.int .i64) (.prod (.int .i64) (.int .i64))))]), (false, [.fn 106 [0]])], [.cells 3 [.data (.int .i64)]], [(false, [.data .bool])], [.cells 3 [.data (.int .i64)]], fun x k => c x.1.1.1 x.2.1.1 (fun r0 r1 => k (((r0, ()), ()), ((r1, ()), ())))⟩
section
variable (c_slices_IndexFunc_api_Diff_api_Diff_vconstraint_Valid_f1 : zqko)
@[reducible] def slices_ContainsFunc_api_Diff_api_Diff_vconstraint_Valid_f1_X : Ctx := ⟨look tab, pick1 [(118, .spec (zqkp c_slices_IndexFunc_api_Diff_api_Diff_vconstraint_Valid_f1))], false, false, false, false⟩
def zqmw {β : Type} (s : List (Int × (Int × Int))) (b0_ : Int) (k : (Bool → Int → Option β)) : Option β :=
  c_slices_IndexFunc_api_Diff_api_Diff_vconstraint_Valid_f1 s b0_ (fun (rDiff : Int) (mrDiff : Int) =>
  let t : Bool := (decide ((0 : Int) ≤ rDiff));
  k t mrDiff)
theorem zqmx (hΓ : ΓOk Tryz.prog (slices_ContainsFunc_api_Diff_api_Diff_vconstraint_Valid_f1_X c_slices_IndexFunc_api_Diff_api_Diff_vconstraint_Valid_f1).Γ) : SpecOk Tryz.prog 105 (zqmv (zqmw c_slices_IndexFunc_api_Diff_api_Diff_vconstraint_Valid_f1)) :=
  spec_exec (X := (slices_ContainsFunc_api_Diff_api_Diff_vconstraint_Valid_f1_X c_slices_IndexFunc_api_Diff_api_Diff_vconstraint_Valid_f1)) (Λ := pick1 []) (rs := [.tmp 4]) (c := bodyOf Tryz.f105) mixed tab_ok hΓ Tryz.func105 (by kernel_rfl) (by kernel_rfl) (by kernel_rfl) (by kernel_rfl) CutsOk_nil (fun x k r h => Eq.trans (b := (zqmv (zqmw c_slices_IndexFunc_api_Diff_api_Diff_vconstraint_Valid_f1)).run x k) (by kernel_rfl) h)
end
theorem zqmyΓ : ΓOk Tryz.prog (pick1 [(118, .spec (zqkp zql5))]) := (ΓOk_cons zql6 ΓOk_nil)
def zqmz : zqmu := zqmw zql5
theorem zqn0 : SpecOk Tryz.prog 105 (zqmv zqmz) := zqmx zql5 zqmyΓ

/-- pagewatch/constraint.Valid -/
abbrev zqn1 := {β : Type} → Int → (List (Int × (Int × Int))) → (Bool → Option β) → Option β
def zqn2 (c : zqn1) : Spec :=
  ⟨[(false, [.data (.int .i64)]), (false, [.data (.slice (.prod (.int .i64) (.prod (.int .i64) (.int .i64))))])], [], [(false, [.data .bool])], [], fun x k => c x.1.1.1 x.1.2.1.1 (fun r0 => k (((r0, ()), ()), ()))⟩
section
variable (c_constraint_in : zq9q) (c_slices_ContainsFunc_api_Diff_api_Diff_vconstraint_Valid_f1 : zqmu)
@[reducible] def constraint_Valid_X : Ctx := ⟨look tab, pick1 [(104, .spec (zq9r c_constraint_in)), (105, .spec (zqmv c_slices_ContainsFunc_api_Diff_api_Diff_vconstraint_Valid_f1))], false, false, false, false⟩
def zqn3 {β : Type} (n : Int) (l : List (Int × (Int × Int))) (k : (Bool → Option β)) : Option β :=
  c_constraint_in n (1 : Int) (41 : Int) (fun (rin : Bool) =>
  cond (!rin)
  (k false)
  (cond (decide ((4000 : Int) < (List.length l : Int)))
  (k false)
  (c_slices_ContainsFunc_api_Diff_api_Diff_vconstraint_Valid_f1 l n (fun (rDiff : Bool) (mrDiff : Int) =>
  k (!rDiff)))))
theorem zqn4 (hΓ : ΓOk Tryz.prog (constraint_Valid_X c_constraint_in c_slices_ContainsFunc_api_Diff_api_Diff_vconstraint_Valid_f1).Γ) : SpecOk Tryz.prog 83 (zqn2 (zqn3 c_constraint_in c_slices_ContainsFunc_api_Diff_api_Diff_vconstraint_Valid_f1)) :=
  spec_exec (X := (constraint_Valid_X c_constraint_in c_slices_ContainsFunc_api_Diff_api_Diff_vconstraint_Valid_f1)) (Λ := pick1 []) (rs := [.tmp 4]) (c := bodyOf Tryz.f83) mixed tab_ok hΓ Tryz.func83 (by kernel_rfl) (by kernel_rfl) (by kernel_rfl) (by kernel_rfl) CutsOk_nil (fun x k r h => Eq.trans (b := (zqn2 (zqn3 c_constraint_in c_slices_ContainsFunc_api_Diff_api_Diff_vconstraint_Valid_f1)).run x k) (by kernel_rfl) h)
end
theorem zqn5Γ : ΓOk Tryz.prog (pick1 [(104, .spec (zq9r zq9v)), (105, .spec (zqmv zqmz))]) := (ΓOk_cons zq9w (ΓOk_cons zqn0 ΓOk_nil))
def zqn6 : zqn1 := zqn3 zq9v zqmz
theorem zqn7 : SpecOk Tryz.prog 83 (zqn2 zqn6) := zqn4 zq9v zqmz zqn5Γ

/-- pagewatch/constraint.Close -/
abbrev zqn8 := {β : Type} → Int → (List (Int × (Int × Int))) → ((List (List Int)) → Bool → Option β) → Option β
def zqn9 (c : zqn8) : Spec :=
  ⟨[(false, [.data (.int .i64)]), (false, [.data (.slice (.prod (.int .i64) (.prod (.int .i64) (.int .i64))))])], [], [(false, [.data (.slice (.slice (.int .i64)))]), (false, [.data .bool])], [], fun x k => c x.1.1.1 x.1.2.1.1 (fun r0 r1 => k (((r0, ()), (r1, ()), ()), ()))⟩
noncomputable def constraint_Close_p1_code : Code := codeAt 122 (bodyOf Tryz.f69)
noncomputable def constraint_Close_p5_code : Code := codeAt 250 (bodyOf Tryz.f69)
noncomputable def constraint_Close_p6_code : Code := codeAt 506 (bodyOf Tryz.f69)
noncomputable def constraint_Close_p4_code : Code := codeAt 458 (loopBody constraint_Close_p5_code)
noncomputable def constraint_Close_p3_code : Code := codeAt 230 (loopBody constraint_Close_p4_code)
noncomputable def constraint_Close_p2_code : Code := codeAt 115 (loopBody constraint_Close_p3_code)
abbrev zqna (β : Type) := Int → (List (List Int)) → Option β
abbrev zqnb := {β : Type} → zqna β → Int → Int → Int → (List (List Int)) → Option β
def zqnc : View := ⟨0, [0, 6, 19, 20], [(false, [.data (.int .i64)]), (false, [.math 0]), (false, [.data (.int .i64)]), (false, [.data (.int .i64)])], [.mat 22 3 (.int .i64)]⟩
def zqnd : List (AExit × View) := [(.exit 0, ⟨0, [0, 6], [(false, [.data (.int .i64)]), (false, [.math 0])], [.mat 22 3 (.int .i64)]⟩)]
@[reducible] def constraint_Close_p1_G (p : zqnb) {β : Type} (d : zqnc.den) (ks : Outs.K β zqnd) : Option β :=
  p (fun a0 a1 => ks.1 (((a0, ()), (), ()), (a1, ()))) d.1.1.1 d.1.2.2.1.1 d.1.2.2.2.1.1 d.2.1
abbrev zqne (β : Type) := Int → Int → Int → Int → Int → Int → Int → Int → Int → (List (List Int)) → Option β
abbrev zqnf := {β : Type} → zqne β → Int → Int → Int → Int → Int → Int → Int → Int → Int → Int → Bool → (List (List Int)) → Option β
def zqng : View := ⟨0, [0, 6, 8, 9, 10, 38, 39, 42, 43, 46, 47, 67], [(false, [.data (.int .i64)]), (false, [.math 0]), (false, [.data (.int .i64)]), (false, [.data (.int .i64)]), (false, [.data (.int .i64)]), (false, [.data (.int .i64)]), (false, [.data (.int .i64)]), (false, [.data (.int .i64)]), (false, [.data (.int .i64)]), (false, [.data (.int .i64)]), (false, [.data (.int .i64)]), (false, [.data .bool])], [.mat 22 3 (.int .i64)]⟩
def zqnh : List (AExit × View) := [(.normal, ⟨0, [0, 6, 8, 9, 38, 39, 42, 43, 46, 47], [(false, [.data (.int .i64)]), (false, [.math 0]), (false, [.data (.int .i64)]), (false, [.data (.int .i64)]), (false, [.data (.int .i64)]), (false, [.data (.int .i64)]), (false, [.data (.int .i64)]), (false, [.data (.int .i64)]), (false, [.data (.int .i64)]), (false, [.data (.int .i64)])], [.mat 22 3 (.int .i64)]⟩)]
@[reducible] def constraint_Close_p2_G (p : zqnf) {β : Type} (d : zqng.den) (ks : Outs.K β zqnh) : Option β :=
  p (fun a0 a1 a2 a3 a4 a5 a6 a7 a8 a9 => ks.1 (((a0, ()), (), (a1, ()), (a2, ()), (a3, ()), (a4, ()), (a5, ()), (a6, ()), (a7, ()), (a8, ()), ()), (a9, ()))) d.1.1.1 d.1.2.2.1.1 d.1.2.2.2.1.1 d.1.2.2.2.2.1.1 d.1.2.2.2.2.2.1.1 d.1.2.2.2.2.2.2.1.1 d.1.2.2.2.2.2.2.2.1.1 d.1.2.2.2.2.2.2.2.2.1.1 d.1.2.2.2.2.2.2.2.2.2.1.1 d.1.2.2.2.2.2.2.2.2.2.2.1.1 d.1.2.2.2.2.2.2.2.2.2.2.2.1.1 d.2.1
abbrev zqni (β : Type) := Int → Int → Int → Int → Int → Int → (List (List Int)) → Option β
abbrev zqnj := {β : Type} → zqni β → Int → Int → Int → Int → Int → Int → Int → Int → Int → (List (List Int)) → Option β
def zqnk : View := ⟨0, [0, 6, 8, 9, 38, 39, 42, 43, 46, 47], [(false, [.data (.int .i64)]), (false, [.math 0]), (false, [.data (.int .i64)]), (false, [.data (.int .i64)]), (false, [.data (.int .i64)]), (false, [.data (.int .i64)]), (false, [.data (.int .i64)]), (false, [.data (.int .i64)]), (false, [.data (.int .i64)]), (false, [.data (.int .i64)])], [.mat 22 3 (.int .i64)]⟩
def zqnl : List (AExit × View) := [(.exit 6, ⟨0, [0, 6, 8, 38, 39, 42, 43], [(false, [.data (.int .i64)]), (false, [.math 0]), (false, [.data (.int .i64)]), (false, [.data (.int .i64)]), (false, [.data (.int .i64)]), (false, [.data (.int .i64)]), (false, [.data (.int .i64)])], [.mat 22 3 (.int .i64)]⟩)]
@[reducible] def constraint_Close_p3_G (p : zqnj) {β : Type} (d : zqnk.den) (ks : Outs.K β zqnl) : Option β :=
  p (fun a0 a1 a2 a3 a4 a5 a6 => ks.1 (((a0, ()), (), (a1, ()), (a2, ()), (a3, ()), (a4, ()), (a5, ()), ()), (a6, ()))) d.1.1.1 d.1.2.2.1.1 d.1.2.2.2.1.1 d.1.2.2.2.2.1.1 d.1.2.2.2.2.2.1.1 d.1.2.2.2.2.2.2.1.1 d.1.2.2.2.2.2.2.2.1.1 d.1.2.2.2.2.2.2.2.2.1.1 d.1.2.2.2.2.2.2.2.2.2.1.1 d.2.1
abbrev zqnm (β : Type) := Int → Int → Int → Int → (List (List Int)) → Option β
abbrev zqnn := {β : Type} → zqnm β → Int → Int → Int → Int → Int → Int → (List (List Int)) → Option β
def zqno : View := ⟨0, [0, 6, 8, 38, 39, 42, 43], [(false, [.data (.int .i64)]), (false, [.math 0]), (false, [.data (.int .i64)]), (false, [.data (.int .i64)]), (false, [.data (.int .i64)]), (false, [.data (.int .i64)]), (false, [.data (.int .i64)])], [.mat 22 3 (.int .i64)]⟩
def zqnp : List (AExit × View) := [(.exit 4, ⟨0, [0, 6, 8, 38, 39], [(false, [.data (.int .i64)]), (false, [.math 0]), (false, [.data (.int .i64)]), (false, [.data (.int .i64)]), (false, [.data (.int .i64)])], [.mat 22 3 (.int .i64)]⟩)]
@[reducible] def constraint_Close_p4_G (p : zqnn) {β : Type} (d : zqno.den) (ks : Outs.K β zqnp) : Option β :=
  p (fun a0 a1 a2 a3 a4 => ks.1 (((a0, ()), (), (a1, ()), (a2, ()), (a3, ()), ()), (a4, ()))) d.1.1.1 d.1.2.2.1.1 d.1.2.2.2.1.1 d.1.2.2.2.2.1.1 d.1.2.2.2.2.2.1.1 d.1.2.2.2.2.2.2.1.1 d.2.1
abbrev zqnq (β : Type) := Bool → (List (List Int)) → Option β
abbrev zqnr (β : Type) := Int → (List (List Int)) → Option β
abbrev zqns := {β : Type} → zqnq β → zqnr β → Int → Int → Int → (List (List Int)) → Option β
def zqnt : View := ⟨0, [0, 6, 38, 39], [(false, [.data (.int .i64)]), (false, [.math 0]), (false, [.data (.int .i64)]), (false, [.data (.int .i64)])], [.mat 22 3 (.int .i64)]⟩
def zqnu : List (AExit × View) := [(.ret, ⟨0, [4, 5], [(false, [.math 0]), (false, [.data .bool])], [.mat 22 3 (.int .i64)]⟩), (.exit 2, ⟨0, [0, 6], [(false, [.data (.int .i64)]), (false, [.math 0])], [.mat 22 3 (.int .i64)]⟩)]
@[reducible] def constraint_Close_p5_G (p : zqns) {β : Type} (d : zqnt.den) (ks : Outs.K β zqnu) : Option β :=
  p (fun a0 a1 => ks.1 (((), (a0, ()), ()), (a1, ()))) (fun a0 a1 => ks.2.1 (((a0, ()), (), ()), (a1, ()))) d.1.1.1 d.1.2.2.1.1 d.1.2.2.2.1.1 d.2.1
abbrev zqnv (β : Type) := Bool → (List (List Int)) → Option β
abbrev zqnw (β : Type) := (List (List Int)) → Option β
abbrev zqnx := {β : Type} → zqnv β → zqnw β → Int → Int → (List (List Int)) → Option β
def zqny : View := ⟨0, [6, 108, 109], [(false, [.math 0]), (false, [.data (.int .i64)]), (false, [.data (.int .i64)])], [.mat 22 3 (.int .i64)]⟩
def zqnz : List (AExit × View) := [(.ret, ⟨0, [4, 5], [(false, [.math 0]), (false, [.data .bool])], [.mat 22 3 (.int .i64)]⟩), (.exit 8, ⟨0, [6], [(false, [.math 0])], [.mat 22 3 (.int .i64)]⟩)]
@[reducible] def constraint_Close_p6_G (p : zqnx) {β : Type} (d : zqny.den) (ks : Outs.K β zqnz) : Option β :=
  p (fun a0 a1 => ks.1 (((), (a0, ()), ()), (a1, ()))) (fun a0 => ks.2.1 (((), ()), (a0, ()))) d.1.2.1.1 d.1.2.2.1.1 d.2.1
section
variable (c_constraint_Valid : zqn1) (c_constraint_direct : zq88)
@[reducible] def constraint_Close_X : Ctx := ⟨look tab, pick1 [(83, .spec (zqn2 c_constraint_Valid)), (84, .spec (zq89 c_constraint_direct))], true, false, false, false⟩
def zqo0 {β : Type} (rec : Int → Int → Int → (List (List Int)) → Option β) (k1 : zqna β) (n : Int) (t19 : Int) (t20 : Int) (m : List (List Int)) : Option β :=
  cond (decide (t20 < t19))
  (cond (decide (0 ≤ t20) && decide (t20 < (List.length m : Int)))
  (cond (decide (0 ≤ t20) && decide (t20 < (List.length m : Int)))
  (cond (decide (0 ≤ t20) && decide (t20 < (List.length (List.getD m (Int.toNat t20) []) : Int)))
  (cond (decide (0 ≤ t20) && decide (t20 < (List.length (List.getD m (Int.toNat t20) []) : Int)))
  (let m_ : List (List Int) := (List.set m (Int.toNat t20) (List.set (List.getD m (Int.toNat t20) []) (Int.toNat t20) (if (0 : Int) < (List.getD (List.getD m (Int.toNat t20) []) (Int.toNat t20) (0 : Int)) then (0 : Int) else (List.getD (List.getD m (Int.toNat t20) []) (Int.toNat t20) (0 : Int)))));
  rec n t19 (IntKind.i64.wrap (t20 + (1 : Int))) m_)
  none)
  none)
  none)
  none)
  (k1 n m)
def zqo1 {β : Type} : Nat → zqna β → Int → Int → Int → (List (List Int)) → Option β
  | 0 => fun _ _ _ _ _ => none
  | i + 1 => fun k1 n t19 t20 m => zqo0 (zqo1 i k1) k1 n t19 t20 m
theorem zqo2 (hΓ : ΓOk Tryz.prog (constraint_Close_X c_constraint_Valid c_constraint_direct).Γ) (i : Nat) : PieceOk Tryz.prog 122 0 constraint_Close_p1_code zqnc zqnd (constraint_Close_p1_G (zqo1 i)) := by
  rw [show constraint_Close_p1_code = .loop (loopBody constraint_Close_p1_code) by kernel_rfl]
  exact piece_loop (X := (constraint_Close_X c_constraint_Valid c_constraint_direct)) (p := 1) (Λ := pick1 []) (G := fun i => @fun β d ks => constraint_Close_p1_G (zqo1 i) d ks) mixed tab_ok hΓ rfl (by kernel_rfl) CutsOk_nil (fun _ _ => rfl) (fun i => @fun β d ks r h => Eq.trans (b := constraint_Close_p1_G (zqo1 (i + 1)) d ks) (by kernel_rfl) h) i
def zqo3 {β : Type} (k1 : zqne β) (n : Int) (k_ : Int) (i_ : Int) (j : Int) (t38 : Int) (t39 : Int) (t42 : Int) (t43 : Int) (t46 : Int) (t47 : Int) (t67 : Bool) (m : List (List Int)) : Option β :=
  cond t67
  (cond (decide (0 ≤ i_) && decide (i_ < (List.length m : Int)))
  (cond (decide (0 ≤ i_) && decide (i_ < (List.length m : Int)))
  (cond (decide (0 ≤ j) && decide (j < (List.length (List.getD m (Int.toNat i_) []) : Int)))
  (cond (decide (0 ≤ i_) && decide (i_ < (List.length m : Int)))
  (cond (decide (0 ≤ k_) && decide (k_ < (List.length (List.getD m (Int.toNat i_) []) : Int)))
  (cond (decide (0 ≤ k_) && decide (k_ < (List.length m : Int)))
  (cond (decide (0 ≤ j) && decide (j < (List.length (List.getD m (Int.toNat k_) []) : Int)))
  (cond (decide (0 ≤ j) && decide (j < (List.length (List.getD m (Int.toNat i_) []) : Int)))
  (let m_ : List (List Int) := (List.set m (Int.toNat i_) (List.set (List.getD m (Int.toNat i_) []) (Int.toNat j) (if (IntKind.i64.wrap ((List.getD (List.getD m (Int.toNat i_) []) (Int.toNat k_) (0 : Int)) + (List.getD (List.getD m (Int.toNat k_) []) (Int.toNat j) (0 : Int)))) < (List.getD (List.getD m (Int.toNat i_) []) (Int.toNat j) (0 : Int)) then (IntKind.i64.wrap ((List.getD (List.getD m (Int.toNat i_) []) (Int.toNat k_) (0 : Int)) + (List.getD (List.getD m (Int.toNat k_) []) (Int.toNat j) (0 : Int)))) else (List.getD (List.getD m (Int.toNat i_) []) (Int.toNat j) (0 : Int)))));
  k1 n k_ i_ t38 t39 t42 t43 t46 t47 m_)
  none)
  none)
  none)
  none)
  none)
  none)
  none)
  none)
  (k1 n k_ i_ t38 t39 t42 t43 t46 t47 m)
def zqo4 {β : Type} (k1 : zqne β) (n : Int) (k_ : Int) (i_ : Int) (j : Int) (t38 : Int) (t39 : Int) (t42 : Int) (t43 : Int) (t46 : Int) (t47 : Int) (t67 : Bool) (m : List (List Int)) : Option β := zqo3 k1 n k_ i_ j t38 t39 t42 t43 t46 t47 t67 m
theorem zqo5 (hΓ : ΓOk Tryz.prog (constraint_Close_X c_constraint_Valid c_constraint_direct).Γ) : PieceOk Tryz.prog 122 0 constraint_Close_p2_code zqng zqnh (constraint_Close_p2_G (zqo4)) :=
  piece_exec (X := (constraint_Close_X c_constraint_Valid c_constraint_direct)) (p := 115) (Λ := pick1 []) mixed tab_ok hΓ (by kernel_rfl) CutsOk_nil (fun d ks r h => Eq.trans (b := constraint_Close_p2_G (zqo4) d ks) (by kernel_rfl) h)
def zqo6 (p2 : zqnf) {β : Type} (rec : Int → Int → Int → Int → Int → Int → Int → Int → Int → (List (List Int)) → Option β) (k1 : zqni β) (n : Int) (k_ : Int) (i_ : Int) (t38 : Int) (t39 : Int) (t42 : Int) (t43 : Int) (t46 : Int) (t47 : Int) (m : List (List Int)) : Option β :=
  cond (decide (t47 < t46))
  (cond (decide (0 ≤ i_) && decide (i_ < (List.length m : Int)))
  (cond (decide (0 ≤ k_) && decide (k_ < (List.length (List.getD m (Int.toNat i_) []) : Int)))
  (cond (!decide ((List.getD (List.getD m (Int.toNat i_) []) (Int.toNat k_) (0 : Int)) = (1099511627776 : Int)))
  (cond (decide (0 ≤ k_) && decide (k_ < (List.length m : Int)))
  (cond (decide (0 ≤ t47) && decide (t47 < (List.length (List.getD m (Int.toNat k_) []) : Int)))
  (p2 (fun (n2 : Int) (k_2 : Int) (i_2 : Int) (t382 : Int) (t392 : Int) (t422 : Int) (t432 : Int) (t462 : Int) (t472 : Int) (m2 : List (List Int)) =>
  rec n2 k_2 i_2 t382 t392 t422 t432 t462 (IntKind.i64.wrap (t472 + (1 : Int))) m2) n k_ i_ t47 t38 t39 t42 t43 t46 t47 (!decide ((List.getD (List.getD m (Int.toNat k_) []) (Int.toNat t47) (0 : Int)) = (1099511627776 : Int))) m)
  none)
  none)
  (p2 (fun (n2 : Int) (k_2 : Int) (i_2 : Int) (t382 : Int) (t392 : Int) (t422 : Int) (t432 : Int) (t462 : Int) (t472 : Int) (m2 : List (List Int)) =>
  rec n2 k_2 i_2 t382 t392 t422 t432 t462 (IntKind.i64.wrap (t472 + (1 : Int))) m2) n k_ i_ t47 t38 t39 t42 t43 t46 t47 false m))
  none)
  none)
  (k1 n k_ t38 t39 t42 t43 m)
def zqo7 (p2 : zqnf) {β : Type} : Nat → zqni β → Int → Int → Int → Int → Int → Int → Int → Int → Int → (List (List Int)) → Option β
  | 0 => fun _ _ _ _ _ _ _ _ _ _ _ => none
  | i + 1 => fun k1 n k_ i_ t38 t39 t42 t43 t46 t47 m => zqo6 p2 (zqo7 p2 i k1) k1 n k_ i_ t38 t39 t42 t43 t46 t47 m
theorem zqo8 (hΓ : ΓOk Tryz.prog (constraint_Close_X c_constraint_Valid c_constraint_direct).Γ) (p2 : zqnf) (hp2 : PieceOk Tryz.prog 122 0 constraint_Close_p2_code zqng zqnh (constraint_Close_p2_G p2)) (i : Nat) : PieceOk Tryz.prog 122 0 constraint_Close_p3_code zqnk zqnl (constraint_Close_p3_G (zqo7 p2 i)) := by
  rw [show constraint_Close_p3_code = .loop (loopBody constraint_Close_p3_code) by kernel_rfl]
  exact piece_loop (X := (constraint_Close_X c_constraint_Valid c_constraint_direct)) (p := 1) (Λ := pick1 [(115, pieceCut zqng zqnh (constraint_Close_p2_G p2))]) (G := fun i => @fun β d ks => constraint_Close_p3_G (zqo7 p2 i) d ks) mixed tab_ok hΓ rfl (by kernel_rfl) (CutsOk_cons (q := 115) (c' := constraint_Close_p2_code) (by kernel_rfl) rfl hp2 CutsOk_nil) (fun _ _ => rfl) (fun i => @fun β d ks r h => Eq.trans (b := constraint_Close_p3_G (zqo7 p2 (i + 1)) d ks) (by kernel_rfl) h) i
def zqo9 (p3 : zqnj) {β : Type} (rec : Int → Int → Int → Int → Int → Int → (List (List Int)) → Option β) (k1 : zqnm β) (n : Int) (k_ : Int) (t38 : Int) (t39 : Int) (t42 : Int) (t43 : Int) (m : List (List Int)) : Option β :=
  cond (decide (t43 < t42))
  (p3 (fun (n2 : Int) (k_2 : Int) (t382 : Int) (t392 : Int) (t422 : Int) (t432 : Int) (m2 : List (List Int)) =>
  rec n2 k_2 t382 t392 t422 (IntKind.i64.wrap (t432 + (1 : Int))) m2) n k_ t43 t38 t39 t42 t43 n (0 : Int) m)
  (k1 n k_ t38 t39 m)
def zqoa (p3 : zqnj) {β : Type} : Nat → zqnm β → Int → Int → Int → Int → Int → Int → (List (List Int)) → Option β
  | 0 => fun _ _ _ _ _ _ _ _ => none
  | i + 1 => fun k1 n k_ t38 t39 t42 t43 m => zqo9 p3 (zqoa p3 i k1) k1 n k_ t38 t39 t42 t43 m
theorem zqob (hΓ : ΓOk Tryz.prog (constraint_Close_X c_constraint_Valid c_constraint_direct).Γ) (p3 : zqnj) (hp3 : PieceOk Tryz.prog 122 0 constraint_Close_p3_code zqnk zqnl (constraint_Close_p3_G p3)) (i : Nat) : PieceOk Tryz.prog 122 0 constraint_Close_p4_code zqno zqnp (constraint_Close_p4_G (zqoa p3 i)) := by
  rw [show constraint_Close_p4_code = .loop (loopBody constraint_Close_p4_code) by kernel_rfl]
  exact piece_loop (X := (constraint_Close_X c_constraint_Valid c_constraint_direct)) (p := 1) (Λ := pick1 [(230, pieceCut zqnk zqnl (constraint_Close_p3_G p3))]) (G := fun i => @fun β d ks => constraint_Close_p4_G (zqoa p3 i) d ks) mixed tab_ok hΓ rfl (by kernel_rfl) (CutsOk_cons (q := 230) (c' := constraint_Close_p3_code) (by kernel_rfl) rfl hp3 CutsOk_nil) (fun _ _ => rfl) (fun i => @fun β d ks r h => Eq.trans (b := constraint_Close_p4_G (zqoa p3 (i + 1)) d ks) (by kernel_rfl) h) i
def zqoc (p4 : zqnn) {β : Type} (rec : Int → Int → Int → (List (List Int)) → Option β) (k1 : zqnq β) (k2 : zqnr β) (n : Int) (t38 : Int) (t39 : Int) (m : List (List Int)) : Option β :=
  cond (decide (t39 < t38))
  (p4 (fun (n2 : Int) (k_ : Int) (t382 : Int) (t392 : Int) (m2 : List (List Int)) =>
  cond (decide (0 ≤ k_) && decide (k_ < (List.length m2 : Int)))
  (cond (decide (0 ≤ k_) && decide (k_ < (List.length (List.getD m2 (Int.toNat k_) []) : Int)))
  (cond (decide ((List.getD (List.getD m2 (Int.toNat k_) []) (Int.toNat k_) (0 : Int)) < (0 : Int)))
  (k1 false ([] : List (List Int)))
  (rec n2 t382 (IntKind.i64.wrap (t392 + (1 : Int))) m2))
  none)
  none) n t39 t38 t39 n (0 : Int) m)
  (k2 n m)
def zqod (p4 : zqnn) {β : Type} : Nat → zqnq β → zqnr β → Int → Int → Int → (List (List Int)) → Option β
  | 0 => fun _ _ _ _ _ _ => none
  | i + 1 => fun k1 k2 n t38 t39 m => zqoc p4 (zqod p4 i k1 k2) k1 k2 n t38 t39 m
theorem zqoe (hΓ : ΓOk Tryz.prog (constraint_Close_X c_constraint_Valid c_constraint_direct).Γ) (p4 : zqnn) (hp4 : PieceOk Tryz.prog 122 0 constraint_Close_p4_code zqno zqnp (constraint_Close_p4_G p4)) (i : Nat) : PieceOk Tryz.prog 122 0 constraint_Close_p5_code zqnt zqnu (constraint_Close_p5_G (zqod p4 i)) := by
  rw [show constraint_Close_p5_code = .loop (loopBody constraint_Close_p5_code) by kernel_rfl]
  exact piece_loop (X := (constraint_Close_X c_constraint_Valid c_constraint_direct)) (p := 1) (Λ := pick1 [(458, pieceCut zqno zqnp (constraint_Close_p4_G p4))]) (G := fun i => @fun β d ks => constraint_Close_p5_G (zqod p4 i) d ks) mixed tab_ok hΓ rfl (by kernel_rfl) (CutsOk_cons (q := 458) (c' := constraint_Close_p4_code) (by kernel_rfl) rfl hp4 CutsOk_nil) (fun _ _ => rfl) (fun i => @fun β d ks r h => Eq.trans (b := constraint_Close_p5_G (zqod p4 (i + 1)) d ks) (by kernel_rfl) h) i
def zqof {β : Type} (rec : Int → Int → (List (List Int)) → Option β) (k1 : zqnv β) (k2 : zqnw β) (t108 : Int) (t109 : Int) (m : List (List Int)) : Option β :=
  cond (decide (t109 < t108))
  (cond (decide (0 ≤ t109) && decide (t109 < (List.length m : Int)))
  (cond (decide (0 ≤ t109) && decide (t109 < (List.length (List.getD m (Int.toNat t109) []) : Int)))
  (cond (decide ((List.getD (List.getD m (Int.toNat t109) []) (Int.toNat t109) (0 : Int)) < (0 : Int)))
  (k1 false ([] : List (List Int)))
  (rec t108 (IntKind.i64.wrap (t109 + (1 : Int))) m))
  none)
  none)
  (k2 m)
def zqog {β : Type} : Nat → zqnv β → zqnw β → Int → Int → (List (List Int)) → Option β
  | 0 => fun _ _ _ _ _ => none
  | i + 1 => fun k1 k2 t108 t109 m => zqof (zqog i k1 k2) k1 k2 t108 t109 m
theorem zqoh (hΓ : ΓOk Tryz.prog (constraint_Close_X c_constraint_Valid c_constraint_direct).Γ) (i : Nat) : PieceOk Tryz.prog 122 0 constraint_Close_p6_code zqny zqnz (constraint_Close_p6_G (zqog i)) := by
  rw [show constraint_Close_p6_code = .loop (loopBody constraint_Close_p6_code) by kernel_rfl]
  exact piece_loop (X := (constraint_Close_X c_constraint_Valid c_constraint_direct)) (p := 1) (Λ := pick1 []) (G := fun i => @fun β d ks => constraint_Close_p6_G (zqog i) d ks) mixed tab_ok hΓ rfl (by kernel_rfl) CutsOk_nil (fun _ _ => rfl) (fun i => @fun β d ks r h => Eq.trans (b := constraint_Close_p6_G (zqog (i + 1)) d ks) (by kernel_rfl) h) i
def zqoi (p1 : zqnb) (p5 : zqns) (p6 : zqnx) {β : Type} (n : Int) (l : List (Int × (Int × Int))) (k : ((List (List Int)) → Bool → Option β)) : Option β :=
  c_constraint_Valid n l (fun (rValid : Bool) =>
  cond (!rValid)
  (k ([] : List (List Int)) false)
  (c_constraint_direct n l (fun (lrdirect : List (List Int)) =>
  p1 (fun (n2 : Int) (m : List (List Int)) =>
  p5 (fun (t5 : Bool) (t4 : List (List Int)) =>
  k t4 t5) (fun (n3 : Int) (m2 : List (List Int)) =>
  p6 (fun (t5 : Bool) (t4 : List (List Int)) =>
  k t4 t5) (fun (m3 : List (List Int)) =>
  k m3 true) n3 (0 : Int) m2) n2 n2 (0 : Int) m) n n (0 : Int) lrdirect)))
theorem zqoj (hΓ : ΓOk Tryz.prog (constraint_Close_X c_constraint_Valid c_constraint_direct).Γ) (p1 : zqnb) (p5 : zqns) (p6 : zqnx) (hp1 : PieceOk Tryz.prog 122 0 constraint_Close_p1_code zqnc zqnd (constraint_Close_p1_G p1)) (hp5 : PieceOk Tryz.prog 122 0 constraint_Close_p5_code zqnt zqnu (constraint_Close_p5_G p5)) (hp6 : PieceOk Tryz.prog 122 0 constraint_Close_p6_code zqny zqnz (constraint_Close_p6_G p6)) : SpecOk Tryz.prog 69 (zqn9 (zqoi c_constraint_Valid c_constraint_direct p1 p5 p6)) :=
  spec_exec (X := (constraint_Close_X c_constraint_Valid c_constraint_direct)) (Λ := pick1 [(122, pieceCut zqnc zqnd (constraint_Close_p1_G p1)), (250, pieceCut zqnt zqnu (constraint_Close_p5_G p5)), (506, pieceCut zqny zqnz (constraint_Close_p6_G p6))]) (rs := [.tmp 4, .tmp 5]) (c := bodyOf Tryz.f69) mixed tab_ok hΓ Tryz.func69 (by kernel_rfl) (by kernel_rfl) (by kernel_rfl) (by kernel_rfl) (CutsOk_cons (q := 122) (c' := constraint_Close_p1_code) (by kernel_rfl) rfl hp1 (CutsOk_cons (q := 250) (c' := constraint_Close_p5_code) (by kernel_rfl) rfl hp5 (CutsOk_cons (q := 506) (c' := constraint_Close_p6_code) (by kernel_rfl) rfl hp6 CutsOk_nil))) (fun x k r h => Eq.trans (b := (zqn9 (zqoi c_constraint_Valid c_constraint_direct p1 p5 p6)).run x k) (by kernel_rfl) h)
end
theorem zqokΓ : ΓOk Tryz.prog (pick1 [(83, .spec (zqn2 zqn6)), (84, .spec (zq89 zq9a))]) := (ΓOk_cons zqn7 (ΓOk_cons zq9b ΓOk_nil))
def zqol (m : Nat) : zqnb := zqo1 m
theorem zqom {β : Type} (i : Nat) (k1 n t19 t20 m) : (zqol (i + 1) k1 n t19 t20 m : Option β) = zqo0 (zqol i k1) k1 n t19 t20 m := rfl
def zqon : zqnb := zqol fuel
theorem zqoo : PieceOk Tryz.prog 122 0 constraint_Close_p1_code zqnc zqnd (constraint_Close_p1_G zqon) := zqo2 zqn6 zq9a zqokΓ fuel
def zqop : zqnf := zqo4
theorem zqoq : PieceOk Tryz.prog 122 0 constraint_Close_p2_code zqng zqnh (constraint_Close_p2_G zqop) := zqo5 zqn6 zq9a zqokΓ
def zqor (m : Nat) : zqnj := zqo7 zqop m
theorem zqos {β : Type} (i : Nat) (k1 n k_ i_ t38 t39 t42 t43 t46 t47 m) : (zqor (i + 1) k1 n k_ i_ t38 t39 t42 t43 t46 t47 m : Option β) = zqo6 zqop (zqor i k1) k1 n k_ i_ t38 t39 t42 t43 t46 t47 m := rfl
def zqot : zqnj := zqor fuel
theorem zqou : PieceOk Tryz.prog 122 0 constraint_Close_p3_code zqnk zqnl (constraint_Close_p3_G zqot) := zqo8 zqn6 zq9a zqokΓ zqop zqoq fuel
def zqov (m : Nat) : zqnn := zqoa zqot m
theorem zqow {β : Type} (i : Nat) (k1 n k_ t38 t39 t42 t43 m) : (zqov (i + 1) k1 n k_ t38 t39 t42 t43 m : Option β) = zqo9 zqot (zqov i k1) k1 n k_ t38 t39 t42 t43 m := rfl
def zqox : zqnn := zqov fuel
theorem zqoy : PieceOk Tryz.prog 122 0 constraint_Close_p4_code zqno zqnp (constraint_Close_p4_G zqox) := zqob zqn6 zq9a zqokΓ zqot zqou fuel
def zqoz (m : Nat) : zqns := zqod zqox m
theorem zqp0 {β : Type} (i : Nat) (k1 k2 n t38 t39 m) : (zqoz (i + 1) k1 k2 n t38 t39 m : Option β) = zqoc zqox (zqoz i k1 k2) k1 k2 n t38 t39 m := rfl
def zqp1 : zqns := zqoz fuel
theorem zqp2 : PieceOk Tryz.prog 122 0 constraint_Close_p5_code zqnt zqnu (constraint_Close_p5_G zqp1) := zqoe zqn6 zq9a zqokΓ zqox zqoy fuel
def zqp3 (m : Nat) : zqnx := zqog m
theorem zqp4 {β : Type} (i : Nat) (k1 k2 t108 t109 m) : (zqp3 (i + 1) k1 k2 t108 t109 m : Option β) = zqof (zqp3 i k1 k2) k1 k2 t108 t109 m := rfl
def zqp5 : zqnx := zqp3 fuel
theorem zqp6 : PieceOk Tryz.prog 122 0 constraint_Close_p6_code zqny zqnz (constraint_Close_p6_G zqp5) := zqoh zqn6 zq9a zqokΓ fuel
def zqp7 : zqn8 := zqoi zqn6 zq9a zqon zqp1 zqp5
theorem zqp8 : SpecOk Tryz.prog 69 (zqn9 zqp7) := zqoj zqn6 zq9a zqokΓ zqon zqp1 zqp5 zqoo zqp2 zqp6

/-- pagewatch/order.closed -/
abbrev zqp9 := {β : Type} → zq2 → ((List (List Int)) → Bool → Option β) → Option β
def zqpa (c : zqp9) : Spec :=
  ⟨[(true, [.data zq3])], [], [(false, [.data (.slice (.slice (.int .i64)))]), (false, [.data .bool])], [], fun x k => c x.1.1.1 (fun r0 r1 => k (((r0, ()), (r1, ()), ()), ()))⟩
section
variable (c_constraint_Close : zqn8) (c_order_Constraints : zqle)
@[reducible] def order_closed_X : Ctx := ⟨look tab, pick1 [(69, .spec (zqn9 c_constraint_Close)), (68, .spec (zqlf c_order_Constraints))], false, false, false, false⟩
def zqpb {β : Type} (r_ : zq2) (k : ((List (List Int)) → Bool → Option β)) : Option β :=
  c_order_Constraints r_ (fun (rConstraints : Bool) (lrConstraints : List (Int × (Int × Int))) =>
  cond (!rConstraints)
  (k ([] : List (List Int)) false)
  (c_constraint_Close (IntKind.i64.wrap ((List.length r_.2.2.1 : Int) + (1 : Int))) lrConstraints (fun (rClose : List (List Int)) (rClose2 : Bool) =>
  k rClose rClose2)))
theorem zqpc (hΓ : ΓOk Tryz.prog (order_closed_X c_constraint_Close c_order_Constraints).Γ) : SpecOk Tryz.prog 44 (zqpa (zqpb c_constraint_Close c_order_Constraints)) :=
  spec_exec (X := (order_closed_X c_constraint_Close c_order_Constraints)) (Λ := pick1 []) (rs := [.tmp 2, .tmp 3]) (c := bodyOf Tryz.f44) mixed tab_ok hΓ Tryz.func44 (by kernel_rfl) (by kernel_rfl) (by kernel_rfl) (by kernel_rfl) CutsOk_nil (fun x k r h => Eq.trans (b := (zqpa (zqpb c_constraint_Close c_order_Constraints)).run x k) (by kernel_rfl) h)
end
theorem zqpdΓ : ΓOk Tryz.prog (pick1 [(69, .spec (zqn9 zqp7)), (68, .spec (zqlf zqms))]) := (ΓOk_cons zqp8 (ΓOk_cons zqmt ΓOk_nil))
def zqpe : zqp9 := zqpb zqp7 zqms
theorem zqpf : SpecOk Tryz.prog 44 (zqpa zqpe) := zqpc zqp7 zqms zqpdΓ

/-- pagewatch/order.When -/
abbrev zqpg := {β : Type} → zq2 → (Bool → (List (Int × Int)) → Option β) → Option β
def zqph (c : zqpg) : Spec :=
  ⟨[(true, [.data zq3])], [], [(false, [.rowh 0]), (false, [.data .bool])], [.row 40 (.prod (.int .i64) (.int .i64))], fun x k => c x.1.1.1 (fun r0 r1 => k (((), (r0, ()), ()), (r1, ())))⟩
noncomputable def order_When_p1_code : Code := codeAt 250 (bodyOf Tryz.f47)
abbrev zqpi (β : Type) := (List (Int × Int)) → Option β
abbrev zqpj := {β : Type} → zqpi β → (List (List Int)) → Int → Int → (List (Int × Int)) → Option β
def zqpk : View := ⟨0, [4, 6, 17, 18], [(false, [.data (.slice (.slice (.int .i64)))]), (false, [.rowh 0]), (false, [.data (.int .i64)]), (false, [.data (.int .i64)])], [.row 40 (.prod (.int .i64) (.int .i64))]⟩
def zqpl : List (AExit × View) := [(.exit 0, ⟨0, [6], [(false, [.rowh 0])], [.row 40 (.prod (.int .i64) (.int .i64))]⟩)]
@[reducible] def order_When_p1_G (p : zqpj) {β : Type} (d : zqpk.den) (ks : Outs.K β zqpl) : Option β :=
  p (fun a0 => ks.1 (((), ()), (a0, ()))) d.1.1.1 d.1.2.2.1.1 d.1.2.2.2.1.1 d.2.1
section
variable (c_order_closed : zqp9) (c_order_matrix_when : zq6q)
@[reducible] def order_When_X : Ctx := ⟨look tab, pick1 [(44, .spec (zqpa c_order_closed)), (70, .spec (zq6r c_order_matrix_when))], false, false, false, false⟩
def zqpm {β : Type} (rec : (List (List Int)) → Int → Int → (List (Int × Int)) → Option β) (k1 : zqpi β) (m : List (List Int)) (t17 : Int) (t18 : Int) (out : List (Int × Int)) : Option β :=
  cond (decide (t18 < t17))
  (c_order_matrix_when m t18 (fun (rwhen : (Int × Int)) =>
  let l : List (Int × Int) := ([rwhen] : List (Int × Int));
  cond (decide ((List.length out + List.length l) * 16 ≤ roomMax))
  (let l2 : List (Int × Int) := (out ++ l);
  rec m t17 (IntKind.i64.wrap (t18 + (1 : Int))) l2)
  none))
  (k1 out)
def zqpn {β : Type} : Nat → zqpi β → (List (List Int)) → Int → Int → (List (Int × Int)) → Option β
  | 0 => fun _ _ _ _ _ => none
  | i + 1 => fun k1 m t17 t18 out => zqpm c_order_matrix_when (zqpn i k1) k1 m t17 t18 out
theorem zqpo (hΓ : ΓOk Tryz.prog (order_When_X c_order_closed c_order_matrix_when).Γ) (i : Nat) : PieceOk Tryz.prog 29 0 order_When_p1_code zqpk zqpl (order_When_p1_G (zqpn c_order_matrix_when i)) := by
  rw [show order_When_p1_code = .loop (loopBody order_When_p1_code) by kernel_rfl]
  exact piece_loop (X := (order_When_X c_order_closed c_order_matrix_when)) (p := 1) (Λ := pick1 []) (G := fun i => @fun β d ks => order_When_p1_G (zqpn c_order_matrix_when i) d ks) mixed tab_ok hΓ rfl (by kernel_rfl) CutsOk_nil (fun _ _ => rfl) (fun i => @fun β d ks r h => Eq.trans (b := order_When_p1_G (zqpn c_order_matrix_when (i + 1)) d ks) (by kernel_rfl) h) i
def zqpp (p1 : zqpj) {β : Type} (r_ : zq2) (k : (Bool → (List (Int × Int)) → Option β)) : Option β :=
  c_order_closed r_ (fun (rclosed : List (List Int)) (rclosed2 : Bool) =>
  cond (!rclosed2)
  (k false ([] : List (Int × Int)))
  (p1 (fun (out : List (Int × Int)) =>
  k true out) rclosed (List.length r_.2.2.1 : Int) (0 : Int) ([] : List (Int × Int))))
theorem zqpq (hΓ : ΓOk Tryz.prog (order_When_X c_order_closed c_order_matrix_when).Γ) (p1 : zqpj) (hp1 : PieceOk Tryz.prog 29 0 order_When_p1_code zqpk zqpl (order_When_p1_G p1)) : SpecOk Tryz.prog 47 (zqph (zqpp c_order_closed p1)) :=
  spec_exec (X := (order_When_X c_order_closed c_order_matrix_when)) (Λ := pick1 [(250, pieceCut zqpk zqpl (order_When_p1_G p1))]) (rs := [.tmp 2, .tmp 3]) (c := bodyOf Tryz.f47) mixed tab_ok hΓ Tryz.func47 (by kernel_rfl) (by kernel_rfl) (by kernel_rfl) (by kernel_rfl) (CutsOk_cons (q := 250) (c' := order_When_p1_code) (by kernel_rfl) rfl hp1 CutsOk_nil) (fun x k r h => Eq.trans (b := (zqph (zqpp c_order_closed p1)).run x k) (by kernel_rfl) h)
end
theorem zqprΓ : ΓOk Tryz.prog (pick1 [(44, .spec (zqpa zqpe)), (70, .spec (zq6r zq6v))]) := (ΓOk_cons zqpf (ΓOk_cons zq6w ΓOk_nil))
def zqps (m : Nat) : zqpj := zqpn zq6v m
theorem zqpt {β : Type} (i : Nat) (k1 m t17 t18 out) : (zqps (i + 1) k1 m t17 t18 out : Option β) = zqpm zq6v (zqps i k1) k1 m t17 t18 out := rfl
def zqpu : zqpj := zqps fuel
theorem zqpv : PieceOk Tryz.prog 29 0 order_When_p1_code zqpk zqpl (order_When_p1_G zqpu) := zqpo zqpe zq6v zqprΓ fuel
def zqpw : zqpg := zqpp zqpe zqpu
theorem zqpx : SpecOk Tryz.prog 47 (zqph zqpw) := zqpq zqpe zq6v zqprΓ zqpu zqpv

/-- pagewatch/order.Open -/
abbrev zqpy := {β : Type} → zq2 → ((List (Int × Int)) → Option β) → Option β
def zqpz (c : zqpy) : Spec :=
  ⟨[(true, [.data zq3])], [], [(false, [.rowh 0])], [.row 58 (.prod (.int .i64) (.int .i64))], fun x k => c x.1.1.1 (fun r0 => k (((), ()), (r0, ())))⟩
noncomputable def order_Open_p2_code : Code := codeAt 122 (bodyOf Tryz.f48)
noncomputable def order_Open_p1_code : Code := codeAt 230 (loopBody order_Open_p2_code)
abbrev zqq0 (β : Type) := (List (List Int)) → Bool → Int → Int → (List (List UInt8 × Int)) → (List (Int × (Int × (Int × Int)))) → (List zq0) → (List (Int × (Int × Int))) → (List (Int × Int)) → Option β
abbrev zqq1 := {β : Type} → zqq0 β → (List (List Int)) → Bool → Int → Int → Int → Int → (List (List UInt8 × Int)) → (List (Int × (Int × (Int × Int)))) → (List zq0) → (List (Int × (Int × Int))) → (List (Int × Int)) → Option β
def zqq2 : View := ⟨0, [1, 3, 4, 5, 6, 7, 15, 16], [(false, [.ptr 0 0]), (false, [.data (.slice (.slice (.int .i64)))]), (false, [.data .bool]), (false, [.rowh 1]), (false, [.data (.int .i64)]), (false, [.data (.int .i64)]), (false, [.data (.int .i64)]), (false, [.data (.int .i64)])], [.cells 32 [.data (.slice (.prod .str (.int .i64))), .data (.slice (.prod (.int .i64) (.prod (.int .i64) (.prod (.int .i64) (.int .i64))))), .data (.slice zq1), .data (.slice (.prod (.int .i64) (.prod (.int .i64) (.int .i64))))], .row 58 (.prod (.int .i64) (.int .i64))]⟩
def zqq3 : List (AExit × View) := [(.exit 2, ⟨0, [1, 3, 4, 5, 15, 16], [(false, [.ptr 0 0]), (false, [.data (.slice (.slice (.int .i64)))]), (false, [.data .bool]), (false, [.rowh 1]), (false, [.data (.int .i64)]), (false, [.data (.int .i64)])], [.cells 32 [.data (.slice (.prod .str (.int .i64))), .data (.slice (.prod (.int .i64) (.prod (.int .i64) (.prod (.int .i64) (.int .i64))))), .data (.slice zq1), .data (.slice (.prod (.int .i64) (.prod (.int .i64) (.int .i64))))], .row 58 (.prod (.int .i64) (.int .i64))]⟩)]
@[reducible] def order_Open_p1_G (p : zqq1) {β : Type} (d : zqq2.den) (ks : Outs.K β zqq3) : Option β :=
  p (fun a0 a1 a2 a3 a4 a5 a6 a7 a8 => ks.1 (((), (a0, ()), (a1, ()), (), (a2, ()), (a3, ()), ()), ((a4, a5, a6, a7, ()), a8, ()))) d.1.2.1.1 d.1.2.2.1.1 d.1.2.2.2.2.1.1 d.1.2.2.2.2.2.1.1 d.1.2.2.2.2.2.2.1.1 d.1.2.2.2.2.2.2.2.1.1 d.2.1.1 d.2.1.2.1 d.2.1.2.2.1 d.2.1.2.2.2.1 d.2.2.1
abbrev zqq4 (β : Type) := (List (Int × Int)) → Option β
abbrev zqq5 := {β : Type} → zqq4 β → (List (List Int)) → Bool → Int → Int → (List (List UInt8 × Int)) → (List (Int × (Int × (Int × Int)))) → (List zq0) → (List (Int × (Int × Int))) → (List (Int × Int)) → Option β
def zqq6 : View := ⟨0, [1, 3, 4, 5, 15, 16], [(false, [.ptr 0 0]), (false, [.data (.slice (.slice (.int .i64)))]), (false, [.data .bool]), (false, [.rowh 1]), (false, [.data (.int .i64)]), (false, [.data (.int .i64)])], [.cells 32 [.data (.slice (.prod .str (.int .i64))), .data (.slice (.prod (.int .i64) (.prod (.int .i64) (.prod (.int .i64) (.int .i64))))), .data (.slice zq1), .data (.slice (.prod (.int .i64) (.prod (.int .i64) (.int .i64))))], .row 58 (.prod (.int .i64) (.int .i64))]⟩
def zqq7 : List (AExit × View) := [(.exit 0, ⟨0, [5], [(false, [.rowh 0])], [.row 58 (.prod (.int .i64) (.int .i64))]⟩)]
@[reducible] def order_Open_p2_G (p : zqq5) {β : Type} (d : zqq6.den) (ks : Outs.K β zqq7) : Option β :=
  p (fun a0 => ks.1 (((), ()), (a0, ()))) d.1.2.1.1 d.1.2.2.1.1 d.1.2.2.2.2.1.1 d.1.2.2.2.2.2.1.1 d.2.1.1 d.2.1.2.1 d.2.1.2.2.1 d.2.1.2.2.2.1 d.2.2.1
section
variable (c_order_closed : zqp9) (c_order_matrix_open : zq6x)
@[reducible] def order_Open_X : Ctx := ⟨look tab, pick1 [(44, .spec (zqpa c_order_closed)), (71, .spec (zq6y c_order_matrix_open))], false, false, false, false⟩
def zqq8 {β : Type} (rec : (List (List Int)) → Bool → Int → Int → Int → Int → (List (List UInt8 × Int)) → (List (Int × (Int × (Int × Int)))) → (List zq0) → (List (Int × (Int × Int))) → (List (Int × Int)) → Option β) (k1 : zqq0 β) (m : List (List Int)) (ok : Bool) (a : Int) (b : Int) (t15 : Int) (t16 : Int) (r_ : List (List UInt8 × Int)) (r_2 : List (Int × (Int × (Int × Int)))) (r_3 : List zq0) (r_4 : List (Int × (Int × Int))) (out : List (Int × Int)) : Option β :=
  cond (decide (b < (List.length r_3 : Int)))
  (cond ok
  (c_order_matrix_open m a b (fun (ropen : Bool) =>
  cond ropen
  (let l : List (Int × Int) := ([(a, b)] : List (Int × Int));
  cond (decide ((List.length out + List.length l) * 16 ≤ roomMax))
  (let l2 : List (Int × Int) := (out ++ l);
  let b2 : Int := (IntKind.i64.wrap (b + (1 : Int)));
  rec m ok a b2 t15 t16 r_ r_2 r_3 r_4 l2)
  none)
  (let b2 : Int := (IntKind.i64.wrap (b + (1 : Int)));
  rec m ok a b2 t15 t16 r_ r_2 r_3 r_4 out)))
  (k1 m ok t15 t16 r_ r_2 r_3 r_4 out))
  (k1 m ok t15 t16 r_ r_2 r_3 r_4 out)
def zqq9 {β : Type} : Nat → zqq0 β → (List (List Int)) → Bool → Int → Int → Int → Int → (List (List UInt8 × Int)) → (List (Int × (Int × (Int × Int)))) → (List zq0) → (List (Int × (Int × Int))) → (List (Int × Int)) → Option β
  | 0 => fun _ _ _ _ _ _ _ _ _ _ _ _ => none
  | i + 1 => fun k1 m ok a b t15 t16 r_ r_2 r_3 r_4 out => zqq8 c_order_matrix_open (zqq9 i k1) k1 m ok a b t15 t16 r_ r_2 r_3 r_4 out
theorem zqqa (hΓ : ΓOk Tryz.prog (order_Open_X c_order_closed c_order_matrix_open).Γ) (i : Nat) : PieceOk Tryz.prog 43 0 order_Open_p1_code zqq2 zqq3 (order_Open_p1_G (zqq9 c_order_matrix_open i)) := by
  rw [show order_Open_p1_code = .loop (loopBody order_Open_p1_code) by kernel_rfl]
  exact piece_loop (X := (order_Open_X c_order_closed c_order_matrix_open)) (p := 1) (Λ := pick1 []) (G := fun i => @fun β d ks => order_Open_p1_G (zqq9 c_order_matrix_open i) d ks) mixed tab_ok hΓ rfl (by kernel_rfl) CutsOk_nil (fun _ _ => rfl) (fun i => @fun β d ks r h => Eq.trans (b := order_Open_p1_G (zqq9 c_order_matrix_open (i + 1)) d ks) (by kernel_rfl) h) i
def zqqb (p1 : zqq1) {β : Type} (rec : (List (List Int)) → Bool → Int → Int → (List (List UInt8 × Int)) → (List (Int × (Int × (Int × Int)))) → (List zq0) → (List (Int × (Int × Int))) → (List (Int × Int)) → Option β) (k1 : zqq4 β) (m : List (List Int)) (ok : Bool) (t15 : Int) (t16 : Int) (r_ : List (List UInt8 × Int)) (r_2 : List (Int × (Int × (Int × Int)))) (r_3 : List zq0) (r_4 : List (Int × (Int × Int))) (out : List (Int × Int)) : Option β :=
  cond (decide (t16 < t15))
  (let b : Int := (IntKind.i64.wrap (t16 + (1 : Int)));
  p1 (fun (m2 : List (List Int)) (ok2 : Bool) (t152 : Int) (t162 : Int) (r_5 : List (List UInt8 × Int)) (r_6 : List (Int × (Int × (Int × Int)))) (r_7 : List zq0) (r_8 : List (Int × (Int × Int))) (out2 : List (Int × Int)) =>
  rec m2 ok2 t152 (IntKind.i64.wrap (t162 + (1 : Int))) r_5 r_6 r_7 r_8 out2) m ok t16 b t15 t16 r_ r_2 r_3 r_4 out)
  (k1 out)
def zqqc (p1 : zqq1) {β : Type} : Nat → zqq4 β → (List (List Int)) → Bool → Int → Int → (List (List UInt8 × Int)) → (List (Int × (Int × (Int × Int)))) → (List zq0) → (List (Int × (Int × Int))) → (List (Int × Int)) → Option β
  | 0 => fun _ _ _ _ _ _ _ _ _ _ => none
  | i + 1 => fun k1 m ok t15 t16 r_ r_2 r_3 r_4 out => zqqb p1 (zqqc p1 i k1) k1 m ok t15 t16 r_ r_2 r_3 r_4 out
theorem zqqd (hΓ : ΓOk Tryz.prog (order_Open_X c_order_closed c_order_matrix_open).Γ) (p1 : zqq1) (hp1 : PieceOk Tryz.prog 43 0 order_Open_p1_code zqq2 zqq3 (order_Open_p1_G p1)) (i : Nat) : PieceOk Tryz.prog 43 0 order_Open_p2_code zqq6 zqq7 (order_Open_p2_G (zqqc p1 i)) := by
  rw [show order_Open_p2_code = .loop (loopBody order_Open_p2_code) by kernel_rfl]
  exact piece_loop (X := (order_Open_X c_order_closed c_order_matrix_open)) (p := 1) (Λ := pick1 [(230, pieceCut zqq2 zqq3 (order_Open_p1_G p1))]) (G := fun i => @fun β d ks => order_Open_p2_G (zqqc p1 i) d ks) mixed tab_ok hΓ rfl (by kernel_rfl) (CutsOk_cons (q := 230) (c' := order_Open_p1_code) (by kernel_rfl) rfl hp1 CutsOk_nil) (fun _ _ => rfl) (fun i => @fun β d ks r h => Eq.trans (b := order_Open_p2_G (zqqc p1 (i + 1)) d ks) (by kernel_rfl) h) i
def zqqe (p2 : zqq5) {β : Type} (r_ : zq2) (k : ((List (Int × Int)) → Option β)) : Option β :=
  c_order_closed r_ (fun (rclosed : List (List Int)) (rclosed2 : Bool) =>
  p2 (fun (out : List (Int × Int)) =>
  k out) rclosed rclosed2 (List.length r_.2.2.1 : Int) (0 : Int) r_.1 r_.2.1 r_.2.2.1 r_.2.2.2 ([] : List (Int × Int)))
theorem zqqf (hΓ : ΓOk Tryz.prog (order_Open_X c_order_closed c_order_matrix_open).Γ) (p2 : zqq5) (hp2 : PieceOk Tryz.prog 43 0 order_Open_p2_code zqq6 zqq7 (order_Open_p2_G p2)) : SpecOk Tryz.prog 48 (zqpz (zqqe c_order_closed p2)) :=
  spec_exec (X := (order_Open_X c_order_closed c_order_matrix_open)) (Λ := pick1 [(122, pieceCut zqq6 zqq7 (order_Open_p2_G p2))]) (rs := [.tmp 2]) (c := bodyOf Tryz.f48) mixed tab_ok hΓ Tryz.func48 (by kernel_rfl) (by kernel_rfl) (by kernel_rfl) (by kernel_rfl) (CutsOk_cons (q := 122) (c' := order_Open_p2_code) (by kernel_rfl) rfl hp2 CutsOk_nil) (fun x k r h => Eq.trans (b := (zqpz (zqqe c_order_closed p2)).run x k) (by kernel_rfl) h)
end
theorem zqqgΓ : ΓOk Tryz.prog (pick1 [(44, .spec (zqpa zqpe)), (71, .spec (zq6y zq72))]) := (ΓOk_cons zqpf (ΓOk_cons zq73 ΓOk_nil))
def zqqh (m : Nat) : zqq1 := zqq9 zq72 m
theorem zqqi {β : Type} (i : Nat) (k1 m ok a b t15 t16 r_ r_2 r_3 r_4 out) : (zqqh (i + 1) k1 m ok a b t15 t16 r_ r_2 r_3 r_4 out : Option β) = zqq8 zq72 (zqqh i k1) k1 m ok a b t15 t16 r_ r_2 r_3 r_4 out := rfl
def zqqj : zqq1 := zqqh fuel
theorem zqqk : PieceOk Tryz.prog 43 0 order_Open_p1_code zqq2 zqq3 (order_Open_p1_G zqqj) := zqqa zqpe zq72 zqqgΓ fuel
def zqql (m : Nat) : zqq5 := zqqc zqqj m
theorem zqqm {β : Type} (i : Nat) (k1 m ok t15 t16 r_ r_2 r_3 r_4 out) : (zqql (i + 1) k1 m ok t15 t16 r_ r_2 r_3 r_4 out : Option β) = zqqb zqqj (zqql i k1) k1 m ok t15 t16 r_ r_2 r_3 r_4 out := rfl
def zqqn : zqq5 := zqql fuel
theorem zqqo : PieceOk Tryz.prog 43 0 order_Open_p2_code zqq6 zqq7 (order_Open_p2_G zqqn) := zqqd zqpe zq72 zqqgΓ zqqj zqqk fuel
def zqqp : zqpy := zqqe zqpe zqqn
theorem zqqq : SpecOk Tryz.prog 48 (zqpz zqqp) := zqqf zqpe zq72 zqqgΓ zqqn zqqo

/-- pagewatch/order.Sort -/
abbrev zqqr := {β : Type} → zq2 → (Bool → (List Int) → Option β) → Option β
def zqqs (c : zqqr) : Spec :=
  ⟨[(true, [.data zq3])], [], [(false, [.rowh 0]), (false, [.data .bool])], [.row 3 (.int .i64)], fun x k => c x.1.1.1 (fun r0 r1 => k (((), (r0, ()), ()), (r1, ())))⟩
noncomputable def order_Sort_p3_code : Code := codeAt 506 (bodyOf Tryz.f24)
noncomputable def order_Sort_p2_code : Code := codeAt 458 (loopBody order_Sort_p3_code)
noncomputable def order_Sort_p1_code : Code := codeAt 922 (loopBody order_Sort_p2_code)
abbrev zqqt (β : Type) := (List (List Int)) → Int → Int → Bool → Int → Int → Int → Int → (List (List UInt8 × Int)) → (List (Int × (Int × (Int × Int)))) → (List zq0) → (List (Int × (Int × Int))) → (List (Int × Bool)) → (List Int) → Option β
abbrev zqqu := {β : Type} → zqqt β → (List (List Int)) → Int → Int → Bool → Int → Int → Int → Int → Int → Int → (List (List UInt8 × Int)) → (List (Int × (Int × (Int × Int)))) → (List zq0) → (List (Int × (Int × Int))) → (List (Int × Bool)) → (List Int) → Option β
def zqqv : View := ⟨0, [1, 4, 6, 7, 8, 9, 10, 22, 23, 27, 28, 37, 38], [(false, [.ptr 0 0]), (false, [.data (.slice (.slice (.int .i64)))]), (false, [.maph 1]), (false, [.rowh 2]), (false, [.data (.int .i64)]), (false, [.data (.int .i64)]), (false, [.data .bool]), (false, [.data (.int .i64)]), (false, [.data (.int .i64)]), (false, [.data (.int .i64)]), (false, [.data (.int .i64)]), (false, [.data (.int .i64)]), (false, [.data (.int .i64)])], [.cells 32 [.data (.slice (.prod .str (.int .i64))), .data (.slice (.prod (.int .i64) (.prod (.int .i64) (.prod (.int .i64) (.int .i64))))), .data (.slice zq1), .data (.slice (.prod (.int .i64) (.prod (.int .i64) (.int .i64))))], .map 107 (.int .i64) .bool false, .row 3 (.int .i64)]⟩
def zqqw : List (AExit × View) := [(.exit 4, ⟨0, [1, 4, 6, 7, 8, 9, 10, 22, 23, 27, 28], [(false, [.ptr 0 0]), (false, [.data (.slice (.slice (.int .i64)))]), (false, [.maph 1]), (false, [.rowh 2]), (false, [.data (.int .i64)]), (false, [.data (.int .i64)]), (false, [.data .bool]), (false, [.data (.int .i64)]), (false, [.data (.int .i64)]), (false, [.data (.int .i64)]), (false, [.data (.int .i64)])], [.cells 32 [.data (.slice (.prod .str (.int .i64))), .data (.slice (.prod (.int .i64) (.prod (.int .i64) (.prod (.int .i64) (.int .i64))))), .data (.slice zq1), .data (.slice (.prod (.int .i64) (.prod (.int .i64) (.int .i64))))], .map 107 (.int .i64) .bool false, .row 3 (.int .i64)]⟩)]
@[reducible] def order_Sort_p1_G (p : zqqu) {β : Type} (d : zqqv.den) (ks : Outs.K β zqqw) : Option β :=
  p (fun a0 a1 a2 a3 a4 a5 a6 a7 a8 a9 a10 a11 a12 a13 => ks.1 (((), (a0, ()), (), (), (a1, ()), (a2, ()), (a3, ()), (a4, ()), (a5, ()), (a6, ()), (a7, ()), ()), ((a8, a9, a10, a11, ()), a12, a13, ()))) d.1.2.1.1 d.1.2.2.2.2.1.1 d.1.2.2.2.2.2.1.1 d.1.2.2.2.2.2.2.1.1 d.1.2.2.2.2.2.2.2.1.1 d.1.2.2.2.2.2.2.2.2.1.1 d.1.2.2.2.2.2.2.2.2.2.1.1 d.1.2.2.2.2.2.2.2.2.2.2.1.1 d.1.2.2.2.2.2.2.2.2.2.2.2.1.1 d.1.2.2.2.2.2.2.2.2.2.2.2.2.1.1 d.2.1.1 d.2.1.2.1 d.2.1.2.2.1 d.2.1.2.2.2.1 d.2.2.1 d.2.2.2.1
abbrev zqqx (β : Type) := (List (List Int)) → Int → Int → Int → (List (List UInt8 × Int)) → (List (Int × (Int × (Int × Int)))) → (List zq0) → (List (Int × (Int × Int))) → (List (Int × Bool)) → (List Int) → Option β
abbrev zqqy := {β : Type} → zqqx β → (List (List Int)) → Int → Int → Int → Int → Int → (List (List UInt8 × Int)) → (List (Int × (Int × (Int × Int)))) → (List zq0) → (List (Int × (Int × Int))) → (List (Int × Bool)) → (List Int) → Option β
def zqqz : View := ⟨0, [1, 4, 6, 7, 8, 22, 23, 27, 28], [(false, [.ptr 0 0]), (false, [.data (.slice (.slice (.int .i64)))]), (false, [.maph 1]), (false, [.rowh 2]), (false, [.data (.int .i64)]), (false, [.data (.int .i64)]), (false, [.data (.int .i64)]), (false, [.data (.int .i64)]), (false, [.data (.int .i64)])], [.cells 32 [.data (.slice (.prod .str (.int .i64))), .data (.slice (.prod (.int .i64) (.prod (.int .i64) (.prod (.int .i64) (.int .i64))))), .data (.slice zq1), .data (.slice (.prod (.int .i64) (.prod (.int .i64) (.int .i64))))], .map 107 (.int .i64) .bool false, .row 3 (.int .i64)]⟩
def zqr0 : List (AExit × View) := [(.exit 2, ⟨0, [1, 4, 6, 7, 8, 22, 23], [(false, [.ptr 0 0]), (false, [.data (.slice (.slice (.int .i64)))]), (false, [.maph 1]), (false, [.rowh 2]), (false, [.data (.int .i64)]), (false, [.data (.int .i64)]), (false, [.data (.int .i64)])], [.cells 32 [.data (.slice (.prod .str (.int .i64))), .data (.slice (.prod (.int .i64) (.prod (.int .i64) (.prod (.int .i64) (.int .i64))))), .data (.slice zq1), .data (.slice (.prod (.int .i64) (.prod (.int .i64) (.int .i64))))], .map 107 (.int .i64) .bool false, .row 3 (.int .i64)]⟩)]
@[reducible] def order_Sort_p2_G (p : zqqy) {β : Type} (d : zqqz.den) (ks : Outs.K β zqr0) : Option β :=
  p (fun a0 a1 a2 a3 a4 a5 a6 a7 a8 a9 => ks.1 (((), (a0, ()), (), (), (a1, ()), (a2, ()), (a3, ()), ()), ((a4, a5, a6, a7, ()), a8, a9, ()))) d.1.2.1.1 d.1.2.2.2.2.1.1 d.1.2.2.2.2.2.1.1 d.1.2.2.2.2.2.2.1.1 d.1.2.2.2.2.2.2.2.1.1 d.1.2.2.2.2.2.2.2.2.1.1 d.2.1.1 d.2.1.2.1 d.2.1.2.2.1 d.2.1.2.2.2.1 d.2.2.1 d.2.2.2.1
abbrev zqr1 (β : Type) := (List Int) → Option β
abbrev zqr2 := {β : Type} → zqr1 β → (List (List Int)) → Int → Int → (List (List UInt8 × Int)) → (List (Int × (Int × (Int × Int)))) → (List zq0) → (List (Int × (Int × Int))) → (List (Int × Bool)) → (List Int) → Option β
def zqr3 : View := ⟨0, [1, 4, 6, 7, 22, 23], [(false, [.ptr 0 0]), (false, [.data (.slice (.slice (.int .i64)))]), (false, [.maph 1]), (false, [.rowh 2]), (false, [.data (.int .i64)]), (false, [.data (.int .i64)])], [.cells 32 [.data (.slice (.prod .str (.int .i64))), .data (.slice (.prod (.int .i64) (.prod (.int .i64) (.prod (.int .i64) (.int .i64))))), .data (.slice zq1), .data (.slice (.prod (.int .i64) (.prod (.int .i64) (.int .i64))))], .map 107 (.int .i64) .bool false, .row 3 (.int .i64)]⟩
def zqr4 : List (AExit × View) := [(.exit 0, ⟨0, [7], [(false, [.rowh 0])], [.row 3 (.int .i64)]⟩)]
@[reducible] def order_Sort_p3_G (p : zqr2) {β : Type} (d : zqr3.den) (ks : Outs.K β zqr4) : Option β :=
  p (fun a0 => ks.1 (((), ()), (a0, ()))) d.1.2.1.1 d.1.2.2.2.2.1.1 d.1.2.2.2.2.2.1.1 d.2.1.1 d.2.1.2.1 d.2.1.2.2.1 d.2.1.2.2.2.1 d.2.2.1 d.2.2.2.1
section
variable (c_order_closed : zqp9) (c_order_matrix_before : zq3e) (c_order_matrix_earlier : zqc6)
@[reducible] def order_Sort_X : Ctx := ⟨look tab, pick1 [(44, .spec (zqpa c_order_closed)), (45, .spec (zq3f c_order_matrix_before)), (46, .spec (zqc7 c_order_matrix_earlier))], false, false, false, false⟩
def zqr5 {β : Type} (rec : (List (List Int)) → Int → Int → Bool → Int → Int → Int → Int → Int → Int → (List (List UInt8 × Int)) → (List (Int × (Int × (Int × Int)))) → (List zq0) → (List (Int × (Int × Int))) → (List (Int × Bool)) → (List Int) → Option β) (k1 : zqqt β) (m : List (List Int)) (next : Int) (i_ : Int) (free : Bool) (t22 : Int) (t23 : Int) (t27 : Int) (t28 : Int) (t37 : Int) (t38 : Int) (r_ : List (List UInt8 × Int)) (r_2 : List (Int × (Int × (Int × Int)))) (r_3 : List zq0) (r_4 : List (Int × (Int × Int))) (placed : List (Int × Bool)) (out : List Int) : Option β :=
  cond (decide (t38 < t37))
  (cond free
  (let g : Bool := (mGet (.int .i64) placed t38 false);
  cond g
  (rec m next i_ true t22 t23 t27 t28 t37 (IntKind.i64.wrap (t38 + (1 : Int))) r_ r_2 r_3 r_4 placed out)
  (c_order_matrix_before m t38 i_ (fun (rbefore : Bool) =>
  rec m next i_ (!rbefore) t22 t23 t27 t28 t37 (IntKind.i64.wrap (t38 + (1 : Int))) r_ r_2 r_3 r_4 placed out)))
  (rec m next i_ false t22 t23 t27 t28 t37 (IntKind.i64.wrap (t38 + (1 : Int))) r_ r_2 r_3 r_4 placed out))
  (k1 m next i_ free t22 t23 t27 t28 r_ r_2 r_3 r_4 placed out)
def zqr6 {β : Type} : Nat → zqqt β → (List (List Int)) → Int → Int → Bool → Int → Int → Int → Int → Int → Int → (List (List UInt8 × Int)) → (List (Int × (Int × (Int × Int)))) → (List zq0) → (List (Int × (Int × Int))) → (List (Int × Bool)) → (List Int) → Option β
  | 0 => fun _ _ _ _ _ _ _ _ _ _ _ _ _ _ _ _ _ => none
  | i + 1 => fun k1 m next i_ free t22 t23 t27 t28 t37 t38 r_ r_2 r_3 r_4 placed out => zqr5 c_order_matrix_before (zqr6 i k1) k1 m next i_ free t22 t23 t27 t28 t37 t38 r_ r_2 r_3 r_4 placed out
theorem zqr7 (hΓ : ΓOk Tryz.prog (order_Sort_X c_order_closed c_order_matrix_before c_order_matrix_earlier).Γ) (i : Nat) : PieceOk Tryz.prog 76 0 order_Sort_p1_code zqqv zqqw (order_Sort_p1_G (zqr6 c_order_matrix_before i)) := by
  rw [show order_Sort_p1_code = .loop (loopBody order_Sort_p1_code) by kernel_rfl]
  exact piece_loop (X := (order_Sort_X c_order_closed c_order_matrix_before c_order_matrix_earlier)) (p := 1) (Λ := pick1 []) (G := fun i => @fun β d ks => order_Sort_p1_G (zqr6 c_order_matrix_before i) d ks) mixed tab_ok hΓ rfl (by kernel_rfl) CutsOk_nil (fun _ _ => rfl) (fun i => @fun β d ks r h => Eq.trans (b := order_Sort_p1_G (zqr6 c_order_matrix_before (i + 1)) d ks) (by kernel_rfl) h) i
def zqr8 (p1 : zqqu) {β : Type} (rec : (List (List Int)) → Int → Int → Int → Int → Int → (List (List UInt8 × Int)) → (List (Int × (Int × (Int × Int)))) → (List zq0) → (List (Int × (Int × Int))) → (List (Int × Bool)) → (List Int) → Option β) (k1 : zqqx β) (m : List (List Int)) (next : Int) (t22 : Int) (t23 : Int) (t27 : Int) (t28 : Int) (r_ : List (List UInt8 × Int)) (r_2 : List (Int × (Int × (Int × Int)))) (r_3 : List zq0) (r_4 : List (Int × (Int × Int))) (placed : List (Int × Bool)) (out : List Int) : Option β :=
  cond (decide (t28 < t27))
  (let g : Bool := (mGet (.int .i64) placed t28 false);
  p1 (fun (m2 : List (List Int)) (next2 : Int) (i_ : Int) (free : Bool) (t222 : Int) (t232 : Int) (t272 : Int) (t282 : Int) (r_5 : List (List UInt8 × Int)) (r_6 : List (Int × (Int × (Int × Int)))) (r_7 : List zq0) (r_8 : List (Int × (Int × Int))) (placed2 : List (Int × Bool)) (out2 : List Int) =>
  cond free
  (cond (decide (next2 < (0 : Int)))
  (rec m2 i_ t222 t232 t272 (IntKind.i64.wrap (t282 + (1 : Int))) r_5 r_6 r_7 r_8 placed2 out2)
  (c_order_matrix_earlier m2 i_ next2 (fun (rearlier : Bool) =>
  cond rearlier
  (rec m2 i_ t222 t232 t272 (IntKind.i64.wrap (t282 + (1 : Int))) r_5 r_6 r_7 r_8 placed2 out2)
  (rec m2 next2 t222 t232 t272 (IntKind.i64.wrap (t282 + (1 : Int))) r_5 r_6 r_7 r_8 placed2 out2))))
  (rec m2 next2 t222 t232 t272 (IntKind.i64.wrap (t282 + (1 : Int))) r_5 r_6 r_7 r_8 placed2 out2)) m next t28 (!g) t22 t23 t27 t28 (List.length r_3 : Int) (0 : Int) r_ r_2 r_3 r_4 placed out)
  (k1 m next t22 t23 r_ r_2 r_3 r_4 placed out)
def zqr9 (p1 : zqqu) {β : Type} : Nat → zqqx β → (List (List Int)) → Int → Int → Int → Int → Int → (List (List UInt8 × Int)) → (List (Int × (Int × (Int × Int)))) → (List zq0) → (List (Int × (Int × Int))) → (List (Int × Bool)) → (List Int) → Option β
  | 0 => fun _ _ _ _ _ _ _ _ _ _ _ _ _ => none
  | i + 1 => fun k1 m next t22 t23 t27 t28 r_ r_2 r_3 r_4 placed out => zqr8 c_order_matrix_earlier p1 (zqr9 p1 i k1) k1 m next t22 t23 t27 t28 r_ r_2 r_3 r_4 placed out
theorem zqra (hΓ : ΓOk Tryz.prog (order_Sort_X c_order_closed c_order_matrix_before c_order_matrix_earlier).Γ) (p1 : zqqu) (hp1 : PieceOk Tryz.prog 76 0 order_Sort_p1_code zqqv zqqw (order_Sort_p1_G p1)) (i : Nat) : PieceOk Tryz.prog 76 0 order_Sort_p2_code zqqz zqr0 (order_Sort_p2_G (zqr9 c_order_matrix_earlier p1 i)) := by
  rw [show order_Sort_p2_code = .loop (loopBody order_Sort_p2_code) by kernel_rfl]
  exact piece_loop (X := (order_Sort_X c_order_closed c_order_matrix_before c_order_matrix_earlier)) (p := 1) (Λ := pick1 [(922, pieceCut zqqv zqqw (order_Sort_p1_G p1))]) (G := fun i => @fun β d ks => order_Sort_p2_G (zqr9 c_order_matrix_earlier p1 i) d ks) mixed tab_ok hΓ rfl (by kernel_rfl) (CutsOk_cons (q := 922) (c' := order_Sort_p1_code) (by kernel_rfl) rfl hp1 CutsOk_nil) (fun _ _ => rfl) (fun i => @fun β d ks r h => Eq.trans (b := order_Sort_p2_G (zqr9 c_order_matrix_earlier p1 (i + 1)) d ks) (by kernel_rfl) h) i
def zqrb (p2 : zqqy) {β : Type} (rec : (List (List Int)) → Int → Int → (List (List UInt8 × Int)) → (List (Int × (Int × (Int × Int)))) → (List zq0) → (List (Int × (Int × Int))) → (List (Int × Bool)) → (List Int) → Option β) (k1 : zqr1 β) (m : List (List Int)) (t22 : Int) (t23 : Int) (r_ : List (List UInt8 × Int)) (r_2 : List (Int × (Int × (Int × Int)))) (r_3 : List zq0) (r_4 : List (Int × (Int × Int))) (placed : List (Int × Bool)) (out : List Int) : Option β :=
  cond (decide (t23 < t22))
  (p2 (fun (m2 : List (List Int)) (next : Int) (t222 : Int) (t232 : Int) (r_5 : List (List UInt8 × Int)) (r_6 : List (Int × (Int × (Int × Int)))) (r_7 : List zq0) (r_8 : List (Int × (Int × Int))) (placed2 : List (Int × Bool)) (out2 : List Int) =>
  let m_ : List (Int × Bool) := (mPut (.int .i64) placed2 next true);
  let l : List Int := ([next] : List Int);
  cond (decide ((List.length out2 + List.length l) * 8 ≤ roomMax))
  (let l2 : List Int := (out2 ++ l);
  rec m2 t222 (IntKind.i64.wrap (t232 + (1 : Int))) r_5 r_6 r_7 r_8 m_ l2)
  none) m (-1 : Int) t22 t23 (List.length r_3 : Int) (0 : Int) r_ r_2 r_3 r_4 placed out)
  (k1 out)
def zqrc (p2 : zqqy) {β : Type} : Nat → zqr1 β → (List (List Int)) → Int → Int → (List (List UInt8 × Int)) → (List (Int × (Int × (Int × Int)))) → (List zq0) → (List (Int × (Int × Int))) → (List (Int × Bool)) → (List Int) → Option β
  | 0 => fun _ _ _ _ _ _ _ _ _ _ => none
  | i + 1 => fun k1 m t22 t23 r_ r_2 r_3 r_4 placed out => zqrb p2 (zqrc p2 i k1) k1 m t22 t23 r_ r_2 r_3 r_4 placed out
theorem zqrd (hΓ : ΓOk Tryz.prog (order_Sort_X c_order_closed c_order_matrix_before c_order_matrix_earlier).Γ) (p2 : zqqy) (hp2 : PieceOk Tryz.prog 76 0 order_Sort_p2_code zqqz zqr0 (order_Sort_p2_G p2)) (i : Nat) : PieceOk Tryz.prog 76 0 order_Sort_p3_code zqr3 zqr4 (order_Sort_p3_G (zqrc p2 i)) := by
  rw [show order_Sort_p3_code = .loop (loopBody order_Sort_p3_code) by kernel_rfl]
  exact piece_loop (X := (order_Sort_X c_order_closed c_order_matrix_before c_order_matrix_earlier)) (p := 1) (Λ := pick1 [(458, pieceCut zqqz zqr0 (order_Sort_p2_G p2))]) (G := fun i => @fun β d ks => order_Sort_p3_G (zqrc p2 i) d ks) mixed tab_ok hΓ rfl (by kernel_rfl) (CutsOk_cons (q := 458) (c' := order_Sort_p2_code) (by kernel_rfl) rfl hp2 CutsOk_nil) (fun _ _ => rfl) (fun i => @fun β d ks r h => Eq.trans (b := order_Sort_p3_G (zqrc p2 (i + 1)) d ks) (by kernel_rfl) h) i
def zqre (p3 : zqr2) {β : Type} (r_ : zq2) (k : (Bool → (List Int) → Option β)) : Option β :=
  c_order_closed r_ (fun (rclosed : List (List Int)) (rclosed2 : Bool) =>
  cond (!rclosed2)
  (k false ([] : List Int))
  (let m_ : List (Int × Bool) := ([] : List (Int × Bool));
  p3 (fun (out : List Int) =>
  k true out) rclosed (List.length r_.2.2.1 : Int) (0 : Int) r_.1 r_.2.1 r_.2.2.1 r_.2.2.2 m_ ([] : List Int)))
theorem zqrf (hΓ : ΓOk Tryz.prog (order_Sort_X c_order_closed c_order_matrix_before c_order_matrix_earlier).Γ) (p3 : zqr2) (hp3 : PieceOk Tryz.prog 76 0 order_Sort_p3_code zqr3 zqr4 (order_Sort_p3_G p3)) : SpecOk Tryz.prog 24 (zqqs (zqre c_order_closed p3)) :=
  spec_exec (X := (order_Sort_X c_order_closed c_order_matrix_before c_order_matrix_earlier)) (Λ := pick1 [(506, pieceCut zqr3 zqr4 (order_Sort_p3_G p3))]) (rs := [.tmp 2, .tmp 3]) (c := bodyOf Tryz.f24) mixed tab_ok hΓ Tryz.func24 (by kernel_rfl) (by kernel_rfl) (by kernel_rfl) (by kernel_rfl) (CutsOk_cons (q := 506) (c' := order_Sort_p3_code) (by kernel_rfl) rfl hp3 CutsOk_nil) (fun x k r h => Eq.trans (b := (zqqs (zqre c_order_closed p3)).run x k) (by kernel_rfl) h)
end
theorem zqrgΓ : ΓOk Tryz.prog (pick1 [(44, .spec (zqpa zqpe)), (45, .spec (zq3f zq3j)), (46, .spec (zqc7 zqcb))]) := (ΓOk_cons zqpf (ΓOk_cons zq3k (ΓOk_cons zqcc ΓOk_nil)))
def zqrh (m : Nat) : zqqu := zqr6 zq3j m
theorem zqri {β : Type} (i : Nat) (k1 m next i_ free t22 t23 t27 t28 t37 t38 r_ r_2 r_3 r_4 placed out) : (zqrh (i + 1) k1 m next i_ free t22 t23 t27 t28 t37 t38 r_ r_2 r_3 r_4 placed out : Option β) = zqr5 zq3j (zqrh i k1) k1 m next i_ free t22 t23 t27 t28 t37 t38 r_ r_2 r_3 r_4 placed out := rfl
def zqrj : zqqu := zqrh fuel
theorem zqrk : PieceOk Tryz.prog 76 0 order_Sort_p1_code zqqv zqqw (order_Sort_p1_G zqrj) := zqr7 zqpe zq3j zqcb zqrgΓ fuel
def zqrl (m : Nat) : zqqy := zqr9 zqcb zqrj m
theorem zqrm {β : Type} (i : Nat) (k1 m next t22 t23 t27 t28 r_ r_2 r_3 r_4 placed out) : (zqrl (i + 1) k1 m next t22 t23 t27 t28 r_ r_2 r_3 r_4 placed out : Option β) = zqr8 zqcb zqrj (zqrl i k1) k1 m next t22 t23 t27 t28 r_ r_2 r_3 r_4 placed out := rfl
def zqrn : zqqy := zqrl fuel
theorem zqro : PieceOk Tryz.prog 76 0 order_Sort_p2_code zqqz zqr0 (order_Sort_p2_G zqrn) := zqra zqpe zq3j zqcb zqrgΓ zqrj zqrk fuel
def zqrp (m : Nat) : zqr2 := zqrc zqrn m
theorem zqrq {β : Type} (i : Nat) (k1 m t22 t23 r_ r_2 r_3 r_4 placed out) : (zqrp (i + 1) k1 m t22 t23 r_ r_2 r_3 r_4 placed out : Option β) = zqrb zqrn (zqrp i k1) k1 m t22 t23 r_ r_2 r_3 r_4 placed out := rfl
def zqrr : zqr2 := zqrp fuel
theorem zqrs : PieceOk Tryz.prog 76 0 order_Sort_p3_code zqr3 zqr4 (order_Sort_p3_G zqrr) := zqrd zqpe zq3j zqcb zqrgΓ zqrn zqro fuel
def zqrt : zqqr := zqre zqpe zqrr
theorem zqru : SpecOk Tryz.prog 24 (zqqs zqrt) := zqrf zqpe zq3j zqcb zqrgΓ zqrr zqrs

/-- pagewatch/timeline.rows -/
abbrev zqrv := {β : Type} → zq2 → (List Int) → ((List api_Row) → Option β) → Option β
def zqrw (c : zqrv) : Spec :=
  ⟨[(true, [.data zq3]), (false, [.data (.slice (.int .i64))])], [], [(false, [.rowh 0])], [.row 42 zq4], fun x k => c x.1.1.1 x.1.2.1.1 (fun r0 => k (((), ()), (r0, ())))⟩
noncomputable def timeline_rows_p1_code : Code := codeAt 122 (bodyOf Tryz.f25)
noncomputable def timeline_rows_p3_code : Code := codeAt 506 (bodyOf Tryz.f25)
noncomputable def timeline_rows_p2_code : Code := codeAt 922 (loopBody timeline_rows_p3_code)
abbrev zqrx (β : Type) := (List Int) → (List (Int × Int)) → (List ((Int × Int) × Bool)) → Option β
abbrev zqry := {β : Type} → zqrx β → (List Int) → Int → Int → (List (Int × Int)) → (List ((Int × Int) × Bool)) → (List (Int × Int)) → Option β
def zqrz : View := ⟨0, [1, 5, 7, 23, 24, 25], [(false, [.data (.slice (.int .i64))]), (false, [.rowh 0]), (false, [.maph 1]), (false, [.rowh 2]), (false, [.data (.int .i64)]), (false, [.data (.int .i64)])], [.row 40 (.prod (.int .i64) (.int .i64)), .map 109 (.prod (.int .i64) (.int .i64)) .bool false, .row 58 (.prod (.int .i64) (.int .i64))]⟩
def zqs0 : List (AExit × View) := [(.exit 0, ⟨0, [1, 5, 7], [(false, [.data (.slice (.int .i64))]), (false, [.rowh 0]), (false, [.maph 1])], [.row 40 (.prod (.int .i64) (.int .i64)), .map 109 (.prod (.int .i64) (.int .i64)) .bool false]⟩)]
@[reducible] def timeline_rows_p1_G (p : zqry) {β : Type} (d : zqrz.den) (ks : Outs.K β zqs0) : Option β :=
  p (fun a0 a1 a2 => ks.1 (((a0, ()), (), (), ()), (a1, a2, ()))) d.1.1.1 d.1.2.2.2.2.1.1 d.1.2.2.2.2.2.1.1 d.2.1 d.2.2.1 d.2.2.2.1
abbrev zqs1 (β : Type) := (List Int) → (List Int) → Int → Int → (List (Int × Int)) → (List ((Int × Int) × Bool)) → (List api_Row) → Int → Int → Int → (List Int) → Option β
abbrev zqs2 := {β : Type} → zqs1 β → (List Int) → Int → (List Int) → Int → Int → (List Int) → Int → Int → (List (Int × Int)) → (List ((Int × Int) × Bool)) → (List api_Row) → Int → Int → Int → (List Int) → Option β
def zqs3 : View := ⟨0, [1, 5, 7, 10, 12, 13, 32, 33, 34, 47, 48, 49], [(false, [.data (.slice (.int .i64))]), (false, [.rowh 0]), (false, [.maph 1]), (false, [.rowh 2]), (false, [.data (.int .i64)]), (false, [.ptr 3 0]), (false, [.data (.slice (.int .i64))]), (false, [.data (.int .i64)]), (false, [.data (.int .i64)]), (false, [.data (.slice (.int .i64))]), (false, [.data (.int .i64)]), (false, [.data (.int .i64)])], [.row 40 (.prod (.int .i64) (.int .i64)), .map 109 (.prod (.int .i64) (.int .i64)) .bool false, .row 42 zq4, .cells 42 [.data (.int .i64), .data (.int .i64), .data (.int .i64), .rowh 4], .row 3 (.int .i64)]⟩
def zqs4 : List (AExit × View) := [(.exit 4, ⟨0, [1, 5, 7, 10, 13, 32, 33, 34], [(false, [.data (.slice (.int .i64))]), (false, [.rowh 0]), (false, [.maph 1]), (false, [.rowh 2]), (false, [.ptr 3 0]), (false, [.data (.slice (.int .i64))]), (false, [.data (.int .i64)]), (false, [.data (.int .i64)])], [.row 40 (.prod (.int .i64) (.int .i64)), .map 109 (.prod (.int .i64) (.int .i64)) .bool false, .row 42 zq4, .cells 42 [.data (.int .i64), .data (.int .i64), .data (.int .i64), .rowh 4], .row 3 (.int .i64)]⟩)]
@[reducible] def timeline_rows_p2_G (p : zqs2) {β : Type} (d : zqs3.den) (ks : Outs.K β zqs4) : Option β :=
  p (fun a0 a1 a2 a3 a4 a5 a6 a7 a8 a9 a10 => ks.1 (((a0, ()), (), (), (), (), (a1, ()), (a2, ()), (a3, ()), ()), (a4, a5, a6, (a7, a8, a9, ()), a10, ()))) d.1.1.1 d.1.2.2.2.2.1.1 d.1.2.2.2.2.2.2.1.1 d.1.2.2.2.2.2.2.2.1.1 d.1.2.2.2.2.2.2.2.2.1.1 d.1.2.2.2.2.2.2.2.2.2.1.1 d.1.2.2.2.2.2.2.2.2.2.2.1.1 d.1.2.2.2.2.2.2.2.2.2.2.2.1.1 d.2.1 d.2.2.1 d.2.2.2.1 d.2.2.2.2.1.1 d.2.2.2.2.1.2.1 d.2.2.2.2.1.2.2.1 d.2.2.2.2.2.1
abbrev zqs5 (β : Type) := (List api_Row) → Option β
abbrev zqs6 := {β : Type} → zqs5 β → (List Int) → (List Int) → Int → Int → (List (Int × Int)) → (List ((Int × Int) × Bool)) → (List api_Row) → Option β
def zqs7 : View := ⟨0, [1, 5, 7, 10, 32, 33, 34], [(false, [.data (.slice (.int .i64))]), (false, [.rowh 0]), (false, [.maph 1]), (false, [.rowh 2]), (false, [.data (.slice (.int .i64))]), (false, [.data (.int .i64)]), (false, [.data (.int .i64)])], [.row 40 (.prod (.int .i64) (.int .i64)), .map 109 (.prod (.int .i64) (.int .i64)) .bool false, .row 42 zq4]⟩
def zqs8 : List (AExit × View) := [(.exit 2, ⟨0, [10], [(false, [.rowh 0])], [.row 42 zq4]⟩)]
@[reducible] def timeline_rows_p3_G (p : zqs6) {β : Type} (d : zqs7.den) (ks : Outs.K β zqs8) : Option β :=
  p (fun a0 => ks.1 (((), ()), (a0, ()))) d.1.1.1 d.1.2.2.2.2.1.1 d.1.2.2.2.2.2.1.1 d.1.2.2.2.2.2.2.1.1 d.2.1 d.2.2.1 d.2.2.2.1
section
variable (c_order_Open : zqpy) (c_order_When : zqpg)
@[reducible] def timeline_rows_X : Ctx := ⟨look tab, pick1 [(48, .spec (zqpz c_order_Open)), (47, .spec (zqph c_order_When)), (49, .rows zq3n)], false, false, false, false⟩
def zqs9 {β : Type} (rec : (List Int) → Int → Int → (List (Int × Int)) → (List ((Int × Int) × Bool)) → (List (Int × Int)) → Option β) (k1 : zqrx β) (l : List Int) (t24 : Int) (t25 : Int) (when : List (Int × Int)) (pairs : List ((Int × Int) × Bool)) (t23 : List (Int × Int)) : Option β :=
  cond (decide (t25 < t24))
  (cond (decide (0 ≤ t25) && decide (t25 < (List.length t23 : Int)))
  (let m_ : List ((Int × Int) × Bool) := (mPut (.prod (.int .i64) (.int .i64)) pairs ((List.getD t23 (Int.toNat t25) ((0 : Int), (0 : Int))).1, (List.getD t23 (Int.toNat t25) ((0 : Int), (0 : Int))).2) true);
  rec l t24 (IntKind.i64.wrap (t25 + (1 : Int))) when m_ t23)
  none)
  (k1 l when pairs)
def zqsa {β : Type} : Nat → zqrx β → (List Int) → Int → Int → (List (Int × Int)) → (List ((Int × Int) × Bool)) → (List (Int × Int)) → Option β
  | 0 => fun _ _ _ _ _ _ _ => none
  | i + 1 => fun k1 l t24 t25 when pairs t23 => zqs9 (zqsa i k1) k1 l t24 t25 when pairs t23
theorem zqsb (hΓ : ΓOk Tryz.prog (timeline_rows_X c_order_Open c_order_When).Γ) (i : Nat) : PieceOk Tryz.prog 78 0 timeline_rows_p1_code zqrz zqs0 (timeline_rows_p1_G (zqsa i)) := by
  rw [show timeline_rows_p1_code = .loop (loopBody timeline_rows_p1_code) by kernel_rfl]
  exact piece_loop (X := (timeline_rows_X c_order_Open c_order_When)) (p := 1) (Λ := pick1 []) (G := fun i => @fun β d ks => timeline_rows_p1_G (zqsa i) d ks) mixed tab_ok hΓ rfl (by kernel_rfl) CutsOk_nil (fun _ _ => rfl) (fun i => @fun β d ks r h => Eq.trans (b := timeline_rows_p1_G (zqsa (i + 1)) d ks) (by kernel_rfl) h) i
def zqsc {β : Type} (rec : (List Int) → Int → (List Int) → Int → Int → (List Int) → Int → Int → (List (Int × Int)) → (List ((Int × Int) × Bool)) → (List api_Row) → Int → Int → Int → (List Int) → Option β) (k1 : zqs1 β) (l : List Int) (x : Int) (t32 : List Int) (t33 : Int) (t34 : Int) (t47 : List Int) (t48 : Int) (t49 : Int) (when : List (Int × Int)) (pairs : List ((Int × Int) × Bool)) (out : List api_Row) (row : Int) (row2 : Int) (row3 : Int) (b4_ : List Int) : Option β :=
  cond (decide (t49 < t48))
  (cond (decide (0 ≤ t49) && decide (t49 < (List.length t47 : Int)))
  (let e : Int := List.getD t47 (Int.toNat t49) (0 : Int);
  let g : Bool := (mGet (.prod (.int .i64) (.int .i64)) pairs ((if e < x then e else x), (if e > x then e else x)) false);
  cond g
  (let l2 : List Int := ([e] : List Int);
  cond (decide ((List.length b4_ + List.length l2) * 8 ≤ roomMax))
  (let l3 : List Int := (b4_ ++ l2);
  rec l x t32 t33 t34 t47 t48 (IntKind.i64.wrap (t49 + (1 : Int))) when pairs out row row2 row3 l3)
  none)
  (rec l x t32 t33 t34 t47 t48 (IntKind.i64.wrap (t49 + (1 : Int))) when pairs out row row2 row3 b4_))
  none)
  (k1 l t32 t33 t34 when pairs out row row2 row3 b4_)
def zqsd {β : Type} : Nat → zqs1 β → (List Int) → Int → (List Int) → Int → Int → (List Int) → Int → Int → (List (Int × Int)) → (List ((Int × Int) × Bool)) → (List api_Row) → Int → Int → Int → (List Int) → Option β
  | 0 => fun _ _ _ _ _ _ _ _ _ _ _ _ _ _ _ _ => none
  | i + 1 => fun k1 l x t32 t33 t34 t47 t48 t49 when pairs out row row2 row3 b4_ => zqsc (zqsd i k1) k1 l x t32 t33 t34 t47 t48 t49 when pairs out row row2 row3 b4_
theorem zqse (hΓ : ΓOk Tryz.prog (timeline_rows_X c_order_Open c_order_When).Γ) (i : Nat) : PieceOk Tryz.prog 78 0 timeline_rows_p2_code zqs3 zqs4 (timeline_rows_p2_G (zqsd i)) := by
  rw [show timeline_rows_p2_code = .loop (loopBody timeline_rows_p2_code) by kernel_rfl]
  exact piece_loop (X := (timeline_rows_X c_order_Open c_order_When)) (p := 1) (Λ := pick1 []) (G := fun i => @fun β d ks => timeline_rows_p2_G (zqsd i) d ks) mixed tab_ok hΓ rfl (by kernel_rfl) CutsOk_nil (fun _ _ => rfl) (fun i => @fun β d ks r h => Eq.trans (b := timeline_rows_p2_G (zqsd (i + 1)) d ks) (by kernel_rfl) h) i
def zqsf (p2 : zqs2) {β : Type} (rec : (List Int) → (List Int) → Int → Int → (List (Int × Int)) → (List ((Int × Int) × Bool)) → (List api_Row) → Option β) (k1 : zqs5 β) (l : List Int) (t32 : List Int) (t33 : Int) (t34 : Int) (when : List (Int × Int)) (pairs : List ((Int × Int) × Bool)) (out : List api_Row) : Option β :=
  cond (decide (t34 < t33))
  (cond (decide (0 ≤ t34) && decide (t34 < (List.length t32 : Int)))
  (let e : Int := List.getD t32 (Int.toNat t34) (0 : Int);
  cond (decide (0 ≤ e) && decide (e < (List.length when : Int)))
  (cond (decide (0 ≤ (0 : Int)) && (decide ((0 : Int) ≤ t34) && decide (t34 ≤ (List.length l : Int))))
  (p2 (fun (l2 : List Int) (t322 : List Int) (t332 : Int) (t342 : Int) (when2 : List (Int × Int)) (pairs2 : List ((Int × Int) × Bool)) (out2 : List api_Row) (row : Int) (row2 : Int) (row3 : Int) (b4_ : List Int) =>
  cond (decide (List.length b4_ < 4611686018427387904))
  (let l3 : List Int := (sortInts b4_);
  let l4 : List api_Row := ([(row, ((row2, row3), l3))] : List api_Row);
  cond (decide ((List.length out2 + List.length l4) * 48 ≤ roomMax))
  (let l5 : List api_Row := (out2 ++ l4);
  rec l2 t322 t332 (IntKind.i64.wrap (t342 + (1 : Int))) when2 pairs2 l5)
  none)
  none) l e t32 t33 t34 (List.drop (Int.toNat (0 : Int)) (List.take (Int.toNat t34) l)) (List.length (List.drop (Int.toNat (0 : Int)) (List.take (Int.toNat t34) l)) : Int) (0 : Int) when pairs out e ((List.getD when (Int.toNat e) ((0 : Int), (0 : Int))).1) ((List.getD when (Int.toNat e) ((0 : Int), (0 : Int))).2) ([] : List Int))
  none)
  none)
  none)
  (k1 out)
def zqsg (p2 : zqs2) {β : Type} : Nat → zqs5 β → (List Int) → (List Int) → Int → Int → (List (Int × Int)) → (List ((Int × Int) × Bool)) → (List api_Row) → Option β
  | 0 => fun _ _ _ _ _ _ _ _ => none
  | i + 1 => fun k1 l t32 t33 t34 when pairs out => zqsf p2 (zqsg p2 i k1) k1 l t32 t33 t34 when pairs out
theorem zqsh (hΓ : ΓOk Tryz.prog (timeline_rows_X c_order_Open c_order_When).Γ) (p2 : zqs2) (hp2 : PieceOk Tryz.prog 78 0 timeline_rows_p2_code zqs3 zqs4 (timeline_rows_p2_G p2)) (i : Nat) : PieceOk Tryz.prog 78 0 timeline_rows_p3_code zqs7 zqs8 (timeline_rows_p3_G (zqsg p2 i)) := by
  rw [show timeline_rows_p3_code = .loop (loopBody timeline_rows_p3_code) by kernel_rfl]
  exact piece_loop (X := (timeline_rows_X c_order_Open c_order_When)) (p := 1) (Λ := pick1 [(922, pieceCut zqs3 zqs4 (timeline_rows_p2_G p2))]) (G := fun i => @fun β d ks => timeline_rows_p3_G (zqsg p2 i) d ks) mixed tab_ok hΓ rfl (by kernel_rfl) (CutsOk_cons (q := 922) (c' := timeline_rows_p2_code) (by kernel_rfl) rfl hp2 CutsOk_nil) (fun _ _ => rfl) (fun i => @fun β d ks r h => Eq.trans (b := timeline_rows_p3_G (zqsg p2 (i + 1)) d ks) (by kernel_rfl) h) i
def zqsi (p1 : zqry) (p3 : zqs6) {β : Type} (r_ : zq2) (l : List Int) (k : ((List api_Row) → Option β)) : Option β :=
  c_order_When r_ (fun (rWhen : Bool) (lrWhen : List (Int × Int)) =>
  let m_ : List ((Int × Int) × Bool) := ([] : List ((Int × Int) × Bool));
  c_order_Open r_ (fun (lrOpen : List (Int × Int)) =>
  p1 (fun (l2 : List Int) (when : List (Int × Int)) (pairs : List ((Int × Int) × Bool)) =>
  p3 (fun (out : List api_Row) =>
  k out) l2 l2 (List.length l2 : Int) (0 : Int) when pairs ([] : List api_Row)) l (List.length lrOpen : Int) (0 : Int) lrWhen m_ lrOpen))
theorem zqsj (hΓ : ΓOk Tryz.prog (timeline_rows_X c_order_Open c_order_When).Γ) (p1 : zqry) (p3 : zqs6) (hp1 : PieceOk Tryz.prog 78 0 timeline_rows_p1_code zqrz zqs0 (timeline_rows_p1_G p1)) (hp3 : PieceOk Tryz.prog 78 0 timeline_rows_p3_code zqs7 zqs8 (timeline_rows_p3_G p3)) : SpecOk Tryz.prog 25 (zqrw (zqsi c_order_Open c_order_When p1 p3)) :=
  spec_exec (X := (timeline_rows_X c_order_Open c_order_When)) (Λ := pick1 [(122, pieceCut zqrz zqs0 (timeline_rows_p1_G p1)), (506, pieceCut zqs7 zqs8 (timeline_rows_p3_G p3))]) (rs := [.tmp 4]) (c := bodyOf Tryz.f25) mixed tab_ok hΓ Tryz.func25 (by kernel_rfl) (by kernel_rfl) (by kernel_rfl) (by kernel_rfl) (CutsOk_cons (q := 122) (c' := timeline_rows_p1_code) (by kernel_rfl) rfl hp1 (CutsOk_cons (q := 506) (c' := timeline_rows_p3_code) (by kernel_rfl) rfl hp3 CutsOk_nil)) (fun x k r h => Eq.trans (b := (zqrw (zqsi c_order_Open c_order_When p1 p3)).run x k) (by kernel_rfl) h)
end
theorem zqskΓ : ΓOk Tryz.prog (pick1 [(48, .spec (zqpz zqqp)), (47, .spec (zqph zqpw)), (49, .rows zq3n)]) := (ΓOk_cons zqqq (ΓOk_cons zqpx (ΓOk_row zq3o ΓOk_nil)))
def zqsl (m : Nat) : zqry := zqsa m
theorem zqsm {β : Type} (i : Nat) (k1 l t24 t25 when pairs t23) : (zqsl (i + 1) k1 l t24 t25 when pairs t23 : Option β) = zqs9 (zqsl i k1) k1 l t24 t25 when pairs t23 := rfl
def zqsn : zqry := zqsl fuel
theorem zqso : PieceOk Tryz.prog 78 0 timeline_rows_p1_code zqrz zqs0 (timeline_rows_p1_G zqsn) := zqsb zqqp zqpw zqskΓ fuel
def zqsp (m : Nat) : zqs2 := zqsd m
theorem zqsq {β : Type} (i : Nat) (k1 l x t32 t33 t34 t47 t48 t49 when pairs out row row2 row3 b4_) : (zqsp (i + 1) k1 l x t32 t33 t34 t47 t48 t49 when pairs out row row2 row3 b4_ : Option β) = zqsc (zqsp i k1) k1 l x t32 t33 t34 t47 t48 t49 when pairs out row row2 row3 b4_ := rfl
def zqsr : zqs2 := zqsp fuel
theorem zqss : PieceOk Tryz.prog 78 0 timeline_rows_p2_code zqs3 zqs4 (timeline_rows_p2_G zqsr) := zqse zqqp zqpw zqskΓ fuel
def zqst (m : Nat) : zqs6 := zqsg zqsr m
theorem zqsu {β : Type} (i : Nat) (k1 l t32 t33 t34 when pairs out) : (zqst (i + 1) k1 l t32 t33 t34 when pairs out : Option β) = zqsf zqsr (zqst i k1) k1 l t32 t33 t34 when pairs out := rfl
def zqsv : zqs6 := zqst fuel
theorem zqsw : PieceOk Tryz.prog 78 0 timeline_rows_p3_code zqs7 zqs8 (timeline_rows_p3_G zqsv) := zqsh zqqp zqpw zqskΓ zqsr zqss fuel
def zqsx : zqrv := zqsi zqqp zqpw zqsn zqsv
theorem zqsy : SpecOk Tryz.prog 25 (zqrw zqsx) := zqsj zqqp zqpw zqskΓ zqsn zqsv zqso zqsw

/-- pagewatch/timeline.Rows -/
abbrev zqsz := {β : Type} → zq2 → (Bool → (List api_Row) → Option β) → Option β
def zqt0 (c : zqsz) : Spec :=
  ⟨[(true, [.data zq3])], [], [(false, [.rowh 0]), (false, [.data .bool])], [.row 42 zq4], fun x k => c x.1.1.1 (fun r0 r1 => k (((), (r0, ()), ()), (r1, ())))⟩
section
variable (c_order_Sort : zqqr) (c_timeline_rows : zqrv)
@[reducible] def timeline_Rows_X : Ctx := ⟨look tab, pick1 [(24, .spec (zqqs c_order_Sort)), (25, .spec (zqrw c_timeline_rows))], false, false, false, false⟩
def zqt1 {β : Type} (r_ : zq2) (k : (Bool → (List api_Row) → Option β)) : Option β :=
  c_order_Sort r_ (fun (rSort : Bool) (lrSort : List Int) =>
  cond (!rSort)
  (k false ([] : List api_Row))
  (c_timeline_rows r_ lrSort (fun (lrrows : List api_Row) =>
  k true lrrows)))
theorem zqt2 (hΓ : ΓOk Tryz.prog (timeline_Rows_X c_order_Sort c_timeline_rows).Γ) : SpecOk Tryz.prog 10 (zqt0 (zqt1 c_order_Sort c_timeline_rows)) :=
  spec_exec (X := (timeline_Rows_X c_order_Sort c_timeline_rows)) (Λ := pick1 []) (rs := [.tmp 2, .tmp 3]) (c := bodyOf Tryz.f10) mixed tab_ok hΓ Tryz.func10 (by kernel_rfl) (by kernel_rfl) (by kernel_rfl) (by kernel_rfl) CutsOk_nil (fun x k r h => Eq.trans (b := (zqt0 (zqt1 c_order_Sort c_timeline_rows)).run x k) (by kernel_rfl) h)
end
theorem zqt3Γ : ΓOk Tryz.prog (pick1 [(24, .spec (zqqs zqrt)), (25, .spec (zqrw zqsx))]) := (ΓOk_cons zqru (ΓOk_cons zqsy ΓOk_nil))
def zqt4 : zqsz := zqt1 zqrt zqsx
theorem zqt5 : SpecOk Tryz.prog 10 (zqt0 zqt4) := zqt2 zqrt zqsx zqt3Γ

/-- slices.IndexFunc[[]int,int] -/
abbrev zqt6 := {β : Type} → (List Int) → (List (List Int)) → Int → (Int → (List (List Int)) → Int → Option β) → Option β
def zqt7 (c : zqt6) : Spec :=
  ⟨[(false, [.data (.slice (.int .i64))]), (false, [.fn 53 [0, 1]])], [.cells 104 [.data (.slice (.slice (.int .i64)))], .cells 3 [.data (.int .i64)]], [(false, [.data (.int .i64)])], [.cells 104 [.data (.slice (.slice (.int .i64)))], .cells 3 [.data (.int .i64)]], fun x k => c x.1.1.1 x.2.1.1 x.2.2.1.1 (fun r0 r1 r2 => k (((r0, ()), ()), ((r1, ()), (r2, ()), ())))⟩
noncomputable def slices_IndexFunc_int_int_vorder_Allows_f1_p1_code : Code := codeAt 26 (bodyOf Tryz.f75)
abbrev zqt8 (β : Type) := Int → (List (List Int)) → Int → Option β
abbrev zqt9 (β : Type) := (List (List Int)) → Int → Option β
abbrev zqta := {β : Type} → zqt8 β → zqt9 β → (List Int) → Int → Int → (List (List Int)) → Int → Option β
def zqtb : View := ⟨2, [0, 1, 7, 8], [(false, [.data (.slice (.int .i64))]), (false, [.fn 53 [0, 1]]), (false, [.data (.int .i64)]), (false, [.data (.int .i64)])], [.cells 104 [.data (.slice (.slice (.int .i64)))], .cells 3 [.data (.int .i64)]]⟩
def zqtc : List (AExit × View) := [(.ret, ⟨2, [4], [(false, [.data (.int .i64)])], [.cells 104 [.data (.slice (.slice (.int .i64)))], .cells 3 [.data (.int .i64)]]⟩), (.exit 0, ⟨2, [], [], [.cells 104 [.data (.slice (.slice (.int .i64)))], .cells 3 [.data (.int .i64)]]⟩)]
@[reducible] def slices_IndexFunc_int_int_vorder_Allows_f1_p1_G (p : zqta) {β : Type} (d : zqtb.den) (ks : Outs.K β zqtc) : Option β :=
  p (fun a0 a1 a2 => ks.1 (((a0, ()), ()), ((a1, ()), (a2, ()), ()))) (fun a0 a1 => ks.2.1 ((), ((a0, ()), (a1, ()), ()))) d.1.1.1 d.1.2.2.1.1 d.1.2.2.2.1.1 d.2.1.1 d.2.2.1.1
section
variable (c_order_Allows_f1 : zq3w)
@[reducible] def slices_IndexFunc_int_int_vorder_Allows_f1_X : Ctx := ⟨look tab, pick1 [(53, .spec (zq3x c_order_Allows_f1))], false, false, false, false⟩
def zqtd {β : Type} (rec : (List Int) → Int → Int → (List (List Int)) → Int → Option β) (k1 : zqt8 β) (k2 : zqt9 β) (s : List Int) (t7 : Int) (t8 : Int) (b0_ : List (List Int)) (b1_ : Int) : Option β :=
  cond (decide (t8 < t7))
  (cond (decide (0 ≤ t8) && decide (t8 < (List.length s : Int)))
  (let e : Int := List.getD s (Int.toNat t8) (0 : Int);
  c_order_Allows_f1 e b0_ b1_ (fun (rAllows1 : Bool) (mrAllows1 : List (List Int)) (mrAllows12 : Int) =>
  cond rAllows1
  (k1 t8 mrAllows1 mrAllows12)
  (rec s t7 (IntKind.i64.wrap (t8 + (1 : Int))) mrAllows1 mrAllows12)))
  none)
  (k2 b0_ b1_)
def zqte {β : Type} : Nat → zqt8 β → zqt9 β → (List Int) → Int → Int → (List (List Int)) → Int → Option β
  | 0 => fun _ _ _ _ _ _ _ => none
  | i + 1 => fun k1 k2 s t7 t8 b0_ b1_ => zqtd c_order_Allows_f1 (zqte i k1 k2) k1 k2 s t7 t8 b0_ b1_
theorem zqtf (hΓ : ΓOk Tryz.prog (slices_IndexFunc_int_int_vorder_Allows_f1_X c_order_Allows_f1).Γ) (i : Nat) : PieceOk Tryz.prog 19 2 slices_IndexFunc_int_int_vorder_Allows_f1_p1_code zqtb zqtc (slices_IndexFunc_int_int_vorder_Allows_f1_p1_G (zqte c_order_Allows_f1 i)) := by
  rw [show slices_IndexFunc_int_int_vorder_Allows_f1_p1_code = .loop (loopBody slices_IndexFunc_int_int_vorder_Allows_f1_p1_code) by kernel_rfl]
  exact piece_loop (X := (slices_IndexFunc_int_int_vorder_Allows_f1_X c_order_Allows_f1)) (p := 1) (Λ := pick1 []) (G := fun i => @fun β d ks => slices_IndexFunc_int_int_vorder_Allows_f1_p1_G (zqte c_order_Allows_f1 i) d ks) mixed tab_ok hΓ rfl (by kernel_rfl) CutsOk_nil (fun _ _ => rfl) (fun i => @fun β d ks r h => Eq.trans (b := slices_IndexFunc_int_int_vorder_Allows_f1_p1_G (zqte c_order_Allows_f1 (i + 1)) d ks) (by kernel_rfl) h) i
def zqtg (p1 : zqta) {β : Type} (s : List Int) (b0_ : List (List Int)) (b1_ : Int) (k : (Int → (List (List Int)) → Int → Option β)) : Option β :=
  p1 (fun (t4 : Int) (b0_2 : List (List Int)) (b1_2 : Int) =>
  k t4 b0_2 b1_2) (fun (b0_2 : List (List Int)) (b1_2 : Int) =>
  k (-1 : Int) b0_2 b1_2) s (List.length s : Int) (0 : Int) b0_ b1_
theorem zqth (hΓ : ΓOk Tryz.prog (slices_IndexFunc_int_int_vorder_Allows_f1_X c_order_Allows_f1).Γ) (p1 : zqta) (hp1 : PieceOk Tryz.prog 19 2 slices_IndexFunc_int_int_vorder_Allows_f1_p1_code zqtb zqtc (slices_IndexFunc_int_int_vorder_Allows_f1_p1_G p1)) : SpecOk Tryz.prog 75 (zqt7 (zqtg p1)) :=
  spec_exec (X := (slices_IndexFunc_int_int_vorder_Allows_f1_X c_order_Allows_f1)) (Λ := pick1 [(26, pieceCut zqtb zqtc (slices_IndexFunc_int_int_vorder_Allows_f1_p1_G p1))]) (rs := [.tmp 4]) (c := bodyOf Tryz.f75) mixed tab_ok hΓ Tryz.func75 (by kernel_rfl) (by kernel_rfl) (by kernel_rfl) (by kernel_rfl) (CutsOk_cons (q := 26) (c' := slices_IndexFunc_int_int_vorder_Allows_f1_p1_code) (by kernel_rfl) rfl hp1 CutsOk_nil) (fun x k r h => Eq.trans (b := (zqt7 (zqtg p1)).run x k) (by kernel_rfl) h)
end
theorem zqtiΓ : ΓOk Tryz.prog (pick1 [(53, .spec (zq3x zq41))]) := (ΓOk_cons zq42 ΓOk_nil)
def zqtj (m : Nat) : zqta := zqte zq41 m
theorem zqtk {β : Type} (i : Nat) (k1 k2 s t7 t8 b0_ b1_) : (zqtj (i + 1) k1 k2 s t7 t8 b0_ b1_ : Option β) = zqtd zq41 (zqtj i k1 k2) k1 k2 s t7 t8 b0_ b1_ := rfl
def zqtl : zqta := zqtj fuel
theorem zqtm : PieceOk Tryz.prog 19 2 slices_IndexFunc_int_int_vorder_Allows_f1_p1_code zqtb zqtc (slices_IndexFunc_int_int_vorder_Allows_f1_p1_G zqtl) := zqtf zq41 zqtiΓ fuel
def zqtn : zqt6 := zqtg zqtl
theorem zqto : SpecOk Tryz.prog 75 (zqt7 zqtn) := zqth zq41 zqtiΓ zqtl zqtm

/-- slices.ContainsFunc[[]int,int] -/
abbrev zqtp := {β : Type} → (List Int) → (List (List Int)) → Int → (Bool → (List (List Int)) → Int → Option β) → Option β
def zqtq (c : zqtp) : Spec :=
  ⟨[(false, [.data (.slice (.int .i64))]), (false, [.fn 53 [0, 1]])], [.cells 104 [.data (.slice (.slice (.int .i64)))], .cells 3 [.data (.int .i64)]], [(false, [.data .bool])], [.cells 104 [.data (.slice (.slice (.int .i64)))], .cells 3 [.data (.int .i64)]], fun x k => c x.1.1.1 x.2.1.1 x.2.2.1.1 (fun r0 r1 r2 => k (((r0, ()), ()), ((r1, ()), (r2, ()), ())))⟩
section
variable (c_slices_IndexFunc_int_int_vorder_Allows_f1 : zqt6)
@[reducible] def slices_ContainsFunc_int_int_vorder_Allows_f1_X : Ctx := ⟨look tab, pick1 [(75, .spec (zqt7 c_slices_IndexFunc_int_int_vorder_Allows_f1))], false, false, false, false⟩
def zqtr {β : Type} (s : List Int) (b0_ : List (List Int)) (b1_ : Int) (k : (Bool → (List (List Int)) → Int → Option β)) : Option β :=
  c_slices_IndexFunc_int_int_vorder_Allows_f1 s b0_ b1_ (fun (rIndexFuncintint : Int) (mrIndexFuncintint : List (List Int)) (mrIndexFuncintint2 : Int) =>
  let t : Bool := (decide ((0 : Int) ≤ rIndexFuncintint));
  k t mrIndexFuncintint mrIndexFuncintint2)
theorem zqts (hΓ : ΓOk Tryz.prog (slices_ContainsFunc_int_int_vorder_Allows_f1_X c_slices_IndexFunc_int_int_vorder_Allows_f1).Γ) : SpecOk Tryz.prog 52 (zqtq (zqtr c_slices_IndexFunc_int_int_vorder_Allows_f1)) :=
  spec_exec (X := (slices_ContainsFunc_int_int_vorder_Allows_f1_X c_slices_IndexFunc_int_int_vorder_Allows_f1)) (Λ := pick1 []) (rs := [.tmp 4]) (c := bodyOf Tryz.f52) mixed tab_ok hΓ Tryz.func52 (by kernel_rfl) (by kernel_rfl) (by kernel_rfl) (by kernel_rfl) CutsOk_nil (fun x k r h => Eq.trans (b := (zqtq (zqtr c_slices_IndexFunc_int_int_vorder_Allows_f1)).run x k) (by kernel_rfl) h)
end
theorem zqttΓ : ΓOk Tryz.prog (pick1 [(75, .spec (zqt7 zqtn))]) := (ΓOk_cons zqto ΓOk_nil)
def zqtu : zqtp := zqtr zqtn
theorem zqtv : SpecOk Tryz.prog 52 (zqtq zqtu) := zqts zqtn zqttΓ

/-- pagewatch/order.Allows -/
abbrev zqtw := {β : Type} → zq2 → (List Int) → (Bool → Option β) → Option β
def zqtx (c : zqtw) : Spec :=
  ⟨[(true, [.data zq3]), (false, [.data (.slice (.int .i64))])], [], [(false, [.data .bool])], [], fun x k => c x.1.1.1 x.1.2.1.1 (fun r0 => k (((r0, ()), ()), ()))⟩
noncomputable def order_Allows_p1_code : Code := codeAt 122 (bodyOf Tryz.f26)
abbrev zqty (β : Type) := Bool → Option β
abbrev zqtz (β : Type) := Unit → Option β
abbrev zqu0 := {β : Type} → zqty β → zqtz β → (List Int) → (List Int) → Int → Int → (List (List Int)) → Option β
def zqu1 : View := ⟨0, [1, 5, 24, 25, 26], [(false, [.data (.slice (.int .i64))]), (false, [.ptr 0 0]), (false, [.data (.slice (.int .i64))]), (false, [.data (.int .i64)]), (false, [.data (.int .i64)])], [.cells 104 [.data (.slice (.slice (.int .i64)))]]⟩
def zqu2 : List (AExit × View) := [(.ret, ⟨0, [4], [(false, [.data .bool])], []⟩), (.exit 0, ⟨0, [], [], []⟩)]
@[reducible] def order_Allows_p1_G (p : zqu0) {β : Type} (d : zqu1.den) (ks : Outs.K β zqu2) : Option β :=
  p (fun a0 => ks.1 (((a0, ()), ()), ())) (fun _ => ks.2.1 ((), ())) d.1.1.1 d.1.2.2.1.1 d.1.2.2.2.1.1 d.1.2.2.2.2.1.1 d.2.1.1
section
variable (c_order_closed : zqp9) (c_order_in : zq3p) (c_slices_ContainsFunc_int_int_vorder_Allows_f1 : zqtp) (c_slices_Contains_int_int : zqcd)
@[reducible] def order_Allows_X : Ctx := ⟨look tab, pick1 [(44, .spec (zqpa c_order_closed)), (50, .spec (zq3q c_order_in)), (52, .spec (zqtq c_slices_ContainsFunc_int_int_vorder_Allows_f1)), (51, .spec (zqce c_slices_Contains_int_int))], false, false, false, false⟩
def zqu3 {β : Type} (rec : (List Int) → (List Int) → Int → Int → (List (List Int)) → Option β) (k1 : zqty β) (k2 : zqtz β) (l : List Int) (t24 : List Int) (t25 : Int) (t26 : Int) (m : List (List Int)) : Option β :=
  cond (decide (t26 < t25))
  (cond (decide (0 ≤ t26) && decide (t26 < (List.length t24 : Int)))
  (let e : Int := List.getD t24 (Int.toNat t26) (0 : Int);
  c_order_in e (0 : Int) (IntKind.i64.wrap ((List.length l : Int) - (1 : Int))) (fun (rin : Bool) =>
  cond (!rin)
  (k1 false)
  (cond (decide (0 ≤ (0 : Int)) && (decide ((0 : Int) ≤ t26) && decide (t26 ≤ (List.length l : Int))))
  (c_slices_Contains_int_int (List.drop (Int.toNat (0 : Int)) (List.take (Int.toNat t26) l)) e (fun (rContainsintint : Bool) =>
  cond rContainsintint
  (k1 false)
  (cond (decide (0 ≤ (0 : Int)) && (decide ((0 : Int) ≤ t26) && decide (t26 ≤ (List.length l : Int))))
  (c_slices_ContainsFunc_int_int_vorder_Allows_f1 (List.drop (Int.toNat (0 : Int)) (List.take (Int.toNat t26) l)) m e (fun (rContainsFuncintint : Bool) (mrContainsFuncintint : List (List Int)) (mrContainsFuncintint2 : Int) =>
  cond rContainsFuncintint
  (k1 false)
  (rec l t24 t25 (IntKind.i64.wrap (t26 + (1 : Int))) mrContainsFuncintint)))
  none)))
  none)))
  none)
  (k2 ())
def zqu4 {β : Type} : Nat → zqty β → zqtz β → (List Int) → (List Int) → Int → Int → (List (List Int)) → Option β
  | 0 => fun _ _ _ _ _ _ _ => none
  | i + 1 => fun k1 k2 l t24 t25 t26 m => zqu3 c_order_in c_slices_ContainsFunc_int_int_vorder_Allows_f1 c_slices_Contains_int_int (zqu4 i k1 k2) k1 k2 l t24 t25 t26 m
theorem zqu5 (hΓ : ΓOk Tryz.prog (order_Allows_X c_order_closed c_order_in c_slices_ContainsFunc_int_int_vorder_Allows_f1 c_slices_Contains_int_int).Γ) (i : Nat) : PieceOk Tryz.prog 52 0 order_Allows_p1_code zqu1 zqu2 (order_Allows_p1_G (zqu4 c_order_in c_slices_ContainsFunc_int_int_vorder_Allows_f1 c_slices_Contains_int_int i)) := by
  rw [show order_Allows_p1_code = .loop (loopBody order_Allows_p1_code) by kernel_rfl]
  exact piece_loop (X := (order_Allows_X c_order_closed c_order_in c_slices_ContainsFunc_int_int_vorder_Allows_f1 c_slices_Contains_int_int)) (p := 1) (Λ := pick1 []) (G := fun i => @fun β d ks => order_Allows_p1_G (zqu4 c_order_in c_slices_ContainsFunc_int_int_vorder_Allows_f1 c_slices_Contains_int_int i) d ks) mixed tab_ok hΓ rfl (by kernel_rfl) CutsOk_nil (fun _ _ => rfl) (fun i => @fun β d ks r h => Eq.trans (b := order_Allows_p1_G (zqu4 c_order_in c_slices_ContainsFunc_int_int_vorder_Allows_f1 c_slices_Contains_int_int (i + 1)) d ks) (by kernel_rfl) h) i
def zqu6 (p1 : zqu0) {β : Type} (r_ : zq2) (l : List Int) (k : (Bool → Option β)) : Option β :=
  c_order_closed r_ (fun (rclosed : List (List Int)) (rclosed2 : Bool) =>
  cond (!rclosed2)
  (k false)
  (cond (!decide ((List.length l : Int) = (List.length r_.2.2.1 : Int)))
  (k false)
  (p1 (fun (t4 : Bool) =>
  k t4) (fun (_ : Unit) =>
  k true) l l (List.length l : Int) (0 : Int) rclosed)))
theorem zqu7 (hΓ : ΓOk Tryz.prog (order_Allows_X c_order_closed c_order_in c_slices_ContainsFunc_int_int_vorder_Allows_f1 c_slices_Contains_int_int).Γ) (p1 : zqu0) (hp1 : PieceOk Tryz.prog 52 0 order_Allows_p1_code zqu1 zqu2 (order_Allows_p1_G p1)) : SpecOk Tryz.prog 26 (zqtx (zqu6 c_order_closed p1)) :=
  spec_exec (X := (order_Allows_X c_order_closed c_order_in c_slices_ContainsFunc_int_int_vorder_Allows_f1 c_slices_Contains_int_int)) (Λ := pick1 [(122, pieceCut zqu1 zqu2 (order_Allows_p1_G p1))]) (rs := [.tmp 4]) (c := bodyOf Tryz.f26) mixed tab_ok hΓ Tryz.func26 (by kernel_rfl) (by kernel_rfl) (by kernel_rfl) (by kernel_rfl) (CutsOk_cons (q := 122) (c' := order_Allows_p1_code) (by kernel_rfl) rfl hp1 CutsOk_nil) (fun x k r h => Eq.trans (b := (zqtx (zqu6 c_order_closed p1)).run x k) (by kernel_rfl) h)
end
theorem zqu8Γ : ΓOk Tryz.prog (pick1 [(44, .spec (zqpa zqpe)), (50, .spec (zq3q zq3u)), (52, .spec (zqtq zqtu)), (51, .spec (zqce zqci))]) := (ΓOk_cons zqpf (ΓOk_cons zq3v (ΓOk_cons zqtv (ΓOk_cons zqcj ΓOk_nil))))
def zqu9 (m : Nat) : zqu0 := zqu4 zq3u zqtu zqci m
theorem zqua {β : Type} (i : Nat) (k1 k2 l t24 t25 t26 m) : (zqu9 (i + 1) k1 k2 l t24 t25 t26 m : Option β) = zqu3 zq3u zqtu zqci (zqu9 i k1 k2) k1 k2 l t24 t25 t26 m := rfl
def zqub : zqu0 := zqu9 fuel
theorem zquc : PieceOk Tryz.prog 52 0 order_Allows_p1_code zqu1 zqu2 (order_Allows_p1_G zqub) := zqu5 zqpe zq3u zqtu zqci zqu8Γ fuel
def zqud : zqtw := zqu6 zqpe zqub
theorem zque : SpecOk Tryz.prog 26 (zqtx zqud) := zqu7 zqpe zq3u zqtu zqci zqu8Γ zqub zquc

/-- slices.EqualFunc[[]pagewatch/api.Row,[]pagewatch/api.Row,pagewatch/api.Row,pagewatch/api.Row] -/
abbrev zquf := {β : Type} → (List api_Row) → (List api_Row) → (Bool → Option β) → Option β
def zqug (c : zquf) : Spec :=
  ⟨[(false, [.data (.slice zq4)]), (false, [.data (.slice zq4)]), (false, [.fn 28 []])], [], [(false, [.data .bool])], [], fun x k => c x.1.1.1 x.1.2.1.1 (fun r0 => k (((r0, ()), ()), ()))⟩
noncomputable def slices_EqualFunc_api_Row_api_Row_api_Row_api_Row_vtimeline_Check_f1_p1_code : Code := codeAt 58 (bodyOf Tryz.f27)
abbrev zquh (β : Type) := Bool → Option β
abbrev zqui (β : Type) := Unit → Option β
abbrev zquj := {β : Type} → zquh β → zqui β → (List api_Row) → (List api_Row) → Int → Int → Option β
def zquk : View := ⟨0, [1, 2, 15, 16, 17], [(false, [.data (.slice zq4)]), (false, [.fn 28 []]), (false, [.data (.slice zq4)]), (false, [.data (.int .i64)]), (false, [.data (.int .i64)])], []⟩
def zqul : List (AExit × View) := [(.ret, ⟨0, [6], [(false, [.data .bool])], []⟩), (.exit 0, ⟨0, [], [], []⟩)]
@[reducible] def slices_EqualFunc_api_Row_api_Row_api_Row_api_Row_vtimeline_Check_f1_p1_G (p : zquj) {β : Type} (d : zquk.den) (ks : Outs.K β zqul) : Option β :=
  p (fun a0 => ks.1 (((a0, ()), ()), ())) (fun _ => ks.2.1 ((), ())) d.1.1.1 d.1.2.2.1.1 d.1.2.2.2.1.1 d.1.2.2.2.2.1.1
section
variable (c_timeline_Check_f1 : zqbz)
@[reducible] def slices_EqualFunc_api_Row_api_Row_api_Row_api_Row_vtimeline_Check_f1_X : Ctx := ⟨look tab, pick1 [(28, .spec (zqc0 c_timeline_Check_f1))], false, false, false, false⟩
def zqum {β : Type} (rec : (List api_Row) → (List api_Row) → Int → Int → Option β) (k1 : zquh β) (k2 : zqui β) (s2 : List api_Row) (t15 : List api_Row) (t16 : Int) (t17 : Int) : Option β :=
  cond (decide (t17 < t16))
  (cond (decide (0 ≤ t17) && decide (t17 < (List.length t15 : Int)))
  (let e : api_Row := List.getD t15 (Int.toNat t17) ((0 : Int), (((0 : Int), (0 : Int)), ([] : List Int)));
  cond (decide (0 ≤ t17) && decide (t17 < (List.length s2 : Int)))
  (let e2 : api_Row := List.getD s2 (Int.toNat t17) ((0 : Int), (((0 : Int), (0 : Int)), ([] : List Int)));
  c_timeline_Check_f1 e e2 (fun (rCheck1 : Bool) =>
  cond (!rCheck1)
  (k1 false)
  (rec s2 t15 t16 (IntKind.i64.wrap (t17 + (1 : Int))))))
  none)
  none)
  (k2 ())
def zqun {β : Type} : Nat → zquh β → zqui β → (List api_Row) → (List api_Row) → Int → Int → Option β
  | 0 => fun _ _ _ _ _ _ => none
  | i + 1 => fun k1 k2 s2 t15 t16 t17 => zqum c_timeline_Check_f1 (zqun i k1 k2) k1 k2 s2 t15 t16 t17
theorem zquo (hΓ : ΓOk Tryz.prog (slices_EqualFunc_api_Row_api_Row_api_Row_api_Row_vtimeline_Check_f1_X c_timeline_Check_f1).Γ) (i : Nat) : PieceOk Tryz.prog 32 0 slices_EqualFunc_api_Row_api_Row_api_Row_api_Row_vtimeline_Check_f1_p1_code zquk zqul (slices_EqualFunc_api_Row_api_Row_api_Row_api_Row_vtimeline_Check_f1_p1_G (zqun c_timeline_Check_f1 i)) := by
  rw [show slices_EqualFunc_api_Row_api_Row_api_Row_api_Row_vtimeline_Check_f1_p1_code = .loop (loopBody slices_EqualFunc_api_Row_api_Row_api_Row_api_Row_vtimeline_Check_f1_p1_code) by kernel_rfl]
  exact piece_loop (X := (slices_EqualFunc_api_Row_api_Row_api_Row_api_Row_vtimeline_Check_f1_X c_timeline_Check_f1)) (p := 1) (Λ := pick1 []) (G := fun i => @fun β d ks => slices_EqualFunc_api_Row_api_Row_api_Row_api_Row_vtimeline_Check_f1_p1_G (zqun c_timeline_Check_f1 i) d ks) mixed tab_ok hΓ rfl (by kernel_rfl) CutsOk_nil (fun _ _ => rfl) (fun i => @fun β d ks r h => Eq.trans (b := slices_EqualFunc_api_Row_api_Row_api_Row_api_Row_vtimeline_Check_f1_p1_G (zqun c_timeline_Check_f1 (i + 1)) d ks) (by kernel_rfl) h) i
def zqup (p1 : zquj) {β : Type} (s1 : List api_Row) (s2 : List api_Row) (k : (Bool → Option β)) : Option β :=
  cond (!decide ((List.length s1 : Int) = (List.length s2 : Int)))
  (k false)
  (p1 (fun (t6 : Bool) =>
  k t6) (fun (_ : Unit) =>
  k true) s2 s1 (List.length s1 : Int) (0 : Int))
theorem zquq (hΓ : ΓOk Tryz.prog (slices_EqualFunc_api_Row_api_Row_api_Row_api_Row_vtimeline_Check_f1_X c_timeline_Check_f1).Γ) (p1 : zquj) (hp1 : PieceOk Tryz.prog 32 0 slices_EqualFunc_api_Row_api_Row_api_Row_api_Row_vtimeline_Check_f1_p1_code zquk zqul (slices_EqualFunc_api_Row_api_Row_api_Row_api_Row_vtimeline_Check_f1_p1_G p1)) : SpecOk Tryz.prog 27 (zqug (zqup p1)) :=
  spec_exec (X := (slices_EqualFunc_api_Row_api_Row_api_Row_api_Row_vtimeline_Check_f1_X c_timeline_Check_f1)) (Λ := pick1 [(58, pieceCut zquk zqul (slices_EqualFunc_api_Row_api_Row_api_Row_api_Row_vtimeline_Check_f1_p1_G p1))]) (rs := [.tmp 6]) (c := bodyOf Tryz.f27) mixed tab_ok hΓ Tryz.func27 (by kernel_rfl) (by kernel_rfl) (by kernel_rfl) (by kernel_rfl) (CutsOk_cons (q := 58) (c' := slices_EqualFunc_api_Row_api_Row_api_Row_api_Row_vtimeline_Check_f1_p1_code) (by kernel_rfl) rfl hp1 CutsOk_nil) (fun x k r h => Eq.trans (b := (zqug (zqup p1)).run x k) (by kernel_rfl) h)
end
theorem zqurΓ : ΓOk Tryz.prog (pick1 [(28, .spec (zqc0 zqc4))]) := (ΓOk_cons zqc5 ΓOk_nil)
def zqus (m : Nat) : zquj := zqun zqc4 m
theorem zqut {β : Type} (i : Nat) (k1 k2 s2 t15 t16 t17) : (zqus (i + 1) k1 k2 s2 t15 t16 t17 : Option β) = zqum zqc4 (zqus i k1 k2) k1 k2 s2 t15 t16 t17 := rfl
def zquu : zquj := zqus fuel
theorem zquv : PieceOk Tryz.prog 32 0 slices_EqualFunc_api_Row_api_Row_api_Row_api_Row_vtimeline_Check_f1_p1_code zquk zqul (slices_EqualFunc_api_Row_api_Row_api_Row_api_Row_vtimeline_Check_f1_p1_G zquu) := zquo zqc4 zqurΓ fuel
def zquw : zquf := zqup zquu
theorem zqux : SpecOk Tryz.prog 27 (zqug zquw) := zquq zqc4 zqurΓ zquu zquv

/-- pagewatch/timeline.Check -/
abbrev zquy := {β : Type} → zq2 → (List api_Row) → (Bool → Option β) → Option β
def zquz (c : zquy) : Spec :=
  ⟨[(true, [.data zq3]), (false, [.data (.slice zq4)])], [], [(false, [.data .bool])], [], fun x k => c x.1.1.1 x.1.2.1.1 (fun r0 => k (((r0, ()), ()), ()))⟩
noncomputable def timeline_Check_p1_code : Code := codeAt 58 (bodyOf Tryz.f11)
abbrev zqv0 (β : Type) := (List api_Row) → (List (List UInt8 × Int)) → (List (Int × (Int × (Int × Int)))) → (List zq0) → (List (Int × (Int × Int))) → (List Int) → Option β
abbrev zqv1 := {β : Type} → zqv0 β → (List api_Row) → (List api_Row) → Int → Int → (List (List UInt8 × Int)) → (List (Int × (Int × (Int × Int)))) → (List zq0) → (List (Int × (Int × Int))) → (List Int) → Option β
def zqv2 : View := ⟨0, [1, 2, 5, 8, 9, 10], [(false, [.data (.slice zq4)]), (false, [.ptr 0 0]), (false, [.rowh 1]), (false, [.data (.slice zq4)]), (false, [.data (.int .i64)]), (false, [.data (.int .i64)])], [.cells 32 [.data (.slice (.prod .str (.int .i64))), .data (.slice (.prod (.int .i64) (.prod (.int .i64) (.prod (.int .i64) (.int .i64))))), .data (.slice zq1), .data (.slice (.prod (.int .i64) (.prod (.int .i64) (.int .i64))))], .row 3 (.int .i64)]⟩
def zqv3 : List (AExit × View) := [(.exit 0, ⟨0, [1, 2, 5], [(false, [.data (.slice zq4)]), (false, [.ptr 0 0]), (false, [.rowh 1])], [.cells 32 [.data (.slice (.prod .str (.int .i64))), .data (.slice (.prod (.int .i64) (.prod (.int .i64) (.prod (.int .i64) (.int .i64))))), .data (.slice zq1), .data (.slice (.prod (.int .i64) (.prod (.int .i64) (.int .i64))))], .row 3 (.int .i64)]⟩)]
@[reducible] def timeline_Check_p1_G (p : zqv1) {β : Type} (d : zqv2.den) (ks : Outs.K β zqv3) : Option β :=
  p (fun a0 a1 a2 a3 a4 a5 => ks.1 (((a0, ()), (), (), ()), ((a1, a2, a3, a4, ()), a5, ()))) d.1.1.1 d.1.2.2.2.1.1 d.1.2.2.2.2.1.1 d.1.2.2.2.2.2.1.1 d.2.1.1 d.2.1.2.1 d.2.1.2.2.1 d.2.1.2.2.2.1 d.2.2.1
section
variable (c_order_Allows : zqtw) (c_slices_EqualFunc_api_Row_api_Row_api_Row_api_Row_vtimeline_Check_f1 : zquf) (c_timeline_rows : zqrv)
@[reducible] def timeline_Check_X : Ctx := ⟨look tab, pick1 [(26, .spec (zqtx c_order_Allows)), (27, .spec (zqug c_slices_EqualFunc_api_Row_api_Row_api_Row_api_Row_vtimeline_Check_f1)), (25, .spec (zqrw c_timeline_rows))], false, false, false, false⟩
def zqv4 {β : Type} (rec : (List api_Row) → (List api_Row) → Int → Int → (List (List UInt8 × Int)) → (List (Int × (Int × (Int × Int)))) → (List zq0) → (List (Int × (Int × Int))) → (List Int) → Option β) (k1 : zqv0 β) (l : List api_Row) (t8 : List api_Row) (t9 : Int) (t10 : Int) (r_ : List (List UInt8 × Int)) (r_2 : List (Int × (Int × (Int × Int)))) (r_3 : List zq0) (r_4 : List (Int × (Int × Int))) (events : List Int) : Option β :=
  cond (decide (t10 < t9))
  (cond (decide (0 ≤ t10) && decide (t10 < (List.length t8 : Int)))
  (let e : api_Row := List.getD t8 (Int.toNat t10) ((0 : Int), (((0 : Int), (0 : Int)), ([] : List Int)));
  let l2 : List Int := ([e.1] : List Int);
  cond (decide ((List.length events + List.length l2) * 8 ≤ roomMax))
  (let l3 : List Int := (events ++ l2);
  rec l t8 t9 (IntKind.i64.wrap (t10 + (1 : Int))) r_ r_2 r_3 r_4 l3)
  none)
  none)
  (k1 l r_ r_2 r_3 r_4 events)
def zqv5 {β : Type} : Nat → zqv0 β → (List api_Row) → (List api_Row) → Int → Int → (List (List UInt8 × Int)) → (List (Int × (Int × (Int × Int)))) → (List zq0) → (List (Int × (Int × Int))) → (List Int) → Option β
  | 0 => fun _ _ _ _ _ _ _ _ _ _ => none
  | i + 1 => fun k1 l t8 t9 t10 r_ r_2 r_3 r_4 events => zqv4 (zqv5 i k1) k1 l t8 t9 t10 r_ r_2 r_3 r_4 events
theorem zqv6 (hΓ : ΓOk Tryz.prog (timeline_Check_X c_order_Allows c_slices_EqualFunc_api_Row_api_Row_api_Row_api_Row_vtimeline_Check_f1 c_timeline_rows).Γ) (i : Nat) : PieceOk Tryz.prog 30 0 timeline_Check_p1_code zqv2 zqv3 (timeline_Check_p1_G (zqv5 i)) := by
  rw [show timeline_Check_p1_code = .loop (loopBody timeline_Check_p1_code) by kernel_rfl]
  exact piece_loop (X := (timeline_Check_X c_order_Allows c_slices_EqualFunc_api_Row_api_Row_api_Row_api_Row_vtimeline_Check_f1 c_timeline_rows)) (p := 1) (Λ := pick1 []) (G := fun i => @fun β d ks => timeline_Check_p1_G (zqv5 i) d ks) mixed tab_ok hΓ rfl (by kernel_rfl) CutsOk_nil (fun _ _ => rfl) (fun i => @fun β d ks r h => Eq.trans (b := timeline_Check_p1_G (zqv5 (i + 1)) d ks) (by kernel_rfl) h) i
def zqv7 (p1 : zqv1) {β : Type} (r_ : zq2) (l : List api_Row) (k : (Bool → Option β)) : Option β :=
  p1 (fun (l2 : List api_Row) (r_2 : List (List UInt8 × Int)) (r_3 : List (Int × (Int × (Int × Int)))) (r_4 : List zq0) (r_5 : List (Int × (Int × Int))) (events : List Int) =>
  c_order_Allows (r_2, (r_3, (r_4, r_5))) events (fun (rAllows : Bool) =>
  cond rAllows
  (c_timeline_rows (r_2, (r_3, (r_4, r_5))) events (fun (lrrows : List api_Row) =>
  c_slices_EqualFunc_api_Row_api_Row_api_Row_api_Row_vtimeline_Check_f1 l2 lrrows (fun (rRow : Bool) =>
  k rRow)))
  (k false))) l l (List.length l : Int) (0 : Int) r_.1 r_.2.1 r_.2.2.1 r_.2.2.2 ([] : List Int)
theorem zqv8 (hΓ : ΓOk Tryz.prog (timeline_Check_X c_order_Allows c_slices_EqualFunc_api_Row_api_Row_api_Row_api_Row_vtimeline_Check_f1 c_timeline_rows).Γ) (p1 : zqv1) (hp1 : PieceOk Tryz.prog 30 0 timeline_Check_p1_code zqv2 zqv3 (timeline_Check_p1_G p1)) : SpecOk Tryz.prog 11 (zquz (zqv7 c_order_Allows c_slices_EqualFunc_api_Row_api_Row_api_Row_api_Row_vtimeline_Check_f1 c_timeline_rows p1)) :=
  spec_exec (X := (timeline_Check_X c_order_Allows c_slices_EqualFunc_api_Row_api_Row_api_Row_api_Row_vtimeline_Check_f1 c_timeline_rows)) (Λ := pick1 [(58, pieceCut zqv2 zqv3 (timeline_Check_p1_G p1))]) (rs := [.tmp 4]) (c := bodyOf Tryz.f11) mixed tab_ok hΓ Tryz.func11 (by kernel_rfl) (by kernel_rfl) (by kernel_rfl) (by kernel_rfl) (CutsOk_cons (q := 58) (c' := timeline_Check_p1_code) (by kernel_rfl) rfl hp1 CutsOk_nil) (fun x k r h => Eq.trans (b := (zquz (zqv7 c_order_Allows c_slices_EqualFunc_api_Row_api_Row_api_Row_api_Row_vtimeline_Check_f1 c_timeline_rows p1)).run x k) (by kernel_rfl) h)
end
theorem zqv9Γ : ΓOk Tryz.prog (pick1 [(26, .spec (zqtx zqud)), (27, .spec (zqug zquw)), (25, .spec (zqrw zqsx))]) := (ΓOk_cons zque (ΓOk_cons zqux (ΓOk_cons zqsy ΓOk_nil)))
def zqva (m : Nat) : zqv1 := zqv5 m
theorem zqvb {β : Type} (i : Nat) (k1 l t8 t9 t10 r_ r_2 r_3 r_4 events) : (zqva (i + 1) k1 l t8 t9 t10 r_ r_2 r_3 r_4 events : Option β) = zqv4 (zqva i k1) k1 l t8 t9 t10 r_ r_2 r_3 r_4 events := rfl
def zqvc : zqv1 := zqva fuel
theorem zqvd : PieceOk Tryz.prog 30 0 timeline_Check_p1_code zqv2 zqv3 (timeline_Check_p1_G zqvc) := zqv6 zqud zquw zqsx zqv9Γ fuel
def zqve : zquy := zqv7 zqud zquw zqsx zqvc
theorem zqvf : SpecOk Tryz.prog 11 (zquz zqve) := zqv8 zqud zquw zqsx zqv9Γ zqvc zqvd

/-- pagewatch/timeline.Text -/
abbrev zqvg := {β : Type} → zq2 → (List api_Row) → ((List UInt8) → Int → Option β) → Option β
def zqvh (c : zqvg) : Spec :=
  ⟨[(true, [.data zq3]), (false, [.data (.slice zq4)])], [], [(false, [.data .str]), (false, [.data (.int .i64)])], [], fun x k => c x.1.1.1 x.1.2.1.1 (fun r0 r1 => k (((r0, ()), (r1, ()), ()), ()))⟩
noncomputable def timeline_Text_p2_code : Code := codeAt 122 (bodyOf Tryz.f21)
noncomputable def timeline_Text_p1_code : Code := codeAt 927 (loopBody timeline_Text_p2_code)
abbrev zqvi (β : Type) := (List api_Row) → Int → Int → (List (List UInt8 × Int)) → (List (Int × (Int × (Int × Int)))) → (List zq0) → (List (Int × (Int × Int))) → (List Int) → Option β
abbrev zqvj := {β : Type} → zqvi β → (List api_Row) → Int → Int → (List (List UInt8 × Int)) → (List (Int × (Int × (Int × Int)))) → (List zq0) → (List (Int × (Int × Int))) → Int → Int → Int → (List Int) → Int → Int → (List UInt8) → (List Int) → Option β
def zqvk : View := ⟨0, [2, 6, 8, 9, 14, 15, 16], [(false, [.ptr 0 0]), (false, [.ptr 1 0]), (false, [.ptr 2 0]), (false, [.ptr 3 0]), (false, [.data (.slice zq4)]), (false, [.data (.int .i64)]), (false, [.data (.int .i64)])], [.cells 32 [.data (.slice (.prod .str (.int .i64))), .data (.slice (.prod (.int .i64) (.prod (.int .i64) (.prod (.int .i64) (.int .i64))))), .data (.slice zq1), .data (.slice (.prod (.int .i64) (.prod (.int .i64) (.int .i64))))], .cells 95 [.bself 1, .rowh 4], .cells 42 [.data (.int .i64), .data (.int .i64), .data (.int .i64), .data (.slice (.int .i64))], .cells 60 [.data (.int .i64), .data (.int .i64), .data .str], .row 5 (.int .u8)]⟩
def zqvl : List (AExit × View) := [(.normal, ⟨0, [2, 6, 14, 15, 16], [(false, [.ptr 0 0]), (false, [.ptr 1 0]), (false, [.data (.slice zq4)]), (false, [.data (.int .i64)]), (false, [.data (.int .i64)])], [.cells 32 [.data (.slice (.prod .str (.int .i64))), .data (.slice (.prod (.int .i64) (.prod (.int .i64) (.prod (.int .i64) (.int .i64))))), .data (.slice zq1), .data (.slice (.prod (.int .i64) (.prod (.int .i64) (.int .i64))))], .cells 95 [.bself 1, .rowh 2], .row 5 (.int .u8)]⟩)]
@[reducible] def timeline_Text_p1_G (p : zqvj) {β : Type} (d : zqvk.den) (ks : Outs.K β zqvl) : Option β :=
  p (fun a0 a1 a2 a3 a4 a5 a6 a7 => ks.1 (((), (), (a0, ()), (a1, ()), (a2, ()), ()), ((a3, a4, a5, a6, ()), (), a7, ()))) d.1.2.2.2.2.1.1 d.1.2.2.2.2.2.1.1 d.1.2.2.2.2.2.2.1.1 d.2.1.1 d.2.1.2.1 d.2.1.2.2.1 d.2.1.2.2.2.1 d.2.2.2.1.1 d.2.2.2.1.2.1 d.2.2.2.1.2.2.1 d.2.2.2.1.2.2.2.1 d.2.2.2.2.1.1 d.2.2.2.2.1.2.1 d.2.2.2.2.1.2.2.1 d.2.2.2.2.2.1
abbrev zqvm (β : Type) := (List UInt8) → Int → Option β
abbrev zqvn (β : Type) := (List Int) → Option β
abbrev zqvo := {β : Type} → zqvm β → zqvn β → (List api_Row) → Int → Int → (List (List UInt8 × Int)) → (List (Int × (Int × (Int × Int)))) → (List zq0) → (List (Int × (Int × Int))) → (List Int) → Option β
def zqvp : View := ⟨0, [2, 6, 14, 15, 16], [(false, [.ptr 0 0]), (false, [.ptr 1 0]), (false, [.data (.slice zq4)]), (false, [.data (.int .i64)]), (false, [.data (.int .i64)])], [.cells 32 [.data (.slice (.prod .str (.int .i64))), .data (.slice (.prod (.int .i64) (.prod (.int .i64) (.prod (.int .i64) (.int .i64))))), .data (.slice zq1), .data (.slice (.prod (.int .i64) (.prod (.int .i64) (.int .i64))))], .cells 95 [.bself 1, .rowh 2], .row 5 (.int .u8)]⟩
def zqvq : List (AExit × View) := [(.ret, ⟨0, [4, 5], [(false, [.data .str]), (false, [.data (.int .i64)])], []⟩), (.exit 0, ⟨0, [6], [(false, [.ptr 0 0])], [.cells 95 [.bself 0, .rowh 1], .row 5 (.int .u8)]⟩)]
@[reducible] def timeline_Text_p2_G (p : zqvo) {β : Type} (d : zqvp.den) (ks : Outs.K β zqvq) : Option β :=
  p (fun a0 a1 => ks.1 (((a0, ()), (a1, ()), ()), ())) (fun a0 => ks.2.1 (((), ()), ((), a0, ()))) d.1.2.2.1.1 d.1.2.2.2.1.1 d.1.2.2.2.2.1.1 d.2.1.1 d.2.1.2.1 d.2.1.2.2.1 d.2.1.2.2.2.1 d.2.2.2.1
section
variable (c_strconv_Itoa : zq32) (c_timeline_Check : zquy) (c_timeline_printed : zq2d)
@[reducible] def timeline_Text_X : Ctx := ⟨look tab, pick1 [(41, .spec (zq33 c_strconv_Itoa)), (11, .spec (zquz c_timeline_Check)), (39, .spec (zq2e c_timeline_printed)), (42, .bld zq38), (43, .bld zq3c), (40, .bld zq2y)], false, false, false, false⟩
def zqvr {β : Type} (k1 : zqvi β) (t14 : List api_Row) (t15 : Int) (t16 : Int) (r_ : List (List UInt8 × Int)) (r_2 : List (Int × (Int × (Int × Int)))) (r_3 : List zq0) (r_4 : List (Int × (Int × Int))) (x : Int) (x2 : Int) (x3 : Int) (x4 : List Int) (e : Int) (e2 : Int) (e3 : List UInt8) (b4_ : List Int) : Option β :=
  cond (decide (0 ≤ e) && decide (e < (List.length r_ : Int)))
  (let e4 : (List UInt8 × Int) := List.getD r_ (Int.toNat e) (([] : List UInt8), (0 : Int));
  cond (decide (List.length ([32] : List UInt8) + List.length e4.1 ≤ 9223372036854775807))
  (cond (decide (List.length (([32] : List UInt8) ++ e4.1) + List.length ([32] : List UInt8) ≤ 9223372036854775807))
  (cond (decide (List.length ((([32] : List UInt8) ++ e4.1) ++ ([32] : List UInt8)) + List.length e3 ≤ 9223372036854775807))
  (cond (decide (List.length b4_ + List.length (((([32] : List UInt8) ++ e4.1) ++ ([32] : List UInt8)) ++ e3) ≤ 140737488355328))
  (let l : List Int := (b4_ ++ bytesI (((([32] : List UInt8) ++ e4.1) ++ ([32] : List UInt8)) ++ e3));
  cond (decide ((0 : Int) < (List.length x4 : Int)))
  (cond (decide (List.length l + List.length ([32, 111, 112, 101, 110] : List UInt8) ≤ 140737488355328))
  (let l2 : List Int := (l ++ bytesI ([32, 111, 112, 101, 110] : List UInt8));
  cond (decide (List.length l2 + List.length ([10] : List UInt8) ≤ 140737488355328))
  (let l3 : List Int := (l2 ++ bytesI ([10] : List UInt8));
  k1 t14 t15 t16 r_ r_2 r_3 r_4 l3)
  none)
  none)
  (cond (decide (List.length l + List.length ([10] : List UInt8) ≤ 140737488355328))
  (let l2 : List Int := (l ++ bytesI ([10] : List UInt8));
  k1 t14 t15 t16 r_ r_2 r_3 r_4 l2)
  none))
  none)
  none)
  none)
  none)
  none
def zqvs {β : Type} (k1 : zqvi β) (t14 : List api_Row) (t15 : Int) (t16 : Int) (r_ : List (List UInt8 × Int)) (r_2 : List (Int × (Int × (Int × Int)))) (r_3 : List zq0) (r_4 : List (Int × (Int × Int))) (x : Int) (x2 : Int) (x3 : Int) (x4 : List Int) (e : Int) (e2 : Int) (e3 : List UInt8) (b4_ : List Int) : Option β := zqvr k1 t14 t15 t16 r_ r_2 r_3 r_4 x x2 x3 x4 e e2 e3 b4_
theorem zqvt (hΓ : ΓOk Tryz.prog (timeline_Text_X c_strconv_Itoa c_timeline_Check c_timeline_printed).Γ) : PieceOk Tryz.prog 82 0 timeline_Text_p1_code zqvk zqvl (timeline_Text_p1_G (zqvs)) :=
  piece_exec (X := (timeline_Text_X c_strconv_Itoa c_timeline_Check c_timeline_printed)) (p := 927) (Λ := pick1 []) mixed tab_ok hΓ (by kernel_rfl) CutsOk_nil (fun d ks r h => Eq.trans (b := timeline_Text_p1_G (zqvs) d ks) (by kernel_rfl) h)
def zqvu (p1 : zqvj) {β : Type} (rec : (List api_Row) → Int → Int → (List (List UInt8 × Int)) → (List (Int × (Int × (Int × Int)))) → (List zq0) → (List (Int × (Int × Int))) → (List Int) → Option β) (k1 : zqvm β) (k2 : zqvn β) (t14 : List api_Row) (t15 : Int) (t16 : Int) (r_ : List (List UInt8 × Int)) (r_2 : List (Int × (Int × (Int × Int)))) (r_3 : List zq0) (r_4 : List (Int × (Int × Int))) (b2_ : List Int) : Option β :=
  cond (decide (t16 < t15))
  (cond (decide (0 ≤ t16) && decide (t16 < (List.length t14 : Int)))
  (let e : api_Row := List.getD t14 (Int.toNat t16) ((0 : Int), (((0 : Int), (0 : Int)), ([] : List Int)));
  cond (decide (0 ≤ e.1) && decide (e.1 < (List.length r_3 : Int)))
  (let e2 : zq0 := List.getD r_3 (Int.toNat e.1) ((0 : Int), ((0 : Int), ([] : List UInt8)));
  cond (decide (0 ≤ e2.1) && decide (e2.1 < (List.length r_ : Int)))
  (let e3 : (List UInt8 × Int) := List.getD r_ (Int.toNat e2.1) (([] : List UInt8), (0 : Int));
  c_timeline_printed e3.1 (33 : Int) (fun (rprinted : Bool) =>
  cond (!rprinted)
  (k1 ([] : List UInt8) (2 : Int))
  (c_timeline_printed e2.2.2 (32 : Int) (fun (rprinted2 : Bool) =>
  cond (!rprinted2)
  (k1 ([] : List UInt8) (2 : Int))
  (c_strconv_Itoa e.2.1.1 (fun (rItoa : List UInt8) =>
  cond (decide (List.length b2_ + List.length rItoa ≤ 140737488355328))
  (let l : List Int := (b2_ ++ bytesI rItoa);
  cond (!decide (e.2.1.2 = e.2.1.1))
  (c_strconv_Itoa e.2.1.2 (fun (rItoa2 : List UInt8) =>
  cond (decide (List.length ([46, 46] : List UInt8) + List.length rItoa2 ≤ 9223372036854775807))
  (cond (decide (List.length l + List.length (([46, 46] : List UInt8) ++ rItoa2) ≤ 140737488355328))
  (let l2 : List Int := (l ++ bytesI (([46, 46] : List UInt8) ++ rItoa2));
  p1 (fun (t142 : List api_Row) (t152 : Int) (t162 : Int) (r_5 : List (List UInt8 × Int)) (r_6 : List (Int × (Int × (Int × Int)))) (r_7 : List zq0) (r_8 : List (Int × (Int × Int))) (b2_2 : List Int) =>
  rec t142 t152 (IntKind.i64.wrap (t162 + (1 : Int))) r_5 r_6 r_7 r_8 b2_2) t14 t15 t16 r_ r_2 r_3 r_4 e.1 e.2.1.1 e.2.1.2 e.2.2 e2.1 e2.2.1 e2.2.2 l2)
  none)
  none))
  (p1 (fun (t142 : List api_Row) (t152 : Int) (t162 : Int) (r_5 : List (List UInt8 × Int)) (r_6 : List (Int × (Int × (Int × Int)))) (r_7 : List zq0) (r_8 : List (Int × (Int × Int))) (b2_2 : List Int) =>
  rec t142 t152 (IntKind.i64.wrap (t162 + (1 : Int))) r_5 r_6 r_7 r_8 b2_2) t14 t15 t16 r_ r_2 r_3 r_4 e.1 e.2.1.1 e.2.1.2 e.2.2 e2.1 e2.2.1 e2.2.2 l))
  none))))))
  none)
  none)
  none)
  (k2 b2_)
def zqvv (p1 : zqvj) {β : Type} : Nat → zqvm β → zqvn β → (List api_Row) → Int → Int → (List (List UInt8 × Int)) → (List (Int × (Int × (Int × Int)))) → (List zq0) → (List (Int × (Int × Int))) → (List Int) → Option β
  | 0 => fun _ _ _ _ _ _ _ _ _ _ => none
  | i + 1 => fun k1 k2 t14 t15 t16 r_ r_2 r_3 r_4 b2_ => zqvu c_strconv_Itoa c_timeline_printed p1 (zqvv p1 i k1 k2) k1 k2 t14 t15 t16 r_ r_2 r_3 r_4 b2_
theorem zqvw (hΓ : ΓOk Tryz.prog (timeline_Text_X c_strconv_Itoa c_timeline_Check c_timeline_printed).Γ) (p1 : zqvj) (hp1 : PieceOk Tryz.prog 82 0 timeline_Text_p1_code zqvk zqvl (timeline_Text_p1_G p1)) (i : Nat) : PieceOk Tryz.prog 82 0 timeline_Text_p2_code zqvp zqvq (timeline_Text_p2_G (zqvv c_strconv_Itoa c_timeline_printed p1 i)) := by
  rw [show timeline_Text_p2_code = .loop (loopBody timeline_Text_p2_code) by kernel_rfl]
  exact piece_loop (X := (timeline_Text_X c_strconv_Itoa c_timeline_Check c_timeline_printed)) (p := 1) (Λ := pick1 [(927, pieceCut zqvk zqvl (timeline_Text_p1_G p1))]) (G := fun i => @fun β d ks => timeline_Text_p2_G (zqvv c_strconv_Itoa c_timeline_printed p1 i) d ks) mixed tab_ok hΓ rfl (by kernel_rfl) (CutsOk_cons (q := 927) (c' := timeline_Text_p1_code) (by kernel_rfl) rfl hp1 CutsOk_nil) (fun _ _ => rfl) (fun i => @fun β d ks r h => Eq.trans (b := timeline_Text_p2_G (zqvv c_strconv_Itoa c_timeline_printed p1 (i + 1)) d ks) (by kernel_rfl) h) i
def zqvx (p2 : zqvo) {β : Type} (r_ : zq2) (l : List api_Row) (k : ((List UInt8) → Int → Option β)) : Option β :=
  c_timeline_Check r_ l (fun (rCheck : Bool) =>
  cond (!rCheck)
  (k ([] : List UInt8) (8 : Int))
  (p2 (fun (t4 : List UInt8) (t5 : Int) =>
  k t4 t5) (fun (b1_ : List Int) =>
  cond (decide ((65536 : Int) < (List.length b1_ : Int)))
  (k ([] : List UInt8) (5 : Int))
  (cond (bytesOk b1_)
  (k (strOf b1_) (0 : Int))
  none)) l (List.length l : Int) (0 : Int) r_.1 r_.2.1 r_.2.2.1 r_.2.2.2 ([] : List Int)))
theorem zqvy (hΓ : ΓOk Tryz.prog (timeline_Text_X c_strconv_Itoa c_timeline_Check c_timeline_printed).Γ) (p2 : zqvo) (hp2 : PieceOk Tryz.prog 82 0 timeline_Text_p2_code zqvp zqvq (timeline_Text_p2_G p2)) : SpecOk Tryz.prog 21 (zqvh (zqvx c_timeline_Check p2)) :=
  spec_exec (X := (timeline_Text_X c_strconv_Itoa c_timeline_Check c_timeline_printed)) (Λ := pick1 [(122, pieceCut zqvp zqvq (timeline_Text_p2_G p2))]) (rs := [.tmp 4, .tmp 5]) (c := bodyOf Tryz.f21) mixed tab_ok hΓ Tryz.func21 (by kernel_rfl) (by kernel_rfl) (by kernel_rfl) (by kernel_rfl) (CutsOk_cons (q := 122) (c' := timeline_Text_p2_code) (by kernel_rfl) rfl hp2 CutsOk_nil) (fun x k r h => Eq.trans (b := (zqvh (zqvx c_timeline_Check p2)).run x k) (by kernel_rfl) h)
end
theorem zqvzΓ : ΓOk Tryz.prog (pick1 [(41, .spec (zq33 zq34)), (11, .spec (zquz zqve)), (39, .spec (zq2e zq2u)), (42, .bld zq38), (43, .bld zq3c), (40, .bld zq2y)]) := (ΓOk_cons zq35 (ΓOk_cons zqvf (ΓOk_cons zq2v (ΓOk_bld zq39 (ΓOk_bld zq3d (ΓOk_bld zq2z ΓOk_nil))))))
def zqw0 : zqvj := zqvs
theorem zqw1 : PieceOk Tryz.prog 82 0 timeline_Text_p1_code zqvk zqvl (timeline_Text_p1_G zqw0) := zqvt zq34 zqve zq2u zqvzΓ
def zqw2 (m : Nat) : zqvo := zqvv zq34 zq2u zqw0 m
theorem zqw3 {β : Type} (i : Nat) (k1 k2 t14 t15 t16 r_ r_2 r_3 r_4 b2_) : (zqw2 (i + 1) k1 k2 t14 t15 t16 r_ r_2 r_3 r_4 b2_ : Option β) = zqvu zq34 zq2u zqw0 (zqw2 i k1 k2) k1 k2 t14 t15 t16 r_ r_2 r_3 r_4 b2_ := rfl
def zqw4 : zqvo := zqw2 fuel
theorem zqw5 : PieceOk Tryz.prog 82 0 timeline_Text_p2_code zqvp zqvq (timeline_Text_p2_G zqw4) := zqvw zq34 zqve zq2u zqvzΓ zqw0 zqw1 fuel
def zqw6 : zqvg := zqvx zqve zqw4
theorem zqw7 : SpecOk Tryz.prog 21 (zqvh zqw6) := zqvy zq34 zqve zq2u zqvzΓ zqw4 zqw5

/-- pagewatch/pagewatchlaw41.sane -/
abbrev zqw8 := {β : Type} → (Bool → Option β) → Option β
def zqw9 (c : zqw8) : Spec :=
  ⟨[], [], [(false, [.data .bool])], [], fun x k => c  (fun r0 => k (((r0, ()), ()), ()))⟩
section
variable (c_timeline_Rows : zqsz) (c_timeline_Text : zqvg)
@[reducible] def law41_sane_X : Ctx := ⟨look tab, pick1 [(10, .spec (zqt0 c_timeline_Rows)), (21, .spec (zqvh c_timeline_Text))], false, false, true, false⟩
def zqwa {β : Type} (k : (Bool → Option β)) : Option β :=
  let l : List (List UInt8 × Int) := ([(([100, 98] : List UInt8), (0 : Int))] : List (List UInt8 × Int));
  let l2 : List (Int × (Int × (Int × Int))) := ([((0 : Int), ((10 : Int), ((100 : Int), (100 : Int))))] : List (Int × (Int × (Int × Int))));
  let l3 : List zq0 := ([((0 : Int), ((20 : Int), ([100, 111, 119, 110] : List UInt8))), ((0 : Int), ((10 : Int), ([115, 108, 111, 119] : List UInt8)))] : List zq0);
  c_timeline_Rows (l, (l2, (l3, ([] : List (Int × (Int × Int)))))) (fun (rRows : Bool) (lrRows : List api_Row) =>
  c_timeline_Text (l, (l2, (l3, ([] : List (Int × (Int × Int)))))) lrRows (fun (rText : List UInt8) (rText2 : Int) =>
  cond rRows
  (cond (decide (rText2 = (0 : Int)))
  (let t : Bool := (decide (rText = ([49, 48, 48, 32, 100, 98, 32, 115, 108, 111, 119, 10, 49, 49, 48, 32, 100, 98, 32, 100, 111, 119, 110, 10] : List UInt8)));
  k t)
  (k false))
  (k false)))
theorem zqwb (hΓ : ΓOk Tryz.prog (law41_sane_X c_timeline_Rows c_timeline_Text).Γ) : SpecOk Tryz.prog 7 (zqw9 (zqwa c_timeline_Rows c_timeline_Text)) :=
  spec_exec (X := (law41_sane_X c_timeline_Rows c_timeline_Text)) (Λ := pick1 []) (rs := [.tmp 0]) (c := bodyOf Tryz.f7) mixed tab_ok hΓ Tryz.func7 (by kernel_rfl) (by kernel_rfl) (by kernel_rfl) (by kernel_rfl) CutsOk_nil (fun x k r h => Eq.trans (b := (zqw9 (zqwa c_timeline_Rows c_timeline_Text)).run x k) (by kernel_rfl) h)
end
theorem zqwcΓ : ΓOk Tryz.prog (pick1 [(10, .spec (zqt0 zqt4)), (21, .spec (zqvh zqw6))]) := (ΓOk_cons zqt5 (ΓOk_cons zqw7 ΓOk_nil))
def zqwd : zqw8 := zqwa zqt4 zqw6
theorem zqwe : SpecOk Tryz.prog 7 (zqw9 zqwd) := zqwb zqt4 zqw6 zqwcΓ

/-- pagewatch/pagewatchlaw41.TimelineMarks -/
abbrev zqwf := {β : Type} → (List Int) → (Bool → Option β) → Option β
def zqwg (c : zqwf) : Spec :=
  ⟨[(false, [.data (.slice (.int .i64))])], [], [(false, [.data .bool])], [], fun x k => c x.1.1.1 (fun r0 => k (((r0, ()), ()), ()))⟩
noncomputable def law41_TimelineMarks_p3_code : Code := codeAt 2042 (bodyOf Tryz.f3)
noncomputable def law41_TimelineMarks_p1_code : Code := codeAt 1850 (loopBody law41_TimelineMarks_p3_code)
noncomputable def law41_TimelineMarks_p2_code : Code := codeAt 3706 (loopBody law41_TimelineMarks_p3_code)
abbrev zqwh (β : Type) := Bool → Option β
abbrev zqwi (β : Type) := Int → Int → (List (List UInt8 × Int)) → (List (Int × (Int × (Int × Int)))) → (List zq0) → (List (Int × (Int × Int))) → (List Int) → (List api_Row) → (List Int) → Int → Int → Int → (List Int) → Option β
abbrev zqwj := {β : Type} → zqwh β → zqwi β → Int → Int → Int → Int → (List (List UInt8 × Int)) → (List (Int × (Int × (Int × Int)))) → (List zq0) → (List (Int × (Int × Int))) → (List Int) → (List api_Row) → (List Int) → Int → Int → Int → (List Int) → Option β
def zqwk : View := ⟨0, [4, 5, 6, 8, 10, 49, 50, 95, 96, 97], [(false, [.ptr 0 0]), (false, [.rowh 1]), (false, [.rowh 2]), (false, [.rowh 3]), (false, [.ptr 4 0]), (false, [.data (.int .i64)]), (false, [.data (.int .i64)]), (false, [.rowh 3]), (false, [.data (.int .i64)]), (false, [.data (.int .i64)])], [.cells 32 [.data (.slice (.prod .str (.int .i64))), .data (.slice (.prod (.int .i64) (.prod (.int .i64) (.prod (.int .i64) (.int .i64))))), .data (.slice zq1), .data (.slice (.prod (.int .i64) (.prod (.int .i64) (.int .i64))))], .row 3 (.int .i64), .row 42 zq4, .row 3 (.int .i64), .cells 42 [.data (.int .i64), .data (.int .i64), .data (.int .i64), .data (.slice (.int .i64))]]⟩
def zqwl : List (AExit × View) := [(.ret, ⟨0, [2], [(false, [.data .bool])], []⟩), (.exit 2, ⟨0, [4, 5, 6, 8, 10, 49, 50], [(false, [.ptr 0 0]), (false, [.rowh 1]), (false, [.rowh 2]), (false, [.rowh 3]), (false, [.ptr 4 0]), (false, [.data (.int .i64)]), (false, [.data (.int .i64)])], [.cells 32 [.data (.slice (.prod .str (.int .i64))), .data (.slice (.prod (.int .i64) (.prod (.int .i64) (.prod (.int .i64) (.int .i64))))), .data (.slice zq1), .data (.slice (.prod (.int .i64) (.prod (.int .i64) (.int .i64))))], .row 3 (.int .i64), .row 42 zq4, .row 3 (.int .i64), .cells 42 [.data (.int .i64), .data (.int .i64), .data (.int .i64), .data (.slice (.int .i64))]]⟩)]
@[reducible] def law41_TimelineMarks_p1_G (p : zqwj) {β : Type} (d : zqwk.den) (ks : Outs.K β zqwl) : Option β :=
  p (fun a0 => ks.1 (((a0, ()), ()), ())) (fun a0 a1 a2 a3 a4 a5 a6 a7 a8 a9 a10 a11 a12 => ks.2.1 (((), (), (), (), (), (a0, ()), (a1, ()), ()), ((a2, a3, a4, a5, ()), a6, a7, a8, (a9, a10, a11, a12, ()), ()))) d.1.2.2.2.2.2.1.1 d.1.2.2.2.2.2.2.1.1 d.1.2.2.2.2.2.2.2.2.1.1 d.1.2.2.2.2.2.2.2.2.2.1.1 d.2.1.1 d.2.1.2.1 d.2.1.2.2.1 d.2.1.2.2.2.1 d.2.2.1 d.2.2.2.1 d.2.2.2.2.1 d.2.2.2.2.2.1.1 d.2.2.2.2.2.1.2.1 d.2.2.2.2.2.1.2.2.1 d.2.2.2.2.2.1.2.2.2.1
abbrev zqwm (β : Type) := Bool → Option β
abbrev zqwn (β : Type) := Int → Int → (List (List UInt8 × Int)) → (List (Int × (Int × (Int × Int)))) → (List zq0) → (List (Int × (Int × Int))) → (List Int) → (List api_Row) → (List Int) → Int → Int → Int → (List Int) → Option β
abbrev zqwo := {β : Type} → zqwm β → zqwn β → Int → Int → (List Int) → Int → Int → (List (List UInt8 × Int)) → (List (Int × (Int × (Int × Int)))) → (List zq0) → (List (Int × (Int × Int))) → (List Int) → (List api_Row) → (List Int) → Int → Int → Int → (List Int) → Option β
def zqwp : View := ⟨0, [4, 5, 6, 8, 10, 49, 50, 126, 127, 128], [(false, [.ptr 0 0]), (false, [.rowh 1]), (false, [.rowh 2]), (false, [.rowh 3]), (false, [.ptr 4 0]), (false, [.data (.int .i64)]), (false, [.data (.int .i64)]), (false, [.data (.slice (.int .i64))]), (false, [.data (.int .i64)]), (false, [.data (.int .i64)])], [.cells 32 [.data (.slice (.prod .str (.int .i64))), .data (.slice (.prod (.int .i64) (.prod (.int .i64) (.prod (.int .i64) (.int .i64))))), .data (.slice zq1), .data (.slice (.prod (.int .i64) (.prod (.int .i64) (.int .i64))))], .row 3 (.int .i64), .row 42 zq4, .row 3 (.int .i64), .cells 42 [.data (.int .i64), .data (.int .i64), .data (.int .i64), .data (.slice (.int .i64))]]⟩
def zqwq : List (AExit × View) := [(.ret, ⟨0, [2], [(false, [.data .bool])], []⟩), (.exit 4, ⟨0, [4, 5, 6, 8, 10, 49, 50], [(false, [.ptr 0 0]), (false, [.rowh 1]), (false, [.rowh 2]), (false, [.rowh 3]), (false, [.ptr 4 0]), (false, [.data (.int .i64)]), (false, [.data (.int .i64)])], [.cells 32 [.data (.slice (.prod .str (.int .i64))), .data (.slice (.prod (.int .i64) (.prod (.int .i64) (.prod (.int .i64) (.int .i64))))), .data (.slice zq1), .data (.slice (.prod (.int .i64) (.prod (.int .i64) (.int .i64))))], .row 3 (.int .i64), .row 42 zq4, .row 3 (.int .i64), .cells 42 [.data (.int .i64), .data (.int .i64), .data (.int .i64), .data (.slice (.int .i64))]]⟩)]
@[reducible] def law41_TimelineMarks_p2_G (p : zqwo) {β : Type} (d : zqwp.den) (ks : Outs.K β zqwq) : Option β :=
  p (fun a0 => ks.1 (((a0, ()), ()), ())) (fun a0 a1 a2 a3 a4 a5 a6 a7 a8 a9 a10 a11 a12 => ks.2.1 (((), (), (), (), (), (a0, ()), (a1, ()), ()), ((a2, a3, a4, a5, ()), a6, a7, a8, (a9, a10, a11, a12, ()), ()))) d.1.2.2.2.2.2.1.1 d.1.2.2.2.2.2.2.1.1 d.1.2.2.2.2.2.2.2.1.1 d.1.2.2.2.2.2.2.2.2.1.1 d.1.2.2.2.2.2.2.2.2.2.1.1 d.2.1.1 d.2.1.2.1 d.2.1.2.2.1 d.2.1.2.2.2.1 d.2.2.1 d.2.2.2.1 d.2.2.2.2.1 d.2.2.2.2.2.1.1 d.2.2.2.2.2.1.2.1 d.2.2.2.2.2.1.2.2.1 d.2.2.2.2.2.1.2.2.2.1
abbrev zqwr (β : Type) := Bool → Option β
abbrev zqws (β : Type) := Unit → Option β
abbrev zqwt := {β : Type} → zqwr β → zqws β → Int → Int → (List (List UInt8 × Int)) → (List (Int × (Int × (Int × Int)))) → (List zq0) → (List (Int × (Int × Int))) → (List Int) → (List api_Row) → (List Int) → Option β
def zqwu : View := ⟨0, [4, 5, 6, 8, 49, 50], [(false, [.ptr 0 0]), (false, [.rowh 1]), (false, [.rowh 2]), (false, [.rowh 3]), (false, [.data (.int .i64)]), (false, [.data (.int .i64)])], [.cells 32 [.data (.slice (.prod .str (.int .i64))), .data (.slice (.prod (.int .i64) (.prod (.int .i64) (.prod (.int .i64) (.int .i64))))), .data (.slice zq1), .data (.slice (.prod (.int .i64) (.prod (.int .i64) (.int .i64))))], .row 3 (.int .i64), .row 42 zq4, .row 3 (.int .i64)]⟩
def zqwv : List (AExit × View) := [(.ret, ⟨0, [2], [(false, [.data .bool])], []⟩), (.exit 0, ⟨0, [], [], []⟩)]
@[reducible] def law41_TimelineMarks_p3_G (p : zqwt) {β : Type} (d : zqwu.den) (ks : Outs.K β zqwv) : Option β :=
  p (fun a0 => ks.1 (((a0, ()), ()), ())) (fun _ => ks.2.1 ((), ())) d.1.2.2.2.2.1.1 d.1.2.2.2.2.2.1.1 d.2.1.1 d.2.1.2.1 d.2.1.2.2.1 d.2.1.2.2.2.1 d.2.2.1 d.2.2.2.1 d.2.2.2.2.1
section
variable (c_law41_sane : zqw8) (c_made_Dice_Record : zqab) (c_made_Light : zq5) (c_made_Roll : zqc) (c_ref25_Has : zqj) (c_ref40_Compare : zql7) (c_timeline_Check : zquy) (c_timeline_Rows : zqsz)
@[reducible] def law41_TimelineMarks_X : Ctx := ⟨look tab, pick1 [(7, .spec (zqw9 c_law41_sane)), (9, .spec (zqac c_made_Dice_Record)), (6, .spec (zq6 c_made_Light)), (8, .spec (zqd c_made_Roll)), (12, .spec (zqk c_ref25_Has)), (13, .spec (zql8 c_ref40_Compare)), (11, .spec (zquz c_timeline_Check)), (10, .spec (zqt0 c_timeline_Rows))], false, false, false, false⟩
def zqww {β : Type} (rec : Int → Int → Int → Int → (List (List UInt8 × Int)) → (List (Int × (Int × (Int × Int)))) → (List zq0) → (List (Int × (Int × Int))) → (List Int) → (List api_Row) → (List Int) → Int → Int → Int → (List Int) → Option β) (k1 : zqwh β) (k2 : zqwi β) (t49 : Int) (t50 : Int) (t96 : Int) (t97 : Int) (r_ : List (List UInt8 × Int)) (r_2 : List (Int × (Int × (Int × Int)))) (r_3 : List zq0) (r_4 : List (Int × (Int × Int))) (times : List Int) (l : List api_Row) (seen : List Int) (x : Int) (x2 : Int) (x3 : Int) (x4 : List Int) : Option β :=
  cond (decide (t97 < t96))
  (cond (decide (0 ≤ t97) && decide (t97 < (List.length seen : Int)))
  (let k_ : Int := (List.getD seen (Int.toNat t97) (0 : Int));
  c_ref40_Compare (r_, (r_2, (r_3, r_4))) k_ x (fun (rCompare : Int) (rCompare2 : Bool) =>
  cond (!rCompare2)
  (k1 false)
  (cond (decide (rCompare = (1 : Int)))
  (k1 false)
  (c_ref25_Has x4 k_ (fun (rHas : Bool) =>
  cond (!(rHas == (decide (rCompare = (0 : Int)))))
  (k1 false)
  (rec t49 t50 t96 (IntKind.i64.wrap (t97 + (1 : Int))) r_ r_2 r_3 r_4 times l seen x x2 x3 x4))))))
  none)
  (k2 t49 t50 r_ r_2 r_3 r_4 times l seen x x2 x3 x4)
def zqwx {β : Type} : Nat → zqwh β → zqwi β → Int → Int → Int → Int → (List (List UInt8 × Int)) → (List (Int × (Int × (Int × Int)))) → (List zq0) → (List (Int × (Int × Int))) → (List Int) → (List api_Row) → (List Int) → Int → Int → Int → (List Int) → Option β
  | 0 => fun _ _ _ _ _ _ _ _ _ _ _ _ _ _ _ _ _ => none
  | i + 1 => fun k1 k2 t49 t50 t96 t97 r_ r_2 r_3 r_4 times l seen x x2 x3 x4 => zqww c_ref25_Has c_ref40_Compare (zqwx i k1 k2) k1 k2 t49 t50 t96 t97 r_ r_2 r_3 r_4 times l seen x x2 x3 x4
theorem zqwy (hΓ : ΓOk Tryz.prog (law41_TimelineMarks_X c_law41_sane c_made_Dice_Record c_made_Light c_made_Roll c_ref25_Has c_ref40_Compare c_timeline_Check c_timeline_Rows).Γ) (i : Nat) : PieceOk Tryz.prog 144 0 law41_TimelineMarks_p1_code zqwk zqwl (law41_TimelineMarks_p1_G (zqwx c_ref25_Has c_ref40_Compare i)) := by
  rw [show law41_TimelineMarks_p1_code = .loop (loopBody law41_TimelineMarks_p1_code) by kernel_rfl]
  exact piece_loop (X := (law41_TimelineMarks_X c_law41_sane c_made_Dice_Record c_made_Light c_made_Roll c_ref25_Has c_ref40_Compare c_timeline_Check c_timeline_Rows)) (p := 1) (Λ := pick1 []) (G := fun i => @fun β d ks => law41_TimelineMarks_p1_G (zqwx c_ref25_Has c_ref40_Compare i) d ks) mixed tab_ok hΓ rfl (by kernel_rfl) CutsOk_nil (fun _ _ => rfl) (fun i => @fun β d ks r h => Eq.trans (b := law41_TimelineMarks_p1_G (zqwx c_ref25_Has c_ref40_Compare (i + 1)) d ks) (by kernel_rfl) h) i
def zqwz {β : Type} (rec : Int → Int → (List Int) → Int → Int → (List (List UInt8 × Int)) → (List (Int × (Int × (Int × Int)))) → (List zq0) → (List (Int × (Int × Int))) → (List Int) → (List api_Row) → (List Int) → Int → Int → Int → (List Int) → Option β) (k1 : zqwm β) (k2 : zqwn β) (t49 : Int) (t50 : Int) (t126 : List Int) (t127 : Int) (t128 : Int) (r_ : List (List UInt8 × Int)) (r_2 : List (Int × (Int × (Int × Int)))) (r_3 : List zq0) (r_4 : List (Int × (Int × Int))) (times : List Int) (l : List api_Row) (seen : List Int) (x : Int) (x2 : Int) (x3 : Int) (x4 : List Int) : Option β :=
  cond (decide (t128 < t127))
  (cond (decide (0 ≤ t128) && decide (t128 < (List.length t126 : Int)))
  (let e : Int := List.getD t126 (Int.toNat t128) (0 : Int);
  c_ref25_Has seen e (fun (rHas : Bool) =>
  cond (!rHas)
  (k1 false)
  (rec t49 t50 t126 t127 (IntKind.i64.wrap (t128 + (1 : Int))) r_ r_2 r_3 r_4 times l seen x x2 x3 x4)))
  none)
  (k2 t49 t50 r_ r_2 r_3 r_4 times l seen x x2 x3 x4)
def zqx0 {β : Type} : Nat → zqwm β → zqwn β → Int → Int → (List Int) → Int → Int → (List (List UInt8 × Int)) → (List (Int × (Int × (Int × Int)))) → (List zq0) → (List (Int × (Int × Int))) → (List Int) → (List api_Row) → (List Int) → Int → Int → Int → (List Int) → Option β
  | 0 => fun _ _ _ _ _ _ _ _ _ _ _ _ _ _ _ _ _ _ => none
  | i + 1 => fun k1 k2 t49 t50 t126 t127 t128 r_ r_2 r_3 r_4 times l seen x x2 x3 x4 => zqwz c_ref25_Has (zqx0 i k1 k2) k1 k2 t49 t50 t126 t127 t128 r_ r_2 r_3 r_4 times l seen x x2 x3 x4
theorem zqx1 (hΓ : ΓOk Tryz.prog (law41_TimelineMarks_X c_law41_sane c_made_Dice_Record c_made_Light c_made_Roll c_ref25_Has c_ref40_Compare c_timeline_Check c_timeline_Rows).Γ) (i : Nat) : PieceOk Tryz.prog 144 0 law41_TimelineMarks_p2_code zqwp zqwq (law41_TimelineMarks_p2_G (zqx0 c_ref25_Has i)) := by
  rw [show law41_TimelineMarks_p2_code = .loop (loopBody law41_TimelineMarks_p2_code) by kernel_rfl]
  exact piece_loop (X := (law41_TimelineMarks_X c_law41_sane c_made_Dice_Record c_made_Light c_made_Roll c_ref25_Has c_ref40_Compare c_timeline_Check c_timeline_Rows)) (p := 1) (Λ := pick1 []) (G := fun i => @fun β d ks => law41_TimelineMarks_p2_G (zqx0 c_ref25_Has i) d ks) mixed tab_ok hΓ rfl (by kernel_rfl) CutsOk_nil (fun _ _ => rfl) (fun i => @fun β d ks r h => Eq.trans (b := law41_TimelineMarks_p2_G (zqx0 c_ref25_Has (i + 1)) d ks) (by kernel_rfl) h) i
def zqx2 (p1 : zqwj) (p2 : zqwo) {β : Type} (rec : Int → Int → (List (List UInt8 × Int)) → (List (Int × (Int × (Int × Int)))) → (List zq0) → (List (Int × (Int × Int))) → (List Int) → (List api_Row) → (List Int) → Option β) (k1 : zqwr β) (k2 : zqws β) (t49 : Int) (t50 : Int) (r_ : List (List UInt8 × Int)) (r_2 : List (Int × (Int × (Int × Int)))) (r_3 : List zq0) (r_4 : List (Int × (Int × Int))) (times : List Int) (l : List api_Row) (seen : List Int) : Option β :=
  cond (decide (t50 < t49))
  (cond (decide (0 ≤ t50) && decide (t50 < (List.length l : Int)))
  (c_ref25_Has seen ((List.getD l (Int.toNat t50) ((0 : Int), (((0 : Int), (0 : Int)), ([] : List Int)))).1) (fun (rHas : Bool) =>
  cond rHas
  (k1 false)
  (cond (decide (((List.getD l (Int.toNat t50) ((0 : Int), (((0 : Int), (0 : Int)), ([] : List Int)))).1) < (0 : Int)))
  (k1 false)
  (cond (decide ((List.length times : Int) ≤ ((List.getD l (Int.toNat t50) ((0 : Int), (((0 : Int), (0 : Int)), ([] : List Int)))).1)))
  (k1 false)
  (cond (decide (0 ≤ (List.getD l (Int.toNat t50) ((0 : Int), (((0 : Int), (0 : Int)), ([] : List Int)))).1) && decide ((List.getD l (Int.toNat t50) ((0 : Int), (((0 : Int), (0 : Int)), ([] : List Int)))).1 < (List.length times : Int)))
  (cond (decide ((List.getD times (Int.toNat ((List.getD l (Int.toNat t50) ((0 : Int), (((0 : Int), (0 : Int)), ([] : List Int)))).1)) (0 : Int)) < ((((List.getD l (Int.toNat t50) ((0 : Int), (((0 : Int), (0 : Int)), ([] : List Int)))).2).1).1)))
  (k1 false)
  (cond (decide (0 ≤ (List.getD l (Int.toNat t50) ((0 : Int), (((0 : Int), (0 : Int)), ([] : List Int)))).1) && decide ((List.getD l (Int.toNat t50) ((0 : Int), (((0 : Int), (0 : Int)), ([] : List Int)))).1 < (List.length times : Int)))
  (cond (decide (((((List.getD l (Int.toNat t50) ((0 : Int), (((0 : Int), (0 : Int)), ([] : List Int)))).2).1).2) < (List.getD times (Int.toNat ((List.getD l (Int.toNat t50) ((0 : Int), (((0 : Int), (0 : Int)), ([] : List Int)))).1)) (0 : Int))))
  (k1 false)
  (p1 (fun (t2 : Bool) =>
  k1 t2) (fun (t492 : Int) (t502 : Int) (r_5 : List (List UInt8 × Int)) (r_6 : List (Int × (Int × (Int × Int)))) (r_7 : List zq0) (r_8 : List (Int × (Int × Int))) (times2 : List Int) (l2 : List api_Row) (seen2 : List Int) (x : Int) (x2 : Int) (x3 : Int) (x4 : List Int) =>
  p2 (fun (t2 : Bool) =>
  k1 t2) (fun (t493 : Int) (t503 : Int) (r_9 : List (List UInt8 × Int)) (r_10 : List (Int × (Int × (Int × Int)))) (r_11 : List zq0) (r_12 : List (Int × (Int × Int))) (times3 : List Int) (l3 : List api_Row) (seen3 : List Int) (x5 : Int) (x6 : Int) (x7 : Int) (x8 : List Int) =>
  let l4 : List Int := ([x5] : List Int);
  cond (decide ((List.length seen3 + List.length l4) * 8 ≤ roomMax))
  (let l5 : List Int := (seen3 ++ l4);
  rec t493 (IntKind.i64.wrap (t503 + (1 : Int))) r_9 r_10 r_11 r_12 times3 l3 l5)
  none) t492 t502 x4 (List.length x4 : Int) (0 : Int) r_5 r_6 r_7 r_8 times2 l2 seen2 x x2 x3 x4) t49 t50 (List.length seen : Int) (0 : Int) r_ r_2 r_3 r_4 times l seen ((List.getD l (Int.toNat t50) ((0 : Int), (((0 : Int), (0 : Int)), ([] : List Int)))).1) ((((List.getD l (Int.toNat t50) ((0 : Int), (((0 : Int), (0 : Int)), ([] : List Int)))).2).1).1) ((((List.getD l (Int.toNat t50) ((0 : Int), (((0 : Int), (0 : Int)), ([] : List Int)))).2).1).2) (((List.getD l (Int.toNat t50) ((0 : Int), (((0 : Int), (0 : Int)), ([] : List Int)))).2).2)))
  none))
  none)))))
  none)
  (k2 ())
def zqx3 (p1 : zqwj) (p2 : zqwo) {β : Type} : Nat → zqwr β → zqws β → Int → Int → (List (List UInt8 × Int)) → (List (Int × (Int × (Int × Int)))) → (List zq0) → (List (Int × (Int × Int))) → (List Int) → (List api_Row) → (List Int) → Option β
  | 0 => fun _ _ _ _ _ _ _ _ _ _ _ => none
  | i + 1 => fun k1 k2 t49 t50 r_ r_2 r_3 r_4 times l seen => zqx2 c_ref25_Has p1 p2 (zqx3 p1 p2 i k1 k2) k1 k2 t49 t50 r_ r_2 r_3 r_4 times l seen
theorem zqx4 (hΓ : ΓOk Tryz.prog (law41_TimelineMarks_X c_law41_sane c_made_Dice_Record c_made_Light c_made_Roll c_ref25_Has c_ref40_Compare c_timeline_Check c_timeline_Rows).Γ) (p1 : zqwj) (p2 : zqwo) (hp1 : PieceOk Tryz.prog 144 0 law41_TimelineMarks_p1_code zqwk zqwl (law41_TimelineMarks_p1_G p1)) (hp2 : PieceOk Tryz.prog 144 0 law41_TimelineMarks_p2_code zqwp zqwq (law41_TimelineMarks_p2_G p2)) (i : Nat) : PieceOk Tryz.prog 144 0 law41_TimelineMarks_p3_code zqwu zqwv (law41_TimelineMarks_p3_G (zqx3 c_ref25_Has p1 p2 i)) := by
  rw [show law41_TimelineMarks_p3_code = .loop (loopBody law41_TimelineMarks_p3_code) by kernel_rfl]
  exact piece_loop (X := (law41_TimelineMarks_X c_law41_sane c_made_Dice_Record c_made_Light c_made_Roll c_ref25_Has c_ref40_Compare c_timeline_Check c_timeline_Rows)) (p := 1) (Λ := pick1 [(1850, pieceCut zqwk zqwl (law41_TimelineMarks_p1_G p1)), (3706, pieceCut zqwp zqwq (law41_TimelineMarks_p2_G p2))]) (G := fun i => @fun β d ks => law41_TimelineMarks_p3_G (zqx3 c_ref25_Has p1 p2 i) d ks) mixed tab_ok hΓ rfl (by kernel_rfl) (CutsOk_cons (q := 1850) (c' := law41_TimelineMarks_p1_code) (by kernel_rfl) rfl hp1 (CutsOk_cons (q := 3706) (c' := law41_TimelineMarks_p2_code) (by kernel_rfl) rfl hp2 CutsOk_nil)) (fun _ _ => rfl) (fun i => @fun β d ks r h => Eq.trans (b := law41_TimelineMarks_p3_G (zqx3 c_ref25_Has p1 p2 (i + 1)) d ks) (by kernel_rfl) h) i
def zqx5 (p3 : zqwt) {β : Type} (t : List Int) (k : (Bool → Option β)) : Option β :=
  c_made_Light t (fun (rLight : Bool) =>
  cond (!rLight)
  (c_law41_sane  (fun (rsane : Bool) =>
  k rsane))
  (c_made_Roll t (fun (mrRoll : (List Int × Int)) =>
  c_made_Dice_Record (7 : Int) mrRoll (fun (rRecord : zq2) (mrRecord : (List Int × Int)) (lrRecord : List Int) =>
  c_timeline_Rows rRecord (fun (rRows : Bool) (lrRows : List api_Row) =>
  cond (!rRows)
  (k false)
  (cond (!decide ((List.length lrRows : Int) = (List.length lrRecord : Int)))
  (k false)
  (c_timeline_Check rRecord lrRows (fun (rCheck : Bool) =>
  cond (!rCheck)
  (k false)
  (p3 (fun (t2 : Bool) =>
  k t2) (fun (_ : Unit) =>
  c_law41_sane  (fun (rsane : Bool) =>
  k rsane)) (List.length lrRows : Int) (0 : Int) rRecord.1 rRecord.2.1 rRecord.2.2.1 rRecord.2.2.2 lrRecord lrRows ([] : List Int))))))))))
theorem zqx6 (hΓ : ΓOk Tryz.prog (law41_TimelineMarks_X c_law41_sane c_made_Dice_Record c_made_Light c_made_Roll c_ref25_Has c_ref40_Compare c_timeline_Check c_timeline_Rows).Γ) (p3 : zqwt) (hp3 : PieceOk Tryz.prog 144 0 law41_TimelineMarks_p3_code zqwu zqwv (law41_TimelineMarks_p3_G p3)) : SpecOk Tryz.prog 3 (zqwg (zqx5 c_law41_sane c_made_Dice_Record c_made_Light c_made_Roll c_timeline_Check c_timeline_Rows p3)) :=
  spec_exec (X := (law41_TimelineMarks_X c_law41_sane c_made_Dice_Record c_made_Light c_made_Roll c_ref25_Has c_ref40_Compare c_timeline_Check c_timeline_Rows)) (Λ := pick1 [(2042, pieceCut zqwu zqwv (law41_TimelineMarks_p3_G p3))]) (rs := [.tmp 2]) (c := bodyOf Tryz.f3) mixed tab_ok hΓ Tryz.func3 (by kernel_rfl) (by kernel_rfl) (by kernel_rfl) (by kernel_rfl) (CutsOk_cons (q := 2042) (c' := law41_TimelineMarks_p3_code) (by kernel_rfl) rfl hp3 CutsOk_nil) (fun x k r h => Eq.trans (b := (zqwg (zqx5 c_law41_sane c_made_Dice_Record c_made_Light c_made_Roll c_timeline_Check c_timeline_Rows p3)).run x k) (by kernel_rfl) h)
end
theorem zqx7Γ : ΓOk Tryz.prog (pick1 [(7, .spec (zqw9 zqwd)), (9, .spec (zqac zqbx)), (6, .spec (zq6 zqa)), (8, .spec (zqd zqh)), (12, .spec (zqk zq10)), (13, .spec (zql8 zqlc)), (11, .spec (zquz zqve)), (10, .spec (zqt0 zqt4))]) := (ΓOk_cons zqwe (ΓOk_cons zqby (ΓOk_cons zqb (ΓOk_cons zqi (ΓOk_cons zq11 (ΓOk_cons zqld (ΓOk_cons zqvf (ΓOk_cons zqt5 ΓOk_nil))))))))
def zqx8 (m : Nat) : zqwj := zqwx zq10 zqlc m
theorem zqx9 {β : Type} (i : Nat) (k1 k2 t49 t50 t96 t97 r_ r_2 r_3 r_4 times l seen x x2 x3 x4) : (zqx8 (i + 1) k1 k2 t49 t50 t96 t97 r_ r_2 r_3 r_4 times l seen x x2 x3 x4 : Option β) = zqww zq10 zqlc (zqx8 i k1 k2) k1 k2 t49 t50 t96 t97 r_ r_2 r_3 r_4 times l seen x x2 x3 x4 := rfl
def zqxa : zqwj := zqx8 fuel
theorem zqxb : PieceOk Tryz.prog 144 0 law41_TimelineMarks_p1_code zqwk zqwl (law41_TimelineMarks_p1_G zqxa) := zqwy zqwd zqbx zqa zqh zq10 zqlc zqve zqt4 zqx7Γ fuel
def zqxc (m : Nat) : zqwo := zqx0 zq10 m
theorem zqxd {β : Type} (i : Nat) (k1 k2 t49 t50 t126 t127 t128 r_ r_2 r_3 r_4 times l seen x x2 x3 x4) : (zqxc (i + 1) k1 k2 t49 t50 t126 t127 t128 r_ r_2 r_3 r_4 times l seen x x2 x3 x4 : Option β) = zqwz zq10 (zqxc i k1 k2) k1 k2 t49 t50 t126 t127 t128 r_ r_2 r_3 r_4 times l seen x x2 x3 x4 := rfl
def zqxe : zqwo := zqxc fuel
theorem zqxf : PieceOk Tryz.prog 144 0 law41_TimelineMarks_p2_code zqwp zqwq (law41_TimelineMarks_p2_G zqxe) := zqx1 zqwd zqbx zqa zqh zq10 zqlc zqve zqt4 zqx7Γ fuel
def zqxg (m : Nat) : zqwt := zqx3 zq10 zqxa zqxe m
theorem zqxh {β : Type} (i : Nat) (k1 k2 t49 t50 r_ r_2 r_3 r_4 times l seen) : (zqxg (i + 1) k1 k2 t49 t50 r_ r_2 r_3 r_4 times l seen : Option β) = zqx2 zq10 zqxa zqxe (zqxg i k1 k2) k1 k2 t49 t50 r_ r_2 r_3 r_4 times l seen := rfl
def zqxi : zqwt := zqxg fuel
theorem zqxj : PieceOk Tryz.prog 144 0 law41_TimelineMarks_p3_code zqwu zqwv (law41_TimelineMarks_p3_G zqxi) := zqx4 zqwd zqbx zqa zqh zq10 zqlc zqve zqt4 zqx7Γ zqxa zqxe zqxb zqxf fuel
def zqxk : zqwf := zqx5 zqwd zqbx zqa zqh zqve zqt4 zqxi
theorem zqxl : SpecOk Tryz.prog 3 (zqwg zqxk) := zqx6 zqwd zqbx zqa zqh zq10 zqlc zqve zqt4 zqx7Γ zqxi zqxj
end
end Go.Lift
/- Plain lemmas about functional forms: tests that are known, loops. -/
namespace Go.Lift
open Go.RowKit Go.IntWalk

section
variable {β : Type}
/-! ### Tests -/
theorem c_inb {i n : Int} {a b : Option β} (h : 0 ≤ i ∧ i < n) : cond (decide (0 ≤ i) && decide (i < n)) a b = a := by
  rw [decide_eq_true h.1, decide_eq_true h.2]; rfl
theorem c_room {n : Nat} {a b : Option β} (h : n ≤ 140737488355328) : cond (decide (n ≤ roomMax)) a b = a := by
  rw [decide_eq_true (p := n ≤ roomMax) h]; rfl
theorem c_pos {p : Prop} [Decidable p] {a b : Option β} (h : p) : cond (decide p) a b = a := by rw [decide_eq_true h]; rfl
theorem c_neg {p : Prop} [Decidable p] {a b : Option β} (h : ¬ p) : cond (decide p) a b = b := by rw [decide_eq_false h]; rfl
theorem c_npos {p : Prop} [Decidable p] {a b : Option β} (h : p) : cond (!decide p) a b = b := by rw [decide_eq_true h]; rfl
theorem c_nneg {p : Prop} [Decidable p] {a b : Option β} (h : ¬ p) : cond (!decide p) a b = a := by rw [decide_eq_false h]; rfl
theorem c_t {a b : Option β} : cond true a b = a := rfl
theorem c_f {a b : Option β} : cond false a b = b := rfl
theorem c_p3 {p q r : Prop} [Decidable p] [Decidable q] [Decidable r] {a b : Option β} (hp : p) (hq : q) (hr : r) : cond (decide p && (decide q && decide r)) a b = a := by rw [decide_eq_true hp, decide_eq_true hq, decide_eq_true hr]; rfl
theorem c_not {p : Bool} {a b : Option β} : cond (!p) a b = cond p b a := by cases p <;> rfl
theorem c_and {p q : Bool} {a b : Option β} : cond p (cond q a b) b = cond (p && q) a b := by cases p <;> rfl
theorem c_andn {p q : Bool} {a b : Option β} : cond p (cond q b a) b = cond (p && !q) a b := by cases p <;> cases q <;> rfl
theorem c_nand {p q : Bool} {a b : Option β} : cond p b (cond q a b) = cond (!p && q) a b := by cases p <;> rfl
theorem c_k {γ : Type} (k : γ → Option β) (p : Bool) (x y : γ) : cond p (k x) (k y) = k (cond p x y) := by cases p <;> rfl
theorem c_kb (k : Bool → Option β) (p q : Bool) : cond p (k q) (k false) = k (p && q) := by cases p <;> rfl
theorem pair_eta {γ δ : Type} (p : γ × δ) : (p.1, p.2) = p := rfl
theorem k_eq {γ : Type} {k : γ → Option β} {x y : γ} (h : x = y) : k x = k y := by rw [h]

/-! ### Loops over the numbers from 0 on -/
/-- A walk over a list that may end early. -/
def walk {α σ ε : Type} (g : Nat → α → σ → ε ⊕ σ) : List α → Nat → σ → ε ⊕ σ
  | [], _, s => .inr s
  | x :: r, j, s =>
    match g j x s with
    | .inl e => .inl e
    | .inr s' => walk g r (j + 1) s'

def sumK {ε σ : Type} (E : ε → Option β) (K : σ → Option β) : ε ⊕ σ → Option β
  | .inl e => E e
  | .inr s => K s

theorem walk_loop {α σ ε : Type} (F : Nat → Int → σ → Option β) (g : Nat → α → σ → ε ⊕ σ) (E : ε → Option β) (K : σ → Option β) (d : α) (xs : List α)
    (h1 : ∀ (m i : Nat) s, i < xs.length → F (m + 1) (i : Int) s = sumK E (fun s' => F m ((i : Int) + 1) s') (g i (xs.getD i d) s))
    (h2 : ∀ (m : Nat) s, F (m + 1) (xs.length : Int) s = K s) :
    ∀ (r : List α) (j fuel : Nat) (s : σ), xs.drop j = r → j + r.length = xs.length → r.length < fuel → F fuel (j : Int) s = sumK E K (walk g r j s)
  | r, j, 0, s, _, _, h => absurd h (Nat.not_lt_zero _)
  | [], j, m + 1, s, hd, hj, _ => by
    simp only [List.length_nil, Nat.add_zero] at hj
    subst hj
    rw [h2]; rfl
  | x :: r, j, m + 1, s, hd, hj, hm => by
    simp only [List.length_cons] at hj hm
    have h3 : j < xs.length := by omega
    have hx : xs.getD j d = x := by
      rw [List.drop_eq_getElem_cons h3] at hd
      injection hd with hd1 hd2
      simp [List.getD, h3, hd1]
    have hr : xs.drop (j + 1) = r := by
      rw [List.drop_eq_getElem_cons h3] at hd
      injection hd with hd1 hd2
    rw [h1 m j s h3, hx, walk]
    cases hg : g j x s with
    | inl e => rfl
    | inr s' =>
      simp only [sumK]
      exact walk_loop F g E K d xs h1 h2 r (j + 1) m s' hr (by omega) (by omega)

theorem walk_loop0 {α σ ε : Type} (F : Nat → Int → σ → Option β) (g : Nat → α → σ → ε ⊕ σ) (E : ε → Option β) (K : σ → Option β) (d : α) (xs : List α) (s : σ) (n : Nat) (hn : xs.length < n)
    (h1 : ∀ (m i : Nat) s, i < xs.length → F (m + 1) (i : Int) s = sumK E (fun s' => F m ((i : Int) + 1) s') (g i (xs.getD i d) s))
    (h2 : ∀ (m : Nat) s, F (m + 1) (xs.length : Int) s = K s) : F n 0 s = sumK E K (walk g xs 0 s) :=
  walk_loop F g E K d xs h1 h2 xs 0 n s rfl (by simp) hn

/-- A loop that only looks: every element, or out. -/
theorem check_loop {α : Type} (F : Nat → Int → Option β) (p : α → Bool) (E K : Option β) (d : α) (xs : List α) (n : Nat) (hn : xs.length < n)
    (h1 : ∀ (m i : Nat), i < xs.length → F (m + 1) (i : Int) = cond (p (xs.getD i d)) (F m ((i : Int) + 1)) E)
    (h2 : ∀ (m : Nat), F (m + 1) (xs.length : Int) = K) : F n 0 = cond (xs.all p) K E := by
  have h := walk_loop0 (ε := Unit) (fun m i (_ : Unit) => F m i) (fun _ x s => cond (p x) (.inr s) (.inl ())) (fun _ => E) (fun _ => K) d xs () n hn
    (fun m i s hi => by rw [h1 m i hi]; cases p (xs.getD i d) <;> rfl) (fun m s => h2 m)
  rw [h]
  have key : ∀ (l : List α) (j : Nat), sumK (fun _ => E) (fun _ => K) (walk (ε := Unit) (fun _ x (s : Unit) => cond (p x) (.inr s) (.inl ())) l j ()) = cond (l.all p) K E := by
    intro l
    induction l with
    | nil => intro j; rfl
    | cons x l ih =>
      intro j
      simp only [walk, List.all_cons]
      cases p x with
      | true => simpa using ih (j + 1)
      | false => rfl
  exact key xs 0

/-- A loop that goes through all elements. -/
theorem fold_loop {α σ : Type} (F : Nat → Int → σ → Option β) (g : σ → α → σ) (K : σ → Option β) (d : α) (xs : List α) (s : σ) (n : Nat) (hn : xs.length < n)
    (h1 : ∀ (m i : Nat) s, i < xs.length → F (m + 1) (i : Int) s = F m ((i : Int) + 1) (g s (xs.getD i d)))
    (h2 : ∀ (m : Nat) s, F (m + 1) (xs.length : Int) s = K s) : F n 0 s = K (xs.foldl g s) := by
  have h := walk_loop0 (ε := Empty) F (fun _ x s => .inr (g s x)) (fun e => e.elim) K d xs s n hn (fun m i s hi => h1 m i s hi) h2
  rw [h]
  have key : ∀ (l : List α) (j : Nat) (s : σ), sumK (fun e : Empty => e.elim) K (walk (fun _ x s => .inr (g s x)) l j s) = K (l.foldl g s) := by
    intro l
    induction l with
    | nil => intro j s; rfl
    | cons x l ih => intro j s; exact ih (j + 1) (g s x)
  exact key xs 0 s

/-- A loop that goes through all elements, with an invariant. -/
theorem fold_loopI {α σ : Type} (I : Nat → σ → Prop) (F : Nat → Int → σ → Option β) (g : σ → α → σ) (K : σ → Option β) (d : α) (xs : List α) (s : σ) (n : Nat) (hn : xs.length < n) (h0 : I 0 s)
    (hI : ∀ (i : Nat) s, i < xs.length → I i s → I (i + 1) (g s (xs.getD i d)))
    (h1 : ∀ (m i : Nat) s, i < xs.length → I i s → F (m + 1) (i : Int) s = F m ((i : Int) + 1) (g s (xs.getD i d)))
    (h2 : ∀ (m : Nat) s, I xs.length s → F (m + 1) (xs.length : Int) s = K s) : F n 0 s = K (xs.foldl g s) := by
  have key : ∀ (r : List α) (j fuel : Nat) (s : σ), xs.drop j = r → j + r.length = xs.length → r.length < fuel → I j s → F fuel (j : Int) s = K (r.foldl g s) := by
    intro r
    induction r with
    | nil =>
      intro j fuel s hd hj hf hs
      obtain ⟨m, rfl⟩ : ∃ m, fuel = m + 1 := ⟨fuel - 1, by omega⟩
      simp only [List.length_nil, Nat.add_zero] at hj
      subst hj
      exact h2 m s hs
    | cons x r ih =>
      intro j fuel s hd hj hf hs
      obtain ⟨m, rfl⟩ : ∃ m, fuel = m + 1 := ⟨fuel - 1, by omega⟩
      simp only [List.length_cons] at hj hf
      have h3 : j < xs.length := by omega
      have hx : xs.getD j d = x := by
        rw [List.drop_eq_getElem_cons h3] at hd
        injection hd with hd1 hd2
        simp [List.getD, h3, hd1]
      have hr : xs.drop (j + 1) = r := by
        rw [List.drop_eq_getElem_cons h3] at hd
        injection hd with hd1 hd2
      rw [h1 m j s h3 hs, hx]
      have := hI j s h3 hs
      rw [hx] at this
      exact ih (j + 1) m (g s x) hr (by omega) (by omega) this
  exact key xs 0 n s rfl (by simp) hn h0

/-- A loop with an invariant and a measure. -/
theorem while_loop {σ ρ : Type} {Kt : Type → Type} (F : {β : Type} → Kt β → Nat → σ → Option β) (X : {β : Type} → Kt β → ρ → Option β) (I : σ → Prop) (μ : σ → Nat) (Q : ρ → Prop)
    (step : ∀ s, I s → (∃ s', I s' ∧ μ s' < μ s ∧ ∀ {β : Type} (k : Kt β) m, F k (m + 1) s = F k m s') ∨ (∃ r, Q r ∧ ∀ {β : Type} (k : Kt β) m, F k (m + 1) s = X k r)) :
    ∀ (N : Nat) (s : σ), I s → μ s < N → ∃ r, Q r ∧ ∀ {β : Type} (k : Kt β), F k N s = X k r := by
  intro N
  induction N with
  | zero => intro s _ h; omega
  | succ N ih =>
    intro s hI hN
    rcases step s hI with ⟨s', h1, h2, h3⟩ | ⟨r, h1, h2⟩
    · obtain ⟨r, h4, h5⟩ := ih s' h1 (by omega)
      exact ⟨r, h4, fun k => (h3 k N).trans (h5 k)⟩
    · exact ⟨r, h1, fun k => h2 k N⟩
end
end Go.Lift

/- Square matrices as lists of rows. -/
namespace Go.Lift
open Go.RowKit Go.IntWalk
noncomputable section
set_option linter.unusedVariables false
set_option linter.unusedSimpArgs false

abbrev Mat := List (List Int)
def at2 (m : Mat) (i j : Nat) : Int := (m.getD i []).getD j 0
structure Sq (n : Nat) (m : Mat) : Prop where
  len : m.length = n
  row : ∀ i, i < n → (m.getD i []).length = n
def setAt (m : Mat) (i j : Nat) (v : Int) : Mat := m.set i ((m.getD i []).set j v)

theorem getD_set_eq {α : Type} {l : List α} {i : Nat} {v d : α} (h : i < l.length) : (l.set i v).getD i d = v := by simp [List.getD, h]
theorem getD_set_ne {α : Type} {l : List α} {i j : Nat} {v d : α} (h : i ≠ j) : (l.set i v).getD j d = l.getD j d := by simp [List.getD, List.getElem?_set_ne h]

theorem Sq.setAt {n : Nat} {m : Mat} (h : Sq n m) (i j : Nat) (v : Int) : Sq n (setAt m i j v) := by
  refine ⟨by simp [Go.Lift.setAt, h.len], fun a ha => ?_⟩
  by_cases hi : i = a
  · subst hi
    unfold Go.Lift.setAt
    rw [getD_set_eq (by rw [h.len]; exact ha), List.length_set]
    exact h.row i ha
  · unfold Go.Lift.setAt
    rw [getD_set_ne hi]
    exact h.row a ha

theorem at_setAt {n : Nat} {m : Mat} (h : Sq n m) {i j : Nat} (hi : i < n) (hj : j < n) (v : Int) (a b : Nat) : at2 (setAt m i j v) a b = if a = i ∧ b = j then v else at2 m a b := by
  unfold at2 setAt
  by_cases hai : i = a
  · subst hai
    rw [getD_set_eq (by rw [h.len]; exact hi)]
    by_cases hbj : j = b
    · subst hbj
      rw [getD_set_eq (by rw [h.row i hi]; exact hj), if_pos ⟨rfl, rfl⟩]
    · rw [getD_set_ne hbj, if_neg (fun h => hbj h.2.symm)]
  · rw [getD_set_ne hai, if_neg (fun h => hai h.1.symm)]

theorem mat_ext {n : Nat} {m m' : Mat} (h : Sq n m) (h' : Sq n m') (he : ∀ i j, i < n → j < n → at2 m i j = at2 m' i j) : m = m' := by
  apply List.ext_getElem
  · rw [h.len, h'.len]
  · intro i h1 h2
    have hi : i < n := by rw [← h.len]; exact h1
    have e1 : m.getD i [] = m[i] := by rw [List.getD, List.getElem?_eq_getElem h1]; rfl
    have e2 : m'.getD i [] = m'[i] := by rw [List.getD, List.getElem?_eq_getElem h2]; rfl
    apply List.ext_getElem
    · rw [← e1, ← e2, h.row i hi, h'.row i hi]
    · intro j h3 h4
      have hj : j < n := by rw [← h.row i hi, e1]; exact h3
      have := he i j hi hj
      unfold at2 at this
      rw [e1, e2] at this
      have q1 : m[i].getD j 0 = m[i][j] := by rw [List.getD, List.getElem?_eq_getElem h3]; rfl
      have q2 : m'[i].getD j 0 = m'[i][j] := by rw [List.getD, List.getElem?_eq_getElem h4]; rfl
      rw [q1, q2] at this
      exact this

abbrev BIG : Int := 1099511627776
/-- One update of the closure. -/
def relaxW (k i j : Nat) (m : Mat) : Mat :=
  if at2 m i k = BIG ∨ at2 m k j = BIG then m
  else setAt m i j (if IntKind.i64.wrap (at2 m i k + at2 m k j) < at2 m i j then IntKind.i64.wrap (at2 m i k + at2 m k j) else at2 m i j)
def rowW (n k i : Nat) (m : Mat) : Mat := (List.range n).foldl (fun m j => relaxW k i j m) m
def roundW (n k : Nat) (m : Mat) : Mat := (List.range n).foldl (fun m i => rowW n k i m) m

theorem Sq.relaxW {n : Nat} {m : Mat} (h : Sq n m) (k i j : Nat) : Sq n (relaxW k i j m) := by
  unfold Go.Lift.relaxW
  split
  · exact h
  · exact h.setAt _ _ _

theorem fold_inv {α σ : Type} (I : σ → Prop) (g : σ → α → σ) (hg : ∀ s x, I s → I (g s x)) : ∀ (l : List α) (s : σ), I s → I (l.foldl g s)
  | [], _, h => h
  | x :: l, s, h => fold_inv I g hg l _ (hg s x h)

theorem Sq.rowW {n : Nat} {m : Mat} (h : Sq n m) (k i : Nat) : Sq n (rowW n k i m) := fold_inv (Sq n) _ (fun m j h => h.relaxW k i j) _ _ h
theorem Sq.roundW {n : Nat} {m : Mat} (h : Sq n m) (k : Nat) : Sq n (roundW n k m) := fold_inv (Sq n) _ (fun m i h => h.rowW k i) _ _ h
end
end Go.Lift

/- Clocks in plain Lean: what the forms of the chapter 38, the program's and the reference's, compute. -/
namespace Go.Lift
open Go.RowKit Go.IntWalk
noncomputable section
set_option linter.unusedVariables false
set_option linter.unusedSimpArgs false

def inN (n low high : Int) : Bool := decide (low ≤ n) && decide (n ≤ high)
theorem inN_iff {n low high : Int} : inN n low high = true ↔ low ≤ n ∧ n ≤ high := by simp [inN]
theorem inN_mk {n low high : Int} (h : low ≤ n ∧ n ≤ high) : inN n low high = true := inN_iff.2 h

abbrev Host := List UInt8 × Int
abbrev Sync := Int × Int × Int × Int
abbrev Event := Int × Int × List UInt8
abbrev Link := Int × Int × Int
abbrev Rec := List Host × List Sync × List Event × List Link

/-- The numbers of a comparison are right. -/
def okSync (s : Sync) : Bool := inN s.2.1 0 8589934592 && (inN s.2.2.1 0 8589934592 && (inN s.2.2.2 0 8589934592 && decide (s.2.2.1 ≤ s.2.2.2)))
def vHost (h : Host) : Bool := inN h.2 0 500000
def vSync (n : Nat) (s : Sync) : Bool := inN s.1 0 ((n : Int) - 1) && okSync s
def vEvent (n : Nat) (e : Event) : Bool := inN e.1 0 ((n : Int) - 1) && inN e.2.1 0 8589934592
def vLink (n : Nat) (l : Link) : Bool := inN l.1 0 ((n : Int) - 1) && (inN l.2.1 0 ((n : Int) - 1) && (!decide (l.1 = l.2.1) && inN l.2.2 0 8589934592))
def small (r : Rec) : Bool := !decide ((8 : Int) < r.1.length) && (!decide ((64 : Int) < r.2.1.length) && (!decide ((40 : Int) < r.2.2.1.length) && !decide ((64 : Int) < r.2.2.2.length)))
def valid (r : Rec) : Bool := small r && (r.1.all vHost && (r.2.1.all (vSync r.1.length) && (r.2.2.1.all (vEvent r.1.length) && r.2.2.2.all (vLink r.2.2.1.length))))

/-- How far the time advances while a clock advances. -/
def elapsed (drift d : Int) : Int × Int :=
  cond (inN drift 0 500000 && inN d 0 8589934592) (d * 1000000 / (1000000 + drift), (d * 1000000 + (1000000 - drift) - 1) / (1000000 - drift)) (0, 0)
def fromS (h : Host) (s : Sync) (c : Int) : Int × Int :=
  cond (vHost h && (okSync s && inN c 0 8589934592))
    (cond (decide (s.2.1 ≤ c)) (s.2.2.1 + (elapsed h.2 (c - s.2.1)).1, s.2.2.2 + (elapsed h.2 (c - s.2.1)).2) (s.2.2.1 - (elapsed h.2 (s.2.1 - c)).2, s.2.2.2 - (elapsed h.2 (s.2.1 - c)).1))
    (-1099511627776, 1099511627776)
def meet2 (a b : Int × Int) : Int × Int := (if b.1 > a.1 then b.1 else a.1, if b.2 < a.2 then b.2 else a.2)
def whenR (r : Rec) (host c : Int) : Int × Int :=
  r.2.1.foldl (fun out s => cond (decide (s.1 = host)) (meet2 out (fromS (r.1.getD host.toNat ([], 0)) s c)) out) (0, 8589934592)
def when? (r : Rec) (host c : Int) : (Int × Int) × Bool :=
  cond (valid r && (inN host 0 ((r.1.length : Int) - 1) && inN c 0 8589934592)) (whenR r host c, !decide ((whenR r host c).2 < (whenR r host c).1)) ((0, 0), false)
section
variable {β : Type}
theorem clock_in_eq (n lo hi : Int) (k : Bool → Option β) : zq48 n lo hi k = k (inN n lo hi) := by
  simp only [zq48, zq45, inN, c_kb]
theorem clock_instant_eq (n : Int) (k : Bool → Option β) : zq4f n k = k (inN n 0 8589934592) := by
  simp only [zq4f, zq4c, clock_in_eq]
theorem clock_compared_eq (s : Sync) (k : Bool → Option β) : zqfd s k = k (okSync s) := by
  simp only [zqfd, zqfa, clock_instant_eq, c_kb, okSync]

theorem clock_Valid_p1_eq (k1 : zqg6 β) (k2 : zqg7 β) (xs : List Host) (hx : xs.length ≤ 1000000) (r : List Host) (r2 : List Sync) (r3 : List Event) (r4 : List Link) :
    zqh7 k1 k2 xs xs.length 0 r r2 r3 r4 = cond (xs.all vHost) (k2 r r2 r3 r4) (k1 false) := by
  refine check_loop (fun m i => zqh5 m k1 k2 xs xs.length i r r2 r3 r4) vHost _ _ ([], 0) xs fuel (lt_fuel (by omega)) (fun m i hi => ?_) (fun m => ?_)
  · simp (disch := omega) only [zqh6, zqgq, clock_in_eq, c_pos, c_inb, c_not, i64_in, Int.toNat_natCast, vHost]
  · simp (disch := omega) only [zqh6, zqgq, c_neg]

theorem clock_Valid_p2_eq (k1 : zqgb β) (k2 : zqgc β) (xs : List Sync) (hx : xs.length ≤ 1000000) (r : List Host) (hr : r.length ≤ 1000000) (r2 : List Sync) (r3 : List Event) (r4 : List Link) :
    zqhb k1 k2 xs xs.length 0 r r2 r3 r4 = cond (xs.all (vSync r.length)) (k2 r r2 r3 r4) (k1 false) := by
  refine check_loop (fun m i => zqh9 m k1 k2 xs xs.length i r r2 r3 r4) (vSync r.length) _ _ (0, 0, 0, 0) xs fuel (lt_fuel (by omega)) (fun m i hi => ?_) (fun m => ?_)
  · simp (disch := omega) only [zqha, zqgt, clock_in_eq, clock_compared_eq, c_pos, c_inb, c_not, i64_in, Int.toNat_natCast, vSync, c_and]
  · simp (disch := omega) only [zqha, zqgt, c_neg]

theorem clock_Valid_p3_eq (k1 : zqgg β) (k2 : zqgh β) (xs : List Event) (hx : xs.length ≤ 1000000) (r : List Host) (hr : r.length ≤ 1000000) (r2 : List Sync) (r3 : List Event) (r4 : List Link) :
    zqhf k1 k2 xs xs.length 0 r r2 r3 r4 = cond (xs.all (vEvent r.length)) (k2 r r2 r3 r4) (k1 false) := by
  refine check_loop (fun m i => zqhd m k1 k2 xs xs.length i r r2 r3 r4) (vEvent r.length) _ _ (0, 0, []) xs fuel (lt_fuel (by omega)) (fun m i hi => ?_) (fun m => ?_)
  · simp (disch := omega) only [zqhe, zqgw, clock_in_eq, clock_instant_eq, c_pos, c_inb, c_not, i64_in, Int.toNat_natCast, vEvent, c_and]
  · simp (disch := omega) only [zqhe, zqgw, c_neg]

theorem clock_Valid_p4_eq (k1 : zqgl β) (k2 : zqgm β) (xs : List Link) (hx : xs.length ≤ 1000000) (r : List Host) (r2 : List Sync) (r3 : List Event) (hr : r3.length ≤ 1000000) (r4 : List Link) :
    zqhj k1 k2 xs xs.length 0 r r2 r3 r4 = cond (xs.all (vLink r3.length)) (k2 ()) (k1 false) := by
  refine check_loop (fun m i => zqhh m k1 k2 xs xs.length i r r2 r3 r4) (vLink r3.length) _ _ (0, 0, 0) xs fuel (lt_fuel (by omega)) (fun m i hi => ?_) (fun m => ?_)
  · simp (disch := omega) only [zqhi, zqgz, clock_in_eq, clock_instant_eq, c_pos, c_inb, c_not, i64_in, Int.toNat_natCast, vLink, c_nand, c_and, Bool.not_not]
  · simp (disch := omega) only [zqhi, zqgz, c_neg]

theorem clock_Valid_eq (r : Rec) (k : Bool → Option β) : zqhl r k = k (valid r) := by
  simp only [zqhl, zqh2]
  by_cases h1 : (8 : Int) < r.1.length
  · simp [valid, small, h1]
  by_cases h2 : (64 : Int) < r.2.1.length
  · simp [valid, small, h1, h2]
  by_cases h3 : (40 : Int) < r.2.2.1.length
  · simp [valid, small, h1, h2, h3]
  by_cases h4 : (64 : Int) < r.2.2.2.length
  · simp [valid, small, h1, h2, h3, h4]
  rw [decide_eq_false h1, decide_eq_false h2, decide_eq_false h3, decide_eq_false h4]
  simp only [c_f]
  rw [clock_Valid_p1_eq _ _ _ (by omega), clock_Valid_p2_eq _ _ _ (by omega) _ (by omega), clock_Valid_p3_eq _ _ _ (by omega) _ (by omega), clock_Valid_p4_eq _ _ _ (by omega) _ _ _ (by omega)]
  simp only [c_kb, c_k, valid, small, decide_eq_false h1, decide_eq_false h2, decide_eq_false h3, decide_eq_false h4, Bool.not_false, Bool.true_and]
  apply k_eq
  cases r.1.all vHost <;> cases r.2.1.all (vSync r.1.length) <;> cases r.2.2.1.all (vEvent r.1.length) <;> cases r.2.2.2.all (vLink r.2.2.1.length) <;> rfl

theorem clock_Elapsed_eq (drift d : Int) (k : Int → Int → Option β) : zqg2 drift d k = k (elapsed drift d).1 (elapsed drift d).2 := by
  simp only [zqg2, zqfz, clock_in_eq, clock_instant_eq, elapsed]
  cases h1 : inN drift 0 500000 with
  | false => rfl
  | true =>
    cases h2 : inN d 0 8589934592 with
    | false => rfl
    | true =>
      have h1 := inN_iff.1 h1
      have h2 := inN_iff.1 h2
      simp (disch := omega) only [zqa9, zqa6, Bool.not_true, c_f, Bool.and_true, cond_true, i64_in, i64_quo, c_nneg]

theorem elapsed_bd {drift d : Int} : 0 ≤ (elapsed drift d).1 ∧ (elapsed drift d).1 ≤ 8589934592 ∧ 0 ≤ (elapsed drift d).2 ∧ (elapsed drift d).2 ≤ 17179869184 := by
  unfold elapsed
  cases h : inN drift 0 500000 && inN d 0 8589934592 with
  | false => simp
  | true =>
    simp only [cond_true]
    rw [Bool.and_eq_true, inN_iff, inN_iff] at h
    have hp1 : (0 : Int) < 1000000 + drift := by omega
    have hp2 : (0 : Int) < 1000000 - drift := by omega
    refine ⟨Int.ediv_nonneg (by omega) (by omega), ?_, Int.ediv_nonneg (by omega) (by omega), ?_⟩
    · apply Int.le_of_lt_add_one
      rw [Int.ediv_lt_iff_lt_mul hp1]
      have : (8589934592 + 1) * 1000000 ≤ (8589934592 + 1) * (1000000 + drift) := Int.mul_le_mul_of_nonneg_left (by omega) (by omega)
      omega
    · apply Int.le_of_lt_add_one
      rw [Int.ediv_lt_iff_lt_mul hp2]
      have : (17179869184 + 1) * 500000 ≤ (17179869184 + 1) * (1000000 - drift) := Int.mul_le_mul_of_nonneg_left (by omega) (by omega)
      omega

theorem clock_From_eq (h : Host) (s : Sync) (c : Int) (k : Int × Int → Option β) : zqjx h s c k = k (fromS h s c) := by
  simp only [zqjx, zqju, clock_in_eq, clock_compared_eq, clock_instant_eq, clock_Elapsed_eq, fromS, vHost]
  cases h1 : inN h.2 0 500000 with
  | false => rfl
  | true =>
    cases h2 : okSync s with
    | false => rfl
    | true =>
      cases h3 : inN c 0 8589934592 with
      | false => rfl
      | true =>
        simp only [okSync, Bool.and_eq_true, inN_iff, decide_eq_true_eq] at h2
        have h3 := inN_iff.1 h3
        simp only [Bool.not_true, c_f, Bool.and_true, cond_true]
        have e1 := @elapsed_bd h.2 (c - s.2.1)
        have e2 := @elapsed_bd h.2 (s.2.1 - c)
        by_cases h4 : s.2.1 ≤ c
        · simp (disch := omega) only [c_pos, i64_in, decide_eq_true h4, cond_true]
        · simp (disch := omega) only [c_neg, i64_in, decide_eq_false h4, cond_false]

theorem clock_Meet_eq (a b : Int × Int) (k : Int × Int → Option β) : zq9h a b k = k (meet2 a b) := by simp only [zq9h, zq9e, meet2]
theorem clock_Empty_eq (a : Int × Int) (k : Bool → Option β) : zq9o a k = k (decide (a.2 < a.1)) := by simp only [zq9o, zq9l]
theorem clock_When_p1_eq (k1 : zqk8 β) (host c : Int) (xs : List Sync) (hx : xs.length ≤ 1000000) (r : List Host) (hh : 0 ≤ host ∧ host < r.length) (r2 : List Sync) (r3 : List Event) (r4 : List Link) (a b : Int) (o : Int × Int) :
    zqkk k1 host c xs xs.length 0 r r2 r3 r4 a b o.1 o.2 = k1 a b (xs.foldl (fun out s => cond (decide (s.1 = host)) (meet2 out (fromS (r.getD host.toNat ([], 0)) s c)) out) o).1 (xs.foldl (fun out s => cond (decide (s.1 = host)) (meet2 out (fromS (r.getD host.toNat ([], 0)) s c)) out) o).2 := by
  refine fold_loop (σ := Int × Int) (fun m i o => zqki m k1 host c xs xs.length i r r2 r3 r4 a b o.1 o.2) (fun out s => cond (decide (s.1 = host)) (meet2 out (fromS (r.getD host.toNat ([], 0)) s c)) out) (fun o => k1 a b o.1 o.2) (0, 0, 0, 0) xs o fuel (lt_fuel (by omega)) (fun m i s hi => ?_) (fun m s => ?_)
  · simp (disch := omega) only [zqkj, zqkc, clock_From_eq, clock_Meet_eq, c_pos, c_inb, i64_in, Int.toNat_natCast]
    cases decide ((xs.getD i (0, 0, 0, 0)).1 = host) <;> rfl
  · simp (disch := omega) only [zqkj, zqkc, c_neg]

theorem valid_bd {r : Rec} (h : valid r = true) : r.1.length ≤ 8 ∧ r.2.1.length ≤ 64 ∧ r.2.2.1.length ≤ 40 ∧ r.2.2.2.length ≤ 64 := by
  simp [valid, small] at h
  omega

theorem clock_When_eq (r : Rec) (host c : Int) (k : Int × Int → Bool → Option β) : zqkm r host c k = k (when? r host c).1 (when? r host c).2 := by
  simp only [zqkm, zqkf, clock_Valid_eq, clock_in_eq, clock_instant_eq, clock_Empty_eq, when?]
  cases h1 : valid r with
  | false => rfl
  | true =>
    have hb := valid_bd h1
    simp (disch := omega) only [i64_in, Bool.not_true, c_f, Bool.true_and]
    cases h2 : inN host 0 ((r.1.length : Int) - 1) with
    | false => rfl
    | true =>
      cases h3 : inN c 0 8589934592 with
      | false => rfl
      | true =>
        have h2 := inN_iff.1 h2
        simp only [Bool.not_true, c_f, Bool.and_true, cond_true]
        rw [clock_When_p1_eq _ host c r.2.1 (by omega) r.1 (by omega) r.2.1 r.2.2.1 r.2.2.2 0 0 (0, 8589934592)]
        rfl

end
end
end Go.Lift

/- The dice in plain Lean. -/
namespace Go.Lift
open Go.RowKit Go.IntWalk
noncomputable section
set_option linter.unusedVariables false
set_option linter.unusedSimpArgs false

abbrev Dice := List Int × Int
def DiceOk (d : Dice) : Prop := 0 ≤ d.2 ∧ d.2 ≤ d.1.length ∧ d.1.length ≤ 500

theorem light_eq {β : Type} (l : List Int) (k : Bool → Option β) : zqa l k = k (decide ((l.length : Int) ≤ 500)) := by
  simp only [zqa, zq7]
theorem roll_eq {β : Type} (l : List Int) (k : Dice → Option β) : zqh l k = k (l, 0) := by
  simp only [zqh, zqe]
theorem roll_ok {l : List Int} (h : (l.length : Int) ≤ 500) : DiceOk (l, 0) := ⟨by simp, by simp, by show l.length ≤ 500; omega⟩

theorem next_ok {n : Int} {d : Dice} (hd : DiceOk d) (hn : 1 ≤ n ∧ n ≤ 4611686018427387904) :
    ∃ x d', 0 ≤ x ∧ x < n ∧ DiceOk d' ∧ ∀ {β : Type} (k : Int → Dice → Option β), zq17 n d k = k x d' := by
  obtain ⟨h1, h2, h3⟩ := hd
  by_cases ha : (d.1.length : Int) ≤ d.2
  · exact ⟨0, d, by omega, by omega, ⟨h1, h2, h3⟩, fun k => by simp (disch := omega) only [zq17, zq14, c_pos]⟩
  · generalize hv : List.getD d.1 (Int.toNat d.2) (0 : Int) = v
    have hm1 := Int.tmod_lt_of_pos v (show 0 < n by omega)
    have hm2 : -n < Int.tmod v n := by
      have h5 := Int.tmod_lt_of_pos (-v) (show 0 < n by omega)
      rw [Int.neg_tmod] at h5
      omega
    have hd' : DiceOk (d.1, d.2 + 1) := ⟨by show (0 : Int) ≤ d.2 + 1; omega, by show d.2 + 1 ≤ (d.1.length : Int); omega, h3⟩
    by_cases hc : Int.tmod v n < 0
    · refine ⟨Int.tmod v n + n, (d.1, d.2 + 1), by omega, by omega, hd', fun k => ?_⟩
      simp (disch := omega) only [zq17, zq14, hv, c_pos, c_neg, c_inb, c_nneg, i64_in]
    · refine ⟨Int.tmod v n, (d.1, d.2 + 1), by omega, by omega, hd', fun k => ?_⟩
      simp (disch := omega) only [zq17, zq14, hv, c_pos, c_neg, c_inb, c_nneg, i64_in]

end
end Go.Lift

/- The dice in plain Lean: one of several numbers. -/
namespace Go.Lift
open Go.RowKit Go.IntWalk
noncomputable section
set_option linter.unusedVariables false
set_option linter.unusedSimpArgs false

theorem one_ok {l : List Int} {d : Dice} (hl : 0 < l.length) (hlen : l.length ≤ 1000000) (hd : DiceOk d) :
    ∃ x d', x ∈ l ∧ DiceOk d' ∧ ∀ {β : Type} (k : Int → Dice → Option β), zq1e l d k = k x d' := by
  obtain ⟨x, d', h1, h2, hd', hf⟩ := next_ok (n := (l.length : Int)) hd (by omega)
  have hxn : x.toNat < l.length := by omega
  refine ⟨l.getD x.toNat 0, d', ?_, hd', fun k => ?_⟩
  · simp [List.getD, hxn]
  · simp (disch := omega) only [zq1e, zq1b, hf, c_inb]
end
end Go.Lift

/- Records made by the dice, in plain Lean. -/
namespace Go.Lift
open Go.RowKit Go.IntWalk
noncomputable section
set_option linter.unusedVariables false
set_option linter.unusedSimpArgs false

structure HostsOk (hosts : List Host) (ahead : List Int) : Prop where
  len : ahead.length = hosts.length
  most : hosts.length ≤ 3
  drift : ∀ h ∈ hosts, h.2 = 0 ∨ h.2 = 100 ∨ h.2 = 50000 ∨ h.2 = 500000
  off : ∀ a ∈ ahead, a = 0 ∨ a = 7 ∨ a = 100
/-- A comparison at a true time. -/
def SyncOk (nh : Nat) (ahead : List Int) (s : Sync) : Prop :=
  0 ≤ s.1 ∧ s.1 < nh ∧ ∃ t, 864000 ≤ t ∧ t < 864400 ∧ s.2.1 = t + ahead.getD s.1.toNat 0 ∧ t - 20 ≤ s.2.2.1 ∧ s.2.2.1 ≤ t ∧ t ≤ s.2.2.2 ∧ s.2.2.2 ≤ t + 15
def EventOk (nh : Nat) (ahead : List Int) (e : Event) (t : Int) : Prop :=
  0 ≤ e.1 ∧ e.1 < nh ∧ 864000 ≤ t ∧ t < 864300 ∧ e.2.1 = t + ahead.getD e.1.toNat 0
def LinkOk (times : List Int) (l : Link) : Prop :=
  0 ≤ l.1 ∧ l.1 < times.length ∧ 0 ≤ l.2.1 ∧ l.2.1 < times.length ∧ l.1 ≠ l.2.1 ∧ 0 ≤ l.2.2 ∧ times.getD l.1.toNat 0 + l.2.2 ≤ times.getD l.2.1.toNat 0
/-- What a record of the dice is. -/
structure RecOk (n : Int) (r : Rec) (ahead times : List Int) : Prop where
  hosts : HostsOk r.1 ahead
  some_ : 1 ≤ r.1.length
  fewS : r.2.1.length ≤ 8
  syncs : ∀ s ∈ r.2.1, SyncOk r.1.length ahead s
  lenE : times.length = r.2.2.1.length
  fewE : (r.2.2.1.length : Int) ≤ n
  events : ∀ i, i < r.2.2.1.length → EventOk r.1.length ahead (r.2.2.1.getD i (0, 0, [])) (times.getD i 0)
  fewL : r.2.2.2.length ≤ 8
  links : ∀ l ∈ r.2.2.2, LinkOk times l

theorem getD_mem {α : Type} {l : List α} {i : Nat} {d : α} (h : i < l.length) : l.getD i d ∈ l := by simp [List.getD, h]
theorem getD_append {α : Type} {l l' : List α} {i : Nat} {d : α} (h : i < l.length) : (l ++ l').getD i d = l.getD i d := by simp [List.getD, List.getElem?_append_left h]
theorem getD_last {α : Type} {l : List α} {x d : α} : (l ++ [x]).getD l.length d = x := by simp [List.getD]

theorem record_p1 (n N : Int) (hN : 1 ≤ N ∧ N ≤ 3) {d : Dice} (hd : DiceOk d) :
    ∃ q : Dice × List Int × List Host, (DiceOk q.1 ∧ HostsOk q.2.2 q.2.1 ∧ (q.2.2.length : Int) = N) ∧
      ∀ {β : Type} (k : zqad β), zqbh k n N d.1 d.2 [] [] [] [] [] [] [] [] [] = k n q.1.1 q.1.2 q.2.1 [] [] [] [] q.2.2 [] [] [] := by
  refine while_loop (σ := Int × Dice × List Int × List Host) (ρ := Dice × List Int × List Host) (Kt := zqad)
    (fun k m s => zqbf m k n s.1 s.2.1.1 s.2.1.2 s.2.2.1 [] [] [] [] s.2.2.2 [] [] []) (fun k q => k n q.1.1 q.1.2 q.2.1 [] [] [] [] q.2.2 [] [] [])
    (fun s => 0 ≤ s.1 ∧ s.1 + s.2.2.2.length = N ∧ DiceOk s.2.1 ∧ HostsOk s.2.2.2 s.2.2.1) (fun s => s.1.toNat) _ ?_ fuel (N, d, [], []) ⟨by omega, by simp, hd, ⟨rfl, by simp, by simp, by simp⟩⟩ (lt_fuel (by show N.toNat < _; omega))
  rintro ⟨i, d, ahead, hosts⟩ ⟨h0, h1, h2, h3⟩
  simp only at h0 h1 h2 h3
  have hl := h3.len
  by_cases hi : 0 < i
  · left
    obtain ⟨x, d1, hx, hd1, f1⟩ := one_ok (l := [0, 0, 100, 50000, 500000]) (by simp) (by simp) h2
    obtain ⟨y, d2, hy, hd2, f2⟩ := one_ok (l := [0, 7, 100]) (by simp) (by simp) hd1
    refine ⟨(i - 1, d2, ahead ++ [y], hosts ++ [(List.getD [[100, 98], [119, 101, 98], [108, 98]] hosts.length [], x)]), ⟨by simp only; omega, by simp; omega, hd2, ?_⟩, by simp only; omega, fun k m => ?_⟩
    · refine ⟨by simp [hl], by simp; omega, fun h hh => ?_, fun a ha => ?_⟩
      · simp only [List.mem_append, List.mem_singleton] at hh
        rcases hh with hh | rfl
        · exact h3.drift h hh
        · simpa using hx
      · simp only [List.mem_append, List.mem_singleton] at ha
        rcases ha with ha | rfl
        · exact h3.off a ha
        · simpa using hy
    · simp (disch := omega) only [zqbg, zqax, pair_eta, c_pos, c_inb, c_room, f1, f2, i64_in, List.length_cons, List.length_nil, Int.toNat_natCast]
  · right
    exact ⟨(d, ahead, hosts), ⟨h2, h3, by simp only; omega⟩, fun k m => by simp (disch := omega) only [zqbg, zqax, c_neg]⟩

theorem ahead_bd {hosts : List Host} {ahead : List Int} (h : HostsOk hosts ahead) (i : Nat) : 0 ≤ ahead.getD i 0 ∧ ahead.getD i 0 ≤ 100 := by
  by_cases hi : i < ahead.length
  · have := h.off _ (getD_mem (d := 0) hi)
    omega
  · simp [List.getD, hi]

theorem record_p2 (n N : Int) (hN : 0 ≤ N ∧ N ≤ 4) {d : Dice} (hd : DiceOk d) {hosts : List Host} {ahead : List Int} (hh : HostsOk hosts ahead) (h1 : 1 ≤ hosts.length) :
    ∃ q : Dice × List Sync, (DiceOk q.1 ∧ (q.2.length : Int) = N ∧ ∀ s ∈ q.2, SyncOk hosts.length ahead s) ∧
      ∀ {β : Type} (k : zqah β), zqbl k n N d.1 d.2 ahead [] [] [] [] hosts [] [] [] = k n q.1.1 q.1.2 ahead [] [] [] [] hosts q.2 [] [] := by
  have hl := hh.len
  have hm := hh.most
  refine while_loop (σ := Int × Dice × List Sync) (ρ := Dice × List Sync) (Kt := zqah)
    (fun k m s => zqbj m k n s.1 s.2.1.1 s.2.1.2 ahead [] [] [] [] hosts s.2.2 [] []) (fun k q => k n q.1.1 q.1.2 ahead [] [] [] [] hosts q.2 [] [])
    (fun s => 0 ≤ s.1 ∧ s.1 + s.2.2.length = N ∧ DiceOk s.2.1 ∧ ∀ x ∈ s.2.2, SyncOk hosts.length ahead x) (fun s => s.1.toNat) _ ?_ fuel (N, d, []) ⟨by omega, by simp, hd, by simp⟩ (lt_fuel (by show N.toNat < _; omega))
  rintro ⟨i, d, syncs⟩ ⟨h0, h1', h2, h3⟩
  simp only at h0 h1' h2 h3
  by_cases hi : 0 < i
  · left
    obtain ⟨x, d1, hx0, hx1, hd1, f1⟩ := next_ok (n := (hosts.length : Int)) h2 (by omega)
    obtain ⟨y, d2, hy0, hy1, hd2, f2⟩ := next_ok (n := 400) hd1 (by omega)
    obtain ⟨z, d3, hz, hd3, f3⟩ := one_ok (l := [0, 3, 20]) (by simp) (by simp) hd2
    obtain ⟨u, d4, hu, hd4, f4⟩ := one_ok (l := [0, 2, 15]) (by simp) (by simp) hd3
    simp only [List.mem_cons, List.not_mem_nil, or_false] at hz hu
    have ha := ahead_bd hh x.toNat
    refine ⟨(i - 1, d4, syncs ++ [(x, 864000 + y + ahead.getD x.toNat 0, 864000 + y - z, 864000 + y + u)]), ⟨by simp only; omega, by simp; omega, hd4, ?_⟩, by simp only; omega, fun k m => ?_⟩
    · intro s hs
      simp only [List.mem_append, List.mem_singleton] at hs
      rcases hs with hs | rfl
      · exact h3 s hs
      · exact ⟨hx0, hx1, 864000 + y, by omega, by omega, rfl, by simp only; omega, by simp only; omega, by simp only; omega, by simp only; omega⟩
    · simp (disch := omega) only [zqbk, zqb0, pair_eta, c_pos, c_inb, c_room, f1, f2, f3, f4, i64_in, List.length_cons, List.length_nil, Int.toNat_natCast]
  · right
    exact ⟨(d, syncs), ⟨h2, by simp only; omega, h3⟩, fun k m => by simp (disch := omega) only [zqbk, zqb0, c_neg]⟩

theorem record_p3 (N : Int) (hN : 0 ≤ N ∧ N ≤ 1000) {d : Dice} (hd : DiceOk d) {hosts : List Host} {ahead : List Int} (hh : HostsOk hosts ahead) (h1 : 1 ≤ hosts.length) (syncs : List Sync) :
    ∃ q : Dice × List Int × List Event, (DiceOk q.1 ∧ (q.2.2.length : Int) = N ∧ q.2.1.length = q.2.2.length ∧ ∀ i, i < q.2.2.length → EventOk hosts.length ahead (q.2.2.getD i (0, 0, [])) (q.2.1.getD i 0)) ∧
      ∀ {β : Type} (k : zqal β), zqbp k N d.1 d.2 ahead [] [] [] [] [] hosts syncs [] [] = k q.1.1 q.1.2 q.2.1 [] [] [] [] hosts syncs q.2.2 [] := by
  have hl := hh.len
  have hm := hh.most
  refine while_loop (σ := Int × Dice × List Int × List Event) (ρ := Dice × List Int × List Event) (Kt := zqal)
    (fun k m s => zqbn m k s.1 s.2.1.1 s.2.1.2 ahead s.2.2.1 [] [] [] [] hosts syncs s.2.2.2 []) (fun k q => k q.1.1 q.1.2 q.2.1 [] [] [] [] hosts syncs q.2.2 [])
    (fun s => 0 ≤ s.1 ∧ s.1 + s.2.2.2.length = N ∧ s.2.2.1.length = s.2.2.2.length ∧ DiceOk s.2.1 ∧ ∀ i, i < s.2.2.2.length → EventOk hosts.length ahead (s.2.2.2.getD i (0, 0, [])) (s.2.2.1.getD i 0)) (fun s => s.1.toNat) _ ?_ fuel (N, d, [], []) ⟨by omega, by simp, rfl, hd, by simp⟩ (lt_fuel (by show N.toNat < _; omega))
  rintro ⟨i, d, times, evs⟩ ⟨h0, h1', hlen, h2, h3⟩
  simp only at h0 h1' hlen h2 h3
  by_cases hi : 0 < i
  · left
    obtain ⟨x, d1, hx0, hx1, hd1, f1⟩ := next_ok (n := (hosts.length : Int)) h2 (by omega)
    obtain ⟨y, d2, hy0, hy1, hd2, f2⟩ := next_ok (n := 300) hd1 (by omega)
    obtain ⟨z, d3, hz0, hz1, hd3, f3⟩ := next_ok (n := 3) hd2 (by omega)
    have ha := ahead_bd hh x.toNat
    refine ⟨(i - 1, d3, times ++ [864000 + y], evs ++ [(x, 864000 + y + ahead.getD x.toNat 0, List.getD [[117, 112], [100, 111, 119, 110], [115, 108, 111, 119]] z.toNat [])]), ⟨by simp only; omega, by simp; omega, by simp [hlen], hd3, ?_⟩, by simp only; omega, fun k m => ?_⟩
    · intro j hj
      simp only [List.length_append, List.length_singleton] at hj
      by_cases hj' : j < evs.length
      · rw [getD_append hj', getD_append (by omega)]
        exact h3 j hj'
      · obtain rfl : j = evs.length := by omega
        simp only
        rw [getD_last]
        rw [← hlen, getD_last]
        exact ⟨hx0, hx1, by omega, by omega, rfl⟩
    · simp (disch := omega) only [zqbo, zqb3, pair_eta, c_pos, c_inb, c_room, f1, f2, f3, i64_in, List.length_cons, List.length_nil, Int.toNat_natCast]
  · right
    exact ⟨(d, times, evs), ⟨h2, by simp only; omega, hlen, h3⟩, fun k m => by simp (disch := omega) only [zqbo, zqb3, c_neg]⟩

theorem record_p5 (N : Int) (hN : 0 ≤ N ∧ N ≤ 3) {d : Dice} (hd : DiceOk d) (hosts : List Host) (syncs : List Sync) (evs : List Event) {times : List Int} (ht : times.length ≤ 1000) (hb : ∀ i, i < times.length → 864000 ≤ times.getD i 0 ∧ times.getD i 0 < 864300) :
    ∃ q : Dice × List Link, (DiceOk q.1 ∧ q.2.length ≤ 3 ∧ ∀ l ∈ q.2, LinkOk times l) ∧
      ∀ {β : Type} (k : zqat β), zqbv k N d.1 d.2 times [] [] [] [] hosts syncs evs [] = k q.1.1 q.1.2 times [] [] [] [] hosts syncs evs q.2 := by
  refine while_loop (σ := Int × Dice × List Link) (ρ := Dice × List Link) (Kt := zqat)
    (fun k m s => zqbt m k s.1 s.2.1.1 s.2.1.2 times [] [] [] [] hosts syncs evs s.2.2) (fun k q => k q.1.1 q.1.2 times [] [] [] [] hosts syncs evs q.2)
    (fun s => 0 ≤ s.1 ∧ s.1 + s.2.2.length ≤ N ∧ DiceOk s.2.1 ∧ ∀ x ∈ s.2.2, LinkOk times x) (fun s => s.1.toNat) _ ?_ fuel (N, d, []) ⟨by omega, by simp, hd, by simp⟩ (lt_fuel (by show N.toNat < _; omega))
  rintro ⟨i, d, links⟩ ⟨h0, h1', h2, h3⟩
  simp only at h0 h1' h2 h3
  by_cases hi : 0 < i
  · by_cases ht1 : (1 : Int) < times.length
    · left
      obtain ⟨x, d1, hx0, hx1, hd1, f1⟩ := next_ok (n := (times.length : Int)) h2 (by omega)
      obtain ⟨y, d2, hy0, hy1, hd2, f2⟩ := next_ok (n := (times.length : Int)) hd1 (by omega)
      by_cases hxy : x = y
      · refine ⟨(i - 1, d2, links), ⟨by simp only; omega, by simp only; omega, hd2, h3⟩, by simp only; omega, fun k m => ?_⟩
        simp (disch := omega) only [zqbu, zqb9, zqbr, zqb7, zqb6, pair_eta, c_pos, c_npos, c_f, f1, f2, i64_in]
      · have bx := hb x.toNat (by omega)
        have by_ := hb y.toNat (by omega)
        by_cases hle : times.getD x.toNat 0 ≤ times.getD y.toNat 0
        · obtain ⟨z, d3, hz0, hz1, hd3, f3⟩ := next_ok (n := times.getD y.toNat 0 - times.getD x.toNat 0 + 1) hd2 (by omega)
          refine ⟨(i - 1, d3, links ++ [(x, y, z)]), ⟨by simp only; omega, by simp; omega, hd3, ?_⟩, by simp only; omega, fun k m => ?_⟩
          · intro l hl
            simp only [List.mem_append, List.mem_singleton] at hl
            rcases hl with hl | rfl
            · exact h3 l hl
            · exact ⟨hx0, hx1, hy0, hy1, hxy, hz0, by simp only; omega⟩
          · simp (disch := omega) only [zqbu, zqb9, zqbr, zqb7, zqb6, pair_eta, c_pos, c_nneg, c_inb, c_room, f1, f2, f3, i64_in, List.length_cons, List.length_nil]
        · refine ⟨(i - 1, d2, links), ⟨by simp only; omega, by simp only; omega, hd2, h3⟩, by simp only; omega, fun k m => ?_⟩
          simp (disch := omega) only [zqbu, zqb9, zqbr, zqb7, zqb6, pair_eta, c_pos, c_nneg, c_inb, c_neg, f1, f2, i64_in]
    · right
      exact ⟨(d, links), ⟨h2, by simp only; omega, h3⟩, fun k m => by simp (disch := omega) only [zqbu, zqb9, c_pos, c_neg]⟩
  · right
    exact ⟨(d, links), ⟨h2, by simp only; omega, h3⟩, fun k m => by simp (disch := omega) only [zqbu, zqb9, c_neg]⟩

theorem record_ok4 (n : Int) (hn : 0 ≤ n ∧ n ≤ 900) {d : Dice} (hd : DiceOk d) :
    ∃ r d' times ahead, RecOk n r ahead times ∧ DiceOk d' ∧ (r.2.1.length ≤ 4 ∧ r.2.2.2.length ≤ 3) ∧ ∀ {β : Type} (k : zq2 → Dice → List Int → Option β), zqbx n d k = k r d' times := by
  obtain ⟨x, d1, hx0, hx1, hd1, f1⟩ := next_ok (n := 3) hd (by omega)
  obtain ⟨⟨d2, ahead, hosts⟩, ⟨hd2, hh, hN⟩, f2⟩ := record_p1 n (1 + x) (by omega) hd1
  simp only at hd2 hh hN f2
  obtain ⟨y, d3, hy0, hy1, hd3, f3⟩ := next_ok (n := 5) hd2 (by omega)
  obtain ⟨⟨d4, syncs⟩, ⟨hd4, hs, hsy⟩, f4⟩ := record_p2 n y (by omega) hd3 hh (by omega)
  simp only at hd4 hs hsy f4
  obtain ⟨z, d5, hz0, hz1, hd5, f5⟩ := next_ok (n := n + 1) hd4 (by omega)
  obtain ⟨⟨d6, times, evs⟩, ⟨hd6, he, hte, hev⟩, f6⟩ := record_p3 z (by omega) hd5 hh (by omega) syncs
  simp only at hd6 he hte hev f6
  obtain ⟨u, d7, hu0, hu1, hd7, f7⟩ := next_ok (n := 4) hd6 (by omega)
  obtain ⟨⟨d8, links⟩, ⟨hd8, hl, hli⟩, f8⟩ := record_p5 u (by omega) hd7 hosts syncs evs (times := times) (by omega) (fun i hi => ⟨(hev i (by omega)).2.2.1, (hev i (by omega)).2.2.2.1⟩)
  simp only at hd8 hl hli f8
  refine ⟨(hosts, syncs, evs, links), d8, times, ahead, ⟨hh, by simp only; omega, by simp only; omega, hsy, hte, by simp only; omega, hev, by simp only; omega, hli⟩, hd8, ⟨by simp only; omega, hl⟩, fun k => ?_⟩
  simp (disch := omega) only [zqbx, zqbc, f1, f2, f3, f4, f5, f6, f7, f8, i64_in, pair_eta]

theorem record_ok (n : Int) (hn : 0 ≤ n ∧ n ≤ 900) {d : Dice} (hd : DiceOk d) :
    ∃ r d' times ahead, RecOk n r ahead times ∧ DiceOk d' ∧ ∀ {β : Type} (k : zq2 → Dice → List Int → Option β), zqbx n d k = k r d' times := by
  obtain ⟨r, d', times, ahead, h1, h2, _, h3⟩ := record_ok4 n hn hd
  exact ⟨r, d', times, ahead, h1, h2, h3⟩

/-- A record of the dice is valid. -/
theorem RecOk.valid {n : Int} {r : Rec} {ahead times : List Int} (h : RecOk n r ahead times) (hn : n ≤ 40) : valid r = true := by
  obtain ⟨hosts, syncs, evs, links⟩ := r
  have hE := h.fewE
  have hS := h.fewS
  have hL := h.fewL
  have hm := h.hosts.most
  have hle := h.lenE
  simp only at hE hS hL hm hle
  have key : ∀ (l : List Int) (i : Nat), (∀ a ∈ l, a = 0 ∨ a = 7 ∨ a = 100) → 0 ≤ l.getD i 0 ∧ l.getD i 0 ≤ 100 := by
    intro l i hl
    by_cases hi : i < l.length
    · have := hl _ (getD_mem (d := 0) hi); omega
    · simp [List.getD, hi]
  have hev : ∀ e ∈ evs, vEvent hosts.length e = true := by
    intro e he
    obtain ⟨i, hi, rfl⟩ := List.getElem_of_mem he
    have := h.events i hi
    simp only at this
    rw [show evs.getD i (0, 0, []) = evs[i] by simp [List.getD, hi]] at this
    obtain ⟨a1, a2, a3, a4, a5⟩ := this
    have := key ahead evs[i].1.toNat h.hosts.off
    simp only [vEvent, Bool.and_eq_true, inN_iff]
    omega
  have hsy : ∀ s ∈ syncs, vSync hosts.length s = true := by
    intro s hs
    obtain ⟨a1, a2, t, a3, a4, a5, a6, a7, a8, a9⟩ := h.syncs s hs
    have := key ahead s.1.toNat h.hosts.off
    simp only [vSync, okSync, Bool.and_eq_true, inN_iff, decide_eq_true_eq]
    simp only at a2
    omega
  have hli : ∀ l ∈ links, vLink evs.length l = true := by
    intro l hl
    obtain ⟨a1, a2, a3, a4, a5, a6, a7⟩ := h.links l hl
    have b1 := h.events l.1.toNat (by simp only; omega)
    have b2 := h.events l.2.1.toNat (by simp only; omega)
    obtain ⟨-, -, c1, c2, -⟩ := b1
    obtain ⟨-, -, c3, c4, -⟩ := b2
    simp only [vLink, Bool.and_eq_true, inN_iff, Bool.not_eq_true', decide_eq_false_iff_not]
    omega
  have hho : ∀ x ∈ hosts, vHost x = true := by
    intro x hx
    have := h.hosts.drift x hx
    simp only [vHost, inN_iff]
    omega
  simp only [Go.Lift.valid, small, Bool.and_eq_true, List.all_eq_true, Bool.not_eq_true', decide_eq_false_iff_not]
  exact ⟨⟨by omega, by omega, by omega, by omega⟩, hho, hsy, hev, hli⟩

end
end Go.Lift

/- When a clock showed a reading. -/
namespace Go.Lift
open Go.RowKit Go.IntWalk
noncomputable section
set_option linter.unusedVariables false
set_option linter.unusedSimpArgs false

theorem elapsed_le {drift d : Int} (h1 : 0 ≤ drift ∧ drift ≤ 500000) (h2 : 0 ≤ d ∧ d ≤ 8589934592) : (elapsed drift d).1 ≤ d ∧ d ≤ (elapsed drift d).2 := by
  unfold elapsed
  rw [inN_mk h1, inN_mk h2]
  simp only [Bool.and_true, cond_true]
  have hp1 : (0 : Int) < 1000000 + drift := by omega
  have hp2 : (0 : Int) < 1000000 - drift := by omega
  constructor
  · apply Int.le_of_lt_add_one
    rw [Int.ediv_lt_iff_lt_mul hp1]
    have : (d + 1) * 1000000 ≤ (d + 1) * (1000000 + drift) := Int.mul_le_mul_of_nonneg_left (by omega) (by omega)
    omega
  · rw [Int.le_ediv_iff_mul_le hp2]
    have : d * (1000000 - drift) ≤ d * 1000000 := Int.mul_le_mul_of_nonneg_left (by omega) (by omega)
    omega

/-- What a comparison says of a reading, if its numbers are right. -/
theorem fromS_eq {h : Host} {s : Sync} {c : Int} (h1 : 0 ≤ h.2 ∧ h.2 ≤ 500000) (h2 : okSync s = true) (h3 : 0 ≤ c ∧ c ≤ 8589934592) :
    fromS h s c = if s.2.1 ≤ c then (s.2.2.1 + (elapsed h.2 (c - s.2.1)).1, s.2.2.2 + (elapsed h.2 (c - s.2.1)).2) else (s.2.2.1 - (elapsed h.2 (s.2.1 - c)).2, s.2.2.2 - (elapsed h.2 (s.2.1 - c)).1) := by
  unfold fromS
  rw [h2, inN_mk h3, vHost, inN_mk h1]
  simp only [Bool.and_self, cond_true]
  split <;> rename_i hc
  · rw [decide_eq_true hc]; rfl
  · rw [decide_eq_false hc]; rfl

/-- The range that a true comparison gives has the true time. -/
theorem fromS_true {h : Host} {s : Sync} {c t a : Int} (h1 : 0 ≤ h.2 ∧ h.2 ≤ 500000) (h2 : okSync s = true) (h3 : 0 ≤ c ∧ c ≤ 8589934592) (hs : s.2.1 = t + a) (hl : s.2.2.1 ≤ t) (hh : t ≤ s.2.2.2) :
    (fromS h s c).1 ≤ c - a ∧ c - a ≤ (fromS h s c).2 := by
  rw [fromS_eq h1 h2 h3]
  simp only [okSync, Bool.and_eq_true, inN_iff, decide_eq_true_eq] at h2
  split
  · have := elapsed_le h1 (d := c - s.2.1) (by omega)
    simp only; omega
  · have := elapsed_le h1 (d := s.2.1 - c) (by omega)
    simp only; omega

theorem meet2_eq (a b : Int × Int) : meet2 a b = (max a.1 b.1, min a.2 b.2) := by
  unfold meet2
  congr 1
  · omega
  · omega

/-- The ranges that the comparisons of a host give. -/
def froms (hosts : List Host) (host c : Int) (syncs : List Sync) : List (Int × Int) := (syncs.filter fun s => decide (s.1 = host)).map fun s => fromS (hosts.getD host.toNat ([], 0)) s c

theorem whenR_eq (r : Rec) (host c : Int) : whenR r host c = (froms r.1 host c r.2.1).foldl meet2 (0, 8589934592) := by
  unfold whenR froms
  generalize ((0 : Int), (8589934592 : Int)) = o
  induction r.2.1 generalizing o with
  | nil => rfl
  | cons s l ih =>
    simp only [List.foldl_cons, ih, List.filter_cons]
    cases decide (s.1 = host) <;> rfl

theorem foldl_meet_in {x : Int} : ∀ {l : List (Int × Int)} {o : Int × Int}, o.1 ≤ x ∧ x ≤ o.2 → (∀ f ∈ l, f.1 ≤ x ∧ x ≤ f.2) → (l.foldl meet2 o).1 ≤ x ∧ x ≤ (l.foldl meet2 o).2
  | [], o, h, _ => h
  | f :: l, o, h, hl => by
    have h1 := hl f (by simp)
    refine foldl_meet_in (o := meet2 o f) ?_ fun g hg => hl g (by simp [hg])
    rw [meet2_eq]
    simp only; omega

theorem foldl_meet_bd : ∀ {l : List (Int × Int)} {o : Int × Int}, o.1 ≤ (l.foldl meet2 o).1 ∧ (l.foldl meet2 o).2 ≤ o.2
  | [], o => ⟨Int.le_refl _, Int.le_refl _⟩
  | f :: l, o => by
    have := @foldl_meet_bd l (meet2 o f)
    rw [meet2_eq] at this
    rw [List.foldl_cons, meet2_eq]
    simp only at this
    omega

section
variable {n : Int} {r : Rec} {ahead times : List Int}
theorem RecOk.sync_ok (h : RecOk n r ahead times) {s : Sync} (hs : s ∈ r.2.1) : okSync s = true ∧ 864000 ≤ s.2.1 ∧ s.2.1 ≤ 864500 ∧ 863980 ≤ s.2.2.1 ∧ s.2.2.2 ≤ 864415 := by
  obtain ⟨a1, a2, t, a3, a4, a5, a6, a7, a8, a9⟩ := h.syncs s hs
  have := ahead_bd h.hosts s.1.toNat
  refine ⟨?_, by omega, by omega, by omega, by omega⟩
  simp only [okSync, Bool.and_eq_true, inN_iff, decide_eq_true_eq]
  omega
theorem RecOk.drift_ok (h : RecOk n r ahead times) (i : Nat) : 0 ≤ (r.1.getD i ([], 0)).2 ∧ (r.1.getD i ([], 0)).2 ≤ 500000 := by
  by_cases hi : i < r.1.length
  · have := h.hosts.drift _ (getD_mem (d := ([], 0)) hi); omega
  · simp [List.getD, hi]

theorem RecOk.froms_true (h : RecOk n r ahead times) {host c : Int} (hh : 0 ≤ host ∧ host < r.1.length) (hc : 0 ≤ c ∧ c ≤ 8589934592) :
    ∀ f ∈ froms r.1 host c r.2.1, f.1 ≤ c - ahead.getD host.toNat 0 ∧ c - ahead.getD host.toNat 0 ≤ f.2 := by
  intro f hf
  simp only [froms, List.mem_map, List.mem_filter, decide_eq_true_eq] at hf
  obtain ⟨s, ⟨hs, rfl⟩, rfl⟩ := hf
  obtain ⟨a1, a2, t, a3, a4, a5, a6, a7, a8, a9⟩ := h.syncs s hs
  exact fromS_true (h.drift_ok _) (h.sync_ok hs).1 hc a5 a7 a8

theorem RecOk.when_true (h : RecOk n r ahead times) {host c : Int} (hh : 0 ≤ host ∧ host < r.1.length) (hc : 100 ≤ c ∧ c ≤ 8589934592) :
    (whenR r host c).1 ≤ c - ahead.getD host.toNat 0 ∧ c - ahead.getD host.toNat 0 ≤ (whenR r host c).2 := by
  rw [whenR_eq]
  have := ahead_bd h.hosts host.toNat
  exact foldl_meet_in (by simp only; omega) (h.froms_true hh (by omega))

theorem RecOk.when? (h : RecOk n r ahead times) (hn : n ≤ 40) {host c : Int} (hh : 0 ≤ host ∧ host < r.1.length) (hc : 100 ≤ c ∧ c ≤ 8589934592) : when? r host c = (whenR r host c, true) := by
  have h1 := h.when_true hh hc
  unfold Go.Lift.when?
  rw [h.valid hn, inN_mk (by omega), inN_mk (by omega)]
  simp only [Bool.and_self, cond_true]
  rw [decide_eq_false (by omega)]
  rfl
end

end
end Go.Lift

/- constraint.Close in plain Lean. -/
namespace Go.Lift
open Go.RowKit Go.IntWalk
noncomputable section
set_option linter.unusedVariables false
set_option linter.unusedSimpArgs false
set_option maxRecDepth 10000

theorem range_getD {n i : Nat} (h : i < n) : (List.range n).getD i 0 = i := by simp [List.getD, h]

section
variable {β : Type}
theorem close_p3 {n : Nat} (hn : n ≤ 100) {k i : Nat} (hk : k < n) (hi : i < n) {m : Mat} (hm : Sq n m) (a b c d : Int) (k1 : zqni β) :
    zqot k1 (n : Int) (k : Int) (i : Int) a b c d (n : Int) 0 m = k1 (n : Int) (k : Int) a b c d (rowW n k i m) := by
  have key := fold_loopI (fun _ m => Sq n m) (fun f j m => zqor f k1 (n : Int) (k : Int) (i : Int) a b c d (n : Int) j m) (fun m j => relaxW k i j m) (fun m => k1 (n : Int) (k : Int) a b c d m) 0 (List.range n) m fuel (lt_fuel (by simp; omega)) hm
    (fun j m hj hm => hm.relaxW _ _ _)
    (fun f j m hj hm => by
      have hj : j < n := by simpa using hj
      have e1 : IntKind.i64.wrap ((j : Int) + 1) = j + 1 := i64_in _ (by omega)
      rw [range_getD hj, zqos]
      unfold zqo6
      simp only [Int.toNat_natCast]
      have l0 := hm.len
      have l1 := hm.row i hi
      have l2 := hm.row k hk
      refine (c_pos (by omega)).trans ?_
      refine (c_inb (by omega)).trans ?_
      refine (c_inb (by omega)).trans ?_
      have hq : ∀ (t : Bool), (zqop (fun (n2 : Int) (k_2 : Int) (i_2 : Int) (t382 : Int) (t392 : Int) (t422 : Int) (t432 : Int) (t462 : Int) (t472 : Int) (m2 : List (List Int)) => zqor f k1 n2 k_2 i_2 t382 t392 t422 t432 t462 (IntKind.i64.wrap (t472 + (1 : Int))) m2) (n : Int) (k : Int) (i : Int) (j : Int) a b c d (n : Int) (j : Int) t m : Option β) =
          zqor f k1 (n : Int) (k : Int) (i : Int) a b c d (n : Int) ((j : Int) + 1) (if t then setAt m i j (if IntKind.i64.wrap (at2 m i k + at2 m k j) < at2 m i j then IntKind.i64.wrap (at2 m i k + at2 m k j) else at2 m i j) else m) := fun t => by
        unfold zqop zqo4 zqo3
        cases t with
        | false =>
          simp only [cond_false, e1]
          rfl
        | true =>
          simp only [cond_true, Int.toNat_natCast, e1]
          refine (c_inb (by omega)).trans ?_
          refine (c_inb (by omega)).trans ?_
          refine (c_inb (by omega)).trans ?_
          refine (c_inb (by omega)).trans ?_
          refine (c_inb (by omega)).trans ?_
          refine (c_inb (by omega)).trans ?_
          refine (c_inb (by omega)).trans ?_
          refine (c_inb (by omega)).trans ?_
          rfl
      by_cases h1 : at2 m i k = BIG
      · refine (c_npos (show (m.getD i []).getD k 0 = (1099511627776 : Int) from h1)).trans ?_
        refine (hq false).trans ?_
        have : relaxW k i j m = m := by unfold relaxW; rw [if_pos (.inl h1)]
        rw [this]
        rfl
      · refine (c_nneg (show ¬ (m.getD i []).getD k 0 = (1099511627776 : Int) from h1)).trans ?_
        refine (c_inb (by omega)).trans ?_
        refine (c_inb (by omega)).trans ?_
        refine (hq _).trans ?_
        by_cases h2 : at2 m k j = BIG
        · have : relaxW k i j m = m := by unfold relaxW; rw [if_pos (.inr h2)]
          rw [this, decide_eq_true (show (m.getD k []).getD j 0 = (1099511627776 : Int) from h2)]
          rfl
        · have : relaxW k i j m = setAt m i j (if IntKind.i64.wrap (at2 m i k + at2 m k j) < at2 m i j then IntKind.i64.wrap (at2 m i k + at2 m k j) else at2 m i j) := by unfold relaxW; rw [if_neg (fun h => h.elim h1 h2)]
          rw [this, decide_eq_false (show ¬ (m.getD k []).getD j 0 = (1099511627776 : Int) from h2)]
          rfl)
    (fun f m hm => by
      rw [zqos]
      unfold zqo6
      exact c_neg (by simp))
  unfold zqot
  exact key
theorem close_p4 {n : Nat} (hn : n ≤ 100) {k : Nat} (hk : k < n) {m : Mat} (hm : Sq n m) (a b : Int) (k1 : zqnm β) :
    zqox k1 (n : Int) (k : Int) a b (n : Int) 0 m = k1 (n : Int) (k : Int) a b (roundW n k m) := by
  have key := fold_loopI (fun _ m => Sq n m) (fun f j m => zqov f k1 (n : Int) (k : Int) a b (n : Int) j m) (fun m i => rowW n k i m) (fun m => k1 (n : Int) (k : Int) a b m) 0 (List.range n) m fuel (lt_fuel (by simp; omega)) hm
    (fun j m hj hm => hm.rowW _ _)
    (fun f j m hj hm => by
      have hj : j < n := by simpa using hj
      have e1 : IntKind.i64.wrap ((j : Int) + 1) = j + 1 := i64_in _ (by omega)
      rw [range_getD hj, zqow]
      unfold zqo9
      refine (c_pos (by omega)).trans ?_
      refine (close_p3 hn hk hj hm _ _ _ _ _).trans ?_
      simp only [e1])
    (fun f m hm => by
      rw [zqow]
      unfold zqo9
      exact c_neg (by simp))
  unfold zqox
  exact key

/-- The rounds of the closure: c rounds from k on. -/
def roundsW (n : Nat) : Nat → Nat → Mat → Option Mat
  | 0, _, m => some m
  | c + 1, k, m => if at2 (roundW n k m) k k < 0 then none else roundsW n c (k + 1) (roundW n k m)

theorem roundsW_sq {n : Nat} : ∀ (c k : Nat) (m m' : Mat), Sq n m → roundsW n c k m = some m' → Sq n m'
  | 0, k, m, m', h, e => by cases e; exact h
  | c + 1, k, m, m', h, e => by
    unfold roundsW at e
    split at e
    · cases e
    · exact roundsW_sq c (k + 1) _ m' (h.roundW k) e

theorem close_p5_n {n : Nat} (hn : n ≤ 100) (k1 : zqnq β) (k2 : zqnr β) : ∀ (c k f : Nat) (m : Mat), k + c = n → c < f → Sq n m →
    zqoz f k1 k2 (n : Int) (n : Int) (k : Int) m = (match roundsW n c k m with | some m' => k2 (n : Int) m' | none => k1 false [])
  | 0, k, f + 1, m, h, hf, hm => by
    rw [zqp0]
    unfold zqoc
    exact c_neg (by omega)
  | c + 1, k, f + 1, m, h, hf, hm => by
    rw [zqp0]
    unfold zqoc
    have hk : k < n := by omega
    refine (c_pos (by omega)).trans ?_
    refine (close_p4 hn hk hm _ _ _).trans ?_
    have hm' := hm.roundW k
    have l0 := hm'.len
    have l1 := hm'.row k hk
    have e1 : IntKind.i64.wrap ((k : Int) + 1) = ((k + 1 : Nat) : Int) := i64_in _ (by omega)
    simp only [Int.toNat_natCast]
    refine (c_inb (by omega)).trans ?_
    refine (c_inb (by omega)).trans ?_
    unfold roundsW
    by_cases h2 : at2 (roundW n k m) k k < 0
    · refine (c_pos h2).trans ?_
      rw [if_pos h2]
    · refine (c_neg h2).trans ?_
      rw [if_neg h2, e1]
      exact close_p5_n hn k1 k2 c (k + 1) f _ (by omega) (by omega) hm'
  | _, _, 0, _, _, hf, _ => absurd hf (by omega)

theorem close_p5 {n : Nat} (hn : n ≤ 100) (k1 : zqnq β) (k2 : zqnr β) {m : Mat} (hm : Sq n m) :
    zqp1 k1 k2 (n : Int) (n : Int) 0 m = (match roundsW n n 0 m with | some m' => k2 (n : Int) m' | none => k1 false []) := by
  unfold zqp1
  exact close_p5_n hn k1 k2 n 0 fuel m (by omega) (lt_fuel (by omega)) hm

/-- No number of the diagonal is less than 0. -/
def diagOk (n : Nat) (m : Mat) : Bool := (List.range n).all fun i => decide (¬ at2 m i i < 0)

theorem close_p6 {n : Nat} (hn : n ≤ 100) (k1 : zqnv β) (k2 : zqnw β) {m : Mat} (hm : Sq n m) :
    zqp5 k1 k2 (n : Int) 0 m = cond (diagOk n m) (k2 m) (k1 false []) := by
  have key := check_loop (fun f j => zqp3 f k1 k2 (n : Int) j m) (fun i => decide (¬ at2 m i i < 0)) (k1 false []) (k2 m) 0 (List.range n) fuel (lt_fuel (by simp; omega))
    (fun f j hj => by
      have hj : j < n := by simpa using hj
      have e1 : IntKind.i64.wrap ((j : Int) + 1) = j + 1 := i64_in _ (by omega)
      have l0 := hm.len
      have l1 := hm.row j hj
      rw [range_getD hj, zqp4]
      unfold zqof
      simp only [Int.toNat_natCast, e1]
      refine (c_pos (by omega)).trans ?_
      refine (c_inb (by omega)).trans ?_
      refine (c_inb (by omega)).trans ?_
      by_cases h2 : at2 m j j < 0
      · refine (c_pos h2).trans ?_
        simp [h2]
      · refine (c_neg h2).trans ?_
        simp [h2])
    (fun f => by
      rw [zqp4]
      unfold zqof
      exact c_neg (by simp))
  unfold zqp5
  exact key

/-- The diagonal is 0 at most. -/
def diagW (n : Nat) (m : Mat) : Mat := (List.range n).foldl (fun m i => setAt m i i (if 0 < at2 m i i then 0 else at2 m i i)) m
theorem Sq.diagW {n : Nat} {m : Mat} (h : Sq n m) : Sq n (diagW n m) := fold_inv (Sq n) _ (fun m i h => h.setAt _ _ _) _ _ h

theorem close_p1 {n : Nat} (hn : n ≤ 100) (k1 : zqna β) {m : Mat} (hm : Sq n m) :
    zqon k1 (n : Int) (n : Int) 0 m = k1 (n : Int) (diagW n m) := by
  have key := fold_loopI (fun _ m => Sq n m) (fun f j m => zqol f k1 (n : Int) (n : Int) j m) (fun m i => setAt m i i (if 0 < at2 m i i then 0 else at2 m i i)) (fun m => k1 (n : Int) m) 0 (List.range n) m fuel (lt_fuel (by simp; omega)) hm
    (fun j m hj hm => hm.setAt _ _ _)
    (fun f j m hj hm => by
      have hj : j < n := by simpa using hj
      have e1 : IntKind.i64.wrap ((j : Int) + 1) = j + 1 := i64_in _ (by omega)
      have l0 := hm.len
      have l1 := hm.row j hj
      rw [range_getD hj, zqom]
      unfold zqo0
      simp only [Int.toNat_natCast, e1]
      refine (c_pos (by omega)).trans ?_
      refine (c_inb (by omega)).trans ?_
      refine (c_inb (by omega)).trans ?_
      refine (c_inb (by omega)).trans ?_
      refine (c_inb (by omega)).trans ?_
      rfl)
    (fun f m hm => by
      rw [zqom]
      unfold zqo0
      exact c_neg (by simp))
  unfold zqon
  exact key
end
end
end Go.Lift

/- constraint.Valid and constraint.direct in plain Lean. -/
namespace Go.Lift
open Go.RowKit Go.IntWalk
noncomputable section
set_option linter.unusedVariables false
set_option linter.unusedSimpArgs false
set_option maxRecDepth 10000

abbrev Diff := Int × (Int × Int)
section
variable {β : Type}
theorem constraint_in_eq (n low high : Int) (k : Bool → Option β) : zq9v n low high k = k (decide (low ≤ n) && decide (n ≤ high)) := by
  unfold zq9v zq9s
  by_cases h : low ≤ n <;> simp [h]

def diffOk (n : Nat) (d : Diff) : Bool := decide (0 ≤ d.1 ∧ d.1 < n ∧ 0 ≤ d.2.1 ∧ d.2.1 < n ∧ -17179869184 ≤ d.2.2 ∧ d.2.2 ≤ 17179869184)

theorem Valid_f1_eq {n : Nat} (hn : n ≤ 100) (d : Diff) (k : Bool → Int → Option β) : zqa2 d (n : Int) k = k (!diffOk n d) (n : Int) := by
  have e1 : IntKind.i64.wrap ((n : Int) - 1) = n - 1 := i64_in _ (by omega)
  unfold zqa2 zq9z
  simp only [constraint_in_eq, e1]
  unfold diffOk
  by_cases h1 : 0 ≤ d.1 ∧ d.1 ≤ (n : Int) - 1
  · rw [decide_eq_true h1.1, decide_eq_true h1.2]
    simp only [Bool.and_self, Bool.not_true, cond_false]
    by_cases h2 : 0 ≤ d.2.1 ∧ d.2.1 ≤ (n : Int) - 1
    · rw [decide_eq_true h2.1, decide_eq_true h2.2]
      simp only [Bool.and_self, Bool.not_true, cond_false]
      congr 1
      congr 1
      rw [← Bool.decide_and]
      exact decide_eq_decide.2 (by omega)
    · rw [show (decide (0 ≤ d.2.1) && decide (d.2.1 ≤ (n : Int) - 1)) = false by rw [← Bool.decide_and]; exact decide_eq_false h2]
      simp only [Bool.not_false, cond_true]
      congr 1
      rw [decide_eq_false (by omega)]
      rfl
  · rw [show (decide (0 ≤ d.1) && decide (d.1 ≤ (n : Int) - 1)) = false by rw [← Bool.decide_and]; exact decide_eq_false h1]
    simp only [Bool.not_false, cond_true]
    congr 1
    rw [decide_eq_false (by omega)]
    rfl

theorem any_eq {n : Nat} (hn : n ≤ 100) {l : List Diff} (hl : l.length ≤ 100000) (k : Bool → Int → Option β) :
    zqmz l (n : Int) k = k (!l.all (diffOk n)) (n : Int) := by
  unfold zqmz zqmw
  unfold zql5 zqky
  unfold zql3
  refine (check_loop (fun f j => zql1 f (fun (t4 : Int) (b0_2 : Int) => k (decide ((0 : Int) ≤ t4)) b0_2) (fun (b0_2 : Int) => k (decide ((0 : Int) ≤ -1)) b0_2) l (l.length : Int) j (n : Int)) (diffOk n) (k true (n : Int)) (k false (n : Int)) ((0 : Int), ((0 : Int), (0 : Int))) l fuel (lt_fuel (by omega))
    (fun f j hj => ?_) (fun f => ?_)).trans ?_
  · have e1 : IntKind.i64.wrap ((j : Int) + 1) = j + 1 := i64_in _ (by omega)
    rw [zql2]
    unfold zqkv
    refine (c_pos (by omega)).trans ?_
    refine (c_inb (by omega)).trans ?_
    simp only [Int.toNat_natCast, e1]
    refine (Valid_f1_eq hn _ _).trans ?_
    cases h : diffOk n (l.getD j ((0 : Int), ((0 : Int), (0 : Int)))) with
    | true => simp
    | false => simp
  · rw [zql2]
    unfold zqkv
    refine (c_neg (by omega)).trans ?_
    simp
  · cases l.all (diffOk n) <;> rfl

def validD (n : Nat) (l : List Diff) : Bool := decide (l.length ≤ 4000) && l.all (diffOk n)

theorem Valid_eq {n : Nat} (h1 : 1 ≤ n) (hn : n ≤ 41) {l : List Diff} (k : Bool → Option β) : zqn6 (n : Int) l k = k (validD n l) := by
  unfold zqn6 zqn3
  refine (constraint_in_eq _ _ _ _).trans ?_
  rw [decide_eq_true (show (1 : Int) ≤ n by omega), decide_eq_true (show (n : Int) ≤ 41 by omega)]
  simp only [Bool.and_self, Bool.not_true, cond_false]
  unfold validD
  by_cases hl : l.length ≤ 4000
  · refine (c_neg (by omega)).trans ?_
    refine (any_eq (by omega) (by omega) _).trans ?_
    rw [decide_eq_true hl]
    simp
  · refine (c_pos (by omega)).trans ?_
    rw [decide_eq_false hl]
    rfl
end
end
end Go.Lift

/- constraint.direct in plain Lean. -/
namespace Go.Lift
open Go.RowKit Go.IntWalk
noncomputable section
set_option linter.unusedVariables false
set_option linter.unusedSimpArgs false
set_option maxRecDepth 10000

def bigM (n : Nat) : Mat := List.replicate n (List.replicate n BIG)
/-- One constraint more. -/
def putW (m : Mat) (d : Diff) : Mat := setAt m d.1.toNat d.2.1.toNat (if d.2.2 < at2 m d.1.toNat d.2.1.toNat then d.2.2 else at2 m d.1.toNat d.2.1.toNat)
def directW (n : Nat) (l : List Diff) : Mat := l.foldl putW (bigM n)

theorem bigM_sq (n : Nat) : Sq n (bigM n) := by
  refine ⟨by simp [bigM], fun i hi => ?_⟩
  simp [bigM, List.getD, hi]
theorem Sq.putW {n : Nat} {m : Mat} (h : Sq n m) (d : Diff) : Sq n (putW m d) := h.setAt _ _ _
theorem directW_sq (n : Nat) (l : List Diff) : Sq n (directW n l) := fold_inv (Sq n) _ (fun m d h => h.putW d) _ _ (bigM_sq n)

theorem set_getD_self {α : Type} {l : List α} {i : Nat} {d : α} (h : i < l.length) : l.set i (l.getD i d) = l := by
  apply List.ext_getElem
  · simp
  · intro j h1 h2
    rw [List.getElem_set]
    split
    · subst_vars; simp [List.getD, h]
    · rfl

theorem fill_row {α : Type} (v : α) (n : Nat) (r : List α) (h : r.length = n) : (List.range n).foldl (fun r j => r.set j v) r = List.replicate n v := by
  have key : ∀ (c : Nat), c ≤ n → (List.range c).foldl (fun r j => r.set j v) r = List.replicate c v ++ r.drop c := by
    intro c
    induction c with
    | zero => intro _; simp
    | succ c ih =>
      intro hc
      rw [List.range_succ, List.foldl_append, ih (by omega)]
      simp only [List.foldl_cons, List.foldl_nil]
      rw [List.set_append_right _ _ (by simp)]
      simp only [List.length_replicate, Nat.sub_self]
      rw [List.drop_eq_getElem_cons (by omega), List.set_cons_zero, List.replicate_succ', List.append_assoc]
      rfl
  rw [key n (Nat.le_refl n), List.drop_eq_nil_of_le (by omega), List.append_nil]

theorem fill_mat (v : Int) (i : Nat) : ∀ (l : List Nat) (out : Mat), i < out.length →
    l.foldl (fun m j => setAt m i j v) out = out.set i (l.foldl (fun r j => r.set j v) (out.getD i []))
  | [], out, h => by simp only [List.foldl_nil]; rw [set_getD_self h]
  | j :: l, out, h => by
    simp only [List.foldl_cons]
    rw [fill_mat v i l _ (by simpa [setAt] using h)]
    unfold setAt
    rw [getD_set_eq h, List.set_set]

section
variable {β : Type}
theorem c_make {n : Nat} {c : Nat} {a b : Option β} (hn : n ≤ 10000) (hc : c ≤ 1000) : cond (decide (0 ≤ (n : Int)) && (decide ((n : Int) = (n : Int)) && (decide (Int.toNat (n : Int) * c ≤ roomMax) && decide ((n : Int) ≤ 9223372036854775807)))) a b = a := by
  have h1 : Int.toNat (n : Int) * c ≤ roomMax := by
    rw [Int.toNat_natCast]
    exact Nat.le_trans (Nat.mul_le_mul hn hc) (by decide)
  rw [decide_eq_true (show (0 : Int) ≤ n by omega), decide_eq_true (rfl : (n : Int) = n), decide_eq_true h1, decide_eq_true (show (n : Int) ≤ 9223372036854775807 by omega)]
  rfl

theorem direct_p1 {n : Nat} (hn : n ≤ 100) (k1 : zq8a β) (l : List Diff) {i : Nat} (hi : i < n) (a b : Int) {out : Mat} (h0 : out.length = n) (h1 : (out.getD i []).length = n) :
    zq90 k1 (n : Int) l (i : Int) a b (n : Int) 0 out = k1 (n : Int) l a b (out.set i (List.replicate n BIG)) := by
  have key := fold_loopI (fun _ (m : Mat) => m.length = n ∧ (m.getD i []).length = n) (fun f j m => zq8y f k1 (n : Int) l (i : Int) a b (n : Int) j m) (fun m j => setAt m i j BIG) (fun m => k1 (n : Int) l a b m) 0 (List.range n) out fuel (lt_fuel (by simp; omega)) ⟨h0, h1⟩
    (fun j m hj hm => by
      refine ⟨by simp [setAt, hm.1], ?_⟩
      unfold setAt
      rw [getD_set_eq (by omega), List.length_set]
      exact hm.2)
    (fun f j m hj hm => by
      have hj : j < n := by simpa using hj
      have e1 : IntKind.i64.wrap ((j : Int) + 1) = j + 1 := i64_in _ (by omega)
      have l0 := hm.1
      have l1 := hm.2
      rw [range_getD hj, zq8z]
      unfold zq8m
      simp only [Int.toNat_natCast, e1]
      refine (c_pos (by omega)).trans ?_
      refine (c_inb (by omega)).trans ?_
      refine (c_inb (by omega)).trans ?_
      rfl)
    (fun f m hm => by
      rw [zq8z]
      unfold zq8m
      exact c_neg (by simp))
  unfold zq90
  refine key.trans ?_
  rw [fill_mat BIG i _ _ (by omega), fill_row BIG n _ h1]

theorem direct_p2 {n : Nat} (hn : n ≤ 100) (k1 : zq8e β) (l : List Diff) :
    zq94 k1 (n : Int) l (n : Int) 0 (List.replicate n []) = k1 l (bigM n) := by
  have key := fold_loopI (fun _ (m : Mat) => m.length = n) (fun f j m => zq92 f k1 (n : Int) l (n : Int) j m) (fun m j => m.set j (List.replicate n BIG)) (fun m => k1 l m) 0 (List.range n) (List.replicate n []) fuel (lt_fuel (by simp; omega)) (by simp)
    (fun j m hj hm => by rw [List.length_set]; exact hm)
    (fun f j m hj hm => by
      have hj : j < n := by simpa using hj
      have e1 : IntKind.i64.wrap ((j : Int) + 1) = j + 1 := i64_in _ (by omega)
      rw [range_getD hj, zq93]
      unfold zq8p
      refine (c_pos (by omega)).trans ?_
      refine (c_make (by omega) (by omega)).trans ?_
      refine (c_inb (by omega)).trans ?_
      simp only [Int.toNat_natCast]
      refine (c_inb (by rw [List.length_set]; omega)).trans ?_
      rw [getD_set_eq (show j < m.length by omega), List.length_replicate]
      refine (direct_p1 hn _ l hj _ _ (by rw [List.length_set]; exact hm) (by rw [getD_set_eq (show j < m.length by omega), List.length_replicate])).trans ?_
      simp only [e1, List.set_set])
    (fun f m hm => by
      rw [zq93]
      unfold zq8p
      exact c_neg (by simp))
  unfold zq94
  refine key.trans ?_
  rw [fill_row (List.replicate n BIG) n _ (by simp)]
  rfl

theorem direct_p3 {n : Nat} (hn : n ≤ 100) (k1 : zq8i β) {l : List Diff} (hl : l.length ≤ 4000) (ho : l.all (diffOk n) = true) {m : Mat} (hm : Sq n m) :
    zq98 k1 l (l.length : Int) 0 m = k1 (l.foldl putW m) := by
  have key := fold_loopI (fun _ (m : Mat) => Sq n m) (fun f j m => zq96 f k1 l (l.length : Int) j m) putW (fun m => k1 m) ((0 : Int), ((0 : Int), (0 : Int))) l m fuel (lt_fuel (by omega)) hm
    (fun j m hj hm => hm.putW _)
    (fun f j m hj hm => by
      have e1 : IntKind.i64.wrap ((j : Int) + 1) = j + 1 := i64_in _ (by omega)
      rw [zq97]
      unfold zq8s
      refine (c_pos (by omega)).trans ?_
      refine (c_inb (by omega)).trans ?_
      simp only [Int.toNat_natCast, e1]
      have hd : diffOk n (l.getD j ((0 : Int), ((0 : Int), (0 : Int)))) = true := by
        rw [List.all_eq_true] at ho
        refine ho _ ?_
        rw [List.getD, List.getElem?_eq_getElem hj]
        exact List.getElem_mem hj
      have hd := of_decide_eq_true hd
      have l0 := hm.len
      have l1 := hm.row (l.getD j ((0 : Int), ((0 : Int), (0 : Int)))).1.toNat (by omega)
      refine (c_inb (by omega)).trans ?_
      refine (c_inb (by omega)).trans ?_
      refine (c_inb (by omega)).trans ?_
      refine (c_inb (by omega)).trans ?_
      rfl)
    (fun f m hm => by
      rw [zq97]
      unfold zq8s
      exact c_neg (by omega))
  unfold zq98
  exact key

theorem direct_eq {n : Nat} (hn : n ≤ 100) {l : List Diff} (hl : l.length ≤ 4000) (ho : l.all (diffOk n) = true) (k : Mat → Option β) : zq9a (n : Int) l k = k (directW n l) := by
  unfold zq9a zq8v
  refine (c_make (by omega) (by omega)).trans ?_
  simp only [Int.toNat_natCast, List.length_replicate]
  refine (direct_p2 hn _ l).trans ?_
  exact direct_p3 hn _ hl ho (bigM_sq n)

/-- What Close returns. -/
def closeW (n : Nat) (l : List Diff) : Option Mat :=
  if validD n l then
    match roundsW n n 0 (diagW n (directW n l)) with
    | some m => if diagOk n m then some m else none
    | none => none
  else none

theorem Close_eq {n : Nat} (h1 : 1 ≤ n) (hn : n ≤ 41) (l : List Diff) (k : Mat → Bool → Option β) : zqp7 (n : Int) l k = (match closeW n l with | some m => k m true | none => k [] false) := by
  unfold zqp7 zqoi
  refine (Valid_eq h1 hn _).trans ?_
  unfold closeW
  by_cases hv : validD n l = true
  · rw [hv]
    have hv' := hv
    unfold validD at hv'
    rw [Bool.and_eq_true] at hv'
    simp only [Bool.not_true, cond_false, if_true]
    refine (direct_eq (by omega) (of_decide_eq_true hv'.1) hv'.2 _).trans ?_
    refine (close_p1 (by omega) _ (directW_sq n l)).trans ?_
    refine (close_p5 (by omega) _ _ (directW_sq n l).diagW).trans ?_
    cases hr : roundsW n n 0 (diagW n (directW n l)) with
    | none => rfl
    | some m =>
      simp only []
      refine (close_p6 (by omega) _ _ (roundsW_sq n 0 _ _ (directW_sq n l).diagW hr)).trans ?_
      cases diagOk n m <;> rfl
  · rw [Bool.eq_false_iff.2 hv]
    rfl
end
end
end Go.Lift

/- The theory of the closure. -/
namespace Go.Lift
open Go.RowKit Go.IntWalk
noncomputable section
set_option linter.unusedVariables false
set_option linter.unusedSimpArgs false
set_option maxRecDepth 10000

theorem wrap_in {x : Int} (h : -9223372036854775808 ≤ x ∧ x ≤ 9223372036854775807) : IntKind.i64.wrap x = x := i64_in _ h

theorem range_fold {σ : Type} (g : σ → Nat → σ) (s : σ) (c : Nat) : (List.range (c + 1)).foldl g s = g ((List.range c).foldl g s) c := by
  rw [List.range_succ, List.foldl_append]; rfl

/-- What a round needs. -/
structure RH (n k : Nat) (m : Mat) : Prop where
  sq : Sq n m
  zero : at2 m k k = 0
  row : ∀ j, j < n → -1125899906842624 ≤ at2 m k j ∧ at2 m k j < 1099511627776
  col : ∀ i, i < n → -1125899906842624 ≤ at2 m i k ∧ at2 m i k < 1099511627776

theorem relax_at {n k i j : Nat} {m : Mat} (hm : Sq n m) (hi : i < n) (hj : j < n) (h1 : -1125899906842624 ≤ at2 m i k ∧ at2 m i k < 1099511627776) (h2 : -1125899906842624 ≤ at2 m k j ∧ at2 m k j < 1099511627776) (a b : Nat) :
    at2 (relaxW k i j m) a b = if a = i ∧ b = j then min (at2 m i j) (at2 m i k + at2 m k j) else at2 m a b := by
  have hB : BIG = 1099511627776 := rfl
  unfold relaxW
  rw [if_neg (by omega), at_setAt hm hi hj, wrap_in (by omega)]
  split
  · split <;> omega
  · rfl

theorem row_at {n k i : Nat} {m : Mat} (h : RH n k m) (hk : k < n) (hi : i < n) : ∀ (c : Nat), c ≤ n → Sq n ((List.range c).foldl (fun m j => relaxW k i j m) m) ∧ ∀ a b, a < n → b < n →
    at2 ((List.range c).foldl (fun m j => relaxW k i j m) m) a b = if a = i ∧ b < c then min (at2 m a b) (at2 m a k + at2 m k b) else at2 m a b := by
  intro c
  induction c with
  | zero =>
    intro _
    refine ⟨h.sq, fun a b _ _ => ?_⟩
    rw [if_neg (by omega)]
    rfl
  | succ c ih =>
    intro hc
    obtain ⟨s1, s2⟩ := ih (by omega)
    rw [range_fold]
    refine ⟨s1.relaxW _ _ _, fun a b ha hb => ?_⟩
    have z := h.zero
    have r := h.row c (by omega)
    have cc := h.col i hi
    have ck := h.col k hk
    have q1 : at2 ((List.range c).foldl (fun m j => relaxW k i j m) m) i k = at2 m i k := by
      rw [s2 i k hi hk]; split <;> omega
    have q2 : at2 ((List.range c).foldl (fun m j => relaxW k i j m) m) k c = at2 m k c := by
      rw [s2 k c hk (by omega), if_neg (by omega)]
    rw [relax_at s1 hi (by omega) (by rw [q1]; exact cc) (by rw [q2]; exact r), q1, q2, s2 i c hi (by omega), s2 a b ha hb]
    rw [if_neg (show ¬ (i = i ∧ c < c) by omega)]
    by_cases e1 : a = i
    · subst e1
      by_cases e2 : b = c
      · subst e2
        rw [if_pos ⟨rfl, rfl⟩, if_pos (by omega)]
      · rw [if_neg (fun h => e2 h.2)]
        by_cases e3 : b < c
        · rw [if_pos (by omega), if_pos (by omega)]
        · rw [if_neg (by omega), if_neg (by omega)]
    · rw [if_neg (fun h => e1 h.1), if_neg (fun h => e1 h.1), if_neg (fun h => e1 h.1)]

theorem rowW_at {n k i : Nat} {m : Mat} (h : RH n k m) (hk : k < n) (hi : i < n) (a b : Nat) (ha : a < n) (hb : b < n) :
    at2 (rowW n k i m) a b = if a = i then min (at2 m a b) (at2 m a k + at2 m k b) else at2 m a b := by
  refine ((row_at h hk hi n (Nat.le_refl n)).2 a b ha hb).trans ?_
  by_cases e : a = i
  · rw [if_pos ⟨e, hb⟩, if_pos e]
  · rw [if_neg (fun h => e h.1), if_neg e]

theorem rounds_at {n k : Nat} {m : Mat} (h : RH n k m) (hk : k < n) : ∀ (c : Nat), c ≤ n → RH n k ((List.range c).foldl (fun m i => rowW n k i m) m) ∧ ∀ a b, a < n → b < n →
    at2 ((List.range c).foldl (fun m i => rowW n k i m) m) a b = if a < c then min (at2 m a b) (at2 m a k + at2 m k b) else at2 m a b := by
  intro c
  induction c with
  | zero =>
    intro _
    refine ⟨h, fun a b _ _ => ?_⟩
    rw [if_neg (by omega)]
    rfl
  | succ c ih =>
    intro hc
    obtain ⟨s1, s2⟩ := ih (by omega)
    rw [range_fold]
    have hh : ∀ a b, a < n → b < n → at2 (rowW n k c ((List.range c).foldl (fun m i => rowW n k i m) m)) a b = if a < c + 1 then min (at2 m a b) (at2 m a k + at2 m k b) else at2 m a b := by
      intro a b ha hb
      rw [rowW_at s1 hk (by omega) a b ha hb]
      have z := h.zero
      have e1 : at2 ((List.range c).foldl (fun m i => rowW n k i m) m) k b = at2 m k b := by rw [s2 k b hk hb]; split <;> omega
      have e2 : at2 ((List.range c).foldl (fun m i => rowW n k i m) m) a k = at2 m a k := by rw [s2 a k ha hk]; split <;> omega
      rw [e1, e2, s2 a b ha hb]
      split <;> split <;> split <;> omega
    refine ⟨⟨s1.sq.rowW _ _, ?_, ?_, ?_⟩, hh⟩
    · rw [hh k k hk hk]
      have z := h.zero
      split <;> omega
    · intro j hj
      rw [hh k j hk hj]
      have z := h.zero
      have := h.row j hj
      split <;> omega
    · intro i hi
      rw [hh i k hi hk]
      have z := h.zero
      have := h.col i hi
      split <;> omega

theorem roundW_at {n k : Nat} {m : Mat} (h : RH n k m) (hk : k < n) (a b : Nat) (ha : a < n) (hb : b < n) :
    at2 (roundW n k m) a b = min (at2 m a b) (at2 m a k + at2 m k b) := by
  refine ((rounds_at h hk n (Nat.le_refl n)).2 a b ha hb).trans ?_
  rw [if_pos ha]

/- Entries never grow, whatever they are. -/
def Le (n : Nat) (m' m : Mat) : Prop := ∀ a b, a < n → b < n → at2 m' a b ≤ at2 m a b
theorem Le.refl {n : Nat} (m : Mat) : Le n m m := fun _ _ _ _ => Int.le_refl _
theorem Le.trans {n : Nat} {a b c : Mat} (h : Le n a b) (g : Le n b c) : Le n a c := fun i j hi hj => Int.le_trans (h i j hi hj) (g i j hi hj)

theorem relax_le {n k i j : Nat} {m : Mat} (hm : Sq n m) (hi : i < n) (hj : j < n) : Le n (relaxW k i j m) m := by
  intro a b ha hb
  unfold relaxW
  split
  · exact Int.le_refl _
  · rw [at_setAt hm hi hj]
    split
    · rename_i e
      rw [e.1, e.2]
      split <;> omega
    · exact Int.le_refl _

theorem fold_le {n : Nat} (g : Mat → Nat → Mat) (h1 : ∀ m j, Sq n m → Sq n (g m j)) (h2 : ∀ m j, Sq n m → j < n → Le n (g m j) m) : ∀ (l : List Nat) (m : Mat), Sq n m → (∀ x ∈ l, x < n) → Le n (l.foldl g m) m
  | [], m, _, _ => Le.refl m
  | x :: l, m, hm, hl => (fold_le g h1 h2 l (g m x) (h1 m x hm) (fun y hy => hl y (List.mem_cons_of_mem _ hy))).trans (h2 m x hm (hl x (List.mem_cons_self ..)))

theorem row_le {n k i : Nat} {m : Mat} (hm : Sq n m) (hi : i < n) : Le n (rowW n k i m) m :=
  fold_le _ (fun m j h => h.relaxW k i j) (fun m j h hj => relax_le h hi hj) _ m hm (fun x hx => by simpa using hx)
theorem round_le {n k : Nat} {m : Mat} (hm : Sq n m) : Le n (roundW n k m) m :=
  fold_le _ (fun m j h => h.rowW k j) (fun m j h hj => row_le h hj) _ m hm (fun x hx => by simpa using hx)
theorem rounds_le {n : Nat} : ∀ (c k : Nat) (m m' : Mat), Sq n m → roundsW n c k m = some m' → Le n m' m
  | 0, k, m, m', h, e => by cases e; exact Le.refl m
  | c + 1, k, m, m', h, e => by
    unfold roundsW at e
    split at e
    · cases e
    · exact (rounds_le c (k + 1) _ m' (h.roundW k) e).trans (round_le h)
end
end Go.Lift

/- The theory of the closure, 2: the rounds. -/
namespace Go.Lift
open Go.RowKit Go.IntWalk
noncomputable section
set_option linter.unusedVariables false
set_option linter.unusedSimpArgs false
set_option maxRecDepth 10000

/-- The matrix at the beginning. -/
structure Inv0 (n : Nat) (m : Mat) : Prop where
  sq : Sq n m
  lo : ∀ i j, i < n → j < n → -17179869184 ≤ at2 m i j
  row : ∀ j, j < n → at2 m 0 j ≤ 17179869184
  neg : ∀ i, i < n → at2 m i 0 ≤ 0
  diag : ∀ i, i < n → at2 m i i ≤ 0

/-- The matrix behind k rounds. -/
structure Inv (n k : Nat) (W m : Mat) : Prop where
  sq : Sq n m
  hi : ∀ i j, i < n → j < n → at2 m i j ≤ 34359738368
  diag : ∀ i, i < n → at2 m i i ≤ 0
  le : Le n m W
  tri : ∀ a, a < k → a < n → ∀ i j, i < n → j < n → at2 m i j ≤ at2 m i a + at2 m a j
  dl : ∀ i j, i < n → j < n → at2 m i j = at2 W i j ∨ ∃ b, b < k ∧ b < n ∧ at2 m i b + at2 W b j ≤ at2 m i j
  dr : ∀ i j, i < n → j < n → at2 m i j = at2 W i j ∨ ∃ b, b < k ∧ b < n ∧ at2 W i b + at2 m b j ≤ at2 m i j

/-- Numbers whose differences are within a matrix. -/
def SolM (n : Nat) (m : Mat) (x : Nat → Int) : Prop := ∀ i j, i < n → j < n → x j - x i ≤ at2 m i j

theorem Inv0.rh {n : Nat} {m : Mat} (h : Inv0 n m) (hn : 0 < n) (z : at2 m 0 0 = 0) : RH n 0 m :=
  ⟨h.sq, z, fun j hj => by have := h.lo 0 j hn hj; have := h.row j hj; omega, fun i hi => by have := h.lo i 0 hi hn; have := h.neg i hi; omega⟩

theorem Inv0.step {n : Nat} {m : Mat} (h : Inv0 n m) (hn : 0 < n) (z : at2 m 0 0 = 0) : Inv n 1 m (roundW n 0 m) := by
  have e := roundW_at (h.rh hn z) hn
  refine ⟨h.sq.roundW _, fun i j hi hj => ?_, fun i hi => ?_, fun i j hi hj => ?_, fun a ha ha' i j hi hj => ?_, fun i j hi hj => ?_, fun i j hi hj => ?_⟩
  · rw [e i j hi hj]
    have := h.neg i hi; have := h.row j hj
    omega
  · rw [e i i hi hi]
    have := h.diag i hi
    omega
  · rw [e i j hi hj]
    omega
  · obtain rfl : a = 0 := by omega
    rw [e i j hi hj, e i 0 hi hn, e 0 j hn hj]
    omega
  · by_cases hc : at2 m i j ≤ at2 m i 0 + at2 m 0 j
    · left; rw [e i j hi hj]; omega
    · right
      refine ⟨0, by omega, hn, ?_⟩
      rw [e i j hi hj, e i 0 hi hn]
      omega
  · by_cases hc : at2 m i j ≤ at2 m i 0 + at2 m 0 j
    · left; rw [e i j hi hj]; omega
    · right
      refine ⟨0, by omega, hn, ?_⟩
      rw [e i j hi hj, e 0 j hn hj]
      omega

/-- No entry is far below 0, if the diagonal is not. -/
theorem Inv.lo {n k : Nat} {W m : Mat} (h : Inv n k W m) (hk : 1 ≤ k) (w : Inv0 n W) (hn : 0 < n) (z : ∀ i, i < n → 0 ≤ at2 m i i) {i j : Nat} (hi : i < n) (hj : j < n) : -51539607552 ≤ at2 m i j := by
  have row0 : ∀ j, j < n → 0 ≤ at2 m 0 j ∧ at2 m 0 j ≤ 17179869184 := fun j hj => by
    have h1 := h.tri 0 (by omega) hn j j hj hj
    have := z j hj
    have := h.le j 0 hj hn
    have := w.neg j hj
    have := h.le 0 j hn hj
    have := w.row j hj
    omega
  have done : ∀ c b, c < k → c < n → b < n → -17179869184 ≤ at2 m c b := fun c b hc hcn hb => by
    have h1 := h.tri c hc hcn 0 b hn hb
    have := row0 b hb
    have := row0 c hcn
    omega
  have half : ∀ i b, i < n → b < n → -34359738368 ≤ at2 m i b := fun i b hi hb => by
    rcases h.dr i b hi hb with h1 | ⟨c, hc, hcn, h1⟩
    · have := w.lo i b hi hb
      omega
    · have := w.lo i c hi hcn
      have := done c b hc hcn hb
      omega
  have := half i j hi hj
  omega

theorem Inv.rh {n k : Nat} {W m : Mat} (h : Inv n k W m) (hk1 : 1 ≤ k) (hk : k < n) (w : Inv0 n W) (z : ∀ i, i < n → 0 ≤ at2 m i i) : RH n k m :=
  ⟨h.sq, by have := z k hk; have := h.diag k hk; omega,
    fun j hj => by have := h.lo hk1 w (by omega) z hk hj; have := h.hi k j hk hj; omega, fun i hi => by have := h.lo hk1 w (by omega) z hi hk; have := h.hi i k hi hk; omega⟩

theorem Inv.step {n k : Nat} {W m : Mat} (h : Inv n k W m) (hk : k < n) (r : RH n k m) : Inv n (k + 1) W (roundW n k m) := by
  have e := roundW_at r hk
  have z := r.zero
  refine ⟨h.sq.roundW _, fun i j hi hj => ?_, fun i hi => ?_, fun i j hi hj => ?_, fun a ha ha' i j hi hj => ?_, fun i j hi hj => ?_, fun i j hi hj => ?_⟩
  · rw [e i j hi hj]
    have := h.hi i j hi hj
    omega
  · rw [e i i hi hi]
    have := h.diag i hi
    omega
  · rw [e i j hi hj]
    have := h.le i j hi hj
    omega
  · rw [e i j hi hj, e i a hi ha', e a j ha' hj]
    by_cases q : a = k
    · subst q
      omega
    · have t := h.tri a (by omega) ha'
      have t1 := t i j hi hj
      have t2 := t k j hk hj
      have t3 := t i k hi hk
      have t4 := t k k hk hk
      omega
  · by_cases hc : at2 m i j ≤ at2 m i k + at2 m k j
    · rcases h.dl i j hi hj with h1 | ⟨b, hb, hbn, h1⟩
      · left; rw [e i j hi hj]; omega
      · right
        refine ⟨b, by omega, hbn, ?_⟩
        rw [e i j hi hj, e i b hi hbn]
        omega
    · right
      rcases h.dl k j hk hj with h1 | ⟨b, hb, hbn, h1⟩
      · refine ⟨k, by omega, hk, ?_⟩
        rw [e i j hi hj, e i k hi hk]
        omega
      · refine ⟨b, by omega, hbn, ?_⟩
        rw [e i j hi hj, e i b hi hbn]
        omega
  · by_cases hc : at2 m i j ≤ at2 m i k + at2 m k j
    · rcases h.dr i j hi hj with h1 | ⟨b, hb, hbn, h1⟩
      · left; rw [e i j hi hj]; omega
      · right
        refine ⟨b, by omega, hbn, ?_⟩
        rw [e i j hi hj, e b j hbn hj]
        omega
    · right
      rcases h.dr i k hi hk with h1 | ⟨b, hb, hbn, h1⟩
      · refine ⟨k, by omega, hk, ?_⟩
        rw [e i j hi hj, e k j hk hj]
        omega
      · refine ⟨b, by omega, hbn, ?_⟩
        rw [e i j hi hj, e b j hbn hj]
        omega

theorem SolM.step {n k : Nat} {m : Mat} {x : Nat → Int} (s : SolM n m x) (h : RH n k m) (hk : k < n) : SolM n (roundW n k m) x := by
  intro i j hi hj
  rw [roundW_at h hk i j hi hj]
  have := s i j hi hj; have := s i k hi hk; have := s k j hk hj
  omega

theorem rounds_final {n : Nat} {W : Mat} (w : Inv0 n W) : ∀ (c k : Nat) (m m' : Mat), k + c = n → 1 ≤ k → Inv n k W m → roundsW n c k m = some m' → (∀ i, i < n → 0 ≤ at2 m' i i) → Inv n n W m' ∧ ∀ x, SolM n m x → SolM n m' x
  | 0, k, m, m', h, _, hi, e, _ => by
    cases e
    obtain rfl : k = n := by omega
    exact ⟨hi, fun x s => s⟩
  | c + 1, k, m, m', h, h1, hi, e, z => by
    have hk : k < n := by omega
    have zz : ∀ i, i < n → 0 ≤ at2 m i i := fun i hi' => by
      have := rounds_le (c + 1) k m m' hi.sq e i i hi' hi'
      have := z i hi'
      omega
    have r := hi.rh h1 hk w zz
    unfold roundsW at e
    split at e
    · cases e
    · have := rounds_final w c (k + 1) _ m' (by omega) (by omega) (hi.step hk r) e z
      exact ⟨this.1, fun x s => this.2 x (s.step r hk)⟩

theorem SolM.diag {n : Nat} {m : Mat} {x : Nat → Int} (s : SolM n m x) {i : Nat} (hi : i < n) : 0 ≤ at2 m i i := by
  have := s i i hi hi
  omega

theorem rounds_exist {n : Nat} {W : Mat} (w : Inv0 n W) {x : Nat → Int} : ∀ (c k : Nat) (m : Mat), k + c = n → 1 ≤ k → Inv n k W m → SolM n m x → ∃ m', roundsW n c k m = some m' ∧ SolM n m' x
  | 0, k, m, h, _, hi, s => ⟨m, rfl, s⟩
  | c + 1, k, m, h, h1, hi, s => by
    have hk : k < n := by omega
    have r := hi.rh h1 hk w (fun i hi => s.diag hi)
    have s' := s.step r hk
    unfold roundsW
    rw [if_neg (by have := s'.diag hk; omega)]
    exact rounds_exist w c (k + 1) _ (by omega) (by omega) (hi.step hk r) s'

/-- All that is known of a closed matrix. -/
structure ClosedM (n : Nat) (W m : Mat) : Prop where
  inv : Inv n n W m
  start : Inv0 n W
  zero : ∀ i, i < n → at2 m i i = 0
  le : Le n m W
  sol : ∀ x, SolM n W x → SolM n m x

theorem closed_final {n : Nat} (h1 : 1 ≤ n) {W m : Mat} (h : Inv0 n W) (e : roundsW n n 0 W = some m) (z : ∀ i, i < n → 0 ≤ at2 m i i) : ClosedM n W m := by
  have le := rounds_le n 0 W m h.sq e
  have zz : at2 W 0 0 = 0 := by
    have := le 0 0 h1 h1
    have := z 0 h1
    have := h.diag 0 h1
    omega
  obtain ⟨c, rfl⟩ : ∃ c, n = c + 1 := ⟨n - 1, by omega⟩
  unfold roundsW at e
  split at e
  · cases e
  · have := rounds_final h c 1 _ m (by omega) (by omega) (h.step h1 zz) e z
    refine ⟨this.1, h, fun i hi => ?_, le, fun x s => this.2 x (s.step (h.rh h1 zz) h1)⟩
    have := this.1.diag i hi
    have := z i hi
    omega

theorem closed_exist {n : Nat} (h1 : 1 ≤ n) {W : Mat} (h : Inv0 n W) {x : Nat → Int} (s : SolM n W x) : ∃ m, roundsW n n 0 W = some m ∧ ClosedM n W m := by
  have zz : at2 W 0 0 = 0 := by
    have := s.diag h1
    have := h.diag 0 h1
    omega
  have s' := s.step (h.rh h1 zz) h1
  obtain ⟨c, rfl⟩ : ∃ c, n = c + 1 := ⟨n - 1, by omega⟩
  obtain ⟨m', e, s''⟩ := rounds_exist h c 1 _ (by omega) (by omega) (h.step h1 zz) s'
  have e' : roundsW (c + 1) (c + 1) 0 W = some m' := by
    unfold roundsW
    rw [if_neg (by have := s'.diag h1; omega)]
    exact e
  exact ⟨m', e', closed_final h1 h e' (fun i hi => s''.diag hi)⟩

theorem ClosedM.tri {n : Nat} {W m : Mat} (h : ClosedM n W m) {i a j : Nat} (hi : i < n) (ha : a < n) (hj : j < n) : at2 m i j ≤ at2 m i a + at2 m a j := h.inv.tri a ha ha i j hi hj
theorem ClosedM.lo {n : Nat} {W m : Mat} (h : ClosedM n W m) (h1 : 1 ≤ n) {i j : Nat} (hi : i < n) (hj : j < n) : -51539607552 ≤ at2 m i j :=
  h.inv.lo h1 h.start h1 (fun i hi => by have := h.zero i hi; omega) hi hj

/-- Each row is a solution. -/
theorem ClosedM.row {n : Nat} {W m : Mat} (h : ClosedM n W m) {r : Nat} (hr : r < n) : SolM n W (fun j => at2 m r j) := by
  intro i j hi hj
  have := h.tri hr hi hj
  have := h.le i j hi hj
  show at2 m r j - at2 m r i ≤ at2 W i j
  omega
end
end Go.Lift

/- The theory of the closure, 3: constraints. -/
namespace Go.Lift
open Go.RowKit Go.IntWalk
noncomputable section
set_option linter.unusedVariables false
set_option linter.unusedSimpArgs false
set_option maxRecDepth 10000

/-- Numbers that fulfil all constraints. -/
def Sol (l : List Diff) (x : Nat → Int) : Prop := ∀ d ∈ l, x d.2.1.toNat - x d.1.toNat ≤ d.2.2

theorem put_at {n : Nat} {m : Mat} (h : Sq n m) {d : Diff} (hd : diffOk n d = true) (a b : Nat) :
    at2 (putW m d) a b = if a = d.1.toNat ∧ b = d.2.1.toNat then min (at2 m a b) d.2.2 else at2 m a b := by
  have hd := of_decide_eq_true hd
  unfold putW
  rw [at_setAt h (by omega) (by omega)]
  split
  · rename_i e
    rw [e.1, e.2]
    split <;> omega
  · rfl

theorem big_at {n : Nat} {i j : Nat} (hi : i < n) (hj : j < n) : at2 (bigM n) i j = 1099511627776 := by
  unfold at2 bigM
  simp [List.getD, hi, hj]

/-- The direct bounds: what is under all of them. -/
theorem direct_glb {n : Nat} : ∀ (l : List Diff), l.all (diffOk n) = true → ∀ (m : Mat), Sq n m → ∀ i j (v : Int), v ≤ at2 (l.foldl putW m) i j ↔ v ≤ at2 m i j ∧ ∀ d ∈ l, d.1.toNat = i → d.2.1.toNat = j → v ≤ d.2.2
  | [], _, m, hm, i, j, v => by simp
  | d :: l, ho, m, hm, i, j, v => by
    rw [List.all_cons, Bool.and_eq_true] at ho
    simp only [List.foldl_cons]
    rw [direct_glb l ho.2 _ (hm.putW d) i j v, put_at hm ho.1]
    simp only [List.mem_cons, forall_eq_or_imp]
    by_cases e : i = d.1.toNat ∧ j = d.2.1.toNat
    · rw [if_pos e]
      constructor
      · intro h
        refine ⟨by omega, fun _ _ => by omega, h.2⟩
      · intro h
        have := h.2.1 e.1.symm e.2.symm
        exact ⟨by omega, h.2.2⟩
    · rw [if_neg e]
      constructor
      · intro h
        exact ⟨h.1, fun a b => absurd ⟨a.symm, b.symm⟩ e, h.2⟩
      · intro h
        exact ⟨h.1, h.2.2⟩

theorem diag_at {n : Nat} {m : Mat} (hm : Sq n m) {i j : Nat} (hi : i < n) (hj : j < n) : at2 (diagW n m) i j = if i = j then min (at2 m i j) 0 else at2 m i j := by
  have key : ∀ c, c ≤ n → Sq n ((List.range c).foldl (fun m i => setAt m i i (if 0 < at2 m i i then 0 else at2 m i i)) m) ∧ ∀ a b, a < n → b < n →
      at2 ((List.range c).foldl (fun m i => setAt m i i (if 0 < at2 m i i then 0 else at2 m i i)) m) a b = if a = b ∧ a < c then min (at2 m a b) 0 else at2 m a b := by
    intro c
    induction c with
    | zero =>
      intro _
      refine ⟨hm, fun a b _ _ => ?_⟩
      rw [if_neg (by omega)]
      rfl
    | succ c ih =>
      intro hc
      obtain ⟨s1, s2⟩ := ih (by omega)
      rw [range_fold]
      refine ⟨s1.setAt _ _ _, fun a b ha hb => ?_⟩
      rw [at_setAt s1 (by omega) (by omega), s2 c c (by omega) (by omega), s2 a b ha hb, if_neg (show ¬ (c = c ∧ c < c) by omega)]
      by_cases e : a = c ∧ b = c
      · rw [if_pos e, if_pos (show a = b ∧ a < c + 1 by omega), e.1, e.2]
        split <;> omega
      · rw [if_neg e]
        by_cases e2 : a = b ∧ a < c
        · rw [if_pos e2, if_pos (show a = b ∧ a < c + 1 by omega)]
        · rw [if_neg e2, if_neg (show ¬ (a = b ∧ a < c + 1) by omega)]
  refine ((key n (Nat.le_refl n)).2 i j hi hj).trans ?_
  by_cases e : i = j
  · rw [if_pos ⟨e, hi⟩, if_pos e]
  · rw [if_neg (fun h => e h.1), if_neg e]

/-- The matrix at the beginning. -/
def startW (n : Nat) (l : List Diff) : Mat := diagW n (directW n l)

theorem start_glb {n : Nat} {l : List Diff} (ho : l.all (diffOk n) = true) {i j : Nat} (hi : i < n) (hj : j < n) (v : Int) :
    v ≤ at2 (startW n l) i j ↔ v ≤ 1099511627776 ∧ (∀ d ∈ l, d.1.toNat = i → d.2.1.toNat = j → v ≤ d.2.2) ∧ (i = j → v ≤ 0) := by
  unfold startW
  rw [diag_at (directW_sq n l) hi hj]
  have g := direct_glb l ho (bigM n) (bigM_sq n) i j v
  rw [big_at hi hj] at g
  by_cases e : i = j
  · rw [if_pos e]
    constructor
    · intro h
      have := g.1 (by unfold directW at h; omega)
      exact ⟨this.1, this.2, fun _ => by omega⟩
    · intro h
      have := g.2 ⟨h.1, h.2.1⟩
      have := h.2.2 e
      unfold directW
      omega
  · rw [if_neg e]
    constructor
    · intro h
      have := g.1 h
      exact ⟨this.1, this.2, fun h => absurd h e⟩
    · intro h
      exact g.2 ⟨h.1, h.2.1⟩

theorem start_le {n : Nat} {l : List Diff} (ho : l.all (diffOk n) = true) {d : Diff} (hd : d ∈ l) : at2 (startW n l) d.1.toNat d.2.1.toNat ≤ d.2.2 := by
  have h := of_decide_eq_true (List.all_eq_true.1 ho d hd)
  exact ((start_glb ho (by omega) (by omega) _).1 (Int.le_refl _)).2.1 d hd rfl rfl

/-- Every variable has both bounds against the variable 0. -/
structure Conn (n : Nat) (l : List Diff) : Prop where
  pos : 1 ≤ n
  small : n ≤ 41
  valid : validD n l = true
  up : ∀ i, 1 ≤ i → i < n → ∃ d ∈ l, d.1.toNat = 0 ∧ d.2.1.toNat = i
  down : ∀ i, 1 ≤ i → i < n → ∃ d ∈ l, d.1.toNat = i ∧ d.2.1.toNat = 0 ∧ d.2.2 ≤ 0

theorem Conn.all {n : Nat} {l : List Diff} (h : Conn n l) : l.all (diffOk n) = true := by
  have := h.valid
  unfold validD at this
  rw [Bool.and_eq_true] at this
  exact this.2

theorem Conn.inv {n : Nat} {l : List Diff} (h : Conn n l) : Inv0 n (startW n l) := by
  have ho := h.all
  refine ⟨(directW_sq n l).diagW, fun i j hi hj => ?_, fun j hj => ?_, fun i hi => ?_, fun i hi => ?_⟩
  · rw [start_glb ho hi hj]
    refine ⟨by omega, fun d hd _ _ => ?_, by omega⟩
    have := of_decide_eq_true (List.all_eq_true.1 ho d hd)
    omega
  · by_cases e : j = 0
    · subst e
      have := ((start_glb ho h.pos h.pos _).1 (Int.le_refl _)).2.2 rfl
      omega
    · obtain ⟨d, hd, e1, e2⟩ := h.up j (by omega) hj
      have := start_le ho hd
      have := of_decide_eq_true (List.all_eq_true.1 ho d hd)
      rw [e1, e2] at *
      omega
  · by_cases e : i = 0
    · subst e
      have := ((start_glb ho h.pos h.pos _).1 (Int.le_refl _)).2.2 rfl
      omega
    · obtain ⟨d, hd, e1, e2, e3⟩ := h.down i (by omega) hi
      have h1 := start_le ho hd
      rw [e1, e2] at h1
      omega
  · exact ((start_glb ho hi hi _).1 (Int.le_refl _)).2.2 rfl

/-- Solutions of the constraints, as far as numbers below BIG go. -/
theorem sol_iff {n : Nat} {l : List Diff} (ho : l.all (diffOk n) = true) (x : Nat → Int) (hx : ∀ i j, i < n → j < n → x j - x i ≤ 1099511627776) : SolM n (startW n l) x ↔ Sol l x := by
  constructor
  · intro h d hd
    have hh := of_decide_eq_true (List.all_eq_true.1 ho d hd)
    have := h d.1.toNat d.2.1.toNat (by omega) (by omega)
    have := start_le ho hd
    omega
  · intro h i j hi hj
    rw [start_glb ho hi hj]
    refine ⟨hx i j hi hj, fun d hd e1 e2 => ?_, fun e => by subst e; omega⟩
    have := h d hd
    rw [e1, e2] at this
    exact this

/-- All that is known of what Close returns. -/
structure CloseOk (n : Nat) (l : List Diff) (m : Mat) : Prop where
  sq : Sq n m
  lo : ∀ i j, i < n → j < n → -4398046511104 ≤ at2 m i j
  hi : ∀ i j, i < n → j < n → at2 m i j ≤ 34359738368
  zero : ∀ i, i < n → at2 m i i = 0
  tri : ∀ i a j, i < n → a < n → j < n → at2 m i j ≤ at2 m i a + at2 m a j
  /-- no solution goes beyond -/
  sol : ∀ x, Sol l x → ∀ i j, i < n → j < n → x j - x i ≤ at2 m i j
  /-- each row is a solution -/
  row : ∀ r, r < n → Sol l (fun j => at2 m r j)

/-- A solution is bounded. -/
theorem Conn.bounded {n : Nat} {l : List Diff} (h : Conn n l) {x : Nat → Int} (s : Sol l x) : ∀ i j, i < n → j < n → x j - x i ≤ 1099511627776 := by
  have ho := h.all
  intro i j hi hj
  have a : x j - x 0 ≤ 17179869184 := by
    by_cases e : j = 0
    · subst e; omega
    · obtain ⟨d, hd, e1, e2⟩ := h.up j (by omega) hj
      have := s d hd
      have := of_decide_eq_true (List.all_eq_true.1 ho d hd)
      rw [e1, e2] at *
      omega
  have b : x 0 - x i ≤ 17179869184 := by
    by_cases e : i = 0
    · subst e; omega
    · obtain ⟨d, hd, e1, e2, e3⟩ := h.down i (by omega) hi
      have := s d hd
      rw [e1, e2] at this
      omega
  omega

theorem ClosedM.ok {n : Nat} {l : List Diff} (h : Conn n l) {m : Mat} (c : ClosedM n (startW n l) m) : CloseOk n l m := by
  have ho := h.all
  have hs := h.small
  refine ⟨c.inv.sq, fun i j hi hj => ?_, c.inv.hi, c.zero, fun i a j hi ha hj => c.tri hi ha hj, fun x s i j hi hj => ?_, fun r hr => ?_⟩
  · have := c.lo h.pos hi hj
    omega
  · exact c.sol x ((sol_iff ho x (h.bounded s)).2 s) i j hi hj
  · intro d hd
    have hh := of_decide_eq_true (List.all_eq_true.1 ho d hd)
    have := c.row hr d.1.toNat d.2.1.toNat (by omega) (by omega)
    have := start_le ho hd
    omega

theorem diagOk_iff {n : Nat} {m : Mat} : diagOk n m = true ↔ ∀ i, i < n → 0 ≤ at2 m i i := by
  unfold diagOk
  rw [List.all_eq_true]
  constructor
  · intro h i hi
    have := of_decide_eq_true (h i (by simpa using hi))
    omega
  · intro h i hi
    have := h i (by simpa using hi)
    exact decide_eq_true (by omega)

/-- If Close returns a matrix, all is known of it. -/
theorem close_ok {n : Nat} {l : List Diff} (h : Conn n l) {m : Mat} (e : closeW n l = some m) : CloseOk n l m := by
  unfold closeW at e
  rw [if_pos h.valid] at e
  cases hr : roundsW n n 0 (diagW n (directW n l)) with
  | none => rw [hr] at e; cases e
  | some m' =>
    rw [hr] at e
    simp only [] at e
    by_cases hd : diagOk n m' = true
    · rw [if_pos hd] at e
      cases e
      exact (closed_final h.pos h.inv hr (diagOk_iff.1 hd)).ok h
    · rw [if_neg hd] at e; cases e

/-- If there is a solution, Close returns a matrix. -/
theorem close_some {n : Nat} {l : List Diff} (h : Conn n l) {x : Nat → Int} (s : Sol l x) : ∃ m, closeW n l = some m ∧ CloseOk n l m := by
  obtain ⟨m, hr, c⟩ := closed_exist h.pos h.inv ((sol_iff h.all x (h.bounded s)).2 s)
  refine ⟨m, ?_, c.ok h⟩
  unfold closeW
  rw [if_pos h.valid]
  have hr' : roundsW n n 0 (diagW n (directW n l)) = some m := hr
  rw [hr']
  simp only []
  rw [if_pos (diagOk_iff.2 (fun i hi => by have := c.zero i hi; omega))]
end
end Go.Lift

