/- Part9: Fn1, LBase, LMat, LClock, LDice, LDice1, LRecord, LWhen, LClose, LValid, LDirect, LClosure. -/
import Derived.Test.YtphncllfolehcaaGreatDoorProg
import Derived.Test.YtphncllfolehcaaGreatDoorPart8
namespace Go.Lift
open Go.Proofs
noncomputable section
set_option maxRecDepth 100000
set_option linter.unusedVariables false

/-- pagewatch/order.pair -/
abbrev zqjn := {β : Type} → zq2 → Int → Int → ((List (Int × (Int × Int))) → Option β) → Option β
def zqjo (c : zqjn) : Spec :=
  ⟨[(true, [.data zq3]), (false, [.data (.int .i64)]), (false, [.data (.int .i64)])], [], [(false, [.rowh 0])], [.row 122 (.prod (.int .i64) (.prod (.int .i64) (.int .i64)))], fun x k => c x.1.1.1 x.1.2.1.1 x.1.2.2.1.1 (fun r0 => k (((), ()), (r0, ())))⟩
noncomputable def order_pair_p1_code : Code := codeAt 15 (bodyOf Tryz.f82)
abbrev zqjp (β : Type) := (List (Int × (Int × Int))) → Option β
abbrev zqjq := {β : Type} → zqjp β → Int → Int → (List (List UInt8 × Int)) → (List (Int × (Int × (Int × Int)))) → (List zq0) → (List (Int × (Int × Int))) → Int → Int → (List UInt8) → Int → Int → (List UInt8) → Option β
def zqjr : View := ⟨0, [1, 2, 3, 7, 8], [(false, [.data (.int .i64)]), (false, [.data (.int .i64)]), (false, [.ptr 0 0]), (false, [.ptr 1 0]), (false, [.ptr 2 0])], [.cells 32 [.data (.slice (.prod .str (.int .i64))), .data (.slice (.prod (.int .i64) (.prod (.int .i64) (.prod (.int .i64) (.int .i64))))), .data (.slice zq1), .data (.slice (.prod (.int .i64) (.prod (.int .i64) (.int .i64))))], .cells 60 [.data (.int .i64), .data (.int .i64), .data .str], .cells 60 [.data (.int .i64), .data (.int .i64), .data .str]]⟩
def zqjs : List (AExit × View) := [(.ret, ⟨0, [6], [(false, [.rowh 0])], [.row 122 (.prod (.int .i64) (.prod (.int .i64) (.int .i64)))]⟩)]
@[reducible] def order_pair_p1_G (p : zqjq) {β : Type} (d : zqjr.den) (ks : Outs.K β zqjs) : Option β :=
  p (fun a0 => ks.1 (((), ()), (a0, ()))) d.1.1.1 d.1.2.1.1 d.2.1.1 d.2.1.2.1 d.2.1.2.2.1 d.2.1.2.2.2.1 d.2.2.1.1 d.2.2.1.2.1 d.2.2.1.2.2.1 d.2.2.2.1.1 d.2.2.2.1.2.1 d.2.2.2.1.2.2.1
section
variable (c_clock_Elapsed : zqg8)
@[reducible] def order_pair_X : Ctx := ⟨look tab, pick1 [(103, .spec (zqg9 c_clock_Elapsed))], false, false, false, false⟩
def zqjt {β : Type} (k1 : zqjp β) (i_ : Int) (j : Int) (r_ : List (List UInt8 × Int)) (r_2 : List (Int × (Int × (Int × Int)))) (r_3 : List zq0) (r_4 : List (Int × (Int × Int))) (a : Int) (a2 : Int) (a3 : List UInt8) (b : Int) (b2 : Int) (b3 : List UInt8) : Option β :=
  cond (decide (0 ≤ a) && decide (a < (List.length r_ : Int)))
  (let e : (List UInt8 × Int) := List.getD r_ (Int.toNat a) (([] : List UInt8), (0 : Int));
  c_clock_Elapsed e.2 (IntKind.i64.wrap (b2 - a2)) (fun (rElapsed : Int) (rElapsed2 : Int) =>
  let l : List (Int × (Int × Int)) := ([((IntKind.i64.wrap (i_ + (1 : Int))), ((IntKind.i64.wrap (j + (1 : Int))), rElapsed2)), ((IntKind.i64.wrap (j + (1 : Int))), ((IntKind.i64.wrap (i_ + (1 : Int))), (IntKind.i64.wrap (0 - rElapsed))))] : List (Int × (Int × Int)));
  k1 l))
  none
def zqju {β : Type} (k1 : zqjp β) (i_ : Int) (j : Int) (r_ : List (List UInt8 × Int)) (r_2 : List (Int × (Int × (Int × Int)))) (r_3 : List zq0) (r_4 : List (Int × (Int × Int))) (a : Int) (a2 : Int) (a3 : List UInt8) (b : Int) (b2 : Int) (b3 : List UInt8) : Option β := zqjt c_clock_Elapsed k1 i_ j r_ r_2 r_3 r_4 a a2 a3 b b2 b3
theorem zqjv (hΓ : ΓOk Tryz.prog (order_pair_X c_clock_Elapsed).Γ) : PieceOk Tryz.prog 60 0 order_pair_p1_code zqjr zqjs (order_pair_p1_G (zqju c_clock_Elapsed)) :=
  piece_exec (X := (order_pair_X c_clock_Elapsed)) (p := 15) (Λ := pick1 []) mixed tab_ok hΓ (by kernel_rfl) CutsOk_nil (fun d ks r h => Eq.trans (b := order_pair_p1_G (zqju c_clock_Elapsed) d ks) (by kernel_rfl) h)
def zqjw (p1 : zqjq) {β : Type} (r_ : zq2) (i_ : Int) (j : Int) (k : ((List (Int × (Int × Int))) → Option β)) : Option β :=
  cond (decide (0 ≤ i_) && decide (i_ < (List.length r_.2.2.1 : Int)))
  (let e : zq0 := List.getD r_.2.2.1 (Int.toNat i_) ((0 : Int), ((0 : Int), ([] : List UInt8)));
  cond (decide (0 ≤ j) && decide (j < (List.length r_.2.2.1 : Int)))
  (let e2 : zq0 := List.getD r_.2.2.1 (Int.toNat j) ((0 : Int), ((0 : Int), ([] : List UInt8)));
  cond (decide (e2.2.1 < e.2.1))
  (p1 (fun (t6 : List (Int × (Int × Int))) =>
  k t6) j i_ r_.1 r_.2.1 r_.2.2.1 r_.2.2.2 e2.1 e2.2.1 e2.2.2 e.1 e.2.1 e.2.2)
  (p1 (fun (t6 : List (Int × (Int × Int))) =>
  k t6) i_ j r_.1 r_.2.1 r_.2.2.1 r_.2.2.2 e.1 e.2.1 e.2.2 e2.1 e2.2.1 e2.2.2))
  none)
  none
theorem zqjx (hΓ : ΓOk Tryz.prog (order_pair_X c_clock_Elapsed).Γ) (p1 : zqjq) (hp1 : PieceOk Tryz.prog 60 0 order_pair_p1_code zqjr zqjs (order_pair_p1_G p1)) : SpecOk Tryz.prog 82 (zqjo (zqjw p1)) :=
  spec_exec (X := (order_pair_X c_clock_Elapsed)) (Λ := pick1 [(15, pieceCut zqjr zqjs (order_pair_p1_G p1))]) (rs := [.tmp 6]) (c := bodyOf Tryz.f82) mixed tab_ok hΓ Tryz.func82 (by kernel_rfl) (by kernel_rfl) (by kernel_rfl) (by kernel_rfl) (CutsOk_cons (q := 15) (c' := order_pair_p1_code) (by kernel_rfl) rfl hp1 CutsOk_nil) (fun x k r h => Eq.trans (b := (zqjo (zqjw p1)).run x k) (by kernel_rfl) h)
end
theorem zqjyΓ : ΓOk Tryz.prog (pick1 [(103, .spec (zqg9 zqgd))]) := (ΓOk_cons zqge ΓOk_nil)
def zqjz : zqjq := zqju zqgd
theorem zqk0 : PieceOk Tryz.prog 60 0 order_pair_p1_code zqjr zqjs (order_pair_p1_G zqjz) := zqjv zqgd zqjyΓ
def zqk1 : zqjn := zqjw zqjz
theorem zqk2 : SpecOk Tryz.prog 82 (zqjo zqk1) := zqjx zqgd zqjyΓ zqjz zqk0

/-- pagewatch/clock.From -/
abbrev zqk3 := {β : Type} → (List UInt8 × Int) → (Int × (Int × (Int × Int))) → Int → ((Int × Int) → Option β) → Option β
def zqk4 (c : zqk3) : Spec :=
  ⟨[(true, [.data (.prod .str (.int .i64))]), (true, [.data (.prod (.int .i64) (.prod (.int .i64) (.prod (.int .i64) (.int .i64))))]), (false, [.data (.int .i64)])], [], [(true, [.data (.prod (.int .i64) (.int .i64))])], [], fun x k => c x.1.1.1 x.1.2.1.1 x.1.2.2.1.1 (fun r0 => k (((r0, ()), ()), ()))⟩
section
variable (c_clock_Elapsed : zqg8) (c_clock_compared : zqfj) (c_clock_in : zq3r) (c_clock_instant : zq3y)
@[reducible] def clock_From_X : Ctx := ⟨look tab, pick1 [(103, .spec (zqg9 c_clock_Elapsed)), (56, .spec (zqfk c_clock_compared)), (55, .spec (zq3s c_clock_in)), (57, .spec (zq3z c_clock_instant))], false, false, false, false⟩
def zqk5 {β : Type} (h : (List UInt8 × Int)) (s : (Int × (Int × (Int × Int)))) (clock : Int) (k : ((Int × Int) → Option β)) : Option β :=
  c_clock_in h.2 (0 : Int) (500000 : Int) (fun (rin : Bool) =>
  cond (!rin)
  (k ((-1099511627776 : Int), (1099511627776 : Int)))
  (c_clock_compared s (fun (rcompared : Bool) =>
  cond (!rcompared)
  (k ((-1099511627776 : Int), (1099511627776 : Int)))
  (c_clock_instant clock (fun (rinstant : Bool) =>
  cond (!rinstant)
  (k ((-1099511627776 : Int), (1099511627776 : Int)))
  (cond (decide (s.2.1 ≤ clock))
  (c_clock_Elapsed h.2 (IntKind.i64.wrap (clock - s.2.1)) (fun (rElapsed : Int) (rElapsed2 : Int) =>
  k ((IntKind.i64.wrap (s.2.2.1 + rElapsed)), (IntKind.i64.wrap (s.2.2.2 + rElapsed2)))))
  (c_clock_Elapsed h.2 (IntKind.i64.wrap (s.2.1 - clock)) (fun (rElapsed : Int) (rElapsed2 : Int) =>
  k ((IntKind.i64.wrap (s.2.2.1 - rElapsed2)), (IntKind.i64.wrap (s.2.2.2 - rElapsed)))))))))))
theorem zqk6 (hΓ : ΓOk Tryz.prog (clock_From_X c_clock_Elapsed c_clock_compared c_clock_in c_clock_instant).Γ) : SpecOk Tryz.prog 101 (zqk4 (zqk5 c_clock_Elapsed c_clock_compared c_clock_in c_clock_instant)) :=
  spec_exec (X := (clock_From_X c_clock_Elapsed c_clock_compared c_clock_in c_clock_instant)) (Λ := pick1 []) (rs := [.cell 6 40]) (c := bodyOf Tryz.f101) mixed tab_ok hΓ Tryz.func101 (by kernel_rfl) (by kernel_rfl) (by kernel_rfl) (by kernel_rfl) CutsOk_nil (fun x k r h => Eq.trans (b := (zqk4 (zqk5 c_clock_Elapsed c_clock_compared c_clock_in c_clock_instant)).run x k) (by kernel_rfl) h)
end
theorem zqk7Γ : ΓOk Tryz.prog (pick1 [(103, .spec (zqg9 zqgd)), (56, .spec (zqfk zqfo)), (55, .spec (zq3s zq3w)), (57, .spec (zq3z zq43))]) := (ΓOk_cons zqge (ΓOk_cons zqfp (ΓOk_cons zq3x (ΓOk_cons zq44 ΓOk_nil))))
def zqk8 : zqk3 := zqk5 zqgd zqfo zq3w zq43
theorem zqk9 : SpecOk Tryz.prog 101 (zqk4 zqk8) := zqk6 zqgd zqfo zq3w zq43 zqk7Γ

/-- pagewatch/timeline.Only -/
abbrev zqka := {β : Type} → zq2 → Int → (zq2 → Int → Option β) → Option β
def zqkb (c : zqka) : Spec :=
  ⟨[(true, [.data zq3]), (false, [.data (.int .i64)])], [], [(true, [.data zq3]), (false, [.data (.int .i64)])], [], fun x k => c x.1.1.1 x.1.2.1.1 (fun r0 r1 => k (((r0, ()), (r1, ()), ()), ()))⟩
noncomputable def timeline_Only_p1_code : Code := codeAt 1018 (bodyOf Tryz.f19)
noncomputable def timeline_Only_p3_code : Code := codeAt 2042 (bodyOf Tryz.f19)
noncomputable def timeline_Only_p2_code : Code := codeAt 463 (loopBody timeline_Only_p3_code)
abbrev zqkc (β : Type) := (List (List UInt8 × Int)) → (List (Int × (Int × (Int × Int)))) → (List zq0) → (List (Int × (Int × Int))) → (List (Int × Int)) → (List (List UInt8 × Int)) → (List (Int × (Int × (Int × Int)))) → (List zq0) → (List (Int × (Int × Int))) → (List (List UInt8 × Int)) → (List (Int × (Int × (Int × Int)))) → (List zq0) → (List (Int × (Int × Int))) → Option β
abbrev zqkd := {β : Type} → zqkc β → Int → (List zq0) → Int → Int → (List (List UInt8 × Int)) → (List (Int × (Int × (Int × Int)))) → (List zq0) → (List (Int × (Int × Int))) → (List (Int × Int)) → (List (List UInt8 × Int)) → (List (Int × (Int × (Int × Int)))) → (List zq0) → (List (Int × (Int × Int))) → (List (List UInt8 × Int)) → (List (Int × (Int × (Int × Int)))) → (List zq0) → (List (Int × (Int × Int))) → Option β
def zqke : View := ⟨0, [1, 2, 4, 6, 7, 34, 35, 36], [(false, [.data (.int .i64)]), (false, [.ptr 0 0]), (false, [.ptr 1 0]), (false, [.ptr 2 0]), (false, [.maph 3]), (false, [.data (.slice zq1)]), (false, [.data (.int .i64)]), (false, [.data (.int .i64)])], [.cells 32 [.data (.slice (.prod .str (.int .i64))), .data (.slice (.prod (.int .i64) (.prod (.int .i64) (.prod (.int .i64) (.int .i64))))), .data (.slice zq1), .data (.slice (.prod (.int .i64) (.prod (.int .i64) (.int .i64))))], .cells 32 [.rowh 4, .rowh 5, .rowh 6, .rowh 7], .cells 32 [.rowh 8, .rowh 9, .rowh 10, .rowh 11], .map 91 (.int .i64) (.int .i64) false, .row 62 (.prod .str (.int .i64)), .row 64 (.prod (.int .i64) (.prod (.int .i64) (.prod (.int .i64) (.int .i64)))), .row 60 zq1, .row 73 (.prod (.int .i64) (.prod (.int .i64) (.int .i64))), .row 62 (.prod .str (.int .i64)), .row 64 (.prod (.int .i64) (.prod (.int .i64) (.prod (.int .i64) (.int .i64)))), .row 60 zq1, .row 73 (.prod (.int .i64) (.prod (.int .i64) (.int .i64)))]⟩
def zqkf : List (AExit × View) := [(.exit 0, ⟨0, [2, 4, 6, 7], [(false, [.ptr 0 0]), (false, [.ptr 1 0]), (false, [.ptr 2 0]), (false, [.maph 3])], [.cells 32 [.data (.slice (.prod .str (.int .i64))), .data (.slice (.prod (.int .i64) (.prod (.int .i64) (.prod (.int .i64) (.int .i64))))), .data (.slice zq1), .data (.slice (.prod (.int .i64) (.prod (.int .i64) (.int .i64))))], .cells 32 [.rowh 4, .rowh 5, .rowh 6, .rowh 7], .cells 32 [.rowh 8, .rowh 9, .rowh 10, .rowh 11], .map 91 (.int .i64) (.int .i64) false, .row 62 (.prod .str (.int .i64)), .row 64 (.prod (.int .i64) (.prod (.int .i64) (.prod (.int .i64) (.int .i64)))), .row 60 zq1, .row 73 (.prod (.int .i64) (.prod (.int .i64) (.int .i64))), .row 62 (.prod .str (.int .i64)), .row 64 (.prod (.int .i64) (.prod (.int .i64) (.prod (.int .i64) (.int .i64)))), .row 60 zq1, .row 73 (.prod (.int .i64) (.prod (.int .i64) (.int .i64)))]⟩)]
@[reducible] def timeline_Only_p1_G (p : zqkd) {β : Type} (d : zqke.den) (ks : Outs.K β zqkf) : Option β :=
  p (fun a0 a1 a2 a3 a4 a5 a6 a7 a8 a9 a10 a11 a12 => ks.1 (((), (), (), (), ()), ((a0, a1, a2, a3, ()), (), (), a4, a5, a6, a7, a8, a9, a10, a11, a12, ()))) d.1.1.1 d.1.2.2.2.2.2.1.1 d.1.2.2.2.2.2.2.1.1 d.1.2.2.2.2.2.2.2.1.1 d.2.1.1 d.2.1.2.1 d.2.1.2.2.1 d.2.1.2.2.2.1 d.2.2.2.2.1 d.2.2.2.2.2.1 d.2.2.2.2.2.2.1 d.2.2.2.2.2.2.2.1 d.2.2.2.2.2.2.2.2.1 d.2.2.2.2.2.2.2.2.2.1 d.2.2.2.2.2.2.2.2.2.2.1 d.2.2.2.2.2.2.2.2.2.2.2.1 d.2.2.2.2.2.2.2.2.2.2.2.2.1
abbrev zqkg (β : Type) := (List (Int × (Int × Int))) → Int → Int → (List (Int × Int)) → (List (List UInt8 × Int)) → (List (Int × (Int × (Int × Int)))) → (List zq0) → (List (Int × (Int × Int))) → (List (List UInt8 × Int)) → (List (Int × (Int × (Int × Int)))) → (List zq0) → (List (Int × (Int × Int))) → Option β
abbrev zqkh := {β : Type} → zqkg β → Int → Int → (List (Int × (Int × Int))) → Int → Int → Bool → (List (Int × Int)) → Int → Int → Int → (List (List UInt8 × Int)) → (List (Int × (Int × (Int × Int)))) → (List zq0) → (List (Int × (Int × Int))) → (List (List UInt8 × Int)) → (List (Int × (Int × (Int × Int)))) → (List zq0) → (List (Int × (Int × Int))) → Option β
def zqki : View := ⟨0, [4, 6, 7, 11, 12, 14, 58, 59, 60, 81], [(false, [.ptr 0 0]), (false, [.ptr 1 0]), (false, [.maph 2]), (false, [.ptr 3 0]), (false, [.data (.int .i64)]), (false, [.data (.int .i64)]), (false, [.data (.slice (.prod (.int .i64) (.prod (.int .i64) (.int .i64))))]), (false, [.data (.int .i64)]), (false, [.data (.int .i64)]), (false, [.data .bool])], [.cells 32 [.rowh 4, .rowh 5, .rowh 6, .rowh 7], .cells 32 [.rowh 8, .rowh 9, .rowh 10, .rowh 11], .map 91 (.int .i64) (.int .i64) false, .cells 73 [.data (.int .i64), .data (.int .i64), .data (.int .i64)], .row 62 (.prod .str (.int .i64)), .row 64 (.prod (.int .i64) (.prod (.int .i64) (.prod (.int .i64) (.int .i64)))), .row 60 zq1, .row 73 (.prod (.int .i64) (.prod (.int .i64) (.int .i64))), .row 62 (.prod .str (.int .i64)), .row 64 (.prod (.int .i64) (.prod (.int .i64) (.prod (.int .i64) (.int .i64)))), .row 60 zq1, .row 73 (.prod (.int .i64) (.prod (.int .i64) (.int .i64)))]⟩
def zqkj : List (AExit × View) := [(.normal, ⟨0, [4, 6, 7, 58, 59, 60], [(false, [.ptr 0 0]), (false, [.ptr 1 0]), (false, [.maph 2]), (false, [.data (.slice (.prod (.int .i64) (.prod (.int .i64) (.int .i64))))]), (false, [.data (.int .i64)]), (false, [.data (.int .i64)])], [.cells 32 [.rowh 3, .rowh 4, .rowh 5, .rowh 6], .cells 32 [.rowh 7, .rowh 8, .rowh 9, .rowh 10], .map 91 (.int .i64) (.int .i64) false, .row 62 (.prod .str (.int .i64)), .row 64 (.prod (.int .i64) (.prod (.int .i64) (.prod (.int .i64) (.int .i64)))), .row 60 zq1, .row 73 (.prod (.int .i64) (.prod (.int .i64) (.int .i64))), .row 62 (.prod .str (.int .i64)), .row 64 (.prod (.int .i64) (.prod (.int .i64) (.prod (.int .i64) (.int .i64)))), .row 60 zq1, .row 73 (.prod (.int .i64) (.prod (.int .i64) (.int .i64)))]⟩)]
@[reducible] def timeline_Only_p2_G (p : zqkh) {β : Type} (d : zqki.den) (ks : Outs.K β zqkj) : Option β :=
  p (fun a0 a1 a2 a3 a4 a5 a6 a7 a8 a9 a10 a11 => ks.1 (((), (), (), (a0, ()), (a1, ()), (a2, ()), ()), ((), (), a3, a4, a5, a6, a7, a8, a9, a10, a11, ()))) d.1.2.2.2.2.1.1 d.1.2.2.2.2.2.1.1 d.1.2.2.2.2.2.2.1.1 d.1.2.2.2.2.2.2.2.1.1 d.1.2.2.2.2.2.2.2.2.1.1 d.1.2.2.2.2.2.2.2.2.2.1.1 d.2.2.2.1 d.2.2.2.2.1.1 d.2.2.2.2.1.2.1 d.2.2.2.2.1.2.2.1 d.2.2.2.2.2.1 d.2.2.2.2.2.2.1 d.2.2.2.2.2.2.2.1 d.2.2.2.2.2.2.2.2.1 d.2.2.2.2.2.2.2.2.2.1 d.2.2.2.2.2.2.2.2.2.2.1 d.2.2.2.2.2.2.2.2.2.2.2.1 d.2.2.2.2.2.2.2.2.2.2.2.2.1
abbrev zqkk (β : Type) := (List (List UInt8 × Int)) → (List (Int × (Int × (Int × Int)))) → (List zq0) → (List (Int × (Int × Int))) → (List (List UInt8 × Int)) → (List (Int × (Int × (Int × Int)))) → (List zq0) → (List (Int × (Int × Int))) → Option β
abbrev zqkl := {β : Type} → zqkk β → (List (Int × (Int × Int))) → Int → Int → (List (Int × Int)) → (List (List UInt8 × Int)) → (List (Int × (Int × (Int × Int)))) → (List zq0) → (List (Int × (Int × Int))) → (List (List UInt8 × Int)) → (List (Int × (Int × (Int × Int)))) → (List zq0) → (List (Int × (Int × Int))) → Option β
def zqkm : View := ⟨0, [4, 6, 7, 58, 59, 60], [(false, [.ptr 0 0]), (false, [.ptr 1 0]), (false, [.maph 2]), (false, [.data (.slice (.prod (.int .i64) (.prod (.int .i64) (.int .i64))))]), (false, [.data (.int .i64)]), (false, [.data (.int .i64)])], [.cells 32 [.rowh 3, .rowh 4, .rowh 5, .rowh 6], .cells 32 [.rowh 7, .rowh 8, .rowh 9, .rowh 10], .map 91 (.int .i64) (.int .i64) false, .row 62 (.prod .str (.int .i64)), .row 64 (.prod (.int .i64) (.prod (.int .i64) (.prod (.int .i64) (.int .i64)))), .row 60 zq1, .row 73 (.prod (.int .i64) (.prod (.int .i64) (.int .i64))), .row 62 (.prod .str (.int .i64)), .row 64 (.prod (.int .i64) (.prod (.int .i64) (.prod (.int .i64) (.int .i64)))), .row 60 zq1, .row 73 (.prod (.int .i64) (.prod (.int .i64) (.int .i64)))]⟩
def zqkn : List (AExit × View) := [(.exit 2, ⟨0, [4, 6], [(false, [.ptr 0 0]), (false, [.ptr 1 0])], [.cells 32 [.rowh 2, .rowh 3, .rowh 4, .rowh 5], .cells 32 [.rowh 6, .rowh 7, .rowh 8, .rowh 9], .row 62 (.prod .str (.int .i64)), .row 64 (.prod (.int .i64) (.prod (.int .i64) (.prod (.int .i64) (.int .i64)))), .row 60 zq1, .row 73 (.prod (.int .i64) (.prod (.int .i64) (.int .i64))), .row 62 (.prod .str (.int .i64)), .row 64 (.prod (.int .i64) (.prod (.int .i64) (.prod (.int .i64) (.int .i64)))), .row 60 zq1, .row 73 (.prod (.int .i64) (.prod (.int .i64) (.int .i64)))]⟩)]
@[reducible] def timeline_Only_p3_G (p : zqkl) {β : Type} (d : zqkm.den) (ks : Outs.K β zqkn) : Option β :=
  p (fun a0 a1 a2 a3 a4 a5 a6 a7 => ks.1 (((), (), ()), ((), (), a0, a1, a2, a3, a4, a5, a6, a7, ()))) d.1.2.2.2.1.1 d.1.2.2.2.2.1.1 d.1.2.2.2.2.2.1.1 d.2.2.2.1 d.2.2.2.2.1 d.2.2.2.2.2.1 d.2.2.2.2.2.2.1 d.2.2.2.2.2.2.2.1 d.2.2.2.2.2.2.2.2.1 d.2.2.2.2.2.2.2.2.2.1 d.2.2.2.2.2.2.2.2.2.2.1 d.2.2.2.2.2.2.2.2.2.2.2.1
section
variable (c_clock_Valid : zqgf) (c_timeline_copied : zqca) (c_timeline_in : zq1u)
@[reducible] def timeline_Only_X : Ctx := ⟨look tab, pick1 [(33, .spec (zqgg c_clock_Valid)), (34, .spec (zqcb c_timeline_copied)), (38, .spec (zq1v c_timeline_in))], false, false, false, false⟩
def zqko {β : Type} (rec : Int → (List zq0) → Int → Int → (List (List UInt8 × Int)) → (List (Int × (Int × (Int × Int)))) → (List zq0) → (List (Int × (Int × Int))) → (List (Int × Int)) → (List (List UInt8 × Int)) → (List (Int × (Int × (Int × Int)))) → (List zq0) → (List (Int × (Int × Int))) → (List (List UInt8 × Int)) → (List (Int × (Int × (Int × Int)))) → (List zq0) → (List (Int × (Int × Int))) → Option β) (k1 : zqkc β) (host : Int) (t34 : List zq0) (t35 : Int) (t36 : Int) (r_ : List (List UInt8 × Int)) (r_2 : List (Int × (Int × (Int × Int)))) (r_3 : List zq0) (r_4 : List (Int × (Int × Int))) (now : List (Int × Int)) (b4_ : List (List UInt8 × Int)) (b5_ : List (Int × (Int × (Int × Int)))) (b6_ : List zq0) (b7_ : List (Int × (Int × Int))) (b8_ : List (List UInt8 × Int)) (b9_ : List (Int × (Int × (Int × Int)))) (b10_ : List zq0) (b11_ : List (Int × (Int × Int))) : Option β :=
  cond (decide (t36 < t35))
  (cond (decide (0 ≤ t36) && decide (t36 < (List.length t34 : Int)))
  (let e : zq0 := List.getD t34 (Int.toNat t36) ((0 : Int), ((0 : Int), ([] : List UInt8)));
  cond (decide (e.1 = host))
  (let m_ : List (Int × Int) := (mPut (.int .i64) now t36 (List.length b10_ : Int));
  let l : List zq0 := ([e] : List zq0);
  cond (decide ((List.length b10_ + List.length l) * 32 ≤ roomMax))
  (let l2 : List zq0 := (b10_ ++ l);
  rec host t34 t35 (IntKind.i64.wrap (t36 + (1 : Int))) r_ r_2 r_3 r_4 m_ b4_ b5_ b6_ b7_ b8_ b9_ l2 b11_)
  none)
  (rec host t34 t35 (IntKind.i64.wrap (t36 + (1 : Int))) r_ r_2 r_3 r_4 now b4_ b5_ b6_ b7_ b8_ b9_ b10_ b11_))
  none)
  (k1 r_ r_2 r_3 r_4 now b4_ b5_ b6_ b7_ b8_ b9_ b10_ b11_)
def zqkp {β : Type} : Nat → zqkc β → Int → (List zq0) → Int → Int → (List (List UInt8 × Int)) → (List (Int × (Int × (Int × Int)))) → (List zq0) → (List (Int × (Int × Int))) → (List (Int × Int)) → (List (List UInt8 × Int)) → (List (Int × (Int × (Int × Int)))) → (List zq0) → (List (Int × (Int × Int))) → (List (List UInt8 × Int)) → (List (Int × (Int × (Int × Int)))) → (List zq0) → (List (Int × (Int × Int))) → Option β
  | 0 => fun _ _ _ _ _ _ _ _ _ _ _ _ _ _ _ _ _ _ => none
  | i + 1 => fun k1 host t34 t35 t36 r_ r_2 r_3 r_4 now b4_ b5_ b6_ b7_ b8_ b9_ b10_ b11_ => zqko (zqkp i k1) k1 host t34 t35 t36 r_ r_2 r_3 r_4 now b4_ b5_ b6_ b7_ b8_ b9_ b10_ b11_
theorem zqkq (hΓ : ΓOk Tryz.prog (timeline_Only_X c_clock_Valid c_timeline_copied c_timeline_in).Γ) (i : Nat) : PieceOk Tryz.prog 94 0 timeline_Only_p1_code zqke zqkf (timeline_Only_p1_G (zqkp i)) := by
  rw [show timeline_Only_p1_code = .loop (loopBody timeline_Only_p1_code) by kernel_rfl]
  exact piece_loop (X := (timeline_Only_X c_clock_Valid c_timeline_copied c_timeline_in)) (p := 1) (Λ := pick1 []) (G := fun i => @fun β d ks => timeline_Only_p1_G (zqkp i) d ks) mixed tab_ok hΓ rfl (by kernel_rfl) CutsOk_nil (fun _ _ => rfl) (fun i => @fun β d ks r h => Eq.trans (b := timeline_Only_p1_G (zqkp (i + 1)) d ks) (by kernel_rfl) h) i
def zqkr {β : Type} (k1 : zqkg β) (from_ : Int) (to_ : Int) (t58 : List (Int × (Int × Int))) (t59 : Int) (t60 : Int) (t81 : Bool) (now : List (Int × Int)) (l : Int) (l2 : Int) (l3 : Int) (b4_ : List (List UInt8 × Int)) (b5_ : List (Int × (Int × (Int × Int)))) (b6_ : List zq0) (b7_ : List (Int × (Int × Int))) (b8_ : List (List UInt8 × Int)) (b9_ : List (Int × (Int × (Int × Int)))) (b10_ : List zq0) (b11_ : List (Int × (Int × Int))) : Option β :=
  cond t81
  (let l4 : List (Int × (Int × Int)) := ([(from_, (to_, l3))] : List (Int × (Int × Int)));
  cond (decide ((List.length b11_ + List.length l4) * 24 ≤ roomMax))
  (let l5 : List (Int × (Int × Int)) := (b11_ ++ l4);
  k1 t58 t59 t60 now b4_ b5_ b6_ b7_ b8_ b9_ b10_ l5)
  none)
  (k1 t58 t59 t60 now b4_ b5_ b6_ b7_ b8_ b9_ b10_ b11_)
def zqks {β : Type} (k1 : zqkg β) (from_ : Int) (to_ : Int) (t58 : List (Int × (Int × Int))) (t59 : Int) (t60 : Int) (t81 : Bool) (now : List (Int × Int)) (l : Int) (l2 : Int) (l3 : Int) (b4_ : List (List UInt8 × Int)) (b5_ : List (Int × (Int × (Int × Int)))) (b6_ : List zq0) (b7_ : List (Int × (Int × Int))) (b8_ : List (List UInt8 × Int)) (b9_ : List (Int × (Int × (Int × Int)))) (b10_ : List zq0) (b11_ : List (Int × (Int × Int))) : Option β := zqkr k1 from_ to_ t58 t59 t60 t81 now l l2 l3 b4_ b5_ b6_ b7_ b8_ b9_ b10_ b11_
theorem zqkt (hΓ : ΓOk Tryz.prog (timeline_Only_X c_clock_Valid c_timeline_copied c_timeline_in).Γ) : PieceOk Tryz.prog 94 0 timeline_Only_p2_code zqki zqkj (timeline_Only_p2_G (zqks)) :=
  piece_exec (X := (timeline_Only_X c_clock_Valid c_timeline_copied c_timeline_in)) (p := 463) (Λ := pick1 []) mixed tab_ok hΓ (by kernel_rfl) CutsOk_nil (fun d ks r h => Eq.trans (b := timeline_Only_p2_G (zqks) d ks) (by kernel_rfl) h)
def zqku (p2 : zqkh) {β : Type} (rec : (List (Int × (Int × Int))) → Int → Int → (List (Int × Int)) → (List (List UInt8 × Int)) → (List (Int × (Int × (Int × Int)))) → (List zq0) → (List (Int × (Int × Int))) → (List (List UInt8 × Int)) → (List (Int × (Int × (Int × Int)))) → (List zq0) → (List (Int × (Int × Int))) → Option β) (k1 : zqkk β) (t58 : List (Int × (Int × Int))) (t59 : Int) (t60 : Int) (now : List (Int × Int)) (b3_ : List (List UInt8 × Int)) (b4_ : List (Int × (Int × (Int × Int)))) (b5_ : List zq0) (b6_ : List (Int × (Int × Int))) (b7_ : List (List UInt8 × Int)) (b8_ : List (Int × (Int × (Int × Int)))) (b9_ : List zq0) (b10_ : List (Int × (Int × Int))) : Option β :=
  cond (decide (t60 < t59))
  (cond (decide (0 ≤ t60) && decide (t60 < (List.length t58 : Int)))
  (let e : (Int × (Int × Int)) := List.getD t58 (Int.toNat t60) ((0 : Int), ((0 : Int), (0 : Int)));
  let g : Int := (mGet (.int .i64) now e.1 (0 : Int));
  let a : Bool := (mHas (.int .i64) now e.1);
  let g2 : Int := (mGet (.int .i64) now e.2.1 (0 : Int));
  let b : Bool := (mHas (.int .i64) now e.2.1);
  cond a
  (p2 (fun (t582 : List (Int × (Int × Int))) (t592 : Int) (t602 : Int) (now2 : List (Int × Int)) (b3_2 : List (List UInt8 × Int)) (b4_2 : List (Int × (Int × (Int × Int)))) (b5_2 : List zq0) (b6_2 : List (Int × (Int × Int))) (b7_2 : List (List UInt8 × Int)) (b8_2 : List (Int × (Int × (Int × Int)))) (b9_2 : List zq0) (b10_2 : List (Int × (Int × Int))) =>
  rec t582 t592 (IntKind.i64.wrap (t602 + (1 : Int))) now2 b3_2 b4_2 b5_2 b6_2 b7_2 b8_2 b9_2 b10_2) g g2 t58 t59 t60 b now e.1 e.2.1 e.2.2 b3_ b4_ b5_ b6_ b7_ b8_ b9_ b10_)
  (p2 (fun (t582 : List (Int × (Int × Int))) (t592 : Int) (t602 : Int) (now2 : List (Int × Int)) (b3_2 : List (List UInt8 × Int)) (b4_2 : List (Int × (Int × (Int × Int)))) (b5_2 : List zq0) (b6_2 : List (Int × (Int × Int))) (b7_2 : List (List UInt8 × Int)) (b8_2 : List (Int × (Int × (Int × Int)))) (b9_2 : List zq0) (b10_2 : List (Int × (Int × Int))) =>
  rec t582 t592 (IntKind.i64.wrap (t602 + (1 : Int))) now2 b3_2 b4_2 b5_2 b6_2 b7_2 b8_2 b9_2 b10_2) g g2 t58 t59 t60 false now e.1 e.2.1 e.2.2 b3_ b4_ b5_ b6_ b7_ b8_ b9_ b10_))
  none)
  (k1 b3_ b4_ b5_ b6_ b7_ b8_ b9_ b10_)
def zqkv (p2 : zqkh) {β : Type} : Nat → zqkk β → (List (Int × (Int × Int))) → Int → Int → (List (Int × Int)) → (List (List UInt8 × Int)) → (List (Int × (Int × (Int × Int)))) → (List zq0) → (List (Int × (Int × Int))) → (List (List UInt8 × Int)) → (List (Int × (Int × (Int × Int)))) → (List zq0) → (List (Int × (Int × Int))) → Option β
  | 0 => fun _ _ _ _ _ _ _ _ _ _ _ _ _ => none
  | i + 1 => fun k1 t58 t59 t60 now b3_ b4_ b5_ b6_ b7_ b8_ b9_ b10_ => zqku p2 (zqkv p2 i k1) k1 t58 t59 t60 now b3_ b4_ b5_ b6_ b7_ b8_ b9_ b10_
theorem zqkw (hΓ : ΓOk Tryz.prog (timeline_Only_X c_clock_Valid c_timeline_copied c_timeline_in).Γ) (p2 : zqkh) (hp2 : PieceOk Tryz.prog 94 0 timeline_Only_p2_code zqki zqkj (timeline_Only_p2_G p2)) (i : Nat) : PieceOk Tryz.prog 94 0 timeline_Only_p3_code zqkm zqkn (timeline_Only_p3_G (zqkv p2 i)) := by
  rw [show timeline_Only_p3_code = .loop (loopBody timeline_Only_p3_code) by kernel_rfl]
  exact piece_loop (X := (timeline_Only_X c_clock_Valid c_timeline_copied c_timeline_in)) (p := 1) (Λ := pick1 [(463, pieceCut zqki zqkj (timeline_Only_p2_G p2))]) (G := fun i => @fun β d ks => timeline_Only_p3_G (zqkv p2 i) d ks) mixed tab_ok hΓ rfl (by kernel_rfl) (CutsOk_cons (q := 463) (c' := timeline_Only_p2_code) (by kernel_rfl) rfl hp2 CutsOk_nil) (fun _ _ => rfl) (fun i => @fun β d ks r h => Eq.trans (b := timeline_Only_p3_G (zqkv p2 (i + 1)) d ks) (by kernel_rfl) h) i
def zqkx (p1 : zqkd) (p3 : zqkl) {β : Type} (r_ : zq2) (host : Int) (k : (zq2 → Int → Option β)) : Option β :=
  c_clock_Valid r_ (fun (rValid : Bool) =>
  cond (!rValid)
  (k (([] : List (List UInt8 × Int)), (([] : List (Int × (Int × (Int × Int)))), (([] : List zq0), ([] : List (Int × (Int × Int)))))) (8 : Int))
  (c_timeline_in host (0 : Int) (IntKind.i64.wrap ((List.length r_.1 : Int) - (1 : Int))) (fun (rin : Bool) =>
  cond (!rin)
  (k (([] : List (List UInt8 × Int)), (([] : List (Int × (Int × (Int × Int)))), (([] : List zq0), ([] : List (Int × (Int × Int)))))) (3 : Int))
  (c_timeline_copied r_ (fun (lrcopied : List (List UInt8 × Int)) (lrcopied2 : List (Int × (Int × (Int × Int)))) (lrcopied3 : List zq0) (lrcopied4 : List (Int × (Int × Int))) =>
  let m_ : List (Int × Int) := ([] : List (Int × Int));
  p1 (fun (r_2 : List (List UInt8 × Int)) (r_3 : List (Int × (Int × (Int × Int)))) (r_4 : List zq0) (r_5 : List (Int × (Int × Int))) (now : List (Int × Int)) (b4_ : List (List UInt8 × Int)) (b5_ : List (Int × (Int × (Int × Int)))) (b6_ : List zq0) (b7_ : List (Int × (Int × Int))) (b8_ : List (List UInt8 × Int)) (b9_ : List (Int × (Int × (Int × Int)))) (b10_ : List zq0) (b11_ : List (Int × (Int × Int))) =>
  p3 (fun (b2_ : List (List UInt8 × Int)) (b3_ : List (Int × (Int × (Int × Int)))) (b4_2 : List zq0) (b5_2 : List (Int × (Int × Int))) (b6_2 : List (List UInt8 × Int)) (b7_2 : List (Int × (Int × (Int × Int)))) (b8_2 : List zq0) (b9_2 : List (Int × (Int × Int))) =>
  k (b6_2, (b7_2, (b8_2, b9_2))) (0 : Int)) r_5 (List.length r_5 : Int) (0 : Int) now b4_ b5_ b6_ b7_ b8_ b9_ b10_ b11_) host r_.2.2.1 (List.length r_.2.2.1 : Int) (0 : Int) r_.1 r_.2.1 r_.2.2.1 r_.2.2.2 m_ ([] : List (List UInt8 × Int)) ([] : List (Int × (Int × (Int × Int)))) ([] : List zq0) ([] : List (Int × (Int × Int))) lrcopied lrcopied2 ([] : List zq0) ([] : List (Int × (Int × Int))))))))
theorem zqky (hΓ : ΓOk Tryz.prog (timeline_Only_X c_clock_Valid c_timeline_copied c_timeline_in).Γ) (p1 : zqkd) (p3 : zqkl) (hp1 : PieceOk Tryz.prog 94 0 timeline_Only_p1_code zqke zqkf (timeline_Only_p1_G p1)) (hp3 : PieceOk Tryz.prog 94 0 timeline_Only_p3_code zqkm zqkn (timeline_Only_p3_G p3)) : SpecOk Tryz.prog 19 (zqkb (zqkx c_clock_Valid c_timeline_copied c_timeline_in p1 p3)) :=
  spec_exec (X := (timeline_Only_X c_clock_Valid c_timeline_copied c_timeline_in)) (Λ := pick1 [(1018, pieceCut zqke zqkf (timeline_Only_p1_G p1)), (2042, pieceCut zqkm zqkn (timeline_Only_p3_G p3))]) (rs := [.cell 4 32, .tmp 5]) (c := bodyOf Tryz.f19) mixed tab_ok hΓ Tryz.func19 (by kernel_rfl) (by kernel_rfl) (by kernel_rfl) (by kernel_rfl) (CutsOk_cons (q := 1018) (c' := timeline_Only_p1_code) (by kernel_rfl) rfl hp1 (CutsOk_cons (q := 2042) (c' := timeline_Only_p3_code) (by kernel_rfl) rfl hp3 CutsOk_nil)) (fun x k r h => Eq.trans (b := (zqkb (zqkx c_clock_Valid c_timeline_copied c_timeline_in p1 p3)).run x k) (by kernel_rfl) h)
end
theorem zqkzΓ : ΓOk Tryz.prog (pick1 [(33, .spec (zqgg zqhw)), (34, .spec (zqcb zqcf)), (38, .spec (zq1v zq1z))]) := (ΓOk_cons zqhx (ΓOk_cons zqcg (ΓOk_cons zq20 ΓOk_nil)))
def zql0 (m : Nat) : zqkd := zqkp m
theorem zql1 {β : Type} (i : Nat) (k1 host t34 t35 t36 r_ r_2 r_3 r_4 now b4_ b5_ b6_ b7_ b8_ b9_ b10_ b11_) : (zql0 (i + 1) k1 host t34 t35 t36 r_ r_2 r_3 r_4 now b4_ b5_ b6_ b7_ b8_ b9_ b10_ b11_ : Option β) = zqko (zql0 i k1) k1 host t34 t35 t36 r_ r_2 r_3 r_4 now b4_ b5_ b6_ b7_ b8_ b9_ b10_ b11_ := rfl
def zql2 : zqkd := zql0 fuel
theorem zql3 : PieceOk Tryz.prog 94 0 timeline_Only_p1_code zqke zqkf (timeline_Only_p1_G zql2) := zqkq zqhw zqcf zq1z zqkzΓ fuel
def zql4 : zqkh := zqks
theorem zql5 : PieceOk Tryz.prog 94 0 timeline_Only_p2_code zqki zqkj (timeline_Only_p2_G zql4) := zqkt zqhw zqcf zq1z zqkzΓ
def zql6 (m : Nat) : zqkl := zqkv zql4 m
theorem zql7 {β : Type} (i : Nat) (k1 t58 t59 t60 now b3_ b4_ b5_ b6_ b7_ b8_ b9_ b10_) : (zql6 (i + 1) k1 t58 t59 t60 now b3_ b4_ b5_ b6_ b7_ b8_ b9_ b10_ : Option β) = zqku zql4 (zql6 i k1) k1 t58 t59 t60 now b3_ b4_ b5_ b6_ b7_ b8_ b9_ b10_ := rfl
def zql8 : zqkl := zql6 fuel
theorem zql9 : PieceOk Tryz.prog 94 0 timeline_Only_p3_code zqkm zqkn (timeline_Only_p3_G zql8) := zqkw zqhw zqcf zq1z zqkzΓ zql4 zql5 fuel
def zqla : zqka := zqkx zqhw zqcf zq1z zql2 zql8
theorem zqlb : SpecOk Tryz.prog 19 (zqkb zqla) := zqky zqhw zqcf zq1z zqkzΓ zql2 zql8 zql3 zql9

/-- pagewatch/pagewatchref40.closed -/
abbrev zqlc := {β : Type} → zq2 → ((List (List Int)) → Bool → Option β) → Option β
def zqld (c : zqlc) : Spec :=
  ⟨[(true, [.data zq3])], [], [(false, [.data (.slice (.slice (.int .i64)))]), (false, [.data .bool])], [], fun x k => c x.1.1.1 (fun r0 r1 => k (((r0, ()), (r1, ()), ()), ()))⟩
section
variable (c_ref39_Close : zqcv) (c_ref40_Constraints : zqhy)
@[reducible] def ref40_closed_X : Ctx := ⟨look tab, pick1 [(54, .spec (zqcw c_ref39_Close)), (36, .spec (zqhz c_ref40_Constraints))], false, false, false, false⟩
def zqle {β : Type} (r_ : zq2) (k : ((List (List Int)) → Bool → Option β)) : Option β :=
  c_ref40_Constraints r_ (fun (rConstraints : Bool) (lrConstraints : List (Int × (Int × Int))) =>
  cond (!rConstraints)
  (k ([] : List (List Int)) false)
  (c_ref39_Close (IntKind.i64.wrap ((List.length r_.2.2.1 : Int) + (1 : Int))) lrConstraints (fun (rClose : List (List Int)) (rClose2 : Bool) =>
  k rClose rClose2)))
theorem zqlf (hΓ : ΓOk Tryz.prog (ref40_closed_X c_ref39_Close c_ref40_Constraints).Γ) : SpecOk Tryz.prog 30 (zqld (zqle c_ref39_Close c_ref40_Constraints)) :=
  spec_exec (X := (ref40_closed_X c_ref39_Close c_ref40_Constraints)) (Λ := pick1 []) (rs := [.tmp 2, .tmp 3]) (c := bodyOf Tryz.f30) mixed tab_ok hΓ Tryz.func30 (by kernel_rfl) (by kernel_rfl) (by kernel_rfl) (by kernel_rfl) CutsOk_nil (fun x k r h => Eq.trans (b := (zqld (zqle c_ref39_Close c_ref40_Constraints)).run x k) (by kernel_rfl) h)
end
theorem zqlgΓ : ΓOk Tryz.prog (pick1 [(54, .spec (zqcw zqfh)), (36, .spec (zqhz zqjl))]) := (ΓOk_cons zqfi (ΓOk_cons zqjm ΓOk_nil))
def zqlh : zqlc := zqle zqfh zqjl
theorem zqli : SpecOk Tryz.prog 30 (zqld zqlh) := zqlf zqfh zqjl zqlgΓ

/-- pagewatch/clock.When -/
abbrev zqlj := {β : Type} → zq2 → Int → Int → ((Int × Int) → Bool → Option β) → Option β
def zqlk (c : zqlj) : Spec :=
  ⟨[(true, [.data zq3]), (false, [.data (.int .i64)]), (false, [.data (.int .i64)])], [], [(true, [.data (.prod (.int .i64) (.int .i64))]), (false, [.data .bool])], [], fun x k => c x.1.1.1 x.1.2.1.1 x.1.2.2.1.1 (fun r0 r1 => k (((r0, ()), (r1, ()), ()), ()))⟩
noncomputable def clock_When_p1_code : Code := codeAt 122 (bodyOf Tryz.f81)
abbrev zqll (β : Type) := Int → Int → Int → Int → Option β
abbrev zqlm := {β : Type} → zqll β → Int → Int → (List (Int × (Int × (Int × Int)))) → Int → Int → (List (List UInt8 × Int)) → (List (Int × (Int × (Int × Int)))) → (List zq0) → (List (Int × (Int × Int))) → Int → Int → Int → Int → Option β
def zqln : View := ⟨0, [1, 2, 3, 6, 8, 31, 32, 33], [(false, [.data (.int .i64)]), (false, [.data (.int .i64)]), (false, [.ptr 0 0]), (false, [.ptr 1 0]), (false, [.ptr 2 0]), (false, [.data (.slice (.prod (.int .i64) (.prod (.int .i64) (.prod (.int .i64) (.int .i64)))))]), (false, [.data (.int .i64)]), (false, [.data (.int .i64)])], [.cells 32 [.data (.slice (.prod .str (.int .i64))), .data (.slice (.prod (.int .i64) (.prod (.int .i64) (.prod (.int .i64) (.int .i64))))), .data (.slice zq1), .data (.slice (.prod (.int .i64) (.prod (.int .i64) (.int .i64))))], .cells 40 [.data (.int .i64), .data (.int .i64)], .cells 40 [.data (.int .i64), .data (.int .i64)]]⟩
def zqlo : List (AExit × View) := [(.exit 0, ⟨0, [6, 8], [(false, [.ptr 0 0]), (false, [.ptr 1 0])], [.cells 40 [.data (.int .i64), .data (.int .i64)], .cells 40 [.data (.int .i64), .data (.int .i64)]]⟩)]
@[reducible] def clock_When_p1_G (p : zqlm) {β : Type} (d : zqln.den) (ks : Outs.K β zqlo) : Option β :=
  p (fun a0 a1 a2 a3 => ks.1 (((), (), ()), ((a0, a1, ()), (a2, a3, ()), ()))) d.1.1.1 d.1.2.1.1 d.1.2.2.2.2.2.1.1 d.1.2.2.2.2.2.2.1.1 d.1.2.2.2.2.2.2.2.1.1 d.2.1.1 d.2.1.2.1 d.2.1.2.2.1 d.2.1.2.2.2.1 d.2.2.1.1 d.2.2.1.2.1 d.2.2.2.1.1 d.2.2.2.1.2.1
section
variable (c_clock_Empty : zq9n) (c_clock_From : zqk3) (c_clock_Meet : zq9g) (c_clock_Valid : zqgf) (c_clock_in : zq3r) (c_clock_instant : zq3y)
@[reducible] def clock_When_X : Ctx := ⟨look tab, pick1 [(102, .spec (zq9o c_clock_Empty)), (101, .spec (zqk4 c_clock_From)), (100, .spec (zq9h c_clock_Meet)), (33, .spec (zqgg c_clock_Valid)), (55, .spec (zq3s c_clock_in)), (57, .spec (zq3z c_clock_instant))], false, false, false, false⟩
def zqlp {β : Type} (rec : Int → Int → (List (Int × (Int × (Int × Int)))) → Int → Int → (List (List UInt8 × Int)) → (List (Int × (Int × (Int × Int)))) → (List zq0) → (List (Int × (Int × Int))) → Int → Int → Int → Int → Option β) (k1 : zqll β) (host : Int) (clock : Int) (t31 : List (Int × (Int × (Int × Int)))) (t32 : Int) (t33 : Int) (r_ : List (List UInt8 × Int)) (r_2 : List (Int × (Int × (Int × Int)))) (r_3 : List zq0) (r_4 : List (Int × (Int × Int))) (t6 : Int) (t62 : Int) (out : Int) (out2 : Int) : Option β :=
  cond (decide (t33 < t32))
  (cond (decide (0 ≤ t33) && decide (t33 < (List.length t31 : Int)))
  (let e : (Int × (Int × (Int × Int))) := List.getD t31 (Int.toNat t33) ((0 : Int), ((0 : Int), ((0 : Int), (0 : Int))));
  cond (decide (e.1 = host))
  (cond (decide (0 ≤ host) && decide (host < (List.length r_ : Int)))
  (let e2 : (List UInt8 × Int) := List.getD r_ (Int.toNat host) (([] : List UInt8), (0 : Int));
  c_clock_From e2 e clock (fun (rFrom : (Int × Int)) =>
  c_clock_Meet (out, out2) rFrom (fun (rMeet : (Int × Int)) =>
  rec host clock t31 t32 (IntKind.i64.wrap (t33 + (1 : Int))) r_ r_2 r_3 r_4 t6 t62 rMeet.1 rMeet.2)))
  none)
  (rec host clock t31 t32 (IntKind.i64.wrap (t33 + (1 : Int))) r_ r_2 r_3 r_4 t6 t62 out out2))
  none)
  (k1 t6 t62 out out2)
def zqlq {β : Type} : Nat → zqll β → Int → Int → (List (Int × (Int × (Int × Int)))) → Int → Int → (List (List UInt8 × Int)) → (List (Int × (Int × (Int × Int)))) → (List zq0) → (List (Int × (Int × Int))) → Int → Int → Int → Int → Option β
  | 0 => fun _ _ _ _ _ _ _ _ _ _ _ _ _ _ => none
  | i + 1 => fun k1 host clock t31 t32 t33 r_ r_2 r_3 r_4 t6 t62 out out2 => zqlp c_clock_From c_clock_Meet (zqlq i k1) k1 host clock t31 t32 t33 r_ r_2 r_3 r_4 t6 t62 out out2
theorem zqlr (hΓ : ΓOk Tryz.prog (clock_When_X c_clock_Empty c_clock_From c_clock_Meet c_clock_Valid c_clock_in c_clock_instant).Γ) (i : Nat) : PieceOk Tryz.prog 56 0 clock_When_p1_code zqln zqlo (clock_When_p1_G (zqlq c_clock_From c_clock_Meet i)) := by
  rw [show clock_When_p1_code = .loop (loopBody clock_When_p1_code) by kernel_rfl]
  exact piece_loop (X := (clock_When_X c_clock_Empty c_clock_From c_clock_Meet c_clock_Valid c_clock_in c_clock_instant)) (p := 1) (Λ := pick1 []) (G := fun i => @fun β d ks => clock_When_p1_G (zqlq c_clock_From c_clock_Meet i) d ks) mixed tab_ok hΓ rfl (by kernel_rfl) CutsOk_nil (fun _ _ => rfl) (fun i => @fun β d ks r h => Eq.trans (b := clock_When_p1_G (zqlq c_clock_From c_clock_Meet (i + 1)) d ks) (by kernel_rfl) h) i
def zqls (p1 : zqlm) {β : Type} (r_ : zq2) (host : Int) (clock : Int) (k : ((Int × Int) → Bool → Option β)) : Option β :=
  c_clock_Valid r_ (fun (rValid : Bool) =>
  cond (!rValid)
  (k ((0 : Int), (0 : Int)) false)
  (c_clock_in host (0 : Int) (IntKind.i64.wrap ((List.length r_.1 : Int) - (1 : Int))) (fun (rin : Bool) =>
  cond (!rin)
  (k ((0 : Int), (0 : Int)) false)
  (c_clock_instant clock (fun (rinstant : Bool) =>
  cond (!rinstant)
  (k ((0 : Int), (0 : Int)) false)
  (p1 (fun (t6 : Int) (t62 : Int) (out : Int) (out2 : Int) =>
  c_clock_Empty (out, out2) (fun (rEmpty : Bool) =>
  k (out, out2) (!rEmpty))) host clock r_.2.1 (List.length r_.2.1 : Int) (0 : Int) r_.1 r_.2.1 r_.2.2.1 r_.2.2.2 (0 : Int) (0 : Int) (0 : Int) (8589934592 : Int)))))))
theorem zqlt (hΓ : ΓOk Tryz.prog (clock_When_X c_clock_Empty c_clock_From c_clock_Meet c_clock_Valid c_clock_in c_clock_instant).Γ) (p1 : zqlm) (hp1 : PieceOk Tryz.prog 56 0 clock_When_p1_code zqln zqlo (clock_When_p1_G p1)) : SpecOk Tryz.prog 81 (zqlk (zqls c_clock_Empty c_clock_Valid c_clock_in c_clock_instant p1)) :=
  spec_exec (X := (clock_When_X c_clock_Empty c_clock_From c_clock_Meet c_clock_Valid c_clock_in c_clock_instant)) (Λ := pick1 [(122, pieceCut zqln zqlo (clock_When_p1_G p1))]) (rs := [.cell 6 40, .tmp 7]) (c := bodyOf Tryz.f81) mixed tab_ok hΓ Tryz.func81 (by kernel_rfl) (by kernel_rfl) (by kernel_rfl) (by kernel_rfl) (CutsOk_cons (q := 122) (c' := clock_When_p1_code) (by kernel_rfl) rfl hp1 CutsOk_nil) (fun x k r h => Eq.trans (b := (zqlk (zqls c_clock_Empty c_clock_Valid c_clock_in c_clock_instant p1)).run x k) (by kernel_rfl) h)
end
theorem zqluΓ : ΓOk Tryz.prog (pick1 [(102, .spec (zq9o zq9s)), (101, .spec (zqk4 zqk8)), (100, .spec (zq9h zq9l)), (33, .spec (zqgg zqhw)), (55, .spec (zq3s zq3w)), (57, .spec (zq3z zq43))]) := (ΓOk_cons zq9t (ΓOk_cons zqk9 (ΓOk_cons zq9m (ΓOk_cons zqhx (ΓOk_cons zq3x (ΓOk_cons zq44 ΓOk_nil))))))
def zqlv (m : Nat) : zqlm := zqlq zqk8 zq9l m
theorem zqlw {β : Type} (i : Nat) (k1 host clock t31 t32 t33 r_ r_2 r_3 r_4 t6 t62 out out2) : (zqlv (i + 1) k1 host clock t31 t32 t33 r_ r_2 r_3 r_4 t6 t62 out out2 : Option β) = zqlp zqk8 zq9l (zqlv i k1) k1 host clock t31 t32 t33 r_ r_2 r_3 r_4 t6 t62 out out2 := rfl
def zqlx : zqlm := zqlv fuel
theorem zqly : PieceOk Tryz.prog 56 0 clock_When_p1_code zqln zqlo (clock_When_p1_G zqlx) := zqlr zq9s zqk8 zq9l zqhw zq3w zq43 zqluΓ fuel
def zqlz : zqlj := zqls zq9s zqhw zq3w zq43 zqlx
theorem zqm0 : SpecOk Tryz.prog 81 (zqlk zqlz) := zqlt zq9s zqk8 zq9l zqhw zq3w zq43 zqluΓ zqlx zqly

/-- slices.IndexFunc[[]pagewatch/api.Diff,pagewatch/api.Diff] -/
abbrev zqm1 := {β : Type} → (List (Int × (Int × Int))) → Int → (Int → Int → Option β) → Option β
def zqm2 (c : zqm1) : Spec :=
  ⟨[(false, [.data (.slice (.prod (.int .i64) (.prod (.int .i64) (.int .i64))))]), (false, [.fn 106 [0]])], [.cells 3 [.data (.int .i64)]], [(false, [.data (.int .i64)])], [.cells 3 [.data (.int .i64)]], fun x k => c x.1.1.1 x.2.1.1 (fun r0 r1 => k (((r0, ()), ()), ((r1, ()), ())))⟩
noncomputable def slices_IndexFunc_api_Diff_api_Diff_vconstraint_Valid_f1_p1_code : Code := codeAt 26 (bodyOf Tryz.f118)
abbrev zqm3 (β : Type) := Int → Int → Option β
abbrev zqm4 (β : Type) := Int → Option β
abbrev zqm5 := {β : Type} → zqm3 β → zqm4 β → (List (Int × (Int × Int))) → Int → Int → Int → Option β
def zqm6 : View := ⟨1, [0, 1, 7, 8], [(false, [.data (.slice (.prod (.int .i64) (.prod (.int .i64) (.int .i64))))]), (false, [.fn 106 [0]]), (false, [.data (.int .i64)]), (false, [.data (.int .i64)])], [.cells 3 [.data (.int .i64)]]⟩
def zqm7 : List (AExit × View) := [(.ret, ⟨1, [4], [(false, [.data (.int .i64)])], [.cells 3 [.data (.int .i64)]]⟩), (.exit 0, ⟨1, [], [], [.cells 3 [.data (.int .i64)]]⟩)]
@[reducible] def slices_IndexFunc_api_Diff_api_Diff_vconstraint_Valid_f1_p1_G (p : zqm5) {β : Type} (d : zqm6.den) (ks : Outs.K β zqm7) : Option β :=
  p (fun a0 a1 => ks.1 (((a0, ()), ()), ((a1, ()), ()))) (fun a0 => ks.2.1 ((), ((a0, ()), ()))) d.1.1.1 d.1.2.2.1.1 d.1.2.2.2.1.1 d.2.1.1
section
variable (c_constraint_Valid_f1 : zqa1)
@[reducible] def slices_IndexFunc_api_Diff_api_Diff_vconstraint_Valid_f1_X : Ctx := ⟨look tab, pick1 [(106, .spec (zqa2 c_constraint_Valid_f1))], false, false, false, false⟩
def zqm8 {β : Type} (rec : (List (Int × (Int × Int))) → Int → Int → Int → Option β) (k1 : zqm3 β) (k2 : zqm4 β) (s : List (Int × (Int × Int))) (t7 : Int) (t8 : Int) (b0_ : Int) : Option β :=
  cond (decide (t8 < t7))
  (cond (decide (0 ≤ t8) && decide (t8 < (List.length s : Int)))
  (let e : (Int × (Int × Int)) := List.getD s (Int.toNat t8) ((0 : Int), ((0 : Int), (0 : Int)));
  c_constraint_Valid_f1 e b0_ (fun (rValid1 : Bool) (mrValid1 : Int) =>
  cond rValid1
  (k1 t8 mrValid1)
  (rec s t7 (IntKind.i64.wrap (t8 + (1 : Int))) mrValid1)))
  none)
  (k2 b0_)
def zqm9 {β : Type} : Nat → zqm3 β → zqm4 β → (List (Int × (Int × Int))) → Int → Int → Int → Option β
  | 0 => fun _ _ _ _ _ _ => none
  | i + 1 => fun k1 k2 s t7 t8 b0_ => zqm8 c_constraint_Valid_f1 (zqm9 i k1 k2) k1 k2 s t7 t8 b0_
theorem zqma (hΓ : ΓOk Tryz.prog (slices_IndexFunc_api_Diff_api_Diff_vconstraint_Valid_f1_X c_constraint_Valid_f1).Γ) (i : Nat) : PieceOk Tryz.prog 19 1 slices_IndexFunc_api_Diff_api_Diff_vconstraint_Valid_f1_p1_code zqm6 zqm7 (slices_IndexFunc_api_Diff_api_Diff_vconstraint_Valid_f1_p1_G (zqm9 c_constraint_Valid_f1 i)) := by
  rw [show slices_IndexFunc_api_Diff_api_Diff_vconstraint_Valid_f1_p1_code = .loop (loopBody slices_IndexFunc_api_Diff_api_Diff_vconstraint_Valid_f1_p1_code) by kernel_rfl]
  exact piece_loop (X := (slices_IndexFunc_api_Diff_api_Diff_vconstraint_Valid_f1_X c_constraint_Valid_f1)) (p := 1) (Λ := pick1 []) (G := fun i => @fun β d ks => slices_IndexFunc_api_Diff_api_Diff_vconstraint_Valid_f1_p1_G (zqm9 c_constraint_Valid_f1 i) d ks) mixed tab_ok hΓ rfl (by kernel_rfl) CutsOk_nil (fun _ _ => rfl) (fun i => @fun β d ks r h => Eq.trans (b := slices_IndexFunc_api_Diff_api_Diff_vconstraint_Valid_f1_p1_G (zqm9 c_constraint_Valid_f1 (i + 1)) d ks) (by kernel_rfl) h) i
def zqmb (p1 : zqm5) {β : Type} (s : List (Int × (Int × Int))) (b0_ : Int) (k : (Int → Int → Option β)) : Option β :=
  p1 (fun (t4 : Int) (b0_2 : Int) =>
  k t4 b0_2) (fun (b0_2 : Int) =>
  k (-1 : Int) b0_2) s (List.length s : Int) (0 : Int) b0_
theorem zqmc (hΓ : ΓOk Tryz.prog (slices_IndexFunc_api_Diff_api_Diff_vconstraint_Valid_f1_X c_constraint_Valid_f1).Γ) (p1 : zqm5) (hp1 : PieceOk Tryz.prog 19 1 slices_IndexFunc_api_Diff_api_Diff_vconstraint_Valid_f1_p1_code zqm6 zqm7 (slices_IndexFunc_api_Diff_api_Diff_vconstraint_Valid_f1_p1_G p1)) : SpecOk Tryz.prog 118 (zqm2 (zqmb p1)) :=
  spec_exec (X := (slices_IndexFunc_api_Diff_api_Diff_vconstraint_Valid_f1_X c_constraint_Valid_f1)) (Λ := pick1 [(26, pieceCut zqm6 zqm7 (slices_IndexFunc_api_Diff_api_Diff_vconstraint_Valid_f1_p1_G p1))]) (rs := [.tmp 4]) (c := bodyOf Tryz.f118) mixed tab_ok hΓ Tryz.func118 (by kernel_rfl) (by kernel_rfl) (by kernel_rfl) (by kernel_rfl) (CutsOk_cons (q := 26) (c' := slices_IndexFunc_api_Diff_api_Diff_vconstraint_Valid_f1_p1_code) (by kernel_rfl) rfl hp1 CutsOk_nil) (fun x k r h => Eq.trans (b := (zqm2 (zqmb p1)).run x k) (by kernel_rfl) h)
end
theorem zqmdΓ : ΓOk Tryz.prog (pick1 [(106, .spec (zqa2 zqa6))]) := (ΓOk_cons zqa7 ΓOk_nil)
def zqme (m : Nat) : zqm5 := zqm9 zqa6 m
theorem zqmf {β : Type} (i : Nat) (k1 k2 s t7 t8 b0_) : (zqme (i + 1) k1 k2 s t7 t8 b0_ : Option β) = zqm8 zqa6 (zqme i k1 k2) k1 k2 s t7 t8 b0_ := rfl
def zqmg : zqm5 := zqme fuel
theorem zqmh : PieceOk Tryz.prog 19 1 slices_IndexFunc_api_Diff_api_Diff_vconstraint_Valid_f1_p1_code zqm6 zqm7 (slices_IndexFunc_api_Diff_api_Diff_vconstraint_Valid_f1_p1_G zqmg) := zqma zqa6 zqmdΓ fuel
def zqmi : zqm1 := zqmb zqmg
theorem zqmj : SpecOk Tryz.prog 118 (zqm2 zqmi) := zqmc zqa6 zqmdΓ zqmg zqmh

/-- pagewatch/pagewatchref40.Consistent -/
abbrev zqmk := {β : Type} → zq2 → (Bool → Option β) → Option β
def zqml (c : zqmk) : Spec :=
  ⟨[(true, [.data zq3])], [], [(false, [.data .bool])], [], fun x k => c x.1.1.1 (fun r0 => k (((r0, ()), ()), ()))⟩
section
variable (c_ref40_closed : zqlc)
@[reducible] def ref40_Consistent_X : Ctx := ⟨look tab, pick1 [(30, .spec (zqld c_ref40_closed))], false, false, false, false⟩
def zqmm {β : Type} (r_ : zq2) (k : (Bool → Option β)) : Option β :=
  c_ref40_closed r_ (fun (rclosed : List (List Int)) (rclosed2 : Bool) =>
  k rclosed2)
theorem zqmn (hΓ : ΓOk Tryz.prog (ref40_Consistent_X c_ref40_closed).Γ) : SpecOk Tryz.prog 15 (zqml (zqmm c_ref40_closed)) :=
  spec_exec (X := (ref40_Consistent_X c_ref40_closed)) (Λ := pick1 []) (rs := [.tmp 2]) (c := bodyOf Tryz.f15) mixed tab_ok hΓ Tryz.func15 (by kernel_rfl) (by kernel_rfl) (by kernel_rfl) (by kernel_rfl) CutsOk_nil (fun x k r h => Eq.trans (b := (zqml (zqmm c_ref40_closed)).run x k) (by kernel_rfl) h)
end
theorem zqmoΓ : ΓOk Tryz.prog (pick1 [(30, .spec (zqld zqlh))]) := (ΓOk_cons zqli ΓOk_nil)
def zqmp : zqmk := zqmm zqlh
theorem zqmq : SpecOk Tryz.prog 15 (zqml zqmp) := zqmn zqlh zqmoΓ

/-- pagewatch/pagewatchref40.Open -/
abbrev zqmr := {β : Type} → zq2 → ((List (Int × Int)) → Option β) → Option β
def zqms (c : zqmr) : Spec :=
  ⟨[(true, [.data zq3])], [], [(false, [.rowh 0])], [.row 58 (.prod (.int .i64) (.int .i64))], fun x k => c x.1.1.1 (fun r0 => k (((), ()), (r0, ())))⟩
noncomputable def ref40_Open_p2_code : Code := codeAt 122 (bodyOf Tryz.f20)
noncomputable def ref40_Open_p1_code : Code := codeAt 50 (loopBody ref40_Open_p2_code)
abbrev zqmt (β : Type) := (List (List Int)) → Bool → Int → (List (List UInt8 × Int)) → (List (Int × (Int × (Int × Int)))) → (List zq0) → (List (Int × (Int × Int))) → (List (Int × Int)) → Option β
abbrev zqmu := {β : Type} → zqmt β → (List (List Int)) → Bool → Int → Int → (List (List UInt8 × Int)) → (List (Int × (Int × (Int × Int)))) → (List zq0) → (List (Int × (Int × Int))) → (List (Int × Int)) → Option β
def zqmv : View := ⟨0, [1, 3, 4, 5, 6, 7], [(false, [.ptr 0 0]), (false, [.data (.slice (.slice (.int .i64)))]), (false, [.data .bool]), (false, [.rowh 1]), (false, [.data (.int .i64)]), (false, [.data (.int .i64)])], [.cells 32 [.data (.slice (.prod .str (.int .i64))), .data (.slice (.prod (.int .i64) (.prod (.int .i64) (.prod (.int .i64) (.int .i64))))), .data (.slice zq1), .data (.slice (.prod (.int .i64) (.prod (.int .i64) (.int .i64))))], .row 58 (.prod (.int .i64) (.int .i64))]⟩
def zqmw : List (AExit × View) := [(.exit 2, ⟨0, [1, 3, 4, 5, 6], [(false, [.ptr 0 0]), (false, [.data (.slice (.slice (.int .i64)))]), (false, [.data .bool]), (false, [.rowh 1]), (false, [.data (.int .i64)])], [.cells 32 [.data (.slice (.prod .str (.int .i64))), .data (.slice (.prod (.int .i64) (.prod (.int .i64) (.prod (.int .i64) (.int .i64))))), .data (.slice zq1), .data (.slice (.prod (.int .i64) (.prod (.int .i64) (.int .i64))))], .row 58 (.prod (.int .i64) (.int .i64))]⟩)]
@[reducible] def ref40_Open_p1_G (p : zqmu) {β : Type} (d : zqmv.den) (ks : Outs.K β zqmw) : Option β :=
  p (fun a0 a1 a2 a3 a4 a5 a6 a7 => ks.1 (((), (a0, ()), (a1, ()), (), (a2, ()), ()), ((a3, a4, a5, a6, ()), a7, ()))) d.1.2.1.1 d.1.2.2.1.1 d.1.2.2.2.2.1.1 d.1.2.2.2.2.2.1.1 d.2.1.1 d.2.1.2.1 d.2.1.2.2.1 d.2.1.2.2.2.1 d.2.2.1
abbrev zqmx (β : Type) := (List (Int × Int)) → Option β
abbrev zqmy := {β : Type} → zqmx β → (List (List Int)) → Bool → Int → (List (List UInt8 × Int)) → (List (Int × (Int × (Int × Int)))) → (List zq0) → (List (Int × (Int × Int))) → (List (Int × Int)) → Option β
def zqmz : View := ⟨0, [1, 3, 4, 5, 6], [(false, [.ptr 0 0]), (false, [.data (.slice (.slice (.int .i64)))]), (false, [.data .bool]), (false, [.rowh 1]), (false, [.data (.int .i64)])], [.cells 32 [.data (.slice (.prod .str (.int .i64))), .data (.slice (.prod (.int .i64) (.prod (.int .i64) (.prod (.int .i64) (.int .i64))))), .data (.slice zq1), .data (.slice (.prod (.int .i64) (.prod (.int .i64) (.int .i64))))], .row 58 (.prod (.int .i64) (.int .i64))]⟩
def zqn0 : List (AExit × View) := [(.exit 0, ⟨0, [5], [(false, [.rowh 0])], [.row 58 (.prod (.int .i64) (.int .i64))]⟩)]
@[reducible] def ref40_Open_p2_G (p : zqmy) {β : Type} (d : zqmz.den) (ks : Outs.K β zqn0) : Option β :=
  p (fun a0 => ks.1 (((), ()), (a0, ()))) d.1.2.1.1 d.1.2.2.1.1 d.1.2.2.2.2.1.1 d.2.1.1 d.2.1.2.1 d.2.1.2.2.1 d.2.1.2.2.2.1 d.2.2.1
section
variable (c_ref40_closed : zqlc) (c_ref40_compare : zq1n)
@[reducible] def ref40_Open_X : Ctx := ⟨look tab, pick1 [(30, .spec (zqld c_ref40_closed)), (32, .spec (zq1o c_ref40_compare))], false, false, false, false⟩
def zqn1 {β : Type} (rec : (List (List Int)) → Bool → Int → Int → (List (List UInt8 × Int)) → (List (Int × (Int × (Int × Int)))) → (List zq0) → (List (Int × (Int × Int))) → (List (Int × Int)) → Option β) (k1 : zqmt β) (d : List (List Int)) (ok : Bool) (a : Int) (b : Int) (r_ : List (List UInt8 × Int)) (r_2 : List (Int × (Int × (Int × Int)))) (r_3 : List zq0) (r_4 : List (Int × (Int × Int))) (out : List (Int × Int)) : Option β :=
  cond (decide (b < (List.length r_3 : Int)))
  (c_ref40_compare d a b (fun (rcompare : Int) =>
  cond (decide (rcompare = (0 : Int)))
  (let l : List (Int × Int) := ([(a, b)] : List (Int × Int));
  cond (decide ((List.length out + List.length l) * 16 ≤ roomMax))
  (let l2 : List (Int × Int) := (out ++ l);
  let b2 : Int := (IntKind.i64.wrap (b + (1 : Int)));
  rec d ok a b2 r_ r_2 r_3 r_4 l2)
  none)
  (let b2 : Int := (IntKind.i64.wrap (b + (1 : Int)));
  rec d ok a b2 r_ r_2 r_3 r_4 out)))
  (k1 d ok a r_ r_2 r_3 r_4 out)
def zqn2 {β : Type} : Nat → zqmt β → (List (List Int)) → Bool → Int → Int → (List (List UInt8 × Int)) → (List (Int × (Int × (Int × Int)))) → (List zq0) → (List (Int × (Int × Int))) → (List (Int × Int)) → Option β
  | 0 => fun _ _ _ _ _ _ _ _ _ _ => none
  | i + 1 => fun k1 d ok a b r_ r_2 r_3 r_4 out => zqn1 c_ref40_compare (zqn2 i k1) k1 d ok a b r_ r_2 r_3 r_4 out
theorem zqn3 (hΓ : ΓOk Tryz.prog (ref40_Open_X c_ref40_closed c_ref40_compare).Γ) (i : Nat) : PieceOk Tryz.prog 44 0 ref40_Open_p1_code zqmv zqmw (ref40_Open_p1_G (zqn2 c_ref40_compare i)) := by
  rw [show ref40_Open_p1_code = .loop (loopBody ref40_Open_p1_code) by kernel_rfl]
  exact piece_loop (X := (ref40_Open_X c_ref40_closed c_ref40_compare)) (p := 1) (Λ := pick1 []) (G := fun i => @fun β d ks => ref40_Open_p1_G (zqn2 c_ref40_compare i) d ks) mixed tab_ok hΓ rfl (by kernel_rfl) CutsOk_nil (fun _ _ => rfl) (fun i => @fun β d ks r h => Eq.trans (b := ref40_Open_p1_G (zqn2 c_ref40_compare (i + 1)) d ks) (by kernel_rfl) h) i
def zqn4 (p1 : zqmu) {β : Type} (rec : (List (List Int)) → Bool → Int → (List (List UInt8 × Int)) → (List (Int × (Int × (Int × Int)))) → (List zq0) → (List (Int × (Int × Int))) → (List (Int × Int)) → Option β) (k1 : zqmx β) (d : List (List Int)) (ok : Bool) (a : Int) (r_ : List (List UInt8 × Int)) (r_2 : List (Int × (Int × (Int × Int)))) (r_3 : List zq0) (r_4 : List (Int × (Int × Int))) (out : List (Int × Int)) : Option β :=
  cond ok
  (cond (decide (a < (List.length r_3 : Int)))
  (let b : Int := (IntKind.i64.wrap (a + (1 : Int)));
  p1 (fun (d2 : List (List Int)) (ok2 : Bool) (a2 : Int) (r_5 : List (List UInt8 × Int)) (r_6 : List (Int × (Int × (Int × Int)))) (r_7 : List zq0) (r_8 : List (Int × (Int × Int))) (out2 : List (Int × Int)) =>
  let a3 : Int := (IntKind.i64.wrap (a2 + (1 : Int)));
  rec d2 ok2 a3 r_5 r_6 r_7 r_8 out2) d ok a b r_ r_2 r_3 r_4 out)
  (k1 out))
  (k1 out)
def zqn5 (p1 : zqmu) {β : Type} : Nat → zqmx β → (List (List Int)) → Bool → Int → (List (List UInt8 × Int)) → (List (Int × (Int × (Int × Int)))) → (List zq0) → (List (Int × (Int × Int))) → (List (Int × Int)) → Option β
  | 0 => fun _ _ _ _ _ _ _ _ _ => none
  | i + 1 => fun k1 d ok a r_ r_2 r_3 r_4 out => zqn4 p1 (zqn5 p1 i k1) k1 d ok a r_ r_2 r_3 r_4 out
theorem zqn6 (hΓ : ΓOk Tryz.prog (ref40_Open_X c_ref40_closed c_ref40_compare).Γ) (p1 : zqmu) (hp1 : PieceOk Tryz.prog 44 0 ref40_Open_p1_code zqmv zqmw (ref40_Open_p1_G p1)) (i : Nat) : PieceOk Tryz.prog 44 0 ref40_Open_p2_code zqmz zqn0 (ref40_Open_p2_G (zqn5 p1 i)) := by
  rw [show ref40_Open_p2_code = .loop (loopBody ref40_Open_p2_code) by kernel_rfl]
  exact piece_loop (X := (ref40_Open_X c_ref40_closed c_ref40_compare)) (p := 1) (Λ := pick1 [(50, pieceCut zqmv zqmw (ref40_Open_p1_G p1))]) (G := fun i => @fun β d ks => ref40_Open_p2_G (zqn5 p1 i) d ks) mixed tab_ok hΓ rfl (by kernel_rfl) (CutsOk_cons (q := 50) (c' := ref40_Open_p1_code) (by kernel_rfl) rfl hp1 CutsOk_nil) (fun _ _ => rfl) (fun i => @fun β d ks r h => Eq.trans (b := ref40_Open_p2_G (zqn5 p1 (i + 1)) d ks) (by kernel_rfl) h) i
def zqn7 (p2 : zqmy) {β : Type} (r_ : zq2) (k : ((List (Int × Int)) → Option β)) : Option β :=
  c_ref40_closed r_ (fun (rclosed : List (List Int)) (rclosed2 : Bool) =>
  p2 (fun (out : List (Int × Int)) =>
  k out) rclosed rclosed2 (0 : Int) r_.1 r_.2.1 r_.2.2.1 r_.2.2.2 ([] : List (Int × Int)))
theorem zqn8 (hΓ : ΓOk Tryz.prog (ref40_Open_X c_ref40_closed c_ref40_compare).Γ) (p2 : zqmy) (hp2 : PieceOk Tryz.prog 44 0 ref40_Open_p2_code zqmz zqn0 (ref40_Open_p2_G p2)) : SpecOk Tryz.prog 20 (zqms (zqn7 c_ref40_closed p2)) :=
  spec_exec (X := (ref40_Open_X c_ref40_closed c_ref40_compare)) (Λ := pick1 [(122, pieceCut zqmz zqn0 (ref40_Open_p2_G p2))]) (rs := [.tmp 2]) (c := bodyOf Tryz.f20) mixed tab_ok hΓ Tryz.func20 (by kernel_rfl) (by kernel_rfl) (by kernel_rfl) (by kernel_rfl) (CutsOk_cons (q := 122) (c' := ref40_Open_p2_code) (by kernel_rfl) rfl hp2 CutsOk_nil) (fun x k r h => Eq.trans (b := (zqms (zqn7 c_ref40_closed p2)).run x k) (by kernel_rfl) h)
end
theorem zqn9Γ : ΓOk Tryz.prog (pick1 [(30, .spec (zqld zqlh)), (32, .spec (zq1o zq1s))]) := (ΓOk_cons zqli (ΓOk_cons zq1t ΓOk_nil))
def zqna (m : Nat) : zqmu := zqn2 zq1s m
theorem zqnb {β : Type} (i : Nat) (k1 d ok a b r_ r_2 r_3 r_4 out) : (zqna (i + 1) k1 d ok a b r_ r_2 r_3 r_4 out : Option β) = zqn1 zq1s (zqna i k1) k1 d ok a b r_ r_2 r_3 r_4 out := rfl
def zqnc : zqmu := zqna fuel
theorem zqnd : PieceOk Tryz.prog 44 0 ref40_Open_p1_code zqmv zqmw (ref40_Open_p1_G zqnc) := zqn3 zqlh zq1s zqn9Γ fuel
def zqne (m : Nat) : zqmy := zqn5 zqnc m
theorem zqnf {β : Type} (i : Nat) (k1 d ok a r_ r_2 r_3 r_4 out) : (zqne (i + 1) k1 d ok a r_ r_2 r_3 r_4 out : Option β) = zqn4 zqnc (zqne i k1) k1 d ok a r_ r_2 r_3 r_4 out := rfl
def zqng : zqmy := zqne fuel
theorem zqnh : PieceOk Tryz.prog 44 0 ref40_Open_p2_code zqmz zqn0 (ref40_Open_p2_G zqng) := zqn6 zqlh zq1s zqn9Γ zqnc zqnd fuel
def zqni : zqmr := zqn7 zqlh zqng
theorem zqnj : SpecOk Tryz.prog 20 (zqms zqni) := zqn8 zqlh zq1s zqn9Γ zqng zqnh

/-- pagewatch/order.Constraints -/
abbrev zqnk := {β : Type} → zq2 → (Bool → (List (Int × (Int × Int))) → Option β) → Option β
def zqnl (c : zqnk) : Spec :=
  ⟨[(true, [.data zq3])], [], [(false, [.rowh 0]), (false, [.data .bool])], [.row 122 (.prod (.int .i64) (.prod (.int .i64) (.int .i64)))], fun x k => c x.1.1.1 (fun r0 r1 => k (((), (r0, ()), ()), (r1, ())))⟩
noncomputable def order_Constraints_p1_code : Code := codeAt 122 (bodyOf Tryz.f68)
noncomputable def order_Constraints_p3_code : Code := codeAt 250 (bodyOf Tryz.f68)
noncomputable def order_Constraints_p4_code : Code := codeAt 506 (bodyOf Tryz.f68)
noncomputable def order_Constraints_p2_code : Code := codeAt 230 (loopBody order_Constraints_p3_code)
abbrev zqnm (β : Type) := Bool → (List (Int × (Int × Int))) → Option β
abbrev zqnn (β : Type) := (List (List UInt8 × Int)) → (List (Int × (Int × (Int × Int)))) → (List zq0) → (List (Int × (Int × Int))) → (List (Int × (Int × Int))) → Option β
abbrev zqno := {β : Type} → zqnm β → zqnn β → (List zq0) → Int → Int → (List (List UInt8 × Int)) → (List (Int × (Int × (Int × Int)))) → (List zq0) → (List (Int × (Int × Int))) → (List (Int × (Int × Int))) → Option β
def zqnp : View := ⟨0, [1, 4, 18, 19, 20], [(false, [.ptr 0 0]), (false, [.rowh 1]), (false, [.data (.slice zq1)]), (false, [.data (.int .i64)]), (false, [.data (.int .i64)])], [.cells 32 [.data (.slice (.prod .str (.int .i64))), .data (.slice (.prod (.int .i64) (.prod (.int .i64) (.prod (.int .i64) (.int .i64))))), .data (.slice zq1), .data (.slice (.prod (.int .i64) (.prod (.int .i64) (.int .i64))))], .row 122 (.prod (.int .i64) (.prod (.int .i64) (.int .i64)))]⟩
def zqnq : List (AExit × View) := [(.ret, ⟨0, [2, 3], [(false, [.rowh 0]), (false, [.data .bool])], [.row 122 (.prod (.int .i64) (.prod (.int .i64) (.int .i64)))]⟩), (.exit 0, ⟨0, [1, 4], [(false, [.ptr 0 0]), (false, [.rowh 1])], [.cells 32 [.data (.slice (.prod .str (.int .i64))), .data (.slice (.prod (.int .i64) (.prod (.int .i64) (.prod (.int .i64) (.int .i64))))), .data (.slice zq1), .data (.slice (.prod (.int .i64) (.prod (.int .i64) (.int .i64))))], .row 122 (.prod (.int .i64) (.prod (.int .i64) (.int .i64)))]⟩)]
@[reducible] def order_Constraints_p1_G (p : zqno) {β : Type} (d : zqnp.den) (ks : Outs.K β zqnq) : Option β :=
  p (fun a0 a1 => ks.1 (((), (a0, ()), ()), (a1, ()))) (fun a0 a1 a2 a3 a4 => ks.2.1 (((), (), ()), ((a0, a1, a2, a3, ()), a4, ()))) d.1.2.2.1.1 d.1.2.2.2.1.1 d.1.2.2.2.2.1.1 d.2.1.1 d.2.1.2.1 d.2.1.2.2.1 d.2.1.2.2.2.1 d.2.2.1
abbrev zqnr (β : Type) := (List zq0) → Int → Int → (List (List UInt8 × Int)) → (List (Int × (Int × (Int × Int)))) → (List zq0) → (List (Int × (Int × Int))) → (List (Int × (Int × Int))) → Option β
abbrev zqns := {β : Type} → zqnr β → Int → Int → (List zq0) → Int → Int → (List (List UInt8 × Int)) → (List (Int × (Int × (Int × Int)))) → (List zq0) → (List (Int × (Int × Int))) → (List (Int × (Int × Int))) → Int → Int → (List UInt8) → Option β
def zqnt : View := ⟨0, [1, 4, 9, 10, 11, 52, 53, 54], [(false, [.ptr 0 0]), (false, [.rowh 1]), (false, [.data (.int .i64)]), (false, [.ptr 2 0]), (false, [.data (.int .i64)]), (false, [.data (.slice zq1)]), (false, [.data (.int .i64)]), (false, [.data (.int .i64)])], [.cells 32 [.data (.slice (.prod .str (.int .i64))), .data (.slice (.prod (.int .i64) (.prod (.int .i64) (.prod (.int .i64) (.int .i64))))), .data (.slice zq1), .data (.slice (.prod (.int .i64) (.prod (.int .i64) (.int .i64))))], .row 122 (.prod (.int .i64) (.prod (.int .i64) (.int .i64))), .cells 60 [.data (.int .i64), .data (.int .i64), .data .str]]⟩
def zqnu : List (AExit × View) := [(.exit 4, ⟨0, [1, 4, 52, 53, 54], [(false, [.ptr 0 0]), (false, [.rowh 1]), (false, [.data (.slice zq1)]), (false, [.data (.int .i64)]), (false, [.data (.int .i64)])], [.cells 32 [.data (.slice (.prod .str (.int .i64))), .data (.slice (.prod (.int .i64) (.prod (.int .i64) (.prod (.int .i64) (.int .i64))))), .data (.slice zq1), .data (.slice (.prod (.int .i64) (.prod (.int .i64) (.int .i64))))], .row 122 (.prod (.int .i64) (.prod (.int .i64) (.int .i64)))]⟩)]
@[reducible] def order_Constraints_p2_G (p : zqns) {β : Type} (d : zqnt.den) (ks : Outs.K β zqnu) : Option β :=
  p (fun a0 a1 a2 a3 a4 a5 a6 a7 => ks.1 (((), (), (a0, ()), (a1, ()), (a2, ()), ()), ((a3, a4, a5, a6, ()), a7, ()))) d.1.2.2.1.1 d.1.2.2.2.2.1.1 d.1.2.2.2.2.2.1.1 d.1.2.2.2.2.2.2.1.1 d.1.2.2.2.2.2.2.2.1.1 d.2.1.1 d.2.1.2.1 d.2.1.2.2.1 d.2.1.2.2.2.1 d.2.2.1 d.2.2.2.1.1 d.2.2.2.1.2.1 d.2.2.2.1.2.2.1
abbrev zqnv (β : Type) := (List (List UInt8 × Int)) → (List (Int × (Int × (Int × Int)))) → (List zq0) → (List (Int × (Int × Int))) → (List (Int × (Int × Int))) → Option β
abbrev zqnw := {β : Type} → zqnv β → (List zq0) → Int → Int → (List (List UInt8 × Int)) → (List (Int × (Int × (Int × Int)))) → (List zq0) → (List (Int × (Int × Int))) → (List (Int × (Int × Int))) → Option β
def zqnx : View := ⟨0, [1, 4, 52, 53, 54], [(false, [.ptr 0 0]), (false, [.rowh 1]), (false, [.data (.slice zq1)]), (false, [.data (.int .i64)]), (false, [.data (.int .i64)])], [.cells 32 [.data (.slice (.prod .str (.int .i64))), .data (.slice (.prod (.int .i64) (.prod (.int .i64) (.prod (.int .i64) (.int .i64))))), .data (.slice zq1), .data (.slice (.prod (.int .i64) (.prod (.int .i64) (.int .i64))))], .row 122 (.prod (.int .i64) (.prod (.int .i64) (.int .i64)))]⟩
def zqny : List (AExit × View) := [(.exit 2, ⟨0, [1, 4], [(false, [.ptr 0 0]), (false, [.rowh 1])], [.cells 32 [.data (.slice (.prod .str (.int .i64))), .data (.slice (.prod (.int .i64) (.prod (.int .i64) (.prod (.int .i64) (.int .i64))))), .data (.slice zq1), .data (.slice (.prod (.int .i64) (.prod (.int .i64) (.int .i64))))], .row 122 (.prod (.int .i64) (.prod (.int .i64) (.int .i64)))]⟩)]
@[reducible] def order_Constraints_p3_G (p : zqnw) {β : Type} (d : zqnx.den) (ks : Outs.K β zqny) : Option β :=
  p (fun a0 a1 a2 a3 a4 => ks.1 (((), (), ()), ((a0, a1, a2, a3, ()), a4, ()))) d.1.2.2.1.1 d.1.2.2.2.1.1 d.1.2.2.2.2.1.1 d.2.1.1 d.2.1.2.1 d.2.1.2.2.1 d.2.1.2.2.2.1 d.2.2.1
abbrev zqnz (β : Type) := (List (Int × (Int × Int))) → Option β
abbrev zqo0 := {β : Type} → zqnz β → (List (Int × (Int × Int))) → Int → Int → (List (Int × (Int × Int))) → Option β
def zqo1 : View := ⟨0, [4, 85, 86, 87], [(false, [.rowh 0]), (false, [.data (.slice (.prod (.int .i64) (.prod (.int .i64) (.int .i64))))]), (false, [.data (.int .i64)]), (false, [.data (.int .i64)])], [.row 122 (.prod (.int .i64) (.prod (.int .i64) (.int .i64)))]⟩
def zqo2 : List (AExit × View) := [(.exit 6, ⟨0, [4], [(false, [.rowh 0])], [.row 122 (.prod (.int .i64) (.prod (.int .i64) (.int .i64)))]⟩)]
@[reducible] def order_Constraints_p4_G (p : zqo0) {β : Type} (d : zqo1.den) (ks : Outs.K β zqo2) : Option β :=
  p (fun a0 => ks.1 (((), ()), (a0, ()))) d.1.2.1.1 d.1.2.2.1.1 d.1.2.2.2.1.1 d.2.1
section
variable (c_clock_Valid : zqgf) (c_clock_When : zqlj) (c_order_pair : zqjn)
@[reducible] def order_Constraints_X : Ctx := ⟨look tab, pick1 [(33, .spec (zqgg c_clock_Valid)), (81, .spec (zqlk c_clock_When)), (82, .spec (zqjo c_order_pair))], false, false, false, false⟩
def zqo3 {β : Type} (rec : (List zq0) → Int → Int → (List (List UInt8 × Int)) → (List (Int × (Int × (Int × Int)))) → (List zq0) → (List (Int × (Int × Int))) → (List (Int × (Int × Int))) → Option β) (k1 : zqnm β) (k2 : zqnn β) (t18 : List zq0) (t19 : Int) (t20 : Int) (r_ : List (List UInt8 × Int)) (r_2 : List (Int × (Int × (Int × Int)))) (r_3 : List zq0) (r_4 : List (Int × (Int × Int))) (out : List (Int × (Int × Int))) : Option β :=
  cond (decide (t20 < t19))
  (cond (decide (0 ≤ t20) && decide (t20 < (List.length t18 : Int)))
  (let e : zq0 := List.getD t18 (Int.toNat t20) ((0 : Int), ((0 : Int), ([] : List UInt8)));
  c_clock_When (r_, (r_2, (r_3, r_4))) e.1 e.2.1 (fun (rWhen : (Int × Int)) (rWhen2 : Bool) =>
  cond (!rWhen2)
  (k1 false ([] : List (Int × (Int × Int))))
  (let l : List (Int × (Int × Int)) := ([((0 : Int), ((IntKind.i64.wrap (t20 + (1 : Int))), rWhen.2)), ((IntKind.i64.wrap (t20 + (1 : Int))), ((0 : Int), (IntKind.i64.wrap (0 - rWhen.1))))] : List (Int × (Int × Int)));
  cond (decide ((List.length out + List.length l) * 24 ≤ roomMax))
  (let l2 : List (Int × (Int × Int)) := (out ++ l);
  rec t18 t19 (IntKind.i64.wrap (t20 + (1 : Int))) r_ r_2 r_3 r_4 l2)
  none)))
  none)
  (k2 r_ r_2 r_3 r_4 out)
def zqo4 {β : Type} : Nat → zqnm β → zqnn β → (List zq0) → Int → Int → (List (List UInt8 × Int)) → (List (Int × (Int × (Int × Int)))) → (List zq0) → (List (Int × (Int × Int))) → (List (Int × (Int × Int))) → Option β
  | 0 => fun _ _ _ _ _ _ _ _ _ _ => none
  | i + 1 => fun k1 k2 t18 t19 t20 r_ r_2 r_3 r_4 out => zqo3 c_clock_When (zqo4 i k1 k2) k1 k2 t18 t19 t20 r_ r_2 r_3 r_4 out
theorem zqo5 (hΓ : ΓOk Tryz.prog (order_Constraints_X c_clock_Valid c_clock_When c_order_pair).Γ) (i : Nat) : PieceOk Tryz.prog 106 0 order_Constraints_p1_code zqnp zqnq (order_Constraints_p1_G (zqo4 c_clock_When i)) := by
  rw [show order_Constraints_p1_code = .loop (loopBody order_Constraints_p1_code) by kernel_rfl]
  exact piece_loop (X := (order_Constraints_X c_clock_Valid c_clock_When c_order_pair)) (p := 1) (Λ := pick1 []) (G := fun i => @fun β d ks => order_Constraints_p1_G (zqo4 c_clock_When i) d ks) mixed tab_ok hΓ rfl (by kernel_rfl) CutsOk_nil (fun _ _ => rfl) (fun i => @fun β d ks r h => Eq.trans (b := order_Constraints_p1_G (zqo4 c_clock_When (i + 1)) d ks) (by kernel_rfl) h) i
def zqo6 {β : Type} (rec : Int → Int → (List zq0) → Int → Int → (List (List UInt8 × Int)) → (List (Int × (Int × (Int × Int)))) → (List zq0) → (List (Int × (Int × Int))) → (List (Int × (Int × Int))) → Int → Int → (List UInt8) → Option β) (k1 : zqnr β) (i_ : Int) (j : Int) (t52 : List zq0) (t53 : Int) (t54 : Int) (r_ : List (List UInt8 × Int)) (r_2 : List (Int × (Int × (Int × Int)))) (r_3 : List zq0) (r_4 : List (Int × (Int × Int))) (out : List (Int × (Int × Int))) (a : Int) (a2 : Int) (a3 : List UInt8) : Option β :=
  cond (decide (j < (List.length r_3 : Int)))
  (cond (decide (0 ≤ j) && decide (j < (List.length r_3 : Int)))
  (let e : zq0 := List.getD r_3 (Int.toNat j) ((0 : Int), ((0 : Int), ([] : List UInt8)));
  cond (decide (e.1 = a))
  (c_order_pair (r_, (r_2, (r_3, r_4))) i_ j (fun (lrpair : List (Int × (Int × Int))) =>
  cond (decide ((List.length out + List.length lrpair) * 24 ≤ roomMax))
  (let l : List (Int × (Int × Int)) := (out ++ lrpair);
  let j2 : Int := (IntKind.i64.wrap (j + (1 : Int)));
  rec i_ j2 t52 t53 t54 r_ r_2 r_3 r_4 l a a2 a3)
  none))
  (let j2 : Int := (IntKind.i64.wrap (j + (1 : Int)));
  rec i_ j2 t52 t53 t54 r_ r_2 r_3 r_4 out a a2 a3))
  none)
  (k1 t52 t53 t54 r_ r_2 r_3 r_4 out)
def zqo7 {β : Type} : Nat → zqnr β → Int → Int → (List zq0) → Int → Int → (List (List UInt8 × Int)) → (List (Int × (Int × (Int × Int)))) → (List zq0) → (List (Int × (Int × Int))) → (List (Int × (Int × Int))) → Int → Int → (List UInt8) → Option β
  | 0 => fun _ _ _ _ _ _ _ _ _ _ _ _ _ _ => none
  | i + 1 => fun k1 i_ j t52 t53 t54 r_ r_2 r_3 r_4 out a a2 a3 => zqo6 c_order_pair (zqo7 i k1) k1 i_ j t52 t53 t54 r_ r_2 r_3 r_4 out a a2 a3
theorem zqo8 (hΓ : ΓOk Tryz.prog (order_Constraints_X c_clock_Valid c_clock_When c_order_pair).Γ) (i : Nat) : PieceOk Tryz.prog 106 0 order_Constraints_p2_code zqnt zqnu (order_Constraints_p2_G (zqo7 c_order_pair i)) := by
  rw [show order_Constraints_p2_code = .loop (loopBody order_Constraints_p2_code) by kernel_rfl]
  exact piece_loop (X := (order_Constraints_X c_clock_Valid c_clock_When c_order_pair)) (p := 1) (Λ := pick1 []) (G := fun i => @fun β d ks => order_Constraints_p2_G (zqo7 c_order_pair i) d ks) mixed tab_ok hΓ rfl (by kernel_rfl) CutsOk_nil (fun _ _ => rfl) (fun i => @fun β d ks r h => Eq.trans (b := order_Constraints_p2_G (zqo7 c_order_pair (i + 1)) d ks) (by kernel_rfl) h) i
def zqo9 (p2 : zqns) {β : Type} (rec : (List zq0) → Int → Int → (List (List UInt8 × Int)) → (List (Int × (Int × (Int × Int)))) → (List zq0) → (List (Int × (Int × Int))) → (List (Int × (Int × Int))) → Option β) (k1 : zqnv β) (t52 : List zq0) (t53 : Int) (t54 : Int) (r_ : List (List UInt8 × Int)) (r_2 : List (Int × (Int × (Int × Int)))) (r_3 : List zq0) (r_4 : List (Int × (Int × Int))) (out : List (Int × (Int × Int))) : Option β :=
  cond (decide (t54 < t53))
  (cond (decide (0 ≤ t54) && decide (t54 < (List.length t52 : Int)))
  (let e : zq0 := List.getD t52 (Int.toNat t54) ((0 : Int), ((0 : Int), ([] : List UInt8)));
  let j : Int := (IntKind.i64.wrap (t54 + (1 : Int)));
  p2 (fun (t522 : List zq0) (t532 : Int) (t542 : Int) (r_5 : List (List UInt8 × Int)) (r_6 : List (Int × (Int × (Int × Int)))) (r_7 : List zq0) (r_8 : List (Int × (Int × Int))) (out2 : List (Int × (Int × Int))) =>
  rec t522 t532 (IntKind.i64.wrap (t542 + (1 : Int))) r_5 r_6 r_7 r_8 out2) t54 j t52 t53 t54 r_ r_2 r_3 r_4 out e.1 e.2.1 e.2.2)
  none)
  (k1 r_ r_2 r_3 r_4 out)
def zqoa (p2 : zqns) {β : Type} : Nat → zqnv β → (List zq0) → Int → Int → (List (List UInt8 × Int)) → (List (Int × (Int × (Int × Int)))) → (List zq0) → (List (Int × (Int × Int))) → (List (Int × (Int × Int))) → Option β
  | 0 => fun _ _ _ _ _ _ _ _ _ => none
  | i + 1 => fun k1 t52 t53 t54 r_ r_2 r_3 r_4 out => zqo9 p2 (zqoa p2 i k1) k1 t52 t53 t54 r_ r_2 r_3 r_4 out
theorem zqob (hΓ : ΓOk Tryz.prog (order_Constraints_X c_clock_Valid c_clock_When c_order_pair).Γ) (p2 : zqns) (hp2 : PieceOk Tryz.prog 106 0 order_Constraints_p2_code zqnt zqnu (order_Constraints_p2_G p2)) (i : Nat) : PieceOk Tryz.prog 106 0 order_Constraints_p3_code zqnx zqny (order_Constraints_p3_G (zqoa p2 i)) := by
  rw [show order_Constraints_p3_code = .loop (loopBody order_Constraints_p3_code) by kernel_rfl]
  exact piece_loop (X := (order_Constraints_X c_clock_Valid c_clock_When c_order_pair)) (p := 1) (Λ := pick1 [(230, pieceCut zqnt zqnu (order_Constraints_p2_G p2))]) (G := fun i => @fun β d ks => order_Constraints_p3_G (zqoa p2 i) d ks) mixed tab_ok hΓ rfl (by kernel_rfl) (CutsOk_cons (q := 230) (c' := order_Constraints_p2_code) (by kernel_rfl) rfl hp2 CutsOk_nil) (fun _ _ => rfl) (fun i => @fun β d ks r h => Eq.trans (b := order_Constraints_p3_G (zqoa p2 (i + 1)) d ks) (by kernel_rfl) h) i
def zqoc {β : Type} (rec : (List (Int × (Int × Int))) → Int → Int → (List (Int × (Int × Int))) → Option β) (k1 : zqnz β) (t85 : List (Int × (Int × Int))) (t86 : Int) (t87 : Int) (out : List (Int × (Int × Int))) : Option β :=
  cond (decide (t87 < t86))
  (cond (decide (0 ≤ t87) && decide (t87 < (List.length t85 : Int)))
  (let e : (Int × (Int × Int)) := List.getD t85 (Int.toNat t87) ((0 : Int), ((0 : Int), (0 : Int)));
  let l : List (Int × (Int × Int)) := ([((IntKind.i64.wrap (e.2.1 + (1 : Int))), ((IntKind.i64.wrap (e.1 + (1 : Int))), (IntKind.i64.wrap (0 - e.2.2))))] : List (Int × (Int × Int)));
  cond (decide ((List.length out + List.length l) * 24 ≤ roomMax))
  (let l2 : List (Int × (Int × Int)) := (out ++ l);
  rec t85 t86 (IntKind.i64.wrap (t87 + (1 : Int))) l2)
  none)
  none)
  (k1 out)
def zqod {β : Type} : Nat → zqnz β → (List (Int × (Int × Int))) → Int → Int → (List (Int × (Int × Int))) → Option β
  | 0 => fun _ _ _ _ _ => none
  | i + 1 => fun k1 t85 t86 t87 out => zqoc (zqod i k1) k1 t85 t86 t87 out
theorem zqoe (hΓ : ΓOk Tryz.prog (order_Constraints_X c_clock_Valid c_clock_When c_order_pair).Γ) (i : Nat) : PieceOk Tryz.prog 106 0 order_Constraints_p4_code zqo1 zqo2 (order_Constraints_p4_G (zqod i)) := by
  rw [show order_Constraints_p4_code = .loop (loopBody order_Constraints_p4_code) by kernel_rfl]
  exact piece_loop (X := (order_Constraints_X c_clock_Valid c_clock_When c_order_pair)) (p := 1) (Λ := pick1 []) (G := fun i => @fun β d ks => order_Constraints_p4_G (zqod i) d ks) mixed tab_ok hΓ rfl (by kernel_rfl) CutsOk_nil (fun _ _ => rfl) (fun i => @fun β d ks r h => Eq.trans (b := order_Constraints_p4_G (zqod (i + 1)) d ks) (by kernel_rfl) h) i
def zqof (p1 : zqno) (p3 : zqnw) (p4 : zqo0) {β : Type} (r_ : zq2) (k : (Bool → (List (Int × (Int × Int))) → Option β)) : Option β :=
  c_clock_Valid r_ (fun (rValid : Bool) =>
  cond (!rValid)
  (k false ([] : List (Int × (Int × Int))))
  (p1 (fun (t3 : Bool) (t2 : List (Int × (Int × Int))) =>
  k t3 t2) (fun (r_2 : List (List UInt8 × Int)) (r_3 : List (Int × (Int × (Int × Int)))) (r_4 : List zq0) (r_5 : List (Int × (Int × Int))) (out : List (Int × (Int × Int))) =>
  p3 (fun (r_6 : List (List UInt8 × Int)) (r_7 : List (Int × (Int × (Int × Int)))) (r_8 : List zq0) (r_9 : List (Int × (Int × Int))) (out2 : List (Int × (Int × Int))) =>
  p4 (fun (out3 : List (Int × (Int × Int))) =>
  k true out3) r_9 (List.length r_9 : Int) (0 : Int) out2) r_4 (List.length r_4 : Int) (0 : Int) r_2 r_3 r_4 r_5 out) r_.2.2.1 (List.length r_.2.2.1 : Int) (0 : Int) r_.1 r_.2.1 r_.2.2.1 r_.2.2.2 ([] : List (Int × (Int × Int)))))
theorem zqog (hΓ : ΓOk Tryz.prog (order_Constraints_X c_clock_Valid c_clock_When c_order_pair).Γ) (p1 : zqno) (p3 : zqnw) (p4 : zqo0) (hp1 : PieceOk Tryz.prog 106 0 order_Constraints_p1_code zqnp zqnq (order_Constraints_p1_G p1)) (hp3 : PieceOk Tryz.prog 106 0 order_Constraints_p3_code zqnx zqny (order_Constraints_p3_G p3)) (hp4 : PieceOk Tryz.prog 106 0 order_Constraints_p4_code zqo1 zqo2 (order_Constraints_p4_G p4)) : SpecOk Tryz.prog 68 (zqnl (zqof c_clock_Valid p1 p3 p4)) :=
  spec_exec (X := (order_Constraints_X c_clock_Valid c_clock_When c_order_pair)) (Λ := pick1 [(122, pieceCut zqnp zqnq (order_Constraints_p1_G p1)), (250, pieceCut zqnx zqny (order_Constraints_p3_G p3)), (506, pieceCut zqo1 zqo2 (order_Constraints_p4_G p4))]) (rs := [.tmp 2, .tmp 3]) (c := bodyOf Tryz.f68) mixed tab_ok hΓ Tryz.func68 (by kernel_rfl) (by kernel_rfl) (by kernel_rfl) (by kernel_rfl) (CutsOk_cons (q := 122) (c' := order_Constraints_p1_code) (by kernel_rfl) rfl hp1 (CutsOk_cons (q := 250) (c' := order_Constraints_p3_code) (by kernel_rfl) rfl hp3 (CutsOk_cons (q := 506) (c' := order_Constraints_p4_code) (by kernel_rfl) rfl hp4 CutsOk_nil))) (fun x k r h => Eq.trans (b := (zqnl (zqof c_clock_Valid p1 p3 p4)).run x k) (by kernel_rfl) h)
end
theorem zqohΓ : ΓOk Tryz.prog (pick1 [(33, .spec (zqgg zqhw)), (81, .spec (zqlk zqlz)), (82, .spec (zqjo zqk1))]) := (ΓOk_cons zqhx (ΓOk_cons zqm0 (ΓOk_cons zqk2 ΓOk_nil)))
def zqoi (m : Nat) : zqno := zqo4 zqlz m
theorem zqoj {β : Type} (i : Nat) (k1 k2 t18 t19 t20 r_ r_2 r_3 r_4 out) : (zqoi (i + 1) k1 k2 t18 t19 t20 r_ r_2 r_3 r_4 out : Option β) = zqo3 zqlz (zqoi i k1 k2) k1 k2 t18 t19 t20 r_ r_2 r_3 r_4 out := rfl
def zqok : zqno := zqoi fuel
theorem zqol : PieceOk Tryz.prog 106 0 order_Constraints_p1_code zqnp zqnq (order_Constraints_p1_G zqok) := zqo5 zqhw zqlz zqk1 zqohΓ fuel
def zqom (m : Nat) : zqns := zqo7 zqk1 m
theorem zqon {β : Type} (i : Nat) (k1 i_ j t52 t53 t54 r_ r_2 r_3 r_4 out a a2 a3) : (zqom (i + 1) k1 i_ j t52 t53 t54 r_ r_2 r_3 r_4 out a a2 a3 : Option β) = zqo6 zqk1 (zqom i k1) k1 i_ j t52 t53 t54 r_ r_2 r_3 r_4 out a a2 a3 := rfl
def zqoo : zqns := zqom fuel
theorem zqop : PieceOk Tryz.prog 106 0 order_Constraints_p2_code zqnt zqnu (order_Constraints_p2_G zqoo) := zqo8 zqhw zqlz zqk1 zqohΓ fuel
def zqoq (m : Nat) : zqnw := zqoa zqoo m
theorem zqor {β : Type} (i : Nat) (k1 t52 t53 t54 r_ r_2 r_3 r_4 out) : (zqoq (i + 1) k1 t52 t53 t54 r_ r_2 r_3 r_4 out : Option β) = zqo9 zqoo (zqoq i k1) k1 t52 t53 t54 r_ r_2 r_3 r_4 out := rfl
def zqos : zqnw := zqoq fuel
theorem zqot : PieceOk Tryz.prog 106 0 order_Constraints_p3_code zqnx zqny (order_Constraints_p3_G zqos) := zqob zqhw zqlz zqk1 zqohΓ zqoo zqop fuel
def zqou (m : Nat) : zqo0 := zqod m
theorem zqov {β : Type} (i : Nat) (k1 t85 t86 t87 out) : (zqou (i + 1) k1 t85 t86 t87 out : Option β) = zqoc (zqou i k1) k1 t85 t86 t87 out := rfl
def zqow : zqo0 := zqou fuel
theorem zqox : PieceOk Tryz.prog 106 0 order_Constraints_p4_code zqo1 zqo2 (order_Constraints_p4_G zqow) := zqoe zqhw zqlz zqk1 zqohΓ fuel
def zqoy : zqnk := zqof zqhw zqok zqos zqow
theorem zqoz : SpecOk Tryz.prog 68 (zqnl zqoy) := zqog zqhw zqlz zqk1 zqohΓ zqok zqos zqow zqol zqot zqox

/-- slices.ContainsFunc[[]pagewatch/api.Diff,pagewatch/api.Diff] -/
abbrev zqp0 := {β : Type} → (List (Int × (Int × Int))) → Int → (Bool → Int → Option β) → Option β
def zqp1 (c : zqp0) : Spec :=
  ⟨[(false, [.data (.slice (.prod (.int .i64) (.prod (.int .i64) (.int .i64))))]), (false, [.fn 106 [0]])], [.cells 3 [.data (.int .i64)]], [(false, [.data .bool])], [.cells 3 [.data (.int .i64)]], fun x k => c x.1.1.1 x.2.1.1 (fun r0 r1 => k (((r0, ()), ()), ((r1, ()), ())))⟩
section
variable (c_slices_IndexFunc_api_Diff_api_Diff_vconstraint_Valid_f1 : zqm1)
@[reducible] def slices_ContainsFunc_api_Diff_api_Diff_vconstraint_Valid_f1_X : Ctx := ⟨look tab, pick1 [(118, .spec (zqm2 c_slices_IndexFunc_api_Diff_api_Diff_vconstraint_Valid_f1))], false, false, false, false⟩
def zqp2 {β : Type} (s : List (Int × (Int × Int))) (b0_ : Int) (k : (Bool → Int → Option β)) : Option β :=
  c_slices_IndexFunc_api_Diff_api_Diff_vconstraint_Valid_f1 s b0_ (fun (rDiff : Int) (mrDiff : Int) =>
  let t : Bool := (decide ((0 : Int) ≤ rDiff));
  k t mrDiff)
theorem zqp3 (hΓ : ΓOk Tryz.prog (slices_ContainsFunc_api_Diff_api_Diff_vconstraint_Valid_f1_X c_slices_IndexFunc_api_Diff_api_Diff_vconstraint_Valid_f1).Γ) : SpecOk Tryz.prog 105 (zqp1 (zqp2 c_slices_IndexFunc_api_Diff_api_Diff_vconstraint_Valid_f1)) :=
  spec_exec (X := (slices_ContainsFunc_api_Diff_api_Diff_vconstraint_Valid_f1_X c_slices_IndexFunc_api_Diff_api_Diff_vconstraint_Valid_f1)) (Λ := pick1 []) (rs := [.tmp 4]) (c := bodyOf Tryz.f105) mixed tab_ok hΓ Tryz.func105 (by kernel_rfl) (by kernel_rfl) (by kernel_rfl) (by kernel_rfl) CutsOk_nil (fun x k r h => Eq.trans (b := (zqp1 (zqp2 c_slices_IndexFunc_api_Diff_api_Diff_vconstraint_Valid_f1)).run x k) (by kernel_rfl) h)
end
theorem zqp4Γ : ΓOk Tryz.prog (pick1 [(118, .spec (zqm2 zqmi))]) := (ΓOk_cons zqmj ΓOk_nil)
def zqp5 : zqp0 := zqp2 zqmi
theorem zqp6 : SpecOk Tryz.prog 105 (zqp1 zqp5) := zqp3 zqmi zqp4Γ

/-- pagewatch/constraint.Valid -/
abbrev zqp7 := {β : Type} → Int → (List (Int × (Int × Int))) → (Bool → Option β) → Option β
def zqp8 (c : zqp7) : Spec :=
  ⟨[(false, [.data (.int .i64)]), (false, [.data (.slice (.prod (.int .i64) (.prod (.int .i64) (.int .i64))))])], [], [(false, [.data .bool])], [], fun x k => c x.1.1.1 x.1.2.1.1 (fun r0 => k (((r0, ()), ()), ()))⟩
section
variable (c_constraint_in : zq9u) (c_slices_ContainsFunc_api_Diff_api_Diff_vconstraint_Valid_f1 : zqp0)
@[reducible] def constraint_Valid_X : Ctx := ⟨look tab, pick1 [(104, .spec (zq9v c_constraint_in)), (105, .spec (zqp1 c_slices_ContainsFunc_api_Diff_api_Diff_vconstraint_Valid_f1))], false, false, false, false⟩
def zqp9 {β : Type} (n : Int) (l : List (Int × (Int × Int))) (k : (Bool → Option β)) : Option β :=
  c_constraint_in n (1 : Int) (41 : Int) (fun (rin : Bool) =>
  cond (!rin)
  (k false)
  (cond (decide ((4000 : Int) < (List.length l : Int)))
  (k false)
  (c_slices_ContainsFunc_api_Diff_api_Diff_vconstraint_Valid_f1 l n (fun (rDiff : Bool) (mrDiff : Int) =>
  k (!rDiff)))))
theorem zqpa (hΓ : ΓOk Tryz.prog (constraint_Valid_X c_constraint_in c_slices_ContainsFunc_api_Diff_api_Diff_vconstraint_Valid_f1).Γ) : SpecOk Tryz.prog 83 (zqp8 (zqp9 c_constraint_in c_slices_ContainsFunc_api_Diff_api_Diff_vconstraint_Valid_f1)) :=
  spec_exec (X := (constraint_Valid_X c_constraint_in c_slices_ContainsFunc_api_Diff_api_Diff_vconstraint_Valid_f1)) (Λ := pick1 []) (rs := [.tmp 4]) (c := bodyOf Tryz.f83) mixed tab_ok hΓ Tryz.func83 (by kernel_rfl) (by kernel_rfl) (by kernel_rfl) (by kernel_rfl) CutsOk_nil (fun x k r h => Eq.trans (b := (zqp8 (zqp9 c_constraint_in c_slices_ContainsFunc_api_Diff_api_Diff_vconstraint_Valid_f1)).run x k) (by kernel_rfl) h)
end
theorem zqpbΓ : ΓOk Tryz.prog (pick1 [(104, .spec (zq9v zq9z)), (105, .spec (zqp1 zqp5))]) := (ΓOk_cons zqa0 (ΓOk_cons zqp6 ΓOk_nil))
def zqpc : zqp7 := zqp9 zq9z zqp5
theorem zqpd : SpecOk Tryz.prog 83 (zqp8 zqpc) := zqpa zq9z zqp5 zqpbΓ

/-- pagewatch/constraint.Close -/
abbrev zqpe := {β : Type} → Int → (List (Int × (Int × Int))) → ((List (List Int)) → Bool → Option β) → Option β
def zqpf (c : zqpe) : Spec :=
  ⟨[(false, [.data (.int .i64)]), (false, [.data (.slice (.prod (.int .i64) (.prod (.int .i64) (.int .i64))))])], [], [(false, [.data (.slice (.slice (.int .i64)))]), (false, [.data .bool])], [], fun x k => c x.1.1.1 x.1.2.1.1 (fun r0 r1 => k (((r0, ()), (r1, ()), ()), ()))⟩
noncomputable def constraint_Close_p1_code : Code := codeAt 122 (bodyOf Tryz.f69)
noncomputable def constraint_Close_p5_code : Code := codeAt 250 (bodyOf Tryz.f69)
noncomputable def constraint_Close_p6_code : Code := codeAt 506 (bodyOf Tryz.f69)
noncomputable def constraint_Close_p4_code : Code := codeAt 458 (loopBody constraint_Close_p5_code)
noncomputable def constraint_Close_p3_code : Code := codeAt 230 (loopBody constraint_Close_p4_code)
noncomputable def constraint_Close_p2_code : Code := codeAt 115 (loopBody constraint_Close_p3_code)
abbrev zqpg (β : Type) := Int → (List (List Int)) → Option β
abbrev zqph := {β : Type} → zqpg β → Int → Int → Int → (List (List Int)) → Option β
def zqpi : View := ⟨0, [0, 6, 19, 20], [(false, [.data (.int .i64)]), (false, [.math 0]), (false, [.data (.int .i64)]), (false, [.data (.int .i64)])], [.mat 22 3 (.int .i64)]⟩
def zqpj : List (AExit × View) := [(.exit 0, ⟨0, [0, 6], [(false, [.data (.int .i64)]), (false, [.math 0])], [.mat 22 3 (.int .i64)]⟩)]
@[reducible] def constraint_Close_p1_G (p : zqph) {β : Type} (d : zqpi.den) (ks : Outs.K β zqpj) : Option β :=
  p (fun a0 a1 => ks.1 (((a0, ()), (), ()), (a1, ()))) d.1.1.1 d.1.2.2.1.1 d.1.2.2.2.1.1 d.2.1
abbrev zqpk (β : Type) := Int → Int → Int → Int → Int → Int → Int → Int → Int → (List (List Int)) → Option β
abbrev zqpl := {β : Type} → zqpk β → Int → Int → Int → Int → Int → Int → Int → Int → Int → Int → Bool → (List (List Int)) → Option β
def zqpm : View := ⟨0, [0, 6, 8, 9, 10, 38, 39, 42, 43, 46, 47, 67], [(false, [.data (.int .i64)]), (false, [.math 0]), (false, [.data (.int .i64)]), (false, [.data (.int .i64)]), (false, [.data (.int .i64)]), (false, [.data (.int .i64)]), (false, [.data (.int .i64)]), (false, [.data (.int .i64)]), (false, [.data (.int .i64)]), (false, [.data (.int .i64)]), (false, [.data (.int .i64)]), (false, [.data .bool])], [.mat 22 3 (.int .i64)]⟩
def zqpn : List (AExit × View) := [(.normal, ⟨0, [0, 6, 8, 9, 38, 39, 42, 43, 46, 47], [(false, [.data (.int .i64)]), (false, [.math 0]), (false, [.data (.int .i64)]), (false, [.data (.int .i64)]), (false, [.data (.int .i64)]), (false, [.data (.int .i64)]), (false, [.data (.int .i64)]), (false, [.data (.int .i64)]), (false, [.data (.int .i64)]), (false, [.data (.int .i64)])], [.mat 22 3 (.int .i64)]⟩)]
@[reducible] def constraint_Close_p2_G (p : zqpl) {β : Type} (d : zqpm.den) (ks : Outs.K β zqpn) : Option β :=
  p (fun a0 a1 a2 a3 a4 a5 a6 a7 a8 a9 => ks.1 (((a0, ()), (), (a1, ()), (a2, ()), (a3, ()), (a4, ()), (a5, ()), (a6, ()), (a7, ()), (a8, ()), ()), (a9, ()))) d.1.1.1 d.1.2.2.1.1 d.1.2.2.2.1.1 d.1.2.2.2.2.1.1 d.1.2.2.2.2.2.1.1 d.1.2.2.2.2.2.2.1.1 d.1.2.2.2.2.2.2.2.1.1 d.1.2.2.2.2.2.2.2.2.1.1 d.1.2.2.2.2.2.2.2.2.2.1.1 d.1.2.2.2.2.2.2.2.2.2.2.1.1 d.1.2.2.2.2.2.2.2.2.2.2.2.1.1 d.2.1
abbrev zqpo (β : Type) := Int → Int → Int → Int → Int → Int → (List (List Int)) → Option β
abbrev zqpp := {β : Type} → zqpo β → Int → Int → Int → Int → Int → Int → Int → Int → Int → (List (List Int)) → Option β
def zqpq : View := ⟨0, [0, 6, 8, 9, 38, 39, 42, 43, 46, 47], [(false, [.data (.int .i64)]), (false, [.math 0]), (false, [.data (.int .i64)]), (false, [.data (.int .i64)]), (false, [.data (.int .i64)]), (false, [.data (.int .i64)]), (false, [.data (.int .i64)]), (false, [.data (.int .i64)]), (false, [.data (.int .i64)]), (false, [.data (.int .i64)])], [.mat 22 3 (.int .i64)]⟩
def zqpr : List (AExit × View) := [(.exit 6, ⟨0, [0, 6, 8, 38, 39, 42, 43], [(false, [.data (.int .i64)]), (false, [.math 0]), (false, [.data (.int .i64)]), (false, [.data (.int .i64)]), (false, [.data (.int .i64)]), (false, [.data (.int .i64)]), (false, [.data (.int .i64)])], [.mat 22 3 (.int .i64)]⟩)]
@[reducible] def constraint_Close_p3_G (p : zqpp) {β : Type} (d : zqpq.den) (ks : Outs.K β zqpr) : Option β :=
  p (fun a0 a1 a2 a3 a4 a5 a6 => ks.1 (((a0, ()), (), (a1, ()), (a2, ()), (a3, ()), (a4, ()), (a5, ()), ()), (a6, ()))) d.1.1.1 d.1.2.2.1.1 d.1.2.2.2.1.1 d.1.2.2.2.2.1.1 d.1.2.2.2.2.2.1.1 d.1.2.2.2.2.2.2.1.1 d.1.2.2.2.2.2.2.2.1.1 d.1.2.2.2.2.2.2.2.2.1.1 d.1.2.2.2.2.2.2.2.2.2.1.1 d.2.1
abbrev zqps (β : Type) := Int → Int → Int → Int → (List (List Int)) → Option β
abbrev zqpt := {β : Type} → zqps β → Int → Int → Int → Int → Int → Int → (List (List Int)) → Option β
def zqpu : View := ⟨0, [0, 6, 8, 38, 39, 42, 43], [(false, [.data (.int .i64)]), (false, [.math 0]), (false, [.data (.int .i64)]), (false, [.data (.int .i64)]), (false, [.data (.int .i64)]), (false, [.data (.int .i64)]), (false, [.data (.int .i64)])], [.mat 22 3 (.int .i64)]⟩
def zqpv : List (AExit × View) := [(.exit 4, ⟨0, [0, 6, 8, 38, 39], [(false, [.data (.int .i64)]), (false, [.math 0]), (false, [.data (.int .i64)]), (false, [.data (.int .i64)]), (false, [.data (.int .i64)])], [.mat 22 3 (.int .i64)]⟩)]
@[reducible] def constraint_Close_p4_G (p : zqpt) {β : Type} (d : zqpu.den) (ks : Outs.K β zqpv) : Option β :=
  p (fun a0 a1 a2 a3 a4 => ks.1 (((a0, ()), (), (a1, ()), (a2, ()), (a3, ()), ()), (a4, ()))) d.1.1.1 d.1.2.2.1.1 d.1.2.2.2.1.1 d.1.2.2.2.2.1.1 d.1.2.2.2.2.2.1.1 d.1.2.2.2.2.2.2.1.1 d.2.1
abbrev zqpw (β : Type) := Bool → (List (List Int)) → Option β
abbrev zqpx (β : Type) := Int → (List (List Int)) → Option β
abbrev zqpy := {β : Type} → zqpw β → zqpx β → Int → Int → Int → (List (List Int)) → Option β
def zqpz : View := ⟨0, [0, 6, 38, 39], [(false, [.data (.int .i64)]), (false, [.math 0]), (false, [.data (.int .i64)]), (false, [.data (.int .i64)])], [.mat 22 3 (.int .i64)]⟩
def zqq0 : List (AExit × View) := [(.ret, ⟨0, [4, 5], [(false, [.math 0]), (false, [.data .bool])], [.mat 22 3 (.int .i64)]⟩), (.exit 2, ⟨0, [0, 6], [(false, [.data (.int .i64)]), (false, [.math 0])], [.mat 22 3 (.int .i64)]⟩)]
@[reducible] def constraint_Close_p5_G (p : zqpy) {β : Type} (d : zqpz.den) (ks : Outs.K β zqq0) : Option β :=
  p (fun a0 a1 => ks.1 (((), (a0, ()), ()), (a1, ()))) (fun a0 a1 => ks.2.1 (((a0, ()), (), ()), (a1, ()))) d.1.1.1 d.1.2.2.1.1 d.1.2.2.2.1.1 d.2.1
abbrev zqq1 (β : Type) := Bool → (List (List Int)) → Option β
abbrev zqq2 (β : Type) := (List (List Int)) → Option β
abbrev zqq3 := {β : Type} → zqq1 β → zqq2 β → Int → Int → (List (List Int)) → Option β
def zqq4 : View := ⟨0, [6, 108, 109], [(false, [.math 0]), (false, [.data (.int .i64)]), (false, [.data (.int .i64)])], [.mat 22 3 (.int .i64)]⟩
def zqq5 : List (AExit × View) := [(.ret, ⟨0, [4, 5], [(false, [.math 0]), (false, [.data .bool])], [.mat 22 3 (.int .i64)]⟩), (.exit 8, ⟨0, [6], [(false, [.math 0])], [.mat 22 3 (.int .i64)]⟩)]
@[reducible] def constraint_Close_p6_G (p : zqq3) {β : Type} (d : zqq4.den) (ks : Outs.K β zqq5) : Option β :=
  p (fun a0 a1 => ks.1 (((), (a0, ()), ()), (a1, ()))) (fun a0 => ks.2.1 (((), ()), (a0, ()))) d.1.2.1.1 d.1.2.2.1.1 d.2.1
section
variable (c_constraint_Valid : zqp7) (c_constraint_direct : zq8c)
@[reducible] def constraint_Close_X : Ctx := ⟨look tab, pick1 [(83, .spec (zqp8 c_constraint_Valid)), (84, .spec (zq8d c_constraint_direct))], true, false, false, false⟩
def zqq6 {β : Type} (rec : Int → Int → Int → (List (List Int)) → Option β) (k1 : zqpg β) (n : Int) (t19 : Int) (t20 : Int) (m : List (List Int)) : Option β :=
  cond (decide (t20 < t19))
  (cond (decide (0 ≤ t20) && decide (t20 < (List.length m : Int)))
  (cond (decide (0 ≤ t20) && decide (t20 < (List.length m : Int)))
  (cond (decide (0 ≤ t20) && decide (t20 < (List.length (List.getD m (Int.toNat t20) []) : Int)))
  (cond (decide (0 ≤ t20) && decide (t20 < (List.length (List.getD m (Int.toNat t20) []) : Int)))
  (let m_ : List (List Int) := (List.set m (Int.toNat t20) (List.set (List.getD m (Int.toNat t20) []) (Int.toNat t20) (if (0 : Int) < (List.getD (List.getD m (Int.toNat t20) []) (Int.toNat t20) (0 : Int)) then (0 : Int) else (List.getD (List.getD m (Int.toNat t20) []) (Int.toNat t20) (0 : Int)))));
  rec n t19 (IntKind.i64.wrap (t20 + (1 : Int))) m_)
  none)
  none)
  none)
  none)
  (k1 n m)
def zqq7 {β : Type} : Nat → zqpg β → Int → Int → Int → (List (List Int)) → Option β
  | 0 => fun _ _ _ _ _ => none
  | i + 1 => fun k1 n t19 t20 m => zqq6 (zqq7 i k1) k1 n t19 t20 m
theorem zqq8 (hΓ : ΓOk Tryz.prog (constraint_Close_X c_constraint_Valid c_constraint_direct).Γ) (i : Nat) : PieceOk Tryz.prog 122 0 constraint_Close_p1_code zqpi zqpj (constraint_Close_p1_G (zqq7 i)) := by
  rw [show constraint_Close_p1_code = .loop (loopBody constraint_Close_p1_code) by kernel_rfl]
  exact piece_loop (X := (constraint_Close_X c_constraint_Valid c_constraint_direct)) (p := 1) (Λ := pick1 []) (G := fun i => @fun β d ks => constraint_Close_p1_G (zqq7 i) d ks) mixed tab_ok hΓ rfl (by kernel_rfl) CutsOk_nil (fun _ _ => rfl) (fun i => @fun β d ks r h => Eq.trans (b := constraint_Close_p1_G (zqq7 (i + 1)) d ks) (by kernel_rfl) h) i
def zqq9 {β : Type} (k1 : zqpk β) (n : Int) (k_ : Int) (i_ : Int) (j : Int) (t38 : Int) (t39 : Int) (t42 : Int) (t43 : Int) (t46 : Int) (t47 : Int) (t67 : Bool) (m : List (List Int)) : Option β :=
  cond t67
  (cond (decide (0 ≤ i_) && decide (i_ < (List.length m : Int)))
  (cond (decide (0 ≤ i_) && decide (i_ < (List.length m : Int)))
  (cond (decide (0 ≤ j) && decide (j < (List.length (List.getD m (Int.toNat i_) []) : Int)))
  (cond (decide (0 ≤ i_) && decide (i_ < (List.length m : Int)))
  (cond (decide (0 ≤ k_) && decide (k_ < (List.length (List.getD m (Int.toNat i_) []) : Int)))
  (cond (decide (0 ≤ k_) && decide (k_ < (List.length m : Int)))
  (cond (decide (0 ≤ j) && decide (j < (List.length (List.getD m (Int.toNat k_) []) : Int)))
  (cond (decide (0 ≤ j) && decide (j < (List.length (List.getD m (Int.toNat i_) []) : Int)))
  (let m_ : List (List Int) := (List.set m (Int.toNat i_) (List.set (List.getD m (Int.toNat i_) []) (Int.toNat j) (if (IntKind.i64.wrap ((List.getD (List.getD m (Int.toNat i_) []) (Int.toNat k_) (0 : Int)) + (List.getD (List.getD m (Int.toNat k_) []) (Int.toNat j) (0 : Int)))) < (List.getD (List.getD m (Int.toNat i_) []) (Int.toNat j) (0 : Int)) then (IntKind.i64.wrap ((List.getD (List.getD m (Int.toNat i_) []) (Int.toNat k_) (0 : Int)) + (List.getD (List.getD m (Int.toNat k_) []) (Int.toNat j) (0 : Int)))) else (List.getD (List.getD m (Int.toNat i_) []) (Int.toNat j) (0 : Int)))));
  k1 n k_ i_ t38 t39 t42 t43 t46 t47 m_)
  none)
  none)
  none)
  none)
  none)
  none)
  none)
  none)
  (k1 n k_ i_ t38 t39 t42 t43 t46 t47 m)
def zqqa {β : Type} (k1 : zqpk β) (n : Int) (k_ : Int) (i_ : Int) (j : Int) (t38 : Int) (t39 : Int) (t42 : Int) (t43 : Int) (t46 : Int) (t47 : Int) (t67 : Bool) (m : List (List Int)) : Option β := zqq9 k1 n k_ i_ j t38 t39 t42 t43 t46 t47 t67 m
theorem zqqb (hΓ : ΓOk Tryz.prog (constraint_Close_X c_constraint_Valid c_constraint_direct).Γ) : PieceOk Tryz.prog 122 0 constraint_Close_p2_code zqpm zqpn (constraint_Close_p2_G (zqqa)) :=
  piece_exec (X := (constraint_Close_X c_constraint_Valid c_constraint_direct)) (p := 115) (Λ := pick1 []) mixed tab_ok hΓ (by kernel_rfl) CutsOk_nil (fun d ks r h => Eq.trans (b := constraint_Close_p2_G (zqqa) d ks) (by kernel_rfl) h)
def zqqc (p2 : zqpl) {β : Type} (rec : Int → Int → Int → Int → Int → Int → Int → Int → Int → (List (List Int)) → Option β) (k1 : zqpo β) (n : Int) (k_ : Int) (i_ : Int) (t38 : Int) (t39 : Int) (t42 : Int) (t43 : Int) (t46 : Int) (t47 : Int) (m : List (List Int)) : Option β :=
  cond (decide (t47 < t46))
  (cond (decide (0 ≤ i_) && decide (i_ < (List.length m : Int)))
  (cond (decide (0 ≤ k_) && decide (k_ < (List.length (List.getD m (Int.toNat i_) []) : Int)))
  (cond (!decide ((List.getD (List.getD m (Int.toNat i_) []) (Int.toNat k_) (0 : Int)) = (1099511627776 : Int)))
  (cond (decide (0 ≤ k_) && decide (k_ < (List.length m : Int)))
  (cond (decide (0 ≤ t47) && decide (t47 < (List.length (List.getD m (Int.toNat k_) []) : Int)))
  (p2 (fun (n2 : Int) (k_2 : Int) (i_2 : Int) (t382 : Int) (t392 : Int) (t422 : Int) (t432 : Int) (t462 : Int) (t472 : Int) (m2 : List (List Int)) =>
  rec n2 k_2 i_2 t382 t392 t422 t432 t462 (IntKind.i64.wrap (t472 + (1 : Int))) m2) n k_ i_ t47 t38 t39 t42 t43 t46 t47 (!decide ((List.getD (List.getD m (Int.toNat k_) []) (Int.toNat t47) (0 : Int)) = (1099511627776 : Int))) m)
  none)
  none)
  (p2 (fun (n2 : Int) (k_2 : Int) (i_2 : Int) (t382 : Int) (t392 : Int) (t422 : Int) (t432 : Int) (t462 : Int) (t472 : Int) (m2 : List (List Int)) =>
  rec n2 k_2 i_2 t382 t392 t422 t432 t462 (IntKind.i64.wrap (t472 + (1 : Int))) m2) n k_ i_ t47 t38 t39 t42 t43 t46 t47 false m))
  none)
  none)
  (k1 n k_ t38 t39 t42 t43 m)
def zqqd (p2 : zqpl) {β : Type} : Nat → zqpo β → Int → Int → Int → Int → Int → Int → Int → Int → Int → (List (List Int)) → Option β
  | 0 => fun _ _ _ _ _ _ _ _ _ _ _ => none
  | i + 1 => fun k1 n k_ i_ t38 t39 t42 t43 t46 t47 m => zqqc p2 (zqqd p2 i k1) k1 n k_ i_ t38 t39 t42 t43 t46 t47 m
theorem zqqe (hΓ : ΓOk Tryz.prog (constraint_Close_X c_constraint_Valid c_constraint_direct).Γ) (p2 : zqpl) (hp2 : PieceOk Tryz.prog 122 0 constraint_Close_p2_code zqpm zqpn (constraint_Close_p2_G p2)) (i : Nat) : PieceOk Tryz.prog 122 0 constraint_Close_p3_code zqpq zqpr (constraint_Close_p3_G (zqqd p2 i)) := by
  rw [show constraint_Close_p3_code = .loop (loopBody constraint_Close_p3_code) by kernel_rfl]
  exact piece_loop (X := (constraint_Close_X c_constraint_Valid c_constraint_direct)) (p := 1) (Λ := pick1 [(115, pieceCut zqpm zqpn (constraint_Close_p2_G p2))]) (G := fun i => @fun β d ks => constraint_Close_p3_G (zqqd p2 i) d ks) mixed tab_ok hΓ rfl (by kernel_rfl) (CutsOk_cons (q := 115) (c' := constraint_Close_p2_code) (by kernel_rfl) rfl hp2 CutsOk_nil) (fun _ _ => rfl) (fun i => @fun β d ks r h => Eq.trans (b := constraint_Close_p3_G (zqqd p2 (i + 1)) d ks) (by kernel_rfl) h) i
def zqqf (p3 : zqpp) {β : Type} (rec : Int → Int → Int → Int → Int → Int → (List (List Int)) → Option β) (k1 : zqps β) (n : Int) (k_ : Int) (t38 : Int) (t39 : Int) (t42 : Int) (t43 : Int) (m : List (List Int)) : Option β :=
  cond (decide (t43 < t42))
  (p3 (fun (n2 : Int) (k_2 : Int) (t382 : Int) (t392 : Int) (t422 : Int) (t432 : Int) (m2 : List (List Int)) =>
  rec n2 k_2 t382 t392 t422 (IntKind.i64.wrap (t432 + (1 : Int))) m2) n k_ t43 t38 t39 t42 t43 n (0 : Int) m)
  (k1 n k_ t38 t39 m)
def zqqg (p3 : zqpp) {β : Type} : Nat → zqps β → Int → Int → Int → Int → Int → Int → (List (List Int)) → Option β
  | 0 => fun _ _ _ _ _ _ _ _ => none
  | i + 1 => fun k1 n k_ t38 t39 t42 t43 m => zqqf p3 (zqqg p3 i k1) k1 n k_ t38 t39 t42 t43 m
theorem zqqh (hΓ : ΓOk Tryz.prog (constraint_Close_X c_constraint_Valid c_constraint_direct).Γ) (p3 : zqpp) (hp3 : PieceOk Tryz.prog 122 0 constraint_Close_p3_code zqpq zqpr (constraint_Close_p3_G p3)) (i : Nat) : PieceOk Tryz.prog 122 0 constraint_Close_p4_code zqpu zqpv (constraint_Close_p4_G (zqqg p3 i)) := by
  rw [show constraint_Close_p4_code = .loop (loopBody constraint_Close_p4_code) by kernel_rfl]
  exact piece_loop (X := (constraint_Close_X c_constraint_Valid c_constraint_direct)) (p := 1) (Λ := pick1 [(230, pieceCut zqpq zqpr (constraint_Close_p3_G p3))]) (G := fun i => @fun β d ks => constraint_Close_p4_G (zqqg p3 i) d ks) mixed tab_ok hΓ rfl (by kernel_rfl) (CutsOk_cons (q := 230) (c' := constraint_Close_p3_code) (by kernel_rfl) rfl hp3 CutsOk_nil) (fun _ _ => rfl) (fun i => @fun β d ks r h => Eq.trans (b := constraint_Close_p4_G (zqqg p3 (i + 1)) d ks) (by kernel_rfl) h) i
def zqqi (p4 : zqpt) {β : Type} (rec : Int → Int → Int → (List (List Int)) → Option β) (k1 : zqpw β) (k2 : zqpx β) (n : Int) (t38 : Int) (t39 : Int) (m : List (List Int)) : Option β :=
  cond (decide (t39 < t38))
  (p4 (fun (n2 : Int) (k_ : Int) (t382 : Int) (t392 : Int) (m2 : List (List Int)) =>
  cond (decide (0 ≤ k_) && decide (k_ < (List.length m2 : Int)))
  (cond (decide (0 ≤ k_) && decide (k_ < (List.length (List.getD m2 (Int.toNat k_) []) : Int)))
  (cond (decide ((List.getD (List.getD m2 (Int.toNat k_) []) (Int.toNat k_) (0 : Int)) < (0 : Int)))
  (k1 false ([] : List (List Int)))
  (rec n2 t382 (IntKind.i64.wrap (t392 + (1 : Int))) m2))
  none)
  none) n t39 t38 t39 n (0 : Int) m)
  (k2 n m)
def zqqj (p4 : zqpt) {β : Type} : Nat → zqpw β → zqpx β → Int → Int → Int → (List (List Int)) → Option β
  | 0 => fun _ _ _ _ _ _ => none
  | i + 1 => fun k1 k2 n t38 t39 m => zqqi p4 (zqqj p4 i k1 k2) k1 k2 n t38 t39 m
theorem zqqk (hΓ : ΓOk Tryz.prog (constraint_Close_X c_constraint_Valid c_constraint_direct).Γ) (p4 : zqpt) (hp4 : PieceOk Tryz.prog 122 0 constraint_Close_p4_code zqpu zqpv (constraint_Close_p4_G p4)) (i : Nat) : PieceOk Tryz.prog 122 0 constraint_Close_p5_code zqpz zqq0 (constraint_Close_p5_G (zqqj p4 i)) := by
  rw [show constraint_Close_p5_code = .loop (loopBody constraint_Close_p5_code) by kernel_rfl]
  exact piece_loop (X := (constraint_Close_X c_constraint_Valid c_constraint_direct)) (p := 1) (Λ := pick1 [(458, pieceCut zqpu zqpv (constraint_Close_p4_G p4))]) (G := fun i => @fun β d ks => constraint_Close_p5_G (zqqj p4 i) d ks) mixed tab_ok hΓ rfl (by kernel_rfl) (CutsOk_cons (q := 458) (c' := constraint_Close_p4_code) (by kernel_rfl) rfl hp4 CutsOk_nil) (fun _ _ => rfl) (fun i => @fun β d ks r h => Eq.trans (b := constraint_Close_p5_G (zqqj p4 (i + 1)) d ks) (by kernel_rfl) h) i
def zqql {β : Type} (rec : Int → Int → (List (List Int)) → Option β) (k1 : zqq1 β) (k2 : zqq2 β) (t108 : Int) (t109 : Int) (m : List (List Int)) : Option β :=
  cond (decide (t109 < t108))
  (cond (decide (0 ≤ t109) && decide (t109 < (List.length m : Int)))
  (cond (decide (0 ≤ t109) && decide (t109 < (List.length (List.getD m (Int.toNat t109) []) : Int)))
  (cond (decide ((List.getD (List.getD m (Int.toNat t109) []) (Int.toNat t109) (0 : Int)) < (0 : Int)))
  (k1 false ([] : List (List Int)))
  (rec t108 (IntKind.i64.wrap (t109 + (1 : Int))) m))
  none)
  none)
  (k2 m)
def zqqm {β : Type} : Nat → zqq1 β → zqq2 β → Int → Int → (List (List Int)) → Option β
  | 0 => fun _ _ _ _ _ => none
  | i + 1 => fun k1 k2 t108 t109 m => zqql (zqqm i k1 k2) k1 k2 t108 t109 m
theorem zqqn (hΓ : ΓOk Tryz.prog (constraint_Close_X c_constraint_Valid c_constraint_direct).Γ) (i : Nat) : PieceOk Tryz.prog 122 0 constraint_Close_p6_code zqq4 zqq5 (constraint_Close_p6_G (zqqm i)) := by
  rw [show constraint_Close_p6_code = .loop (loopBody constraint_Close_p6_code) by kernel_rfl]
  exact piece_loop (X := (constraint_Close_X c_constraint_Valid c_constraint_direct)) (p := 1) (Λ := pick1 []) (G := fun i => @fun β d ks => constraint_Close_p6_G (zqqm i) d ks) mixed tab_ok hΓ rfl (by kernel_rfl) CutsOk_nil (fun _ _ => rfl) (fun i => @fun β d ks r h => Eq.trans (b := constraint_Close_p6_G (zqqm (i + 1)) d ks) (by kernel_rfl) h) i
def zqqo (p1 : zqph) (p5 : zqpy) (p6 : zqq3) {β : Type} (n : Int) (l : List (Int × (Int × Int))) (k : ((List (List Int)) → Bool → Option β)) : Option β :=
  c_constraint_Valid n l (fun (rValid : Bool) =>
  cond (!rValid)
  (k ([] : List (List Int)) false)
  (c_constraint_direct n l (fun (lrdirect : List (List Int)) =>
  p1 (fun (n2 : Int) (m : List (List Int)) =>
  p5 (fun (t5 : Bool) (t4 : List (List Int)) =>
  k t4 t5) (fun (n3 : Int) (m2 : List (List Int)) =>
  p6 (fun (t5 : Bool) (t4 : List (List Int)) =>
  k t4 t5) (fun (m3 : List (List Int)) =>
  k m3 true) n3 (0 : Int) m2) n2 n2 (0 : Int) m) n n (0 : Int) lrdirect)))
theorem zqqp (hΓ : ΓOk Tryz.prog (constraint_Close_X c_constraint_Valid c_constraint_direct).Γ) (p1 : zqph) (p5 : zqpy) (p6 : zqq3) (hp1 : PieceOk Tryz.prog 122 0 constraint_Close_p1_code zqpi zqpj (constraint_Close_p1_G p1)) (hp5 : PieceOk Tryz.prog 122 0 constraint_Close_p5_code zqpz zqq0 (constraint_Close_p5_G p5)) (hp6 : PieceOk Tryz.prog 122 0 constraint_Close_p6_code zqq4 zqq5 (constraint_Close_p6_G p6)) : SpecOk Tryz.prog 69 (zqpf (zqqo c_constraint_Valid c_constraint_direct p1 p5 p6)) :=
  spec_exec (X := (constraint_Close_X c_constraint_Valid c_constraint_direct)) (Λ := pick1 [(122, pieceCut zqpi zqpj (constraint_Close_p1_G p1)), (250, pieceCut zqpz zqq0 (constraint_Close_p5_G p5)), (506, pieceCut zqq4 zqq5 (constraint_Close_p6_G p6))]) (rs := [.tmp 4, .tmp 5]) (c := bodyOf Tryz.f69) mixed tab_ok hΓ Tryz.func69 (by kernel_rfl) (by kernel_rfl) (by kernel_rfl) (by kernel_rfl) (CutsOk_cons (q := 122) (c' := constraint_Close_p1_code) (by kernel_rfl) rfl hp1 (CutsOk_cons (q := 250) (c' := constraint_Close_p5_code) (by kernel_rfl) rfl hp5 (CutsOk_cons (q := 506) (c' := constraint_Close_p6_code) (by kernel_rfl) rfl hp6 CutsOk_nil))) (fun x k r h => Eq.trans (b := (zqpf (zqqo c_constraint_Valid c_constraint_direct p1 p5 p6)).run x k) (by kernel_rfl) h)
end
theorem zqqqΓ : ΓOk Tryz.prog (pick1 [(83, .spec (zqp8 zqpc)), (84, .spec (zq8d zq9e))]) := (ΓOk_cons zqpd (ΓOk_cons zq9f ΓOk_nil))
def zqqr (m : Nat) : zqph := zqq7 m
theorem zqqs {β : Type} (i : Nat) (k1 n t19 t20 m) : (zqqr (i + 1) k1 n t19 t20 m : Option β) = zqq6 (zqqr i k1) k1 n t19 t20 m := rfl
def zqqt : zqph := zqqr fuel
theorem zqqu : PieceOk Tryz.prog 122 0 constraint_Close_p1_code zqpi zqpj (constraint_Close_p1_G zqqt) := zqq8 zqpc zq9e zqqqΓ fuel
def zqqv : zqpl := zqqa
theorem zqqw : PieceOk Tryz.prog 122 0 constraint_Close_p2_code zqpm zqpn (constraint_Close_p2_G zqqv) := zqqb zqpc zq9e zqqqΓ
def zqqx (m : Nat) : zqpp := zqqd zqqv m
theorem zqqy {β : Type} (i : Nat) (k1 n k_ i_ t38 t39 t42 t43 t46 t47 m) : (zqqx (i + 1) k1 n k_ i_ t38 t39 t42 t43 t46 t47 m : Option β) = zqqc zqqv (zqqx i k1) k1 n k_ i_ t38 t39 t42 t43 t46 t47 m := rfl
def zqqz : zqpp := zqqx fuel
theorem zqr0 : PieceOk Tryz.prog 122 0 constraint_Close_p3_code zqpq zqpr (constraint_Close_p3_G zqqz) := zqqe zqpc zq9e zqqqΓ zqqv zqqw fuel
def zqr1 (m : Nat) : zqpt := zqqg zqqz m
theorem zqr2 {β : Type} (i : Nat) (k1 n k_ t38 t39 t42 t43 m) : (zqr1 (i + 1) k1 n k_ t38 t39 t42 t43 m : Option β) = zqqf zqqz (zqr1 i k1) k1 n k_ t38 t39 t42 t43 m := rfl
def zqr3 : zqpt := zqr1 fuel
theorem zqr4 : PieceOk Tryz.prog 122 0 constraint_Close_p4_code zqpu zqpv (constraint_Close_p4_G zqr3) := zqqh zqpc zq9e zqqqΓ zqqz zqr0 fuel
def zqr5 (m : Nat) : zqpy := zqqj zqr3 m
theorem zqr6 {β : Type} (i : Nat) (k1 k2 n t38 t39 m) : (zqr5 (i + 1) k1 k2 n t38 t39 m : Option β) = zqqi zqr3 (zqr5 i k1 k2) k1 k2 n t38 t39 m := rfl
def zqr7 : zqpy := zqr5 fuel
theorem zqr8 : PieceOk Tryz.prog 122 0 constraint_Close_p5_code zqpz zqq0 (constraint_Close_p5_G zqr7) := zqqk zqpc zq9e zqqqΓ zqr3 zqr4 fuel
def zqr9 (m : Nat) : zqq3 := zqqm m
theorem zqra {β : Type} (i : Nat) (k1 k2 t108 t109 m) : (zqr9 (i + 1) k1 k2 t108 t109 m : Option β) = zqql (zqr9 i k1 k2) k1 k2 t108 t109 m := rfl
def zqrb : zqq3 := zqr9 fuel
theorem zqrc : PieceOk Tryz.prog 122 0 constraint_Close_p6_code zqq4 zqq5 (constraint_Close_p6_G zqrb) := zqqn zqpc zq9e zqqqΓ fuel
def zqrd : zqpe := zqqo zqpc zq9e zqqt zqr7 zqrb
theorem zqre : SpecOk Tryz.prog 69 (zqpf zqrd) := zqqp zqpc zq9e zqqqΓ zqqt zqr7 zqrb zqqu zqr8 zqrc

/-- pagewatch/order.closed -/
abbrev zqrf := {β : Type} → zq2 → ((List (List Int)) → Bool → Option β) → Option β
def zqrg (c : zqrf) : Spec :=
  ⟨[(true, [.data zq3])], [], [(false, [.data (.slice (.slice (.int .i64)))]), (false, [.data .bool])], [], fun x k => c x.1.1.1 (fun r0 r1 => k (((r0, ()), (r1, ()), ()), ()))⟩
section
variable (c_constraint_Close : zqpe) (c_order_Constraints : zqnk)
@[reducible] def order_closed_X : Ctx := ⟨look tab, pick1 [(69, .spec (zqpf c_constraint_Close)), (68, .spec (zqnl c_order_Constraints))], false, false, false, false⟩
def zqrh {β : Type} (r_ : zq2) (k : ((List (List Int)) → Bool → Option β)) : Option β :=
  c_order_Constraints r_ (fun (rConstraints : Bool) (lrConstraints : List (Int × (Int × Int))) =>
  cond (!rConstraints)
  (k ([] : List (List Int)) false)
  (c_constraint_Close (IntKind.i64.wrap ((List.length r_.2.2.1 : Int) + (1 : Int))) lrConstraints (fun (rClose : List (List Int)) (rClose2 : Bool) =>
  k rClose rClose2)))
theorem zqri (hΓ : ΓOk Tryz.prog (order_closed_X c_constraint_Close c_order_Constraints).Γ) : SpecOk Tryz.prog 44 (zqrg (zqrh c_constraint_Close c_order_Constraints)) :=
  spec_exec (X := (order_closed_X c_constraint_Close c_order_Constraints)) (Λ := pick1 []) (rs := [.tmp 2, .tmp 3]) (c := bodyOf Tryz.f44) mixed tab_ok hΓ Tryz.func44 (by kernel_rfl) (by kernel_rfl) (by kernel_rfl) (by kernel_rfl) CutsOk_nil (fun x k r h => Eq.trans (b := (zqrg (zqrh c_constraint_Close c_order_Constraints)).run x k) (by kernel_rfl) h)
end
theorem zqrjΓ : ΓOk Tryz.prog (pick1 [(69, .spec (zqpf zqrd)), (68, .spec (zqnl zqoy))]) := (ΓOk_cons zqre (ΓOk_cons zqoz ΓOk_nil))
def zqrk : zqrf := zqrh zqrd zqoy
theorem zqrl : SpecOk Tryz.prog 44 (zqrg zqrk) := zqri zqrd zqoy zqrjΓ

/-- pagewatch/order.When -/
abbrev zqrm := {β : Type} → zq2 → (Bool → (List (Int × Int)) → Option β) → Option β
def zqrn (c : zqrm) : Spec :=
  ⟨[(true, [.data zq3])], [], [(false, [.rowh 0]), (false, [.data .bool])], [.row 40 (.prod (.int .i64) (.int .i64))], fun x k => c x.1.1.1 (fun r0 r1 => k (((), (r0, ()), ()), (r1, ())))⟩
noncomputable def order_When_p1_code : Code := codeAt 250 (bodyOf Tryz.f47)
abbrev zqro (β : Type) := (List (Int × Int)) → Option β
abbrev zqrp := {β : Type} → zqro β → (List (List Int)) → Int → Int → (List (Int × Int)) → Option β
def zqrq : View := ⟨0, [4, 6, 17, 18], [(false, [.data (.slice (.slice (.int .i64)))]), (false, [.rowh 0]), (false, [.data (.int .i64)]), (false, [.data (.int .i64)])], [.row 40 (.prod (.int .i64) (.int .i64))]⟩
def zqrr : List (AExit × View) := [(.exit 0, ⟨0, [6], [(false, [.rowh 0])], [.row 40 (.prod (.int .i64) (.int .i64))]⟩)]
@[reducible] def order_When_p1_G (p : zqrp) {β : Type} (d : zqrq.den) (ks : Outs.K β zqrr) : Option β :=
  p (fun a0 => ks.1 (((), ()), (a0, ()))) d.1.1.1 d.1.2.2.1.1 d.1.2.2.2.1.1 d.2.1
section
variable (c_order_closed : zqrf) (c_order_matrix_when : zq6u)
@[reducible] def order_When_X : Ctx := ⟨look tab, pick1 [(44, .spec (zqrg c_order_closed)), (70, .spec (zq6v c_order_matrix_when))], false, false, false, false⟩
def zqrs {β : Type} (rec : (List (List Int)) → Int → Int → (List (Int × Int)) → Option β) (k1 : zqro β) (m : List (List Int)) (t17 : Int) (t18 : Int) (out : List (Int × Int)) : Option β :=
  cond (decide (t18 < t17))
  (c_order_matrix_when m t18 (fun (rwhen : (Int × Int)) =>
  let l : List (Int × Int) := ([rwhen] : List (Int × Int));
  cond (decide ((List.length out + List.length l) * 16 ≤ roomMax))
  (let l2 : List (Int × Int) := (out ++ l);
  rec m t17 (IntKind.i64.wrap (t18 + (1 : Int))) l2)
  none))
  (k1 out)
def zqrt {β : Type} : Nat → zqro β → (List (List Int)) → Int → Int → (List (Int × Int)) → Option β
  | 0 => fun _ _ _ _ _ => none
  | i + 1 => fun k1 m t17 t18 out => zqrs c_order_matrix_when (zqrt i k1) k1 m t17 t18 out
theorem zqru (hΓ : ΓOk Tryz.prog (order_When_X c_order_closed c_order_matrix_when).Γ) (i : Nat) : PieceOk Tryz.prog 29 0 order_When_p1_code zqrq zqrr (order_When_p1_G (zqrt c_order_matrix_when i)) := by
  rw [show order_When_p1_code = .loop (loopBody order_When_p1_code) by kernel_rfl]
  exact piece_loop (X := (order_When_X c_order_closed c_order_matrix_when)) (p := 1) (Λ := pick1 []) (G := fun i => @fun β d ks => order_When_p1_G (zqrt c_order_matrix_when i) d ks) mixed tab_ok hΓ rfl (by kernel_rfl) CutsOk_nil (fun _ _ => rfl) (fun i => @fun β d ks r h => Eq.trans (b := order_When_p1_G (zqrt c_order_matrix_when (i + 1)) d ks) (by kernel_rfl) h) i
def zqrv (p1 : zqrp) {β : Type} (r_ : zq2) (k : (Bool → (List (Int × Int)) → Option β)) : Option β :=
  c_order_closed r_ (fun (rclosed : List (List Int)) (rclosed2 : Bool) =>
  cond (!rclosed2)
  (k false ([] : List (Int × Int)))
  (p1 (fun (out : List (Int × Int)) =>
  k true out) rclosed (List.length r_.2.2.1 : Int) (0 : Int) ([] : List (Int × Int))))
theorem zqrw (hΓ : ΓOk Tryz.prog (order_When_X c_order_closed c_order_matrix_when).Γ) (p1 : zqrp) (hp1 : PieceOk Tryz.prog 29 0 order_When_p1_code zqrq zqrr (order_When_p1_G p1)) : SpecOk Tryz.prog 47 (zqrn (zqrv c_order_closed p1)) :=
  spec_exec (X := (order_When_X c_order_closed c_order_matrix_when)) (Λ := pick1 [(250, pieceCut zqrq zqrr (order_When_p1_G p1))]) (rs := [.tmp 2, .tmp 3]) (c := bodyOf Tryz.f47) mixed tab_ok hΓ Tryz.func47 (by kernel_rfl) (by kernel_rfl) (by kernel_rfl) (by kernel_rfl) (CutsOk_cons (q := 250) (c' := order_When_p1_code) (by kernel_rfl) rfl hp1 CutsOk_nil) (fun x k r h => Eq.trans (b := (zqrn (zqrv c_order_closed p1)).run x k) (by kernel_rfl) h)
end
theorem zqrxΓ : ΓOk Tryz.prog (pick1 [(44, .spec (zqrg zqrk)), (70, .spec (zq6v zq6z))]) := (ΓOk_cons zqrl (ΓOk_cons zq70 ΓOk_nil))
def zqry (m : Nat) : zqrp := zqrt zq6z m
theorem zqrz {β : Type} (i : Nat) (k1 m t17 t18 out) : (zqry (i + 1) k1 m t17 t18 out : Option β) = zqrs zq6z (zqry i k1) k1 m t17 t18 out := rfl
def zqs0 : zqrp := zqry fuel
theorem zqs1 : PieceOk Tryz.prog 29 0 order_When_p1_code zqrq zqrr (order_When_p1_G zqs0) := zqru zqrk zq6z zqrxΓ fuel
def zqs2 : zqrm := zqrv zqrk zqs0
theorem zqs3 : SpecOk Tryz.prog 47 (zqrn zqs2) := zqrw zqrk zq6z zqrxΓ zqs0 zqs1

/-- pagewatch/order.Open -/
abbrev zqs4 := {β : Type} → zq2 → ((List (Int × Int)) → Option β) → Option β
def zqs5 (c : zqs4) : Spec :=
  ⟨[(true, [.data zq3])], [], [(false, [.rowh 0])], [.row 58 (.prod (.int .i64) (.int .i64))], fun x k => c x.1.1.1 (fun r0 => k (((), ()), (r0, ())))⟩
noncomputable def order_Open_p2_code : Code := codeAt 122 (bodyOf Tryz.f48)
noncomputable def order_Open_p1_code : Code := codeAt 230 (loopBody order_Open_p2_code)
abbrev zqs6 (β : Type) := (List (List Int)) → Bool → Int → Int → (List (List UInt8 × Int)) → (List (Int × (Int × (Int × Int)))) → (List zq0) → (List (Int × (Int × Int))) → (List (Int × Int)) → Option β
abbrev zqs7 := {β : Type} → zqs6 β → (List (List Int)) → Bool → Int → Int → Int → Int → (List (List UInt8 × Int)) → (List (Int × (Int × (Int × Int)))) → (List zq0) → (List (Int × (Int × Int))) → (List (Int × Int)) → Option β
def zqs8 : View := ⟨0, [1, 3, 4, 5, 6, 7, 15, 16], [(false, [.ptr 0 0]), (false, [.data (.slice (.slice (.int .i64)))]), (false, [.data .bool]), (false, [.rowh 1]), (false, [.data (.int .i64)]), (false, [.data (.int .i64)]), (false, [.data (.int .i64)]), (false, [.data (.int .i64)])], [.cells 32 [.data (.slice (.prod .str (.int .i64))), .data (.slice (.prod (.int .i64) (.prod (.int .i64) (.prod (.int .i64) (.int .i64))))), .data (.slice zq1), .data (.slice (.prod (.int .i64) (.prod (.int .i64) (.int .i64))))], .row 58 (.prod (.int .i64) (.int .i64))]⟩
def zqs9 : List (AExit × View) := [(.exit 2, ⟨0, [1, 3, 4, 5, 15, 16], [(false, [.ptr 0 0]), (false, [.data (.slice (.slice (.int .i64)))]), (false, [.data .bool]), (false, [.rowh 1]), (false, [.data (.int .i64)]), (false, [.data (.int .i64)])], [.cells 32 [.data (.slice (.prod .str (.int .i64))), .data (.slice (.prod (.int .i64) (.prod (.int .i64) (.prod (.int .i64) (.int .i64))))), .data (.slice zq1), .data (.slice (.prod (.int .i64) (.prod (.int .i64) (.int .i64))))], .row 58 (.prod (.int .i64) (.int .i64))]⟩)]
@[reducible] def order_Open_p1_G (p : zqs7) {β : Type} (d : zqs8.den) (ks : Outs.K β zqs9) : Option β :=
  p (fun a0 a1 a2 a3 a4 a5 a6 a7 a8 => ks.1 (((), (a0, ()), (a1, ()), (), (a2, ()), (a3, ()), ()), ((a4, a5, a6, a7, ()), a8, ()))) d.1.2.1.1 d.1.2.2.1.1 d.1.2.2.2.2.1.1 d.1.2.2.2.2.2.1.1 d.1.2.2.2.2.2.2.1.1 d.1.2.2.2.2.2.2.2.1.1 d.2.1.1 d.2.1.2.1 d.2.1.2.2.1 d.2.1.2.2.2.1 d.2.2.1
abbrev zqsa (β : Type) := (List (Int × Int)) → Option β
abbrev zqsb := {β : Type} → zqsa β → (List (List Int)) → Bool → Int → Int → (List (List UInt8 × Int)) → (List (Int × (Int × (Int × Int)))) → (List zq0) → (List (Int × (Int × Int))) → (List (Int × Int)) → Option β
def zqsc : View := ⟨0, [1, 3, 4, 5, 15, 16], [(false, [.ptr 0 0]), (false, [.data (.slice (.slice (.int .i64)))]), (false, [.data .bool]), (false, [.rowh 1]), (false, [.data (.int .i64)]), (false, [.data (.int .i64)])], [.cells 32 [.data (.slice (.prod .str (.int .i64))), .data (.slice (.prod (.int .i64) (.prod (.int .i64) (.prod (.int .i64) (.int .i64))))), .data (.slice zq1), .data (.slice (.prod (.int .i64) (.prod (.int .i64) (.int .i64))))], .row 58 (.prod (.int .i64) (.int .i64))]⟩
def zqsd : List (AExit × View) := [(.exit 0, ⟨0, [5], [(false, [.rowh 0])], [.row 58 (.prod (.int .i64) (.int .i64))]⟩)]
@[reducible] def order_Open_p2_G (p : zqsb) {β : Type} (d : zqsc.den) (ks : Outs.K β zqsd) : Option β :=
  p (fun a0 => ks.1 (((), ()), (a0, ()))) d.1.2.1.1 d.1.2.2.1.1 d.1.2.2.2.2.1.1 d.1.2.2.2.2.2.1.1 d.2.1.1 d.2.1.2.1 d.2.1.2.2.1 d.2.1.2.2.2.1 d.2.2.1
section
variable (c_order_closed : zqrf) (c_order_matrix_open : zq71)
@[reducible] def order_Open_X : Ctx := ⟨look tab, pick1 [(44, .spec (zqrg c_order_closed)), (71, .spec (zq72 c_order_matrix_open))], false, false, false, false⟩
def zqse {β : Type} (rec : (List (List Int)) → Bool → Int → Int → Int → Int → (List (List UInt8 × Int)) → (List (Int × (Int × (Int × Int)))) → (List zq0) → (List (Int × (Int × Int))) → (List (Int × Int)) → Option β) (k1 : zqs6 β) (m : List (List Int)) (ok : Bool) (a : Int) (b : Int) (t15 : Int) (t16 : Int) (r_ : List (List UInt8 × Int)) (r_2 : List (Int × (Int × (Int × Int)))) (r_3 : List zq0) (r_4 : List (Int × (Int × Int))) (out : List (Int × Int)) : Option β :=
  cond (decide (b < (List.length r_3 : Int)))
  (cond ok
  (c_order_matrix_open m a b (fun (ropen : Bool) =>
  cond ropen
  (let l : List (Int × Int) := ([(a, b)] : List (Int × Int));
  cond (decide ((List.length out + List.length l) * 16 ≤ roomMax))
  (let l2 : List (Int × Int) := (out ++ l);
  let b2 : Int := (IntKind.i64.wrap (b + (1 : Int)));
  rec m ok a b2 t15 t16 r_ r_2 r_3 r_4 l2)
  none)
  (let b2 : Int := (IntKind.i64.wrap (b + (1 : Int)));
  rec m ok a b2 t15 t16 r_ r_2 r_3 r_4 out)))
  (k1 m ok t15 t16 r_ r_2 r_3 r_4 out))
  (k1 m ok t15 t16 r_ r_2 r_3 r_4 out)
def zqsf {β : Type} : Nat → zqs6 β → (List (List Int)) → Bool → Int → Int → Int → Int → (List (List UInt8 × Int)) → (List (Int × (Int × (Int × Int)))) → (List zq0) → (List (Int × (Int × Int))) → (List (Int × Int)) → Option β
  | 0 => fun _ _ _ _ _ _ _ _ _ _ _ _ => none
  | i + 1 => fun k1 m ok a b t15 t16 r_ r_2 r_3 r_4 out => zqse c_order_matrix_open (zqsf i k1) k1 m ok a b t15 t16 r_ r_2 r_3 r_4 out
theorem zqsg (hΓ : ΓOk Tryz.prog (order_Open_X c_order_closed c_order_matrix_open).Γ) (i : Nat) : PieceOk Tryz.prog 43 0 order_Open_p1_code zqs8 zqs9 (order_Open_p1_G (zqsf c_order_matrix_open i)) := by
  rw [show order_Open_p1_code = .loop (loopBody order_Open_p1_code) by kernel_rfl]
  exact piece_loop (X := (order_Open_X c_order_closed c_order_matrix_open)) (p := 1) (Λ := pick1 []) (G := fun i => @fun β d ks => order_Open_p1_G (zqsf c_order_matrix_open i) d ks) mixed tab_ok hΓ rfl (by kernel_rfl) CutsOk_nil (fun _ _ => rfl) (fun i => @fun β d ks r h => Eq.trans (b := order_Open_p1_G (zqsf c_order_matrix_open (i + 1)) d ks) (by kernel_rfl) h) i
def zqsh (p1 : zqs7) {β : Type} (rec : (List (List Int)) → Bool → Int → Int → (List (List UInt8 × Int)) → (List (Int × (Int × (Int × Int)))) → (List zq0) → (List (Int × (Int × Int))) → (List (Int × Int)) → Option β) (k1 : zqsa β) (m : List (List Int)) (ok : Bool) (t15 : Int) (t16 : Int) (r_ : List (List UInt8 × Int)) (r_2 : List (Int × (Int × (Int × Int)))) (r_3 : List zq0) (r_4 : List (Int × (Int × Int))) (out : List (Int × Int)) : Option β :=
  cond (decide (t16 < t15))
  (let b : Int := (IntKind.i64.wrap (t16 + (1 : Int)));
  p1 (fun (m2 : List (List Int)) (ok2 : Bool) (t152 : Int) (t162 : Int) (r_5 : List (List UInt8 × Int)) (r_6 : List (Int × (Int × (Int × Int)))) (r_7 : List zq0) (r_8 : List (Int × (Int × Int))) (out2 : List (Int × Int)) =>
  rec m2 ok2 t152 (IntKind.i64.wrap (t162 + (1 : Int))) r_5 r_6 r_7 r_8 out2) m ok t16 b t15 t16 r_ r_2 r_3 r_4 out)
  (k1 out)
def zqsi (p1 : zqs7) {β : Type} : Nat → zqsa β → (List (List Int)) → Bool → Int → Int → (List (List UInt8 × Int)) → (List (Int × (Int × (Int × Int)))) → (List zq0) → (List (Int × (Int × Int))) → (List (Int × Int)) → Option β
  | 0 => fun _ _ _ _ _ _ _ _ _ _ => none
  | i + 1 => fun k1 m ok t15 t16 r_ r_2 r_3 r_4 out => zqsh p1 (zqsi p1 i k1) k1 m ok t15 t16 r_ r_2 r_3 r_4 out
theorem zqsj (hΓ : ΓOk Tryz.prog (order_Open_X c_order_closed c_order_matrix_open).Γ) (p1 : zqs7) (hp1 : PieceOk Tryz.prog 43 0 order_Open_p1_code zqs8 zqs9 (order_Open_p1_G p1)) (i : Nat) : PieceOk Tryz.prog 43 0 order_Open_p2_code zqsc zqsd (order_Open_p2_G (zqsi p1 i)) := by
  rw [show order_Open_p2_code = .loop (loopBody order_Open_p2_code) by kernel_rfl]
  exact piece_loop (X := (order_Open_X c_order_closed c_order_matrix_open)) (p := 1) (Λ := pick1 [(230, pieceCut zqs8 zqs9 (order_Open_p1_G p1))]) (G := fun i => @fun β d ks => order_Open_p2_G (zqsi p1 i) d ks) mixed tab_ok hΓ rfl (by kernel_rfl) (CutsOk_cons (q := 230) (c' := order_Open_p1_code) (by kernel_rfl) rfl hp1 CutsOk_nil) (fun _ _ => rfl) (fun i => @fun β d ks r h => Eq.trans (b := order_Open_p2_G (zqsi p1 (i + 1)) d ks) (by kernel_rfl) h) i
def zqsk (p2 : zqsb) {β : Type} (r_ : zq2) (k : ((List (Int × Int)) → Option β)) : Option β :=
  c_order_closed r_ (fun (rclosed : List (List Int)) (rclosed2 : Bool) =>
  p2 (fun (out : List (Int × Int)) =>
  k out) rclosed rclosed2 (List.length r_.2.2.1 : Int) (0 : Int) r_.1 r_.2.1 r_.2.2.1 r_.2.2.2 ([] : List (Int × Int)))
theorem zqsl (hΓ : ΓOk Tryz.prog (order_Open_X c_order_closed c_order_matrix_open).Γ) (p2 : zqsb) (hp2 : PieceOk Tryz.prog 43 0 order_Open_p2_code zqsc zqsd (order_Open_p2_G p2)) : SpecOk Tryz.prog 48 (zqs5 (zqsk c_order_closed p2)) :=
  spec_exec (X := (order_Open_X c_order_closed c_order_matrix_open)) (Λ := pick1 [(122, pieceCut zqsc zqsd (order_Open_p2_G p2))]) (rs := [.tmp 2]) (c := bodyOf Tryz.f48) mixed tab_ok hΓ Tryz.func48 (by kernel_rfl) (by kernel_rfl) (by kernel_rfl) (by kernel_rfl) (CutsOk_cons (q := 122) (c' := order_Open_p2_code) (by kernel_rfl) rfl hp2 CutsOk_nil) (fun x k r h => Eq.trans (b := (zqs5 (zqsk c_order_closed p2)).run x k) (by kernel_rfl) h)
end
theorem zqsmΓ : ΓOk Tryz.prog (pick1 [(44, .spec (zqrg zqrk)), (71, .spec (zq72 zq76))]) := (ΓOk_cons zqrl (ΓOk_cons zq77 ΓOk_nil))
def zqsn (m : Nat) : zqs7 := zqsf zq76 m
theorem zqso {β : Type} (i : Nat) (k1 m ok a b t15 t16 r_ r_2 r_3 r_4 out) : (zqsn (i + 1) k1 m ok a b t15 t16 r_ r_2 r_3 r_4 out : Option β) = zqse zq76 (zqsn i k1) k1 m ok a b t15 t16 r_ r_2 r_3 r_4 out := rfl
def zqsp : zqs7 := zqsn fuel
theorem zqsq : PieceOk Tryz.prog 43 0 order_Open_p1_code zqs8 zqs9 (order_Open_p1_G zqsp) := zqsg zqrk zq76 zqsmΓ fuel
def zqsr (m : Nat) : zqsb := zqsi zqsp m
theorem zqss {β : Type} (i : Nat) (k1 m ok t15 t16 r_ r_2 r_3 r_4 out) : (zqsr (i + 1) k1 m ok t15 t16 r_ r_2 r_3 r_4 out : Option β) = zqsh zqsp (zqsr i k1) k1 m ok t15 t16 r_ r_2 r_3 r_4 out := rfl
def zqst : zqsb := zqsr fuel
theorem zqsu : PieceOk Tryz.prog 43 0 order_Open_p2_code zqsc zqsd (order_Open_p2_G zqst) := zqsj zqrk zq76 zqsmΓ zqsp zqsq fuel
def zqsv : zqs4 := zqsk zqrk zqst
theorem zqsw : SpecOk Tryz.prog 48 (zqs5 zqsv) := zqsl zqrk zq76 zqsmΓ zqst zqsu

/-- pagewatch/order.Sort -/
abbrev zqsx := {β : Type} → zq2 → (Bool → (List Int) → Option β) → Option β
def zqsy (c : zqsx) : Spec :=
  ⟨[(true, [.data zq3])], [], [(false, [.rowh 0]), (false, [.data .bool])], [.row 3 (.int .i64)], fun x k => c x.1.1.1 (fun r0 r1 => k (((), (r0, ()), ()), (r1, ())))⟩
noncomputable def order_Sort_p3_code : Code := codeAt 506 (bodyOf Tryz.f24)
noncomputable def order_Sort_p2_code : Code := codeAt 458 (loopBody order_Sort_p3_code)
noncomputable def order_Sort_p1_code : Code := codeAt 922 (loopBody order_Sort_p2_code)
abbrev zqsz (β : Type) := (List (List Int)) → Int → Int → Bool → Int → Int → Int → Int → (List (List UInt8 × Int)) → (List (Int × (Int × (Int × Int)))) → (List zq0) → (List (Int × (Int × Int))) → (List (Int × Bool)) → (List Int) → Option β
abbrev zqt0 := {β : Type} → zqsz β → (List (List Int)) → Int → Int → Bool → Int → Int → Int → Int → Int → Int → (List (List UInt8 × Int)) → (List (Int × (Int × (Int × Int)))) → (List zq0) → (List (Int × (Int × Int))) → (List (Int × Bool)) → (List Int) → Option β
def zqt1 : View := ⟨0, [1, 4, 6, 7, 8, 9, 10, 22, 23, 27, 28, 37, 38], [(false, [.ptr 0 0]), (false, [.data (.slice (.slice (.int .i64)))]), (false, [.maph 1]), (false, [.rowh 2]), (false, [.data (.int .i64)]), (false, [.data (.int .i64)]), (false, [.data .bool]), (false, [.data (.int .i64)]), (false, [.data (.int .i64)]), (false, [.data (.int .i64)]), (false, [.data (.int .i64)]), (false, [.data (.int .i64)]), (false, [.data (.int .i64)])], [.cells 32 [.data (.slice (.prod .str (.int .i64))), .data (.slice (.prod (.int .i64) (.prod (.int .i64) (.prod (.int .i64) (.int .i64))))), .data (.slice zq1), .data (.slice (.prod (.int .i64) (.prod (.int .i64) (.int .i64))))], .map 107 (.int .i64) .bool false, .row 3 (.int .i64)]⟩
def zqt2 : List (AExit × View) := [(.exit 4, ⟨0, [1, 4, 6, 7, 8, 9, 10, 22, 23, 27, 28], [(false, [.ptr 0 0]), (false, [.data (.slice (.slice (.int .i64)))]), (false, [.maph 1]), (false, [.rowh 2]), (false, [.data (.int .i64)]), (false, [.data (.int .i64)]), (false, [.data .bool]), (false, [.data (.int .i64)]), (false, [.data (.int .i64)]), (false, [.data (.int .i64)]), (false, [.data (.int .i64)])], [.cells 32 [.data (.slice (.prod .str (.int .i64))), .data (.slice (.prod (.int .i64) (.prod (.int .i64) (.prod (.int .i64) (.int .i64))))), .data (.slice zq1), .data (.slice (.prod (.int .i64) (.prod (.int .i64) (.int .i64))))], .map 107 (.int .i64) .bool false, .row 3 (.int .i64)]⟩)]
@[reducible] def order_Sort_p1_G (p : zqt0) {β : Type} (d : zqt1.den) (ks : Outs.K β zqt2) : Option β :=
  p (fun a0 a1 a2 a3 a4 a5 a6 a7 a8 a9 a10 a11 a12 a13 => ks.1 (((), (a0, ()), (), (), (a1, ()), (a2, ()), (a3, ()), (a4, ()), (a5, ()), (a6, ()), (a7, ()), ()), ((a8, a9, a10, a11, ()), a12, a13, ()))) d.1.2.1.1 d.1.2.2.2.2.1.1 d.1.2.2.2.2.2.1.1 d.1.2.2.2.2.2.2.1.1 d.1.2.2.2.2.2.2.2.1.1 d.1.2.2.2.2.2.2.2.2.1.1 d.1.2.2.2.2.2.2.2.2.2.1.1 d.1.2.2.2.2.2.2.2.2.2.2.1.1 d.1.2.2.2.2.2.2.2.2.2.2.2.1.1 d.1.2.2.2.2.2.2.2.2.2.2.2.2.1.1 d.2.1.1 d.2.1.2.1 d.2.1.2.2.1 d.2.1.2.2.2.1 d.2.2.1 d.2.2.2.1
abbrev zqt3 (β : Type) := (List (List Int)) → Int → Int → Int → (List (List UInt8 × Int)) → (List (Int × (Int × (Int × Int)))) → (List zq0) → (List (Int × (Int × Int))) → (List (Int × Bool)) → (List Int) → Option β
abbrev zqt4 := {β : Type} → zqt3 β → (List (List Int)) → Int → Int → Int → Int → Int → (List (List UInt8 × Int)) → (List (Int × (Int × (Int × Int)))) → (List zq0) → (List (Int × (Int × Int))) → (List (Int × Bool)) → (List Int) → Option β
def zqt5 : View := ⟨0, [1, 4, 6, 7, 8, 22, 23, 27, 28], [(false, [.ptr 0 0]), (false, [.data (.slice (.slice (.int .i64)))]), (false, [.maph 1]), (false, [.rowh 2]), (false, [.data (.int .i64)]), (false, [.data (.int .i64)]), (false, [.data (.int .i64)]), (false, [.data (.int .i64)]), (false, [.data (.int .i64)])], [.cells 32 [.data (.slice (.prod .str (.int .i64))), .data (.slice (.prod (.int .i64) (.prod (.int .i64) (.prod (.int .i64) (.int .i64))))), .data (.slice zq1), .data (.slice (.prod (.int .i64) (.prod (.int .i64) (.int .i64))))], .map 107 (.int .i64) .bool false, .row 3 (.int .i64)]⟩
def zqt6 : List (AExit × View) := [(.exit 2, ⟨0, [1, 4, 6, 7, 8, 22, 23], [(false, [.ptr 0 0]), (false, [.data (.slice (.slice (.int .i64)))]), (false, [.maph 1]), (false, [.rowh 2]), (false, [.data (.int .i64)]), (false, [.data (.int .i64)]), (false, [.data (.int .i64)])], [.cells 32 [.data (.slice (.prod .str (.int .i64))), .data (.slice (.prod (.int .i64) (.prod (.int .i64) (.prod (.int .i64) (.int .i64))))), .data (.slice zq1), .data (.slice (.prod (.int .i64) (.prod (.int .i64) (.int .i64))))], .map 107 (.int .i64) .bool false, .row 3 (.int .i64)]⟩)]
@[reducible] def order_Sort_p2_G (p : zqt4) {β : Type} (d : zqt5.den) (ks : Outs.K β zqt6) : Option β :=
  p (fun a0 a1 a2 a3 a4 a5 a6 a7 a8 a9 => ks.1 (((), (a0, ()), (), (), (a1, ()), (a2, ()), (a3, ()), ()), ((a4, a5, a6, a7, ()), a8, a9, ()))) d.1.2.1.1 d.1.2.2.2.2.1.1 d.1.2.2.2.2.2.1.1 d.1.2.2.2.2.2.2.1.1 d.1.2.2.2.2.2.2.2.1.1 d.1.2.2.2.2.2.2.2.2.1.1 d.2.1.1 d.2.1.2.1 d.2.1.2.2.1 d.2.1.2.2.2.1 d.2.2.1 d.2.2.2.1
abbrev zqt7 (β : Type) := (List Int) → Option β
abbrev zqt8 := {β : Type} → zqt7 β → (List (List Int)) → Int → Int → (List (List UInt8 × Int)) → (List (Int × (Int × (Int × Int)))) → (List zq0) → (List (Int × (Int × Int))) → (List (Int × Bool)) → (List Int) → Option β
def zqt9 : View := ⟨0, [1, 4, 6, 7, 22, 23], [(false, [.ptr 0 0]), (false, [.data (.slice (.slice (.int .i64)))]), (false, [.maph 1]), (false, [.rowh 2]), (false, [.data (.int .i64)]), (false, [.data (.int .i64)])], [.cells 32 [.data (.slice (.prod .str (.int .i64))), .data (.slice (.prod (.int .i64) (.prod (.int .i64) (.prod (.int .i64) (.int .i64))))), .data (.slice zq1), .data (.slice (.prod (.int .i64) (.prod (.int .i64) (.int .i64))))], .map 107 (.int .i64) .bool false, .row 3 (.int .i64)]⟩
def zqta : List (AExit × View) := [(.exit 0, ⟨0, [7], [(false, [.rowh 0])], [.row 3 (.int .i64)]⟩)]
@[reducible] def order_Sort_p3_G (p : zqt8) {β : Type} (d : zqt9.den) (ks : Outs.K β zqta) : Option β :=
  p (fun a0 => ks.1 (((), ()), (a0, ()))) d.1.2.1.1 d.1.2.2.2.2.1.1 d.1.2.2.2.2.2.1.1 d.2.1.1 d.2.1.2.1 d.2.1.2.2.1 d.2.1.2.2.2.1 d.2.2.1 d.2.2.2.1
section
variable (c_order_closed : zqrf) (c_order_matrix_before : zq32) (c_order_matrix_earlier : zqch)
@[reducible] def order_Sort_X : Ctx := ⟨look tab, pick1 [(44, .spec (zqrg c_order_closed)), (45, .spec (zq33 c_order_matrix_before)), (46, .spec (zqci c_order_matrix_earlier))], false, false, false, false⟩
def zqtb {β : Type} (rec : (List (List Int)) → Int → Int → Bool → Int → Int → Int → Int → Int → Int → (List (List UInt8 × Int)) → (List (Int × (Int × (Int × Int)))) → (List zq0) → (List (Int × (Int × Int))) → (List (Int × Bool)) → (List Int) → Option β) (k1 : zqsz β) (m : List (List Int)) (next : Int) (i_ : Int) (free : Bool) (t22 : Int) (t23 : Int) (t27 : Int) (t28 : Int) (t37 : Int) (t38 : Int) (r_ : List (List UInt8 × Int)) (r_2 : List (Int × (Int × (Int × Int)))) (r_3 : List zq0) (r_4 : List (Int × (Int × Int))) (placed : List (Int × Bool)) (out : List Int) : Option β :=
  cond (decide (t38 < t37))
  (cond free
  (let g : Bool := (mGet (.int .i64) placed t38 false);
  cond g
  (rec m next i_ true t22 t23 t27 t28 t37 (IntKind.i64.wrap (t38 + (1 : Int))) r_ r_2 r_3 r_4 placed out)
  (c_order_matrix_before m t38 i_ (fun (rbefore : Bool) =>
  rec m next i_ (!rbefore) t22 t23 t27 t28 t37 (IntKind.i64.wrap (t38 + (1 : Int))) r_ r_2 r_3 r_4 placed out)))
  (rec m next i_ false t22 t23 t27 t28 t37 (IntKind.i64.wrap (t38 + (1 : Int))) r_ r_2 r_3 r_4 placed out))
  (k1 m next i_ free t22 t23 t27 t28 r_ r_2 r_3 r_4 placed out)
def zqtc {β : Type} : Nat → zqsz β → (List (List Int)) → Int → Int → Bool → Int → Int → Int → Int → Int → Int → (List (List UInt8 × Int)) → (List (Int × (Int × (Int × Int)))) → (List zq0) → (List (Int × (Int × Int))) → (List (Int × Bool)) → (List Int) → Option β
  | 0 => fun _ _ _ _ _ _ _ _ _ _ _ _ _ _ _ _ _ => none
  | i + 1 => fun k1 m next i_ free t22 t23 t27 t28 t37 t38 r_ r_2 r_3 r_4 placed out => zqtb c_order_matrix_before (zqtc i k1) k1 m next i_ free t22 t23 t27 t28 t37 t38 r_ r_2 r_3 r_4 placed out
theorem zqtd (hΓ : ΓOk Tryz.prog (order_Sort_X c_order_closed c_order_matrix_before c_order_matrix_earlier).Γ) (i : Nat) : PieceOk Tryz.prog 76 0 order_Sort_p1_code zqt1 zqt2 (order_Sort_p1_G (zqtc c_order_matrix_before i)) := by
  rw [show order_Sort_p1_code = .loop (loopBody order_Sort_p1_code) by kernel_rfl]
  exact piece_loop (X := (order_Sort_X c_order_closed c_order_matrix_before c_order_matrix_earlier)) (p := 1) (Λ := pick1 []) (G := fun i => @fun β d ks => order_Sort_p1_G (zqtc c_order_matrix_before i) d ks) mixed tab_ok hΓ rfl (by kernel_rfl) CutsOk_nil (fun _ _ => rfl) (fun i => @fun β d ks r h => Eq.trans (b := order_Sort_p1_G (zqtc c_order_matrix_before (i + 1)) d ks) (by kernel_rfl) h) i
def zqte (p1 : zqt0) {β : Type} (rec : (List (List Int)) → Int → Int → Int → Int → Int → (List (List UInt8 × Int)) → (List (Int × (Int × (Int × Int)))) → (List zq0) → (List (Int × (Int × Int))) → (List (Int × Bool)) → (List Int) → Option β) (k1 : zqt3 β) (m : List (List Int)) (next : Int) (t22 : Int) (t23 : Int) (t27 : Int) (t28 : Int) (r_ : List (List UInt8 × Int)) (r_2 : List (Int × (Int × (Int × Int)))) (r_3 : List zq0) (r_4 : List (Int × (Int × Int))) (placed : List (Int × Bool)) (out : List Int) : Option β :=
  cond (decide (t28 < t27))
  (let g : Bool := (mGet (.int .i64) placed t28 false);
  p1 (fun (m2 : List (List Int)) (next2 : Int) (i_ : Int) (free : Bool) (t222 : Int) (t232 : Int) (t272 : Int) (t282 : Int) (r_5 : List (List UInt8 × Int)) (r_6 : List (Int × (Int × (Int × Int)))) (r_7 : List zq0) (r_8 : List (Int × (Int × Int))) (placed2 : List (Int × Bool)) (out2 : List Int) =>
  cond free
  (cond (decide (next2 < (0 : Int)))
  (rec m2 i_ t222 t232 t272 (IntKind.i64.wrap (t282 + (1 : Int))) r_5 r_6 r_7 r_8 placed2 out2)
  (c_order_matrix_earlier m2 i_ next2 (fun (rearlier : Bool) =>
  cond rearlier
  (rec m2 i_ t222 t232 t272 (IntKind.i64.wrap (t282 + (1 : Int))) r_5 r_6 r_7 r_8 placed2 out2)
  (rec m2 next2 t222 t232 t272 (IntKind.i64.wrap (t282 + (1 : Int))) r_5 r_6 r_7 r_8 placed2 out2))))
  (rec m2 next2 t222 t232 t272 (IntKind.i64.wrap (t282 + (1 : Int))) r_5 r_6 r_7 r_8 placed2 out2)) m next t28 (!g) t22 t23 t27 t28 (List.length r_3 : Int) (0 : Int) r_ r_2 r_3 r_4 placed out)
  (k1 m next t22 t23 r_ r_2 r_3 r_4 placed out)
def zqtf (p1 : zqt0) {β : Type} : Nat → zqt3 β → (List (List Int)) → Int → Int → Int → Int → Int → (List (List UInt8 × Int)) → (List (Int × (Int × (Int × Int)))) → (List zq0) → (List (Int × (Int × Int))) → (List (Int × Bool)) → (List Int) → Option β
  | 0 => fun _ _ _ _ _ _ _ _ _ _ _ _ _ => none
  | i + 1 => fun k1 m next t22 t23 t27 t28 r_ r_2 r_3 r_4 placed out => zqte c_order_matrix_earlier p1 (zqtf p1 i k1) k1 m next t22 t23 t27 t28 r_ r_2 r_3 r_4 placed out
theorem zqtg (hΓ : ΓOk Tryz.prog (order_Sort_X c_order_closed c_order_matrix_before c_order_matrix_earlier).Γ) (p1 : zqt0) (hp1 : PieceOk Tryz.prog 76 0 order_Sort_p1_code zqt1 zqt2 (order_Sort_p1_G p1)) (i : Nat) : PieceOk Tryz.prog 76 0 order_Sort_p2_code zqt5 zqt6 (order_Sort_p2_G (zqtf c_order_matrix_earlier p1 i)) := by
  rw [show order_Sort_p2_code = .loop (loopBody order_Sort_p2_code) by kernel_rfl]
  exact piece_loop (X := (order_Sort_X c_order_closed c_order_matrix_before c_order_matrix_earlier)) (p := 1) (Λ := pick1 [(922, pieceCut zqt1 zqt2 (order_Sort_p1_G p1))]) (G := fun i => @fun β d ks => order_Sort_p2_G (zqtf c_order_matrix_earlier p1 i) d ks) mixed tab_ok hΓ rfl (by kernel_rfl) (CutsOk_cons (q := 922) (c' := order_Sort_p1_code) (by kernel_rfl) rfl hp1 CutsOk_nil) (fun _ _ => rfl) (fun i => @fun β d ks r h => Eq.trans (b := order_Sort_p2_G (zqtf c_order_matrix_earlier p1 (i + 1)) d ks) (by kernel_rfl) h) i
def zqth (p2 : zqt4) {β : Type} (rec : (List (List Int)) → Int → Int → (List (List UInt8 × Int)) → (List (Int × (Int × (Int × Int)))) → (List zq0) → (List (Int × (Int × Int))) → (List (Int × Bool)) → (List Int) → Option β) (k1 : zqt7 β) (m : List (List Int)) (t22 : Int) (t23 : Int) (r_ : List (List UInt8 × Int)) (r_2 : List (Int × (Int × (Int × Int)))) (r_3 : List zq0) (r_4 : List (Int × (Int × Int))) (placed : List (Int × Bool)) (out : List Int) : Option β :=
  cond (decide (t23 < t22))
  (p2 (fun (m2 : List (List Int)) (next : Int) (t222 : Int) (t232 : Int) (r_5 : List (List UInt8 × Int)) (r_6 : List (Int × (Int × (Int × Int)))) (r_7 : List zq0) (r_8 : List (Int × (Int × Int))) (placed2 : List (Int × Bool)) (out2 : List Int) =>
  let m_ : List (Int × Bool) := (mPut (.int .i64) placed2 next true);
  let l : List Int := ([next] : List Int);
  cond (decide ((List.length out2 + List.length l) * 8 ≤ roomMax))
  (let l2 : List Int := (out2 ++ l);
  rec m2 t222 (IntKind.i64.wrap (t232 + (1 : Int))) r_5 r_6 r_7 r_8 m_ l2)
  none) m (-1 : Int) t22 t23 (List.length r_3 : Int) (0 : Int) r_ r_2 r_3 r_4 placed out)
  (k1 out)
def zqti (p2 : zqt4) {β : Type} : Nat → zqt7 β → (List (List Int)) → Int → Int → (List (List UInt8 × Int)) → (List (Int × (Int × (Int × Int)))) → (List zq0) → (List (Int × (Int × Int))) → (List (Int × Bool)) → (List Int) → Option β
  | 0 => fun _ _ _ _ _ _ _ _ _ _ => none
  | i + 1 => fun k1 m t22 t23 r_ r_2 r_3 r_4 placed out => zqth p2 (zqti p2 i k1) k1 m t22 t23 r_ r_2 r_3 r_4 placed out
theorem zqtj (hΓ : ΓOk Tryz.prog (order_Sort_X c_order_closed c_order_matrix_before c_order_matrix_earlier).Γ) (p2 : zqt4) (hp2 : PieceOk Tryz.prog 76 0 order_Sort_p2_code zqt5 zqt6 (order_Sort_p2_G p2)) (i : Nat) : PieceOk Tryz.prog 76 0 order_Sort_p3_code zqt9 zqta (order_Sort_p3_G (zqti p2 i)) := by
  rw [show order_Sort_p3_code = .loop (loopBody order_Sort_p3_code) by kernel_rfl]
  exact piece_loop (X := (order_Sort_X c_order_closed c_order_matrix_before c_order_matrix_earlier)) (p := 1) (Λ := pick1 [(458, pieceCut zqt5 zqt6 (order_Sort_p2_G p2))]) (G := fun i => @fun β d ks => order_Sort_p3_G (zqti p2 i) d ks) mixed tab_ok hΓ rfl (by kernel_rfl) (CutsOk_cons (q := 458) (c' := order_Sort_p2_code) (by kernel_rfl) rfl hp2 CutsOk_nil) (fun _ _ => rfl) (fun i => @fun β d ks r h => Eq.trans (b := order_Sort_p3_G (zqti p2 (i + 1)) d ks) (by kernel_rfl) h) i
def zqtk (p3 : zqt8) {β : Type} (r_ : zq2) (k : (Bool → (List Int) → Option β)) : Option β :=
  c_order_closed r_ (fun (rclosed : List (List Int)) (rclosed2 : Bool) =>
  cond (!rclosed2)
  (k false ([] : List Int))
  (let m_ : List (Int × Bool) := ([] : List (Int × Bool));
  p3 (fun (out : List Int) =>
  k true out) rclosed (List.length r_.2.2.1 : Int) (0 : Int) r_.1 r_.2.1 r_.2.2.1 r_.2.2.2 m_ ([] : List Int)))
theorem zqtl (hΓ : ΓOk Tryz.prog (order_Sort_X c_order_closed c_order_matrix_before c_order_matrix_earlier).Γ) (p3 : zqt8) (hp3 : PieceOk Tryz.prog 76 0 order_Sort_p3_code zqt9 zqta (order_Sort_p3_G p3)) : SpecOk Tryz.prog 24 (zqsy (zqtk c_order_closed p3)) :=
  spec_exec (X := (order_Sort_X c_order_closed c_order_matrix_before c_order_matrix_earlier)) (Λ := pick1 [(506, pieceCut zqt9 zqta (order_Sort_p3_G p3))]) (rs := [.tmp 2, .tmp 3]) (c := bodyOf Tryz.f24) mixed tab_ok hΓ Tryz.func24 (by kernel_rfl) (by kernel_rfl) (by kernel_rfl) (by kernel_rfl) (CutsOk_cons (q := 506) (c' := order_Sort_p3_code) (by kernel_rfl) rfl hp3 CutsOk_nil) (fun x k r h => Eq.trans (b := (zqsy (zqtk c_order_closed p3)).run x k) (by kernel_rfl) h)
end
theorem zqtmΓ : ΓOk Tryz.prog (pick1 [(44, .spec (zqrg zqrk)), (45, .spec (zq33 zq37)), (46, .spec (zqci zqcm))]) := (ΓOk_cons zqrl (ΓOk_cons zq38 (ΓOk_cons zqcn ΓOk_nil)))
def zqtn (m : Nat) : zqt0 := zqtc zq37 m
theorem zqto {β : Type} (i : Nat) (k1 m next i_ free t22 t23 t27 t28 t37 t38 r_ r_2 r_3 r_4 placed out) : (zqtn (i + 1) k1 m next i_ free t22 t23 t27 t28 t37 t38 r_ r_2 r_3 r_4 placed out : Option β) = zqtb zq37 (zqtn i k1) k1 m next i_ free t22 t23 t27 t28 t37 t38 r_ r_2 r_3 r_4 placed out := rfl
def zqtp : zqt0 := zqtn fuel
theorem zqtq : PieceOk Tryz.prog 76 0 order_Sort_p1_code zqt1 zqt2 (order_Sort_p1_G zqtp) := zqtd zqrk zq37 zqcm zqtmΓ fuel
def zqtr (m : Nat) : zqt4 := zqtf zqcm zqtp m
theorem zqts {β : Type} (i : Nat) (k1 m next t22 t23 t27 t28 r_ r_2 r_3 r_4 placed out) : (zqtr (i + 1) k1 m next t22 t23 t27 t28 r_ r_2 r_3 r_4 placed out : Option β) = zqte zqcm zqtp (zqtr i k1) k1 m next t22 t23 t27 t28 r_ r_2 r_3 r_4 placed out := rfl
def zqtt : zqt4 := zqtr fuel
theorem zqtu : PieceOk Tryz.prog 76 0 order_Sort_p2_code zqt5 zqt6 (order_Sort_p2_G zqtt) := zqtg zqrk zq37 zqcm zqtmΓ zqtp zqtq fuel
def zqtv (m : Nat) : zqt8 := zqti zqtt m
theorem zqtw {β : Type} (i : Nat) (k1 m t22 t23 r_ r_2 r_3 r_4 placed out) : (zqtv (i + 1) k1 m t22 t23 r_ r_2 r_3 r_4 placed out : Option β) = zqth zqtt (zqtv i k1) k1 m t22 t23 r_ r_2 r_3 r_4 placed out := rfl
def zqtx : zqt8 := zqtv fuel
theorem zqty : PieceOk Tryz.prog 76 0 order_Sort_p3_code zqt9 zqta (order_Sort_p3_G zqtx) := zqtj zqrk zq37 zqcm zqtmΓ zqtt zqtu fuel
def zqtz : zqsx := zqtk zqrk zqtx
theorem zqu0 : SpecOk Tryz.prog 24 (zqsy zqtz) := zqtl zqrk zq37 zqcm zqtmΓ zqtx zqty

/-- pagewatch/timeline.rows -/
abbrev zqu1 := {β : Type} → zq2 → (List Int) → ((List api_Row) → Option β) → Option β
def zqu2 (c : zqu1) : Spec :=
  ⟨[(true, [.data zq3]), (false, [.data (.slice (.int .i64))])], [], [(false, [.rowh 0])], [.row 42 zq4], fun x k => c x.1.1.1 x.1.2.1.1 (fun r0 => k (((), ()), (r0, ())))⟩
noncomputable def timeline_rows_p1_code : Code := codeAt 122 (bodyOf Tryz.f25)
noncomputable def timeline_rows_p3_code : Code := codeAt 506 (bodyOf Tryz.f25)
noncomputable def timeline_rows_p2_code : Code := codeAt 922 (loopBody timeline_rows_p3_code)
abbrev zqu3 (β : Type) := (List Int) → (List (Int × Int)) → (List ((Int × Int) × Bool)) → Option β
abbrev zqu4 := {β : Type} → zqu3 β → (List Int) → Int → Int → (List (Int × Int)) → (List ((Int × Int) × Bool)) → (List (Int × Int)) → Option β
def zqu5 : View := ⟨0, [1, 5, 7, 23, 24, 25], [(false, [.data (.slice (.int .i64))]), (false, [.rowh 0]), (false, [.maph 1]), (false, [.rowh 2]), (false, [.data (.int .i64)]), (false, [.data (.int .i64)])], [.row 40 (.prod (.int .i64) (.int .i64)), .map 109 (.prod (.int .i64) (.int .i64)) .bool false, .row 58 (.prod (.int .i64) (.int .i64))]⟩
def zqu6 : List (AExit × View) := [(.exit 0, ⟨0, [1, 5, 7], [(false, [.data (.slice (.int .i64))]), (false, [.rowh 0]), (false, [.maph 1])], [.row 40 (.prod (.int .i64) (.int .i64)), .map 109 (.prod (.int .i64) (.int .i64)) .bool false]⟩)]
@[reducible] def timeline_rows_p1_G (p : zqu4) {β : Type} (d : zqu5.den) (ks : Outs.K β zqu6) : Option β :=
  p (fun a0 a1 a2 => ks.1 (((a0, ()), (), (), ()), (a1, a2, ()))) d.1.1.1 d.1.2.2.2.2.1.1 d.1.2.2.2.2.2.1.1 d.2.1 d.2.2.1 d.2.2.2.1
abbrev zqu7 (β : Type) := (List Int) → (List Int) → Int → Int → (List (Int × Int)) → (List ((Int × Int) × Bool)) → (List api_Row) → Int → Int → Int → (List Int) → Option β
abbrev zqu8 := {β : Type} → zqu7 β → (List Int) → Int → (List Int) → Int → Int → (List Int) → Int → Int → (List (Int × Int)) → (List ((Int × Int) × Bool)) → (List api_Row) → Int → Int → Int → (List Int) → Option β
def zqu9 : View := ⟨0, [1, 5, 7, 10, 12, 13, 32, 33, 34, 47, 48, 49], [(false, [.data (.slice (.int .i64))]), (false, [.rowh 0]), (false, [.maph 1]), (false, [.rowh 2]), (false, [.data (.int .i64)]), (false, [.ptr 3 0]), (false, [.data (.slice (.int .i64))]), (false, [.data (.int .i64)]), (false, [.data (.int .i64)]), (false, [.data (.slice (.int .i64))]), (false, [.data (.int .i64)]), (false, [.data (.int .i64)])], [.row 40 (.prod (.int .i64) (.int .i64)), .map 109 (.prod (.int .i64) (.int .i64)) .bool false, .row 42 zq4, .cells 42 [.data (.int .i64), .data (.int .i64), .data (.int .i64), .rowh 4], .row 3 (.int .i64)]⟩
def zqua : List (AExit × View) := [(.exit 4, ⟨0, [1, 5, 7, 10, 13, 32, 33, 34], [(false, [.data (.slice (.int .i64))]), (false, [.rowh 0]), (false, [.maph 1]), (false, [.rowh 2]), (false, [.ptr 3 0]), (false, [.data (.slice (.int .i64))]), (false, [.data (.int .i64)]), (false, [.data (.int .i64)])], [.row 40 (.prod (.int .i64) (.int .i64)), .map 109 (.prod (.int .i64) (.int .i64)) .bool false, .row 42 zq4, .cells 42 [.data (.int .i64), .data (.int .i64), .data (.int .i64), .rowh 4], .row 3 (.int .i64)]⟩)]
@[reducible] def timeline_rows_p2_G (p : zqu8) {β : Type} (d : zqu9.den) (ks : Outs.K β zqua) : Option β :=
  p (fun a0 a1 a2 a3 a4 a5 a6 a7 a8 a9 a10 => ks.1 (((a0, ()), (), (), (), (), (a1, ()), (a2, ()), (a3, ()), ()), (a4, a5, a6, (a7, a8, a9, ()), a10, ()))) d.1.1.1 d.1.2.2.2.2.1.1 d.1.2.2.2.2.2.2.1.1 d.1.2.2.2.2.2.2.2.1.1 d.1.2.2.2.2.2.2.2.2.1.1 d.1.2.2.2.2.2.2.2.2.2.1.1 d.1.2.2.2.2.2.2.2.2.2.2.1.1 d.1.2.2.2.2.2.2.2.2.2.2.2.1.1 d.2.1 d.2.2.1 d.2.2.2.1 d.2.2.2.2.1.1 d.2.2.2.2.1.2.1 d.2.2.2.2.1.2.2.1 d.2.2.2.2.2.1
abbrev zqub (β : Type) := (List api_Row) → Option β
abbrev zquc := {β : Type} → zqub β → (List Int) → (List Int) → Int → Int → (List (Int × Int)) → (List ((Int × Int) × Bool)) → (List api_Row) → Option β
def zqud : View := ⟨0, [1, 5, 7, 10, 32, 33, 34], [(false, [.data (.slice (.int .i64))]), (false, [.rowh 0]), (false, [.maph 1]), (false, [.rowh 2]), (false, [.data (.slice (.int .i64))]), (false, [.data (.int .i64)]), (false, [.data (.int .i64)])], [.row 40 (.prod (.int .i64) (.int .i64)), .map 109 (.prod (.int .i64) (.int .i64)) .bool false, .row 42 zq4]⟩
def zque : List (AExit × View) := [(.exit 2, ⟨0, [10], [(false, [.rowh 0])], [.row 42 zq4]⟩)]
@[reducible] def timeline_rows_p3_G (p : zquc) {β : Type} (d : zqud.den) (ks : Outs.K β zque) : Option β :=
  p (fun a0 => ks.1 (((), ()), (a0, ()))) d.1.1.1 d.1.2.2.2.2.1.1 d.1.2.2.2.2.2.1.1 d.1.2.2.2.2.2.2.1.1 d.2.1 d.2.2.1 d.2.2.2.1
section
variable (c_order_Open : zqs4) (c_order_When : zqrm)
@[reducible] def timeline_rows_X : Ctx := ⟨look tab, pick1 [(48, .spec (zqs5 c_order_Open)), (47, .spec (zqrn c_order_When)), (49, .rows zq3b)], false, false, false, false⟩
def zquf {β : Type} (rec : (List Int) → Int → Int → (List (Int × Int)) → (List ((Int × Int) × Bool)) → (List (Int × Int)) → Option β) (k1 : zqu3 β) (l : List Int) (t24 : Int) (t25 : Int) (when : List (Int × Int)) (pairs : List ((Int × Int) × Bool)) (t23 : List (Int × Int)) : Option β :=
  cond (decide (t25 < t24))
  (cond (decide (0 ≤ t25) && decide (t25 < (List.length t23 : Int)))
  (let m_ : List ((Int × Int) × Bool) := (mPut (.prod (.int .i64) (.int .i64)) pairs ((List.getD t23 (Int.toNat t25) ((0 : Int), (0 : Int))).1, (List.getD t23 (Int.toNat t25) ((0 : Int), (0 : Int))).2) true);
  rec l t24 (IntKind.i64.wrap (t25 + (1 : Int))) when m_ t23)
  none)
  (k1 l when pairs)
def zqug {β : Type} : Nat → zqu3 β → (List Int) → Int → Int → (List (Int × Int)) → (List ((Int × Int) × Bool)) → (List (Int × Int)) → Option β
  | 0 => fun _ _ _ _ _ _ _ => none
  | i + 1 => fun k1 l t24 t25 when pairs t23 => zquf (zqug i k1) k1 l t24 t25 when pairs t23
theorem zquh (hΓ : ΓOk Tryz.prog (timeline_rows_X c_order_Open c_order_When).Γ) (i : Nat) : PieceOk Tryz.prog 78 0 timeline_rows_p1_code zqu5 zqu6 (timeline_rows_p1_G (zqug i)) := by
  rw [show timeline_rows_p1_code = .loop (loopBody timeline_rows_p1_code) by kernel_rfl]
  exact piece_loop (X := (timeline_rows_X c_order_Open c_order_When)) (p := 1) (Λ := pick1 []) (G := fun i => @fun β d ks => timeline_rows_p1_G (zqug i) d ks) mixed tab_ok hΓ rfl (by kernel_rfl) CutsOk_nil (fun _ _ => rfl) (fun i => @fun β d ks r h => Eq.trans (b := timeline_rows_p1_G (zqug (i + 1)) d ks) (by kernel_rfl) h) i
def zqui {β : Type} (rec : (List Int) → Int → (List Int) → Int → Int → (List Int) → Int → Int → (List (Int × Int)) → (List ((Int × Int) × Bool)) → (List api_Row) → Int → Int → Int → (List Int) → Option β) (k1 : zqu7 β) (l : List Int) (x : Int) (t32 : List Int) (t33 : Int) (t34 : Int) (t47 : List Int) (t48 : Int) (t49 : Int) (when : List (Int × Int)) (pairs : List ((Int × Int) × Bool)) (out : List api_Row) (row : Int) (row2 : Int) (row3 : Int) (b4_ : List Int) : Option β :=
  cond (decide (t49 < t48))
  (cond (decide (0 ≤ t49) && decide (t49 < (List.length t47 : Int)))
  (let e : Int := List.getD t47 (Int.toNat t49) (0 : Int);
  let g : Bool := (mGet (.prod (.int .i64) (.int .i64)) pairs ((if e < x then e else x), (if e > x then e else x)) false);
  cond g
  (let l2 : List Int := ([e] : List Int);
  cond (decide ((List.length b4_ + List.length l2) * 8 ≤ roomMax))
  (let l3 : List Int := (b4_ ++ l2);
  rec l x t32 t33 t34 t47 t48 (IntKind.i64.wrap (t49 + (1 : Int))) when pairs out row row2 row3 l3)
  none)
  (rec l x t32 t33 t34 t47 t48 (IntKind.i64.wrap (t49 + (1 : Int))) when pairs out row row2 row3 b4_))
  none)
  (k1 l t32 t33 t34 when pairs out row row2 row3 b4_)
def zquj {β : Type} : Nat → zqu7 β → (List Int) → Int → (List Int) → Int → Int → (List Int) → Int → Int → (List (Int × Int)) → (List ((Int × Int) × Bool)) → (List api_Row) → Int → Int → Int → (List Int) → Option β
  | 0 => fun _ _ _ _ _ _ _ _ _ _ _ _ _ _ _ _ => none
  | i + 1 => fun k1 l x t32 t33 t34 t47 t48 t49 when pairs out row row2 row3 b4_ => zqui (zquj i k1) k1 l x t32 t33 t34 t47 t48 t49 when pairs out row row2 row3 b4_
theorem zquk (hΓ : ΓOk Tryz.prog (timeline_rows_X c_order_Open c_order_When).Γ) (i : Nat) : PieceOk Tryz.prog 78 0 timeline_rows_p2_code zqu9 zqua (timeline_rows_p2_G (zquj i)) := by
  rw [show timeline_rows_p2_code = .loop (loopBody timeline_rows_p2_code) by kernel_rfl]
  exact piece_loop (X := (timeline_rows_X c_order_Open c_order_When)) (p := 1) (Λ := pick1 []) (G := fun i => @fun β d ks => timeline_rows_p2_G (zquj i) d ks) mixed tab_ok hΓ rfl (by kernel_rfl) CutsOk_nil (fun _ _ => rfl) (fun i => @fun β d ks r h => Eq.trans (b := timeline_rows_p2_G (zquj (i + 1)) d ks) (by kernel_rfl) h) i
def zqul (p2 : zqu8) {β : Type} (rec : (List Int) → (List Int) → Int → Int → (List (Int × Int)) → (List ((Int × Int) × Bool)) → (List api_Row) → Option β) (k1 : zqub β) (l : List Int) (t32 : List Int) (t33 : Int) (t34 : Int) (when : List (Int × Int)) (pairs : List ((Int × Int) × Bool)) (out : List api_Row) : Option β :=
  cond (decide (t34 < t33))
  (cond (decide (0 ≤ t34) && decide (t34 < (List.length t32 : Int)))
  (let e : Int := List.getD t32 (Int.toNat t34) (0 : Int);
  cond (decide (0 ≤ e) && decide (e < (List.length when : Int)))
  (cond (decide (0 ≤ (0 : Int)) && (decide ((0 : Int) ≤ t34) && decide (t34 ≤ (List.length l : Int))))
  (p2 (fun (l2 : List Int) (t322 : List Int) (t332 : Int) (t342 : Int) (when2 : List (Int × Int)) (pairs2 : List ((Int × Int) × Bool)) (out2 : List api_Row) (row : Int) (row2 : Int) (row3 : Int) (b4_ : List Int) =>
  cond (decide (List.length b4_ < 4611686018427387904))
  (let l3 : List Int := (sortInts b4_);
  let l4 : List api_Row := ([(row, ((row2, row3), l3))] : List api_Row);
  cond (decide ((List.length out2 + List.length l4) * 48 ≤ roomMax))
  (let l5 : List api_Row := (out2 ++ l4);
  rec l2 t322 t332 (IntKind.i64.wrap (t342 + (1 : Int))) when2 pairs2 l5)
  none)
  none) l e t32 t33 t34 (List.drop (Int.toNat (0 : Int)) (List.take (Int.toNat t34) l)) (List.length (List.drop (Int.toNat (0 : Int)) (List.take (Int.toNat t34) l)) : Int) (0 : Int) when pairs out e ((List.getD when (Int.toNat e) ((0 : Int), (0 : Int))).1) ((List.getD when (Int.toNat e) ((0 : Int), (0 : Int))).2) ([] : List Int))
  none)
  none)
  none)
  (k1 out)
def zqum (p2 : zqu8) {β : Type} : Nat → zqub β → (List Int) → (List Int) → Int → Int → (List (Int × Int)) → (List ((Int × Int) × Bool)) → (List api_Row) → Option β
  | 0 => fun _ _ _ _ _ _ _ _ => none
  | i + 1 => fun k1 l t32 t33 t34 when pairs out => zqul p2 (zqum p2 i k1) k1 l t32 t33 t34 when pairs out
theorem zqun (hΓ : ΓOk Tryz.prog (timeline_rows_X c_order_Open c_order_When).Γ) (p2 : zqu8) (hp2 : PieceOk Tryz.prog 78 0 timeline_rows_p2_code zqu9 zqua (timeline_rows_p2_G p2)) (i : Nat) : PieceOk Tryz.prog 78 0 timeline_rows_p3_code zqud zque (timeline_rows_p3_G (zqum p2 i)) := by
  rw [show timeline_rows_p3_code = .loop (loopBody timeline_rows_p3_code) by kernel_rfl]
  exact piece_loop (X := (timeline_rows_X c_order_Open c_order_When)) (p := 1) (Λ := pick1 [(922, pieceCut zqu9 zqua (timeline_rows_p2_G p2))]) (G := fun i => @fun β d ks => timeline_rows_p3_G (zqum p2 i) d ks) mixed tab_ok hΓ rfl (by kernel_rfl) (CutsOk_cons (q := 922) (c' := timeline_rows_p2_code) (by kernel_rfl) rfl hp2 CutsOk_nil) (fun _ _ => rfl) (fun i => @fun β d ks r h => Eq.trans (b := timeline_rows_p3_G (zqum p2 (i + 1)) d ks) (by kernel_rfl) h) i
def zquo (p1 : zqu4) (p3 : zquc) {β : Type} (r_ : zq2) (l : List Int) (k : ((List api_Row) → Option β)) : Option β :=
  c_order_When r_ (fun (rWhen : Bool) (lrWhen : List (Int × Int)) =>
  let m_ : List ((Int × Int) × Bool) := ([] : List ((Int × Int) × Bool));
  c_order_Open r_ (fun (lrOpen : List (Int × Int)) =>
  p1 (fun (l2 : List Int) (when : List (Int × Int)) (pairs : List ((Int × Int) × Bool)) =>
  p3 (fun (out : List api_Row) =>
  k out) l2 l2 (List.length l2 : Int) (0 : Int) when pairs ([] : List api_Row)) l (List.length lrOpen : Int) (0 : Int) lrWhen m_ lrOpen))
theorem zqup (hΓ : ΓOk Tryz.prog (timeline_rows_X c_order_Open c_order_When).Γ) (p1 : zqu4) (p3 : zquc) (hp1 : PieceOk Tryz.prog 78 0 timeline_rows_p1_code zqu5 zqu6 (timeline_rows_p1_G p1)) (hp3 : PieceOk Tryz.prog 78 0 timeline_rows_p3_code zqud zque (timeline_rows_p3_G p3)) : SpecOk Tryz.prog 25 (zqu2 (zquo c_order_Open c_order_When p1 p3)) :=
  spec_exec (X := (timeline_rows_X c_order_Open c_order_When)) (Λ := pick1 [(122, pieceCut zqu5 zqu6 (timeline_rows_p1_G p1)), (506, pieceCut zqud zque (timeline_rows_p3_G p3))]) (rs := [.tmp 4]) (c := bodyOf Tryz.f25) mixed tab_ok hΓ Tryz.func25 (by kernel_rfl) (by kernel_rfl) (by kernel_rfl) (by kernel_rfl) (CutsOk_cons (q := 122) (c' := timeline_rows_p1_code) (by kernel_rfl) rfl hp1 (CutsOk_cons (q := 506) (c' := timeline_rows_p3_code) (by kernel_rfl) rfl hp3 CutsOk_nil)) (fun x k r h => Eq.trans (b := (zqu2 (zquo c_order_Open c_order_When p1 p3)).run x k) (by kernel_rfl) h)
end
theorem zquqΓ : ΓOk Tryz.prog (pick1 [(48, .spec (zqs5 zqsv)), (47, .spec (zqrn zqs2)), (49, .rows zq3b)]) := (ΓOk_cons zqsw (ΓOk_cons zqs3 (ΓOk_row zq3c ΓOk_nil)))
def zqur (m : Nat) : zqu4 := zqug m
theorem zqus {β : Type} (i : Nat) (k1 l t24 t25 when pairs t23) : (zqur (i + 1) k1 l t24 t25 when pairs t23 : Option β) = zquf (zqur i k1) k1 l t24 t25 when pairs t23 := rfl
def zqut : zqu4 := zqur fuel
theorem zquu : PieceOk Tryz.prog 78 0 timeline_rows_p1_code zqu5 zqu6 (timeline_rows_p1_G zqut) := zquh zqsv zqs2 zquqΓ fuel
def zquv (m : Nat) : zqu8 := zquj m
theorem zquw {β : Type} (i : Nat) (k1 l x t32 t33 t34 t47 t48 t49 when pairs out row row2 row3 b4_) : (zquv (i + 1) k1 l x t32 t33 t34 t47 t48 t49 when pairs out row row2 row3 b4_ : Option β) = zqui (zquv i k1) k1 l x t32 t33 t34 t47 t48 t49 when pairs out row row2 row3 b4_ := rfl
def zqux : zqu8 := zquv fuel
theorem zquy : PieceOk Tryz.prog 78 0 timeline_rows_p2_code zqu9 zqua (timeline_rows_p2_G zqux) := zquk zqsv zqs2 zquqΓ fuel
def zquz (m : Nat) : zquc := zqum zqux m
theorem zqv0 {β : Type} (i : Nat) (k1 l t32 t33 t34 when pairs out) : (zquz (i + 1) k1 l t32 t33 t34 when pairs out : Option β) = zqul zqux (zquz i k1) k1 l t32 t33 t34 when pairs out := rfl
def zqv1 : zquc := zquz fuel
theorem zqv2 : PieceOk Tryz.prog 78 0 timeline_rows_p3_code zqud zque (timeline_rows_p3_G zqv1) := zqun zqsv zqs2 zquqΓ zqux zquy fuel
def zqv3 : zqu1 := zquo zqsv zqs2 zqut zqv1
theorem zqv4 : SpecOk Tryz.prog 25 (zqu2 zqv3) := zqup zqsv zqs2 zquqΓ zqut zqv1 zquu zqv2

/-- pagewatch/timeline.Rows -/
abbrev zqv5 := {β : Type} → zq2 → (Bool → (List api_Row) → Option β) → Option β
def zqv6 (c : zqv5) : Spec :=
  ⟨[(true, [.data zq3])], [], [(false, [.rowh 0]), (false, [.data .bool])], [.row 42 zq4], fun x k => c x.1.1.1 (fun r0 r1 => k (((), (r0, ()), ()), (r1, ())))⟩
section
variable (c_order_Sort : zqsx) (c_timeline_rows : zqu1)
@[reducible] def timeline_Rows_X : Ctx := ⟨look tab, pick1 [(24, .spec (zqsy c_order_Sort)), (25, .spec (zqu2 c_timeline_rows))], false, false, false, false⟩
def zqv7 {β : Type} (r_ : zq2) (k : (Bool → (List api_Row) → Option β)) : Option β :=
  c_order_Sort r_ (fun (rSort : Bool) (lrSort : List Int) =>
  cond (!rSort)
  (k false ([] : List api_Row))
  (c_timeline_rows r_ lrSort (fun (lrrows : List api_Row) =>
  k true lrrows)))
theorem zqv8 (hΓ : ΓOk Tryz.prog (timeline_Rows_X c_order_Sort c_timeline_rows).Γ) : SpecOk Tryz.prog 10 (zqv6 (zqv7 c_order_Sort c_timeline_rows)) :=
  spec_exec (X := (timeline_Rows_X c_order_Sort c_timeline_rows)) (Λ := pick1 []) (rs := [.tmp 2, .tmp 3]) (c := bodyOf Tryz.f10) mixed tab_ok hΓ Tryz.func10 (by kernel_rfl) (by kernel_rfl) (by kernel_rfl) (by kernel_rfl) CutsOk_nil (fun x k r h => Eq.trans (b := (zqv6 (zqv7 c_order_Sort c_timeline_rows)).run x k) (by kernel_rfl) h)
end
theorem zqv9Γ : ΓOk Tryz.prog (pick1 [(24, .spec (zqsy zqtz)), (25, .spec (zqu2 zqv3))]) := (ΓOk_cons zqu0 (ΓOk_cons zqv4 ΓOk_nil))
def zqva : zqv5 := zqv7 zqtz zqv3
theorem zqvb : SpecOk Tryz.prog 10 (zqv6 zqva) := zqv8 zqtz zqv3 zqv9Γ

/-- slices.IndexFunc[[]int,int] -/
abbrev zqvc := {β : Type} → (List Int) → (List (List Int)) → Int → (Int → (List (List Int)) → Int → Option β) → Option β
def zqvd (c : zqvc) : Spec :=
  ⟨[(false, [.data (.slice (.int .i64))]), (false, [.fn 53 [0, 1]])], [.cells 104 [.data (.slice (.slice (.int .i64)))], .cells 3 [.data (.int .i64)]], [(false, [.data (.int .i64)])], [.cells 104 [.data (.slice (.slice (.int .i64)))], .cells 3 [.data (.int .i64)]], fun x k => c x.1.1.1 x.2.1.1 x.2.2.1.1 (fun r0 r1 r2 => k (((r0, ()), ()), ((r1, ()), (r2, ()), ())))⟩
noncomputable def slices_IndexFunc_int_int_vorder_Allows_f1_p1_code : Code := codeAt 26 (bodyOf Tryz.f75)
abbrev zqve (β : Type) := Int → (List (List Int)) → Int → Option β
abbrev zqvf (β : Type) := (List (List Int)) → Int → Option β
abbrev zqvg := {β : Type} → zqve β → zqvf β → (List Int) → Int → Int → (List (List Int)) → Int → Option β
def zqvh : View := ⟨2, [0, 1, 7, 8], [(false, [.data (.slice (.int .i64))]), (false, [.fn 53 [0, 1]]), (false, [.data (.int .i64)]), (false, [.data (.int .i64)])], [.cells 104 [.data (.slice (.slice (.int .i64)))], .cells 3 [.data (.int .i64)]]⟩
def zqvi : List (AExit × View) := [(.ret, ⟨2, [4], [(false, [.data (.int .i64)])], [.cells 104 [.data (.slice (.slice (.int .i64)))], .cells 3 [.data (.int .i64)]]⟩), (.exit 0, ⟨2, [], [], [.cells 104 [.data (.slice (.slice (.int .i64)))], .cells 3 [.data (.int .i64)]]⟩)]
@[reducible] def slices_IndexFunc_int_int_vorder_Allows_f1_p1_G (p : zqvg) {β : Type} (d : zqvh.den) (ks : Outs.K β zqvi) : Option β :=
  p (fun a0 a1 a2 => ks.1 (((a0, ()), ()), ((a1, ()), (a2, ()), ()))) (fun a0 a1 => ks.2.1 ((), ((a0, ()), (a1, ()), ()))) d.1.1.1 d.1.2.2.1.1 d.1.2.2.2.1.1 d.2.1.1 d.2.2.1.1
section
variable (c_order_Allows_f1 : zq3k)
@[reducible] def slices_IndexFunc_int_int_vorder_Allows_f1_X : Ctx := ⟨look tab, pick1 [(53, .spec (zq3l c_order_Allows_f1))], false, false, false, false⟩
def zqvj {β : Type} (rec : (List Int) → Int → Int → (List (List Int)) → Int → Option β) (k1 : zqve β) (k2 : zqvf β) (s : List Int) (t7 : Int) (t8 : Int) (b0_ : List (List Int)) (b1_ : Int) : Option β :=
  cond (decide (t8 < t7))
  (cond (decide (0 ≤ t8) && decide (t8 < (List.length s : Int)))
  (let e : Int := List.getD s (Int.toNat t8) (0 : Int);
  c_order_Allows_f1 e b0_ b1_ (fun (rAllows1 : Bool) (mrAllows1 : List (List Int)) (mrAllows12 : Int) =>
  cond rAllows1
  (k1 t8 mrAllows1 mrAllows12)
  (rec s t7 (IntKind.i64.wrap (t8 + (1 : Int))) mrAllows1 mrAllows12)))
  none)
  (k2 b0_ b1_)
def zqvk {β : Type} : Nat → zqve β → zqvf β → (List Int) → Int → Int → (List (List Int)) → Int → Option β
  | 0 => fun _ _ _ _ _ _ _ => none
  | i + 1 => fun k1 k2 s t7 t8 b0_ b1_ => zqvj c_order_Allows_f1 (zqvk i k1 k2) k1 k2 s t7 t8 b0_ b1_
theorem zqvl (hΓ : ΓOk Tryz.prog (slices_IndexFunc_int_int_vorder_Allows_f1_X c_order_Allows_f1).Γ) (i : Nat) : PieceOk Tryz.prog 19 2 slices_IndexFunc_int_int_vorder_Allows_f1_p1_code zqvh zqvi (slices_IndexFunc_int_int_vorder_Allows_f1_p1_G (zqvk c_order_Allows_f1 i)) := by
  rw [show slices_IndexFunc_int_int_vorder_Allows_f1_p1_code = .loop (loopBody slices_IndexFunc_int_int_vorder_Allows_f1_p1_code) by kernel_rfl]
  exact piece_loop (X := (slices_IndexFunc_int_int_vorder_Allows_f1_X c_order_Allows_f1)) (p := 1) (Λ := pick1 []) (G := fun i => @fun β d ks => slices_IndexFunc_int_int_vorder_Allows_f1_p1_G (zqvk c_order_Allows_f1 i) d ks) mixed tab_ok hΓ rfl (by kernel_rfl) CutsOk_nil (fun _ _ => rfl) (fun i => @fun β d ks r h => Eq.trans (b := slices_IndexFunc_int_int_vorder_Allows_f1_p1_G (zqvk c_order_Allows_f1 (i + 1)) d ks) (by kernel_rfl) h) i
def zqvm (p1 : zqvg) {β : Type} (s : List Int) (b0_ : List (List Int)) (b1_ : Int) (k : (Int → (List (List Int)) → Int → Option β)) : Option β :=
  p1 (fun (t4 : Int) (b0_2 : List (List Int)) (b1_2 : Int) =>
  k t4 b0_2 b1_2) (fun (b0_2 : List (List Int)) (b1_2 : Int) =>
  k (-1 : Int) b0_2 b1_2) s (List.length s : Int) (0 : Int) b0_ b1_
theorem zqvn (hΓ : ΓOk Tryz.prog (slices_IndexFunc_int_int_vorder_Allows_f1_X c_order_Allows_f1).Γ) (p1 : zqvg) (hp1 : PieceOk Tryz.prog 19 2 slices_IndexFunc_int_int_vorder_Allows_f1_p1_code zqvh zqvi (slices_IndexFunc_int_int_vorder_Allows_f1_p1_G p1)) : SpecOk Tryz.prog 75 (zqvd (zqvm p1)) :=
  spec_exec (X := (slices_IndexFunc_int_int_vorder_Allows_f1_X c_order_Allows_f1)) (Λ := pick1 [(26, pieceCut zqvh zqvi (slices_IndexFunc_int_int_vorder_Allows_f1_p1_G p1))]) (rs := [.tmp 4]) (c := bodyOf Tryz.f75) mixed tab_ok hΓ Tryz.func75 (by kernel_rfl) (by kernel_rfl) (by kernel_rfl) (by kernel_rfl) (CutsOk_cons (q := 26) (c' := slices_IndexFunc_int_int_vorder_Allows_f1_p1_code) (by kernel_rfl) rfl hp1 CutsOk_nil) (fun x k r h => Eq.trans (b := (zqvd (zqvm p1)).run x k) (by kernel_rfl) h)
end
theorem zqvoΓ : ΓOk Tryz.prog (pick1 [(53, .spec (zq3l zq3p))]) := (ΓOk_cons zq3q ΓOk_nil)
def zqvp (m : Nat) : zqvg := zqvk zq3p m
theorem zqvq {β : Type} (i : Nat) (k1 k2 s t7 t8 b0_ b1_) : (zqvp (i + 1) k1 k2 s t7 t8 b0_ b1_ : Option β) = zqvj zq3p (zqvp i k1 k2) k1 k2 s t7 t8 b0_ b1_ := rfl
def zqvr : zqvg := zqvp fuel
theorem zqvs : PieceOk Tryz.prog 19 2 slices_IndexFunc_int_int_vorder_Allows_f1_p1_code zqvh zqvi (slices_IndexFunc_int_int_vorder_Allows_f1_p1_G zqvr) := zqvl zq3p zqvoΓ fuel
def zqvt : zqvc := zqvm zqvr
theorem zqvu : SpecOk Tryz.prog 75 (zqvd zqvt) := zqvn zq3p zqvoΓ zqvr zqvs

/-- slices.ContainsFunc[[]int,int] -/
abbrev zqvv := {β : Type} → (List Int) → (List (List Int)) → Int → (Bool → (List (List Int)) → Int → Option β) → Option β
def zqvw (c : zqvv) : Spec :=
  ⟨[(false, [.data (.slice (.int .i64))]), (false, [.fn 53 [0, 1]])], [.cells 104 [.data (.slice (.slice (.int .i64)))], .cells 3 [.data (.int .i64)]], [(false, [.data .bool])], [.cells 104 [.data (.slice (.slice (.int .i64)))], .cells 3 [.data (.int .i64)]], fun x k => c x.1.1.1 x.2.1.1 x.2.2.1.1 (fun r0 r1 r2 => k (((r0, ()), ()), ((r1, ()), (r2, ()), ())))⟩
section
variable (c_slices_IndexFunc_int_int_vorder_Allows_f1 : zqvc)
@[reducible] def slices_ContainsFunc_int_int_vorder_Allows_f1_X : Ctx := ⟨look tab, pick1 [(75, .spec (zqvd c_slices_IndexFunc_int_int_vorder_Allows_f1))], false, false, false, false⟩
def zqvx {β : Type} (s : List Int) (b0_ : List (List Int)) (b1_ : Int) (k : (Bool → (List (List Int)) → Int → Option β)) : Option β :=
  c_slices_IndexFunc_int_int_vorder_Allows_f1 s b0_ b1_ (fun (rIndexFuncintint : Int) (mrIndexFuncintint : List (List Int)) (mrIndexFuncintint2 : Int) =>
  let t : Bool := (decide ((0 : Int) ≤ rIndexFuncintint));
  k t mrIndexFuncintint mrIndexFuncintint2)
theorem zqvy (hΓ : ΓOk Tryz.prog (slices_ContainsFunc_int_int_vorder_Allows_f1_X c_slices_IndexFunc_int_int_vorder_Allows_f1).Γ) : SpecOk Tryz.prog 52 (zqvw (zqvx c_slices_IndexFunc_int_int_vorder_Allows_f1)) :=
  spec_exec (X := (slices_ContainsFunc_int_int_vorder_Allows_f1_X c_slices_IndexFunc_int_int_vorder_Allows_f1)) (Λ := pick1 []) (rs := [.tmp 4]) (c := bodyOf Tryz.f52) mixed tab_ok hΓ Tryz.func52 (by kernel_rfl) (by kernel_rfl) (by kernel_rfl) (by kernel_rfl) CutsOk_nil (fun x k r h => Eq.trans (b := (zqvw (zqvx c_slices_IndexFunc_int_int_vorder_Allows_f1)).run x k) (by kernel_rfl) h)
end
theorem zqvzΓ : ΓOk Tryz.prog (pick1 [(75, .spec (zqvd zqvt))]) := (ΓOk_cons zqvu ΓOk_nil)
def zqw0 : zqvv := zqvx zqvt
theorem zqw1 : SpecOk Tryz.prog 52 (zqvw zqw0) := zqvy zqvt zqvzΓ

/-- pagewatch/order.Allows -/
abbrev zqw2 := {β : Type} → zq2 → (List Int) → (Bool → Option β) → Option β
def zqw3 (c : zqw2) : Spec :=
  ⟨[(true, [.data zq3]), (false, [.data (.slice (.int .i64))])], [], [(false, [.data .bool])], [], fun x k => c x.1.1.1 x.1.2.1.1 (fun r0 => k (((r0, ()), ()), ()))⟩
noncomputable def order_Allows_p1_code : Code := codeAt 122 (bodyOf Tryz.f26)
abbrev zqw4 (β : Type) := Bool → Option β
abbrev zqw5 (β : Type) := Unit → Option β
abbrev zqw6 := {β : Type} → zqw4 β → zqw5 β → (List Int) → (List Int) → Int → Int → (List (List Int)) → Option β
def zqw7 : View := ⟨0, [1, 5, 24, 25, 26], [(false, [.data (.slice (.int .i64))]), (false, [.ptr 0 0]), (false, [.data (.slice (.int .i64))]), (false, [.data (.int .i64)]), (false, [.data (.int .i64)])], [.cells 104 [.data (.slice (.slice (.int .i64)))]]⟩
def zqw8 : List (AExit × View) := [(.ret, ⟨0, [4], [(false, [.data .bool])], []⟩), (.exit 0, ⟨0, [], [], []⟩)]
@[reducible] def order_Allows_p1_G (p : zqw6) {β : Type} (d : zqw7.den) (ks : Outs.K β zqw8) : Option β :=
  p (fun a0 => ks.1 (((a0, ()), ()), ())) (fun _ => ks.2.1 ((), ())) d.1.1.1 d.1.2.2.1.1 d.1.2.2.2.1.1 d.1.2.2.2.2.1.1 d.2.1.1
section
variable (c_order_closed : zqrf) (c_order_in : zq3d) (c_slices_ContainsFunc_int_int_vorder_Allows_f1 : zqvv) (c_slices_Contains_int_int : zqco)
@[reducible] def order_Allows_X : Ctx := ⟨look tab, pick1 [(44, .spec (zqrg c_order_closed)), (50, .spec (zq3e c_order_in)), (52, .spec (zqvw c_slices_ContainsFunc_int_int_vorder_Allows_f1)), (51, .spec (zqcp c_slices_Contains_int_int))], false, false, false, false⟩
def zqw9 {β : Type} (rec : (List Int) → (List Int) → Int → Int → (List (List Int)) → Option β) (k1 : zqw4 β) (k2 : zqw5 β) (l : List Int) (t24 : List Int) (t25 : Int) (t26 : Int) (m : List (List Int)) : Option β :=
  cond (decide (t26 < t25))
  (cond (decide (0 ≤ t26) && decide (t26 < (List.length t24 : Int)))
  (let e : Int := List.getD t24 (Int.toNat t26) (0 : Int);
  c_order_in e (0 : Int) (IntKind.i64.wrap ((List.length l : Int) - (1 : Int))) (fun (rin : Bool) =>
  cond (!rin)
  (k1 false)
  (cond (decide (0 ≤ (0 : Int)) && (decide ((0 : Int) ≤ t26) && decide (t26 ≤ (List.length l : Int))))
  (c_slices_Contains_int_int (List.drop (Int.toNat (0 : Int)) (List.take (Int.toNat t26) l)) e (fun (rContainsintint : Bool) =>
  cond rContainsintint
  (k1 false)
  (cond (decide (0 ≤ (0 : Int)) && (decide ((0 : Int) ≤ t26) && decide (t26 ≤ (List.length l : Int))))
  (c_slices_ContainsFunc_int_int_vorder_Allows_f1 (List.drop (Int.toNat (0 : Int)) (List.take (Int.toNat t26) l)) m e (fun (rContainsFuncintint : Bool) (mrContainsFuncintint : List (List Int)) (mrContainsFuncintint2 : Int) =>
  cond rContainsFuncintint
  (k1 false)
  (rec l t24 t25 (IntKind.i64.wrap (t26 + (1 : Int))) mrContainsFuncintint)))
  none)))
  none)))
  none)
  (k2 ())
def zqwa {β : Type} : Nat → zqw4 β → zqw5 β → (List Int) → (List Int) → Int → Int → (List (List Int)) → Option β
  | 0 => fun _ _ _ _ _ _ _ => none
  | i + 1 => fun k1 k2 l t24 t25 t26 m => zqw9 c_order_in c_slices_ContainsFunc_int_int_vorder_Allows_f1 c_slices_Contains_int_int (zqwa i k1 k2) k1 k2 l t24 t25 t26 m
theorem zqwb (hΓ : ΓOk Tryz.prog (order_Allows_X c_order_closed c_order_in c_slices_ContainsFunc_int_int_vorder_Allows_f1 c_slices_Contains_int_int).Γ) (i : Nat) : PieceOk Tryz.prog 52 0 order_Allows_p1_code zqw7 zqw8 (order_Allows_p1_G (zqwa c_order_in c_slices_ContainsFunc_int_int_vorder_Allows_f1 c_slices_Contains_int_int i)) := by
  rw [show order_Allows_p1_code = .loop (loopBody order_Allows_p1_code) by kernel_rfl]
  exact piece_loop (X := (order_Allows_X c_order_closed c_order_in c_slices_ContainsFunc_int_int_vorder_Allows_f1 c_slices_Contains_int_int)) (p := 1) (Λ := pick1 []) (G := fun i => @fun β d ks => order_Allows_p1_G (zqwa c_order_in c_slices_ContainsFunc_int_int_vorder_Allows_f1 c_slices_Contains_int_int i) d ks) mixed tab_ok hΓ rfl (by kernel_rfl) CutsOk_nil (fun _ _ => rfl) (fun i => @fun β d ks r h => Eq.trans (b := order_Allows_p1_G (zqwa c_order_in c_slices_ContainsFunc_int_int_vorder_Allows_f1 c_slices_Contains_int_int (i + 1)) d ks) (by kernel_rfl) h) i
def zqwc (p1 : zqw6) {β : Type} (r_ : zq2) (l : List Int) (k : (Bool → Option β)) : Option β :=
  c_order_closed r_ (fun (rclosed : List (List Int)) (rclosed2 : Bool) =>
  cond (!rclosed2)
  (k false)
  (cond (!decide ((List.length l : Int) = (List.length r_.2.2.1 : Int)))
  (k false)
  (p1 (fun (t4 : Bool) =>
  k t4) (fun (_ : Unit) =>
  k true) l l (List.length l : Int) (0 : Int) rclosed)))
theorem zqwd (hΓ : ΓOk Tryz.prog (order_Allows_X c_order_closed c_order_in c_slices_ContainsFunc_int_int_vorder_Allows_f1 c_slices_Contains_int_int).Γ) (p1 : zqw6) (hp1 : PieceOk Tryz.prog 52 0 order_Allows_p1_code zqw7 zqw8 (order_Allows_p1_G p1)) : SpecOk Tryz.prog 26 (zqw3 (zqwc c_order_closed p1)) :=
  spec_exec (X := (order_Allows_X c_order_closed c_order_in c_slices_ContainsFunc_int_int_vorder_Allows_f1 c_slices_Contains_int_int)) (Λ := pick1 [(122, pieceCut zqw7 zqw8 (order_Allows_p1_G p1))]) (rs := [.tmp 4]) (c := bodyOf Tryz.f26) mixed tab_ok hΓ Tryz.func26 (by kernel_rfl) (by kernel_rfl) (by kernel_rfl) (by kernel_rfl) (CutsOk_cons (q := 122) (c' := order_Allows_p1_code) (by kernel_rfl) rfl hp1 CutsOk_nil) (fun x k r h => Eq.trans (b := (zqw3 (zqwc c_order_closed p1)).run x k) (by kernel_rfl) h)
end
theorem zqweΓ : ΓOk Tryz.prog (pick1 [(44, .spec (zqrg zqrk)), (50, .spec (zq3e zq3i)), (52, .spec (zqvw zqw0)), (51, .spec (zqcp zqct))]) := (ΓOk_cons zqrl (ΓOk_cons zq3j (ΓOk_cons zqw1 (ΓOk_cons zqcu ΓOk_nil))))
def zqwf (m : Nat) : zqw6 := zqwa zq3i zqw0 zqct m
theorem zqwg {β : Type} (i : Nat) (k1 k2 l t24 t25 t26 m) : (zqwf (i + 1) k1 k2 l t24 t25 t26 m : Option β) = zqw9 zq3i zqw0 zqct (zqwf i k1 k2) k1 k2 l t24 t25 t26 m := rfl
def zqwh : zqw6 := zqwf fuel
theorem zqwi : PieceOk Tryz.prog 52 0 order_Allows_p1_code zqw7 zqw8 (order_Allows_p1_G zqwh) := zqwb zqrk zq3i zqw0 zqct zqweΓ fuel
def zqwj : zqw2 := zqwc zqrk zqwh
theorem zqwk : SpecOk Tryz.prog 26 (zqw3 zqwj) := zqwd zqrk zq3i zqw0 zqct zqweΓ zqwh zqwi

/-- slices.EqualFunc[[]pagewatch/api.Row,[]pagewatch/api.Row,pagewatch/api.Row,pagewatch/api.Row] -/
abbrev zqwl := {β : Type} → (List api_Row) → (List api_Row) → (Bool → Option β) → Option β
def zqwm (c : zqwl) : Spec :=
  ⟨[(false, [.data (.slice zq4)]), (false, [.data (.slice zq4)]), (false, [.fn 28 []])], [], [(false, [.data .bool])], [], fun x k => c x.1.1.1 x.1.2.1.1 (fun r0 => k (((r0, ()), ()), ()))⟩
noncomputable def slices_EqualFunc_api_Row_api_Row_api_Row_api_Row_vtimeline_Check_f1_p1_code : Code := codeAt 58 (bodyOf Tryz.f27)
abbrev zqwn (β : Type) := Bool → Option β
abbrev zqwo (β : Type) := Unit → Option β
abbrev zqwp := {β : Type} → zqwn β → zqwo β → (List api_Row) → (List api_Row) → Int → Int → Option β
def zqwq : View := ⟨0, [1, 2, 15, 16, 17], [(false, [.data (.slice zq4)]), (false, [.fn 28 []]), (false, [.data (.slice zq4)]), (false, [.data (.int .i64)]), (false, [.data (.int .i64)])], []⟩
def zqwr : List (AExit × View) := [(.ret, ⟨0, [6], [(false, [.data .bool])], []⟩), (.exit 0, ⟨0, [], [], []⟩)]
@[reducible] def slices_EqualFunc_api_Row_api_Row_api_Row_api_Row_vtimeline_Check_f1_p1_G (p : zqwp) {β : Type} (d : zqwq.den) (ks : Outs.K β zqwr) : Option β :=
  p (fun a0 => ks.1 (((a0, ()), ()), ())) (fun _ => ks.2.1 ((), ())) d.1.1.1 d.1.2.2.1.1 d.1.2.2.2.1.1 d.1.2.2.2.2.1.1
section
variable (c_timeline_Check_f1 : zqc3)
@[reducible] def slices_EqualFunc_api_Row_api_Row_api_Row_api_Row_vtimeline_Check_f1_X : Ctx := ⟨look tab, pick1 [(28, .spec (zqc4 c_timeline_Check_f1))], false, false, false, false⟩
def zqws {β : Type} (rec : (List api_Row) → (List api_Row) → Int → Int → Option β) (k1 : zqwn β) (k2 : zqwo β) (s2 : List api_Row) (t15 : List api_Row) (t16 : Int) (t17 : Int) : Option β :=
  cond (decide (t17 < t16))
  (cond (decide (0 ≤ t17) && decide (t17 < (List.length t15 : Int)))
  (let e : api_Row := List.getD t15 (Int.toNat t17) ((0 : Int), (((0 : Int), (0 : Int)), ([] : List Int)));
  cond (decide (0 ≤ t17) && decide (t17 < (List.length s2 : Int)))
  (let e2 : api_Row := List.getD s2 (Int.toNat t17) ((0 : Int), (((0 : Int), (0 : Int)), ([] : List Int)));
  c_timeline_Check_f1 e e2 (fun (rCheck1 : Bool) =>
  cond (!rCheck1)
  (k1 false)
  (rec s2 t15 t16 (IntKind.i64.wrap (t17 + (1 : Int))))))
  none)
  none)
  (k2 ())
def zqwt {β : Type} : Nat → zqwn β → zqwo β → (List api_Row) → (List api_Row) → Int → Int → Option β
  | 0 => fun _ _ _ _ _ _ => none
  | i + 1 => fun k1 k2 s2 t15 t16 t17 => zqws c_timeline_Check_f1 (zqwt i k1 k2) k1 k2 s2 t15 t16 t17
theorem zqwu (hΓ : ΓOk Tryz.prog (slices_EqualFunc_api_Row_api_Row_api_Row_api_Row_vtimeline_Check_f1_X c_timeline_Check_f1).Γ) (i : Nat) : PieceOk Tryz.prog 32 0 slices_EqualFunc_api_Row_api_Row_api_Row_api_Row_vtimeline_Check_f1_p1_code zqwq zqwr (slices_EqualFunc_api_Row_api_Row_api_Row_api_Row_vtimeline_Check_f1_p1_G (zqwt c_timeline_Check_f1 i)) := by
  rw [show slices_EqualFunc_api_Row_api_Row_api_Row_api_Row_vtimeline_Check_f1_p1_code = .loop (loopBody slices_EqualFunc_api_Row_api_Row_api_Row_api_Row_vtimeline_Check_f1_p1_code) by kernel_rfl]
  exact piece_loop (X := (slices_EqualFunc_api_Row_api_Row_api_Row_api_Row_vtimeline_Check_f1_X c_timeline_Check_f1)) (p := 1) (Λ := pick1 []) (G := fun i => @fun β d ks => slices_EqualFunc_api_Row_api_Row_api_Row_api_Row_vtimeline_Check_f1_p1_G (zqwt c_timeline_Check_f1 i) d ks) mixed tab_ok hΓ rfl (by kernel_rfl) CutsOk_nil (fun _ _ => rfl) (fun i => @fun β d ks r h => Eq.trans (b := slices_EqualFunc_api_Row_api_Row_api_Row_api_Row_vtimeline_Check_f1_p1_G (zqwt c_timeline_Check_f1 (i + 1)) d ks) (by kernel_rfl) h) i
def zqwv (p1 : zqwp) {β : Type} (s1 : List api_Row) (s2 : List api_Row) (k : (Bool → Option β)) : Option β :=
  cond (!decide ((List.length s1 : Int) = (List.length s2 : Int)))
  (k false)
  (p1 (fun (t6 : Bool) =>
  k t6) (fun (_ : Unit) =>
  k true) s2 s1 (List.length s1 : Int) (0 : Int))
theorem zqww (hΓ : ΓOk Tryz.prog (slices_EqualFunc_api_Row_api_Row_api_Row_api_Row_vtimeline_Check_f1_X c_timeline_Check_f1).Γ) (p1 : zqwp) (hp1 : PieceOk Tryz.prog 32 0 slices_EqualFunc_api_Row_api_Row_api_Row_api_Row_vtimeline_Check_f1_p1_code zqwq zqwr (slices_EqualFunc_api_Row_api_Row_api_Row_api_Row_vtimeline_Check_f1_p1_G p1)) : SpecOk Tryz.prog 27 (zqwm (zqwv p1)) :=
  spec_exec (X := (slices_EqualFunc_api_Row_api_Row_api_Row_api_Row_vtimeline_Check_f1_X c_timeline_Check_f1)) (Λ := pick1 [(58, pieceCut zqwq zqwr (slices_EqualFunc_api_Row_api_Row_api_Row_api_Row_vtimeline_Check_f1_p1_G p1))]) (rs := [.tmp 6]) (c := bodyOf Tryz.f27) mixed tab_ok hΓ Tryz.func27 (by kernel_rfl) (by kernel_rfl) (by kernel_rfl) (by kernel_rfl) (CutsOk_cons (q := 58) (c' := slices_EqualFunc_api_Row_api_Row_api_Row_api_Row_vtimeline_Check_f1_p1_code) (by kernel_rfl) rfl hp1 CutsOk_nil) (fun x k r h => Eq.trans (b := (zqwm (zqwv p1)).run x k) (by kernel_rfl) h)
end
theorem zqwxΓ : ΓOk Tryz.prog (pick1 [(28, .spec (zqc4 zqc8))]) := (ΓOk_cons zqc9 ΓOk_nil)
def zqwy (m : Nat) : zqwp := zqwt zqc8 m
theorem zqwz {β : Type} (i : Nat) (k1 k2 s2 t15 t16 t17) : (zqwy (i + 1) k1 k2 s2 t15 t16 t17 : Option β) = zqws zqc8 (zqwy i k1 k2) k1 k2 s2 t15 t16 t17 := rfl
def zqx0 : zqwp := zqwy fuel
theorem zqx1 : PieceOk Tryz.prog 32 0 slices_EqualFunc_api_Row_api_Row_api_Row_api_Row_vtimeline_Check_f1_p1_code zqwq zqwr (slices_EqualFunc_api_Row_api_Row_api_Row_api_Row_vtimeline_Check_f1_p1_G zqx0) := zqwu zqc8 zqwxΓ fuel
def zqx2 : zqwl := zqwv zqx0
theorem zqx3 : SpecOk Tryz.prog 27 (zqwm zqx2) := zqww zqc8 zqwxΓ zqx0 zqx1

/-- pagewatch/timeline.Check -/
abbrev zqx4 := {β : Type} → zq2 → (List api_Row) → (Bool → Option β) → Option β
def zqx5 (c : zqx4) : Spec :=
  ⟨[(true, [.data zq3]), (false, [.data (.slice zq4)])], [], [(false, [.data .bool])], [], fun x k => c x.1.1.1 x.1.2.1.1 (fun r0 => k (((r0, ()), ()), ()))⟩
noncomputable def timeline_Check_p1_code : Code := codeAt 58 (bodyOf Tryz.f11)
abbrev zqx6 (β : Type) := (List api_Row) → (List (List UInt8 × Int)) → (List (Int × (Int × (Int × Int)))) → (List zq0) → (List (Int × (Int × Int))) → (List Int) → Option β
abbrev zqx7 := {β : Type} → zqx6 β → (List api_Row) → (List api_Row) → Int → Int → (List (List UInt8 × Int)) → (List (Int × (Int × (Int × Int)))) → (List zq0) → (List (Int × (Int × Int))) → (List Int) → Option β
def zqx8 : View := ⟨0, [1, 2, 5, 8, 9, 10], [(false, [.data (.slice zq4)]), (false, [.ptr 0 0]), (false, [.rowh 1]), (false, [.data (.slice zq4)]), (false, [.data (.int .i64)]), (false, [.data (.int .i64)])], [.cells 32 [.data (.slice (.prod .str (.int .i64))), .data (.slice (.prod (.int .i64) (.prod (.int .i64) (.prod (.int .i64) (.int .i64))))), .data (.slice zq1), .data (.slice (.prod (.int .i64) (.prod (.int .i64) (.int .i64))))], .row 3 (.int .i64)]⟩
def zqx9 : List (AExit × View) := [(.exit 0, ⟨0, [1, 2, 5], [(false, [.data (.slice zq4)]), (false, [.ptr 0 0]), (false, [.rowh 1])], [.cells 32 [.data (.slice (.prod .str (.int .i64))), .data (.slice (.prod (.int .i64) (.prod (.int .i64) (.prod (.int .i64) (.int .i64))))), .data (.slice zq1), .data (.slice (.prod (.int .i64) (.prod (.int .i64) (.int .i64))))], .row 3 (.int .i64)]⟩)]
@[reducible] def timeline_Check_p1_G (p : zqx7) {β : Type} (d : zqx8.den) (ks : Outs.K β zqx9) : Option β :=
  p (fun a0 a1 a2 a3 a4 a5 => ks.1 (((a0, ()), (), (), ()), ((a1, a2, a3, a4, ()), a5, ()))) d.1.1.1 d.1.2.2.2.1.1 d.1.2.2.2.2.1.1 d.1.2.2.2.2.2.1.1 d.2.1.1 d.2.1.2.1 d.2.1.2.2.1 d.2.1.2.2.2.1 d.2.2.1
section
variable (c_order_Allows : zqw2) (c_slices_EqualFunc_api_Row_api_Row_api_Row_api_Row_vtimeline_Check_f1 : zqwl) (c_timeline_rows : zqu1)
@[reducible] def timeline_Check_X : Ctx := ⟨look tab, pick1 [(26, .spec (zqw3 c_order_Allows)), (27, .spec (zqwm c_slices_EqualFunc_api_Row_api_Row_api_Row_api_Row_vtimeline_Check_f1)), (25, .spec (zqu2 c_timeline_rows))], false, false, false, false⟩
def zqxa {β : Type} (rec : (List api_Row) → (List api_Row) → Int → Int → (List (List UInt8 × Int)) → (List (Int × (Int × (Int × Int)))) → (List zq0) → (List (Int × (Int × Int))) → (List Int) → Option β) (k1 : zqx6 β) (l : List api_Row) (t8 : List api_Row) (t9 : Int) (t10 : Int) (r_ : List (List UInt8 × Int)) (r_2 : List (Int × (Int × (Int × Int)))) (r_3 : List zq0) (r_4 : List (Int × (Int × Int))) (events : List Int) : Option β :=
  cond (decide (t10 < t9))
  (cond (decide (0 ≤ t10) && decide (t10 < (List.length t8 : Int)))
  (let e : api_Row := List.getD t8 (Int.toNat t10) ((0 : Int), (((0 : Int), (0 : Int)), ([] : List Int)));
  let l2 : List Int := ([e.1] : List Int);
  cond (decide ((List.length events + List.length l2) * 8 ≤ roomMax))
  (let l3 : List Int := (events ++ l2);
  rec l t8 t9 (IntKind.i64.wrap (t10 + (1 : Int))) r_ r_2 r_3 r_4 l3)
  none)
  none)
  (k1 l r_ r_2 r_3 r_4 events)
def zqxb {β : Type} : Nat → zqx6 β → (List api_Row) → (List api_Row) → Int → Int → (List (List UInt8 × Int)) → (List (Int × (Int × (Int × Int)))) → (List zq0) → (List (Int × (Int × Int))) → (List Int) → Option β
  | 0 => fun _ _ _ _ _ _ _ _ _ _ => none
  | i + 1 => fun k1 l t8 t9 t10 r_ r_2 r_3 r_4 events => zqxa (zqxb i k1) k1 l t8 t9 t10 r_ r_2 r_3 r_4 events
theorem zqxc (hΓ : ΓOk Tryz.prog (timeline_Check_X c_order_Allows c_slices_EqualFunc_api_Row_api_Row_api_Row_api_Row_vtimeline_Check_f1 c_timeline_rows).Γ) (i : Nat) : PieceOk Tryz.prog 30 0 timeline_Check_p1_code zqx8 zqx9 (timeline_Check_p1_G (zqxb i)) := by
  rw [show timeline_Check_p1_code = .loop (loopBody timeline_Check_p1_code) by kernel_rfl]
  exact piece_loop (X := (timeline_Check_X c_order_Allows c_slices_EqualFunc_api_Row_api_Row_api_Row_api_Row_vtimeline_Check_f1 c_timeline_rows)) (p := 1) (Λ := pick1 []) (G := fun i => @fun β d ks => timeline_Check_p1_G (zqxb i) d ks) mixed tab_ok hΓ rfl (by kernel_rfl) CutsOk_nil (fun _ _ => rfl) (fun i => @fun β d ks r h => Eq.trans (b := timeline_Check_p1_G (zqxb (i + 1)) d ks) (by kernel_rfl) h) i
def zqxd (p1 : zqx7) {β : Type} (r_ : zq2) (l : List api_Row) (k : (Bool → Option β)) : Option β :=
  p1 (fun (l2 : List api_Row) (r_2 : List (List UInt8 × Int)) (r_3 : List (Int × (Int × (Int × Int)))) (r_4 : List zq0) (r_5 : List (Int × (Int × Int))) (events : List Int) =>
  c_order_Allows (r_2, (r_3, (r_4, r_5))) events (fun (rAllows : Bool) =>
  cond rAllows
  (c_timeline_rows (r_2, (r_3, (r_4, r_5))) events (fun (lrrows : List api_Row) =>
  c_slices_EqualFunc_api_Row_api_Row_api_Row_api_Row_vtimeline_Check_f1 l2 lrrows (fun (rRow : Bool) =>
  k rRow)))
  (k false))) l l (List.length l : Int) (0 : Int) r_.1 r_.2.1 r_.2.2.1 r_.2.2.2 ([] : List Int)
theorem zqxe (hΓ : ΓOk Tryz.prog (timeline_Check_X c_order_Allows c_slices_EqualFunc_api_Row_api_Row_api_Row_api_Row_vtimeline_Check_f1 c_timeline_rows).Γ) (p1 : zqx7) (hp1 : PieceOk Tryz.prog 30 0 timeline_Check_p1_code zqx8 zqx9 (timeline_Check_p1_G p1)) : SpecOk Tryz.prog 11 (zqx5 (zqxd c_order_Allows c_slices_EqualFunc_api_Row_api_Row_api_Row_api_Row_vtimeline_Check_f1 c_timeline_rows p1)) :=
  spec_exec (X := (timeline_Check_X c_order_Allows c_slices_EqualFunc_api_Row_api_Row_api_Row_api_Row_vtimeline_Check_f1 c_timeline_rows)) (Λ := pick1 [(58, pieceCut zqx8 zqx9 (timeline_Check_p1_G p1))]) (rs := [.tmp 4]) (c := bodyOf Tryz.f11) mixed tab_ok hΓ Tryz.func11 (by kernel_rfl) (by kernel_rfl) (by kernel_rfl) (by kernel_rfl) (CutsOk_cons (q := 58) (c' := timeline_Check_p1_code) (by kernel_rfl) rfl hp1 CutsOk_nil) (fun x k r h => Eq.trans (b := (zqx5 (zqxd c_order_Allows c_slices_EqualFunc_api_Row_api_Row_api_Row_api_Row_vtimeline_Check_f1 c_timeline_rows p1)).run x k) (by kernel_rfl) h)
end
theorem zqxfΓ : ΓOk Tryz.prog (pick1 [(26, .spec (zqw3 zqwj)), (27, .spec (zqwm zqx2)), (25, .spec (zqu2 zqv3))]) := (ΓOk_cons zqwk (ΓOk_cons zqx3 (ΓOk_cons zqv4 ΓOk_nil)))
def zqxg (m : Nat) : zqx7 := zqxb m
theorem zqxh {β : Type} (i : Nat) (k1 l t8 t9 t10 r_ r_2 r_3 r_4 events) : (zqxg (i + 1) k1 l t8 t9 t10 r_ r_2 r_3 r_4 events : Option β) = zqxa (zqxg i k1) k1 l t8 t9 t10 r_ r_2 r_3 r_4 events := rfl
def zqxi : zqx7 := zqxg fuel
theorem zqxj : PieceOk Tryz.prog 30 0 timeline_Check_p1_code zqx8 zqx9 (timeline_Check_p1_G zqxi) := zqxc zqwj zqx2 zqv3 zqxfΓ fuel
def zqxk : zqx4 := zqxd zqwj zqx2 zqv3 zqxi
theorem zqxl : SpecOk Tryz.prog 11 (zqx5 zqxk) := zqxe zqwj zqx2 zqv3 zqxfΓ zqxi zqxj

/-- pagewatch/timeline.Text -/
abbrev zqxm := {β : Type} → zq2 → (List api_Row) → ((List UInt8) → Int → Option β) → Option β
def zqxn (c : zqxm) : Spec :=
  ⟨[(true, [.data zq3]), (false, [.data (.slice zq4)])], [], [(false, [.data .str]), (false, [.data (.int .i64)])], [], fun x k => c x.1.1.1 x.1.2.1.1 (fun r0 r1 => k (((r0, ()), (r1, ()), ()), ()))⟩
noncomputable def timeline_Text_p2_code : Code := codeAt 122 (bodyOf Tryz.f21)
noncomputable def timeline_Text_p1_code : Code := codeAt 927 (loopBody timeline_Text_p2_code)
abbrev zqxo (β : Type) := (List api_Row) → Int → Int → (List (List UInt8 × Int)) → (List (Int × (Int × (Int × Int)))) → (List zq0) → (List (Int × (Int × Int))) → (List Int) → Option β
abbrev zqxp := {β : Type} → zqxo β → (List api_Row) → Int → Int → (List (List UInt8 × Int)) → (List (Int × (Int × (Int × Int)))) → (List zq0) → (List (Int × (Int × Int))) → Int → Int → Int → (List Int) → Int → Int → (List UInt8) → (List Int) → Option β
def zqxq : View := ⟨0, [2, 6, 8, 9, 14, 15, 16], [(false, [.ptr 0 0]), (false, [.ptr 1 0]), (false, [.ptr 2 0]), (false, [.ptr 3 0]), (false, [.data (.slice zq4)]), (false, [.data (.int .i64)]), (false, [.data (.int .i64)])], [.cells 32 [.data (.slice (.prod .str (.int .i64))), .data (.slice (.prod (.int .i64) (.prod (.int .i64) (.prod (.int .i64) (.int .i64))))), .data (.slice zq1), .data (.slice (.prod (.int .i64) (.prod (.int .i64) (.int .i64))))], .cells 95 [.bself 1, .rowh 4], .cells 42 [.data (.int .i64), .data (.int .i64), .data (.int .i64), .data (.slice (.int .i64))], .cells 60 [.data (.int .i64), .data (.int .i64), .data .str], .row 5 (.int .u8)]⟩
def zqxr : List (AExit × View) := [(.normal, ⟨0, [2, 6, 14, 15, 16], [(false, [.ptr 0 0]), (false, [.ptr 1 0]), (false, [.data (.slice zq4)]), (false, [.data (.int .i64)]), (false, [.data (.int .i64)])], [.cells 32 [.data (.slice (.prod .str (.int .i64))), .data (.slice (.prod (.int .i64) (.prod (.int .i64) (.prod (.int .i64) (.int .i64))))), .data (.slice zq1), .data (.slice (.prod (.int .i64) (.prod (.int .i64) (.int .i64))))], .cells 95 [.bself 1, .rowh 2], .row 5 (.int .u8)]⟩)]
@[reducible] def timeline_Text_p1_G (p : zqxp) {β : Type} (d : zqxq.den) (ks : Outs.K β zqxr) : Option β :=
  p (fun a0 a1 a2 a3 a4 a5 a6 a7 => ks.1 (((), (), (a0, ()), (a1, ()), (a2, ()), ()), ((a3, a4, a5, a6, ()), (), a7, ()))) d.1.2.2.2.2.1.1 d.1.2.2.2.2.2.1.1 d.1.2.2.2.2.2.2.1.1 d.2.1.1 d.2.1.2.1 d.2.1.2.2.1 d.2.1.2.2.2.1 d.2.2.2.1.1 d.2.2.2.1.2.1 d.2.2.2.1.2.2.1 d.2.2.2.1.2.2.2.1 d.2.2.2.2.1.1 d.2.2.2.2.1.2.1 d.2.2.2.2.1.2.2.1 d.2.2.2.2.2.1
abbrev zqxs (β : Type) := (List UInt8) → Int → Option β
abbrev zqxt (β : Type) := (List Int) → Option β
abbrev zqxu := {β : Type} → zqxs β → zqxt β → (List api_Row) → Int → Int → (List (List UInt8 × Int)) → (List (Int × (Int × (Int × Int)))) → (List zq0) → (List (Int × (Int × Int))) → (List Int) → Option β
def zqxv : View := ⟨0, [2, 6, 14, 15, 16], [(false, [.ptr 0 0]), (false, [.ptr 1 0]), (false, [.data (.slice zq4)]), (false, [.data (.int .i64)]), (false, [.data (.int .i64)])], [.cells 32 [.data (.slice (.prod .str (.int .i64))), .data (.slice (.prod (.int .i64) (.prod (.int .i64) (.prod (.int .i64) (.int .i64))))), .data (.slice zq1), .data (.slice (.prod (.int .i64) (.prod (.int .i64) (.int .i64))))], .cells 95 [.bself 1, .rowh 2], .row 5 (.int .u8)]⟩
def zqxw : List (AExit × View) := [(.ret, ⟨0, [4, 5], [(false, [.data .str]), (false, [.data (.int .i64)])], []⟩), (.exit 0, ⟨0, [6], [(false, [.ptr 0 0])], [.cells 95 [.bself 0, .rowh 1], .row 5 (.int .u8)]⟩)]
@[reducible] def timeline_Text_p2_G (p : zqxu) {β : Type} (d : zqxv.den) (ks : Outs.K β zqxw) : Option β :=
  p (fun a0 a1 => ks.1 (((a0, ()), (a1, ()), ()), ())) (fun a0 => ks.2.1 (((), ()), ((), a0, ()))) d.1.2.2.1.1 d.1.2.2.2.1.1 d.1.2.2.2.2.1.1 d.2.1.1 d.2.1.2.1 d.2.1.2.2.1 d.2.1.2.2.2.1 d.2.2.2.1
section
variable (c_strconv_Itoa : zq2q) (c_timeline_Check : zqx4) (c_timeline_printed : zq21)
@[reducible] def timeline_Text_X : Ctx := ⟨look tab, pick1 [(41, .spec (zq2r c_strconv_Itoa)), (11, .spec (zqx5 c_timeline_Check)), (39, .spec (zq22 c_timeline_printed)), (42, .bld zq2w), (43, .bld zq30), (40, .bld zq2m)], false, false, false, false⟩
def zqxx {β : Type} (k1 : zqxo β) (t14 : List api_Row) (t15 : Int) (t16 : Int) (r_ : List (List UInt8 × Int)) (r_2 : List (Int × (Int × (Int × Int)))) (r_3 : List zq0) (r_4 : List (Int × (Int × Int))) (x : Int) (x2 : Int) (x3 : Int) (x4 : List Int) (e : Int) (e2 : Int) (e3 : List UInt8) (b4_ : List Int) : Option β :=
  cond (decide (0 ≤ e) && decide (e < (List.length r_ : Int)))
  (let e4 : (List UInt8 × Int) := List.getD r_ (Int.toNat e) (([] : List UInt8), (0 : Int));
  cond (decide (List.length ([32] : List UInt8) + List.length e4.1 ≤ 9223372036854775807))
  (cond (decide (List.length (([32] : List UInt8) ++ e4.1) + List.length ([32] : List UInt8) ≤ 9223372036854775807))
  (cond (decide (List.length ((([32] : List UInt8) ++ e4.1) ++ ([32] : List UInt8)) + List.length e3 ≤ 9223372036854775807))
  (cond (decide (List.length b4_ + List.length (((([32] : List UInt8) ++ e4.1) ++ ([32] : List UInt8)) ++ e3) ≤ 140737488355328))
  (let l : List Int := (b4_ ++ bytesI (((([32] : List UInt8) ++ e4.1) ++ ([32] : List UInt8)) ++ e3));
  cond (decide ((0 : Int) < (List.length x4 : Int)))
  (cond (decide (List.length l + List.length ([32, 111, 112, 101, 110] : List UInt8) ≤ 140737488355328))
  (let l2 : List Int := (l ++ bytesI ([32, 111, 112, 101, 110] : List UInt8));
  cond (decide (List.length l2 + List.length ([10] : List UInt8) ≤ 140737488355328))
  (let l3 : List Int := (l2 ++ bytesI ([10] : List UInt8));
  k1 t14 t15 t16 r_ r_2 r_3 r_4 l3)
  none)
  none)
  (cond (decide (List.length l + List.length ([10] : List UInt8) ≤ 140737488355328))
  (let l2 : List Int := (l ++ bytesI ([10] : List UInt8));
  k1 t14 t15 t16 r_ r_2 r_3 r_4 l2)
  none))
  none)
  none)
  none)
  none)
  none
def zqxy {β : Type} (k1 : zqxo β) (t14 : List api_Row) (t15 : Int) (t16 : Int) (r_ : List (List UInt8 × Int)) (r_2 : List (Int × (Int × (Int × Int)))) (r_3 : List zq0) (r_4 : List (Int × (Int × Int))) (x : Int) (x2 : Int) (x3 : Int) (x4 : List Int) (e : Int) (e2 : Int) (e3 : List UInt8) (b4_ : List Int) : Option β := zqxx k1 t14 t15 t16 r_ r_2 r_3 r_4 x x2 x3 x4 e e2 e3 b4_
theorem zqxz (hΓ : ΓOk Tryz.prog (timeline_Text_X c_strconv_Itoa c_timeline_Check c_timeline_printed).Γ) : PieceOk Tryz.prog 82 0 timeline_Text_p1_code zqxq zqxr (timeline_Text_p1_G (zqxy)) :=
  piece_exec (X := (timeline_Text_X c_strconv_Itoa c_timeline_Check c_timeline_printed)) (p := 927) (Λ := pick1 []) mixed tab_ok hΓ (by kernel_rfl) CutsOk_nil (fun d ks r h => Eq.trans (b := timeline_Text_p1_G (zqxy) d ks) (by kernel_rfl) h)
def zqy0 (p1 : zqxp) {β : Type} (rec : (List api_Row) → Int → Int → (List (List UInt8 × Int)) → (List (Int × (Int × (Int × Int)))) → (List zq0) → (List (Int × (Int × Int))) → (List Int) → Option β) (k1 : zqxs β) (k2 : zqxt β) (t14 : List api_Row) (t15 : Int) (t16 : Int) (r_ : List (List UInt8 × Int)) (r_2 : List (Int × (Int × (Int × Int)))) (r_3 : List zq0) (r_4 : List (Int × (Int × Int))) (b2_ : List Int) : Option β :=
  cond (decide (t16 < t15))
  (cond (decide (0 ≤ t16) && decide (t16 < (List.length t14 : Int)))
  (let e : api_Row := List.getD t14 (Int.toNat t16) ((0 : Int), (((0 : Int), (0 : Int)), ([] : List Int)));
  cond (decide (0 ≤ e.1) && decide (e.1 < (List.length r_3 : Int)))
  (let e2 : zq0 := List.getD r_3 (Int.toNat e.1) ((0 : Int), ((0 : Int), ([] : List UInt8)));
  cond (decide (0 ≤ e2.1) && decide (e2.1 < (List.length r_ : Int)))
  (let e3 : (List UInt8 × Int) := List.getD r_ (Int.toNat e2.1) (([] : List UInt8), (0 : Int));
  c_timeline_printed e3.1 (33 : Int) (fun (rprinted : Bool) =>
  cond (!rprinted)
  (k1 ([] : List UInt8) (2 : Int))
  (c_timeline_printed e2.2.2 (32 : Int) (fun (rprinted2 : Bool) =>
  cond (!rprinted2)
  (k1 ([] : List UInt8) (2 : Int))
  (c_strconv_Itoa e.2.1.1 (fun (rItoa : List UInt8) =>
  cond (decide (List.length b2_ + List.length rItoa ≤ 140737488355328))
  (let l : List Int := (b2_ ++ bytesI rItoa);
  cond (!decide (e.2.1.2 = e.2.1.1))
  (c_strconv_Itoa e.2.1.2 (fun (rItoa2 : List UInt8) =>
  cond (decide (List.length ([46, 46] : List UInt8) + List.length rItoa2 ≤ 9223372036854775807))
  (cond (decide (List.length l + List.length (([46, 46] : List UInt8) ++ rItoa2) ≤ 140737488355328))
  (let l2 : List Int := (l ++ bytesI (([46, 46] : List UInt8) ++ rItoa2));
  p1 (fun (t142 : List api_Row) (t152 : Int) (t162 : Int) (r_5 : List (List UInt8 × Int)) (r_6 : List (Int × (Int × (Int × Int)))) (r_7 : List zq0) (r_8 : List (Int × (Int × Int))) (b2_2 : List Int) =>
  rec t142 t152 (IntKind.i64.wrap (t162 + (1 : Int))) r_5 r_6 r_7 r_8 b2_2) t14 t15 t16 r_ r_2 r_3 r_4 e.1 e.2.1.1 e.2.1.2 e.2.2 e2.1 e2.2.1 e2.2.2 l2)
  none)
  none))
  (p1 (fun (t142 : List api_Row) (t152 : Int) (t162 : Int) (r_5 : List (List UInt8 × Int)) (r_6 : List (Int × (Int × (Int × Int)))) (r_7 : List zq0) (r_8 : List (Int × (Int × Int))) (b2_2 : List Int) =>
  rec t142 t152 (IntKind.i64.wrap (t162 + (1 : Int))) r_5 r_6 r_7 r_8 b2_2) t14 t15 t16 r_ r_2 r_3 r_4 e.1 e.2.1.1 e.2.1.2 e.2.2 e2.1 e2.2.1 e2.2.2 l))
  none))))))
  none)
  none)
  none)
  (k2 b2_)
def zqy1 (p1 : zqxp) {β : Type} : Nat → zqxs β → zqxt β → (List api_Row) → Int → Int → (List (List UInt8 × Int)) → (List (Int × (Int × (Int × Int)))) → (List zq0) → (List (Int × (Int × Int))) → (List Int) → Option β
  | 0 => fun _ _ _ _ _ _ _ _ _ _ => none
  | i + 1 => fun k1 k2 t14 t15 t16 r_ r_2 r_3 r_4 b2_ => zqy0 c_strconv_Itoa c_timeline_printed p1 (zqy1 p1 i k1 k2) k1 k2 t14 t15 t16 r_ r_2 r_3 r_4 b2_
theorem zqy2 (hΓ : ΓOk Tryz.prog (timeline_Text_X c_strconv_Itoa c_timeline_Check c_timeline_printed).Γ) (p1 : zqxp) (hp1 : PieceOk Tryz.prog 82 0 timeline_Text_p1_code zqxq zqxr (timeline_Text_p1_G p1)) (i : Nat) : PieceOk Tryz.prog 82 0 timeline_Text_p2_code zqxv zqxw (timeline_Text_p2_G (zqy1 c_strconv_Itoa c_timeline_printed p1 i)) := by
  rw [show timeline_Text_p2_code = .loop (loopBody timeline_Text_p2_code) by kernel_rfl]
  exact piece_loop (X := (timeline_Text_X c_strconv_Itoa c_timeline_Check c_timeline_printed)) (p := 1) (Λ := pick1 [(927, pieceCut zqxq zqxr (timeline_Text_p1_G p1))]) (G := fun i => @fun β d ks => timeline_Text_p2_G (zqy1 c_strconv_Itoa c_timeline_printed p1 i) d ks) mixed tab_ok hΓ rfl (by kernel_rfl) (CutsOk_cons (q := 927) (c' := timeline_Text_p1_code) (by kernel_rfl) rfl hp1 CutsOk_nil) (fun _ _ => rfl) (fun i => @fun β d ks r h => Eq.trans (b := timeline_Text_p2_G (zqy1 c_strconv_Itoa c_timeline_printed p1 (i + 1)) d ks) (by kernel_rfl) h) i
def zqy3 (p2 : zqxu) {β : Type} (r_ : zq2) (l : List api_Row) (k : ((List UInt8) → Int → Option β)) : Option β :=
  c_timeline_Check r_ l (fun (rCheck : Bool) =>
  cond (!rCheck)
  (k ([] : List UInt8) (8 : Int))
  (p2 (fun (t4 : List UInt8) (t5 : Int) =>
  k t4 t5) (fun (b1_ : List Int) =>
  cond (decide ((65536 : Int) < (List.length b1_ : Int)))
  (k ([] : List UInt8) (5 : Int))
  (cond (bytesOk b1_)
  (k (strOf b1_) (0 : Int))
  none)) l (List.length l : Int) (0 : Int) r_.1 r_.2.1 r_.2.2.1 r_.2.2.2 ([] : List Int)))
theorem zqy4 (hΓ : ΓOk Tryz.prog (timeline_Text_X c_strconv_Itoa c_timeline_Check c_timeline_printed).Γ) (p2 : zqxu) (hp2 : PieceOk Tryz.prog 82 0 timeline_Text_p2_code zqxv zqxw (timeline_Text_p2_G p2)) : SpecOk Tryz.prog 21 (zqxn (zqy3 c_timeline_Check p2)) :=
  spec_exec (X := (timeline_Text_X c_strconv_Itoa c_timeline_Check c_timeline_printed)) (Λ := pick1 [(122, pieceCut zqxv zqxw (timeline_Text_p2_G p2))]) (rs := [.tmp 4, .tmp 5]) (c := bodyOf Tryz.f21) mixed tab_ok hΓ Tryz.func21 (by kernel_rfl) (by kernel_rfl) (by kernel_rfl) (by kernel_rfl) (CutsOk_cons (q := 122) (c' := timeline_Text_p2_code) (by kernel_rfl) rfl hp2 CutsOk_nil) (fun x k r h => Eq.trans (b := (zqxn (zqy3 c_timeline_Check p2)).run x k) (by kernel_rfl) h)
end
theorem zqy5Γ : ΓOk Tryz.prog (pick1 [(41, .spec (zq2r zq2s)), (11, .spec (zqx5 zqxk)), (39, .spec (zq22 zq2i)), (42, .bld zq2w), (43, .bld zq30), (40, .bld zq2m)]) := (ΓOk_cons zq2t (ΓOk_cons zqxl (ΓOk_cons zq2j (ΓOk_bld zq2x (ΓOk_bld zq31 (ΓOk_bld zq2n ΓOk_nil))))))
def zqy6 : zqxp := zqxy
theorem zqy7 : PieceOk Tryz.prog 82 0 timeline_Text_p1_code zqxq zqxr (timeline_Text_p1_G zqy6) := zqxz zq2s zqxk zq2i zqy5Γ
def zqy8 (m : Nat) : zqxu := zqy1 zq2s zq2i zqy6 m
theorem zqy9 {β : Type} (i : Nat) (k1 k2 t14 t15 t16 r_ r_2 r_3 r_4 b2_) : (zqy8 (i + 1) k1 k2 t14 t15 t16 r_ r_2 r_3 r_4 b2_ : Option β) = zqy0 zq2s zq2i zqy6 (zqy8 i k1 k2) k1 k2 t14 t15 t16 r_ r_2 r_3 r_4 b2_ := rfl
def zqya : zqxu := zqy8 fuel
theorem zqyb : PieceOk Tryz.prog 82 0 timeline_Text_p2_code zqxv zqxw (timeline_Text_p2_G zqya) := zqy2 zq2s zqxk zq2i zqy5Γ zqy6 zqy7 fuel
def zqyc : zqxm := zqy3 zqxk zqya
theorem zqyd : SpecOk Tryz.prog 21 (zqxn zqyc) := zqy4 zq2s zqxk zq2i zqy5Γ zqya zqyb

/-- pagewatch/pagewatchlaw41.sane -/
abbrev zqye := {β : Type} → (Bool → Option β) → Option β
def zqyf (c : zqye) : Spec :=
  ⟨[], [], [(false, [.data .bool])], [], fun x k => c  (fun r0 => k (((r0, ()), ()), ()))⟩
section
variable (c_timeline_Rows : zqv5) (c_timeline_Text : zqxm)
@[reducible] def law41_sane_X : Ctx := ⟨look tab, pick1 [(10, .spec (zqv6 c_timeline_Rows)), (21, .spec (zqxn c_timeline_Text))], false, false, true, false⟩
def zqyg {β : Type} (k : (Bool → Option β)) : Option β :=
  let l : List (List UInt8 × Int) := ([(([100, 98] : List UInt8), (0 : Int))] : List (List UInt8 × Int));
  let l2 : List (Int × (Int × (Int × Int))) := ([((0 : Int), ((10 : Int), ((100 : Int), (100 : Int))))] : List (Int × (Int × (Int × Int))));
  let l3 : List zq0 := ([((0 : Int), ((20 : Int), ([100, 111, 119, 110] : List UInt8))), ((0 : Int), ((10 : Int), ([115, 108, 111, 119] : List UInt8)))] : List zq0);
  c_timeline_Rows (l, (l2, (l3, ([] : List (Int × (Int × Int)))))) (fun (rRows : Bool) (lrRows : List api_Row) =>
  c_timeline_Text (l, (l2, (l3, ([] : List (Int × (Int × Int)))))) lrRows (fun (rText : List UInt8) (rText2 : Int) =>
  cond rRows
  (cond (decide (rText2 = (0 : Int)))
  (let t : Bool := (decide (rText = ([49, 48, 48, 32, 100, 98, 32, 115, 108, 111, 119, 10, 49, 49, 48, 32, 100, 98, 32, 100, 111, 119, 110, 10] : List UInt8)));
  k t)
  (k false))
  (k false)))
theorem zqyh (hΓ : ΓOk Tryz.prog (law41_sane_X c_timeline_Rows c_timeline_Text).Γ) : SpecOk Tryz.prog 7 (zqyf (zqyg c_timeline_Rows c_timeline_Text)) :=
  spec_exec (X := (law41_sane_X c_timeline_Rows c_timeline_Text)) (Λ := pick1 []) (rs := [.tmp 0]) (c := bodyOf Tryz.f7) mixed tab_ok hΓ Tryz.func7 (by kernel_rfl) (by kernel_rfl) (by kernel_rfl) (by kernel_rfl) CutsOk_nil (fun x k r h => Eq.trans (b := (zqyf (zqyg c_timeline_Rows c_timeline_Text)).run x k) (by kernel_rfl) h)
end
theorem zqyiΓ : ΓOk Tryz.prog (pick1 [(10, .spec (zqv6 zqva)), (21, .spec (zqxn zqyc))]) := (ΓOk_cons zqvb (ΓOk_cons zqyd ΓOk_nil))
def zqyj : zqye := zqyg zqva zqyc
theorem zqyk : SpecOk Tryz.prog 7 (zqyf zqyj) := zqyh zqva zqyc zqyiΓ

/-- pagewatch/pagewatchlaw41.TimelineHosts -/
abbrev zqyl := {β : Type} → (List Int) → (Bool → Option β) → Option β
def zqym (c : zqyl) : Spec :=
  ⟨[(false, [.data (.slice (.int .i64))])], [], [(false, [.data .bool])], [], fun x k => c x.1.1.1 (fun r0 => k (((r0, ()), ()), ()))⟩
noncomputable def law41_TimelineHosts_p3_code : Code := codeAt 506 (bodyOf Tryz.f5)
noncomputable def law41_TimelineHosts_p1_code : Code := codeAt 1850 (loopBody law41_TimelineHosts_p3_code)
noncomputable def law41_TimelineHosts_p2_code : Code := codeAt 3706 (loopBody law41_TimelineHosts_p3_code)
abbrev zqyn (β : Type) := Bool → Option β
abbrev zqyo (β : Type) := Int → Int → Int → Int → Int → (List (List UInt8 × Int)) → (List (Int × (Int × (Int × Int)))) → (List zq0) → (List (Int × (Int × Int))) → (List (List UInt8 × Int)) → (List (Int × (Int × (Int × Int)))) → (List zq0) → (List (Int × (Int × Int))) → Option β
abbrev zqyp := {β : Type} → zqyn β → zqyo β → Int → Int → Int → Int → Int → Int → Int → (List (List UInt8 × Int)) → (List (Int × (Int × (Int × Int)))) → (List zq0) → (List (Int × (Int × Int))) → (List (List UInt8 × Int)) → (List (Int × (Int × (Int × Int)))) → (List zq0) → (List (Int × (Int × Int))) → (List (Int × Int)) → Option β
def zqyq : View := ⟨0, [4, 6, 7, 8, 9, 29, 30, 47, 48, 49], [(false, [.ptr 0 0]), (false, [.data (.int .i64)]), (false, [.data (.int .i64)]), (false, [.data (.int .i64)]), (false, [.ptr 1 0]), (false, [.data (.int .i64)]), (false, [.data (.int .i64)]), (false, [.rowh 2]), (false, [.data (.int .i64)]), (false, [.data (.int .i64)])], [.cells 32 [.data (.slice (.prod .str (.int .i64))), .data (.slice (.prod (.int .i64) (.prod (.int .i64) (.prod (.int .i64) (.int .i64))))), .data (.slice zq1), .data (.slice (.prod (.int .i64) (.prod (.int .i64) (.int .i64))))], .cells 32 [.data (.slice (.prod .str (.int .i64))), .data (.slice (.prod (.int .i64) (.prod (.int .i64) (.prod (.int .i64) (.int .i64))))), .data (.slice zq1), .data (.slice (.prod (.int .i64) (.prod (.int .i64) (.int .i64))))], .row 58 (.prod (.int .i64) (.int .i64))]⟩
def zqyr : List (AExit × View) := [(.ret, ⟨0, [2], [(false, [.data .bool])], []⟩), (.exit 2, ⟨0, [4, 6, 7, 8, 9, 29, 30], [(false, [.ptr 0 0]), (false, [.data (.int .i64)]), (false, [.data (.int .i64)]), (false, [.data (.int .i64)]), (false, [.ptr 1 0]), (false, [.data (.int .i64)]), (false, [.data (.int .i64)])], [.cells 32 [.data (.slice (.prod .str (.int .i64))), .data (.slice (.prod (.int .i64) (.prod (.int .i64) (.prod (.int .i64) (.int .i64))))), .data (.slice zq1), .data (.slice (.prod (.int .i64) (.prod (.int .i64) (.int .i64))))], .cells 32 [.data (.slice (.prod .str (.int .i64))), .data (.slice (.prod (.int .i64) (.prod (.int .i64) (.prod (.int .i64) (.int .i64))))), .data (.slice zq1), .data (.slice (.prod (.int .i64) (.prod (.int .i64) (.int .i64))))]]⟩)]
@[reducible] def law41_TimelineHosts_p1_G (p : zqyp) {β : Type} (d : zqyq.den) (ks : Outs.K β zqyr) : Option β :=
  p (fun a0 => ks.1 (((a0, ()), ()), ())) (fun a0 a1 a2 a3 a4 a5 a6 a7 a8 a9 a10 a11 a12 => ks.2.1 (((), (a0, ()), (a1, ()), (a2, ()), (), (a3, ()), (a4, ()), ()), ((a5, a6, a7, a8, ()), (a9, a10, a11, a12, ()), ()))) d.1.2.1.1 d.1.2.2.1.1 d.1.2.2.2.1.1 d.1.2.2.2.2.2.1.1 d.1.2.2.2.2.2.2.1.1 d.1.2.2.2.2.2.2.2.2.1.1 d.1.2.2.2.2.2.2.2.2.2.1.1 d.2.1.1 d.2.1.2.1 d.2.1.2.2.1 d.2.1.2.2.2.1 d.2.2.1.1 d.2.2.1.2.1 d.2.2.1.2.2.1 d.2.2.1.2.2.2.1 d.2.2.2.1
abbrev zqys (β : Type) := Bool → Option β
abbrev zqyt (β : Type) := Int → Int → Int → Int → (List (List UInt8 × Int)) → (List (Int × (Int × (Int × Int)))) → (List zq0) → (List (Int × (Int × Int))) → (List (List UInt8 × Int)) → (List (Int × (Int × (Int × Int)))) → (List zq0) → (List (Int × (Int × Int))) → Option β
abbrev zqyu := {β : Type} → zqys β → zqyt β → Int → Int → Int → Int → Int → (List zq0) → Int → Int → (List (List UInt8 × Int)) → (List (Int × (Int × (Int × Int)))) → (List zq0) → (List (Int × (Int × Int))) → (List (List UInt8 × Int)) → (List (Int × (Int × (Int × Int)))) → (List zq0) → (List (Int × (Int × Int))) → Option β
def zqyv : View := ⟨0, [4, 6, 7, 8, 9, 29, 30, 76, 77, 78], [(false, [.ptr 0 0]), (false, [.data (.int .i64)]), (false, [.data (.int .i64)]), (false, [.data (.int .i64)]), (false, [.ptr 1 0]), (false, [.data (.int .i64)]), (false, [.data (.int .i64)]), (false, [.data (.slice zq1)]), (false, [.data (.int .i64)]), (false, [.data (.int .i64)])], [.cells 32 [.data (.slice (.prod .str (.int .i64))), .data (.slice (.prod (.int .i64) (.prod (.int .i64) (.prod (.int .i64) (.int .i64))))), .data (.slice zq1), .data (.slice (.prod (.int .i64) (.prod (.int .i64) (.int .i64))))], .cells 32 [.data (.slice (.prod .str (.int .i64))), .data (.slice (.prod (.int .i64) (.prod (.int .i64) (.prod (.int .i64) (.int .i64))))), .data (.slice zq1), .data (.slice (.prod (.int .i64) (.prod (.int .i64) (.int .i64))))]]⟩
def zqyw : List (AExit × View) := [(.ret, ⟨0, [2], [(false, [.data .bool])], []⟩), (.exit 4, ⟨0, [4, 6, 7, 9, 29, 30], [(false, [.ptr 0 0]), (false, [.data (.int .i64)]), (false, [.data (.int .i64)]), (false, [.ptr 1 0]), (false, [.data (.int .i64)]), (false, [.data (.int .i64)])], [.cells 32 [.data (.slice (.prod .str (.int .i64))), .data (.slice (.prod (.int .i64) (.prod (.int .i64) (.prod (.int .i64) (.int .i64))))), .data (.slice zq1), .data (.slice (.prod (.int .i64) (.prod (.int .i64) (.int .i64))))], .cells 32 [.data (.slice (.prod .str (.int .i64))), .data (.slice (.prod (.int .i64) (.prod (.int .i64) (.prod (.int .i64) (.int .i64))))), .data (.slice zq1), .data (.slice (.prod (.int .i64) (.prod (.int .i64) (.int .i64))))]]⟩)]
@[reducible] def law41_TimelineHosts_p2_G (p : zqyu) {β : Type} (d : zqyv.den) (ks : Outs.K β zqyw) : Option β :=
  p (fun a0 => ks.1 (((a0, ()), ()), ())) (fun a0 a1 a2 a3 a4 a5 a6 a7 a8 a9 a10 a11 => ks.2.1 (((), (a0, ()), (a1, ()), (), (a2, ()), (a3, ()), ()), ((a4, a5, a6, a7, ()), (a8, a9, a10, a11, ()), ()))) d.1.2.1.1 d.1.2.2.1.1 d.1.2.2.2.1.1 d.1.2.2.2.2.2.1.1 d.1.2.2.2.2.2.2.1.1 d.1.2.2.2.2.2.2.2.1.1 d.1.2.2.2.2.2.2.2.2.1.1 d.1.2.2.2.2.2.2.2.2.2.1.1 d.2.1.1 d.2.1.2.1 d.2.1.2.2.1 d.2.1.2.2.2.1 d.2.2.1.1 d.2.2.1.2.1 d.2.2.1.2.2.1 d.2.2.1.2.2.2.1
abbrev zqyx (β : Type) := Bool → Option β
abbrev zqyy (β : Type) := Int → Int → (List (List UInt8 × Int)) → (List (Int × (Int × (Int × Int)))) → (List zq0) → (List (Int × (Int × Int))) → Option β
abbrev zqyz := {β : Type} → zqyx β → zqyy β → Int → Int → Int → Int → (List (List UInt8 × Int)) → (List (Int × (Int × (Int × Int)))) → (List zq0) → (List (Int × (Int × Int))) → Option β
def zqz0 : View := ⟨0, [4, 6, 7, 29, 30], [(false, [.ptr 0 0]), (false, [.data (.int .i64)]), (false, [.data (.int .i64)]), (false, [.data (.int .i64)]), (false, [.data (.int .i64)])], [.cells 32 [.data (.slice (.prod .str (.int .i64))), .data (.slice (.prod (.int .i64) (.prod (.int .i64) (.prod (.int .i64) (.int .i64))))), .data (.slice zq1), .data (.slice (.prod (.int .i64) (.prod (.int .i64) (.int .i64))))]]⟩
def zqz1 : List (AExit × View) := [(.ret, ⟨0, [2], [(false, [.data .bool])], []⟩), (.exit 0, ⟨0, [4, 6, 7], [(false, [.ptr 0 0]), (false, [.data (.int .i64)]), (false, [.data (.int .i64)])], [.cells 32 [.data (.slice (.prod .str (.int .i64))), .data (.slice (.prod (.int .i64) (.prod (.int .i64) (.prod (.int .i64) (.int .i64))))), .data (.slice zq1), .data (.slice (.prod (.int .i64) (.prod (.int .i64) (.int .i64))))]]⟩)]
@[reducible] def law41_TimelineHosts_p3_G (p : zqyz) {β : Type} (d : zqz0.den) (ks : Outs.K β zqz1) : Option β :=
  p (fun a0 => ks.1 (((a0, ()), ()), ())) (fun a0 a1 a2 a3 a4 a5 => ks.2.1 (((), (a0, ()), (a1, ()), ()), ((a2, a3, a4, a5, ()), ()))) d.1.2.1.1 d.1.2.2.1.1 d.1.2.2.2.1.1 d.1.2.2.2.2.1.1 d.2.1.1 d.2.1.2.1 d.2.1.2.2.1 d.2.1.2.2.2.1
section
variable (c_law41_sane : zqye) (c_made_Dice_Record : zqaf) (c_made_Light : zq5) (c_made_Roll : zqc) (c_ref40_Consistent : zqmk) (c_ref40_Open : zqmr) (c_timeline_Only : zqka)
@[reducible] def law41_TimelineHosts_X : Ctx := ⟨look tab, pick1 [(7, .spec (zqyf c_law41_sane)), (9, .spec (zqag c_made_Dice_Record)), (6, .spec (zq6 c_made_Light)), (8, .spec (zqd c_made_Roll)), (15, .spec (zqml c_ref40_Consistent)), (20, .spec (zqms c_ref40_Open)), (19, .spec (zqkb c_timeline_Only))], false, false, false, false⟩
def zqz2 {β : Type} (rec : Int → Int → Int → Int → Int → Int → Int → (List (List UInt8 × Int)) → (List (Int × (Int × (Int × Int)))) → (List zq0) → (List (Int × (Int × Int))) → (List (List UInt8 × Int)) → (List (Int × (Int × (Int × Int)))) → (List zq0) → (List (Int × (Int × Int))) → (List (Int × Int)) → Option β) (k1 : zqyn β) (k2 : zqyo β) (n : Int) (links : Int) (h : Int) (t29 : Int) (t30 : Int) (t48 : Int) (t49 : Int) (r_ : List (List UInt8 × Int)) (r_2 : List (Int × (Int × (Int × Int)))) (r_3 : List zq0) (r_4 : List (Int × (Int × Int))) (x : List (List UInt8 × Int)) (x2 : List (Int × (Int × (Int × Int)))) (x3 : List zq0) (x4 : List (Int × (Int × Int))) (t47 : List (Int × Int)) : Option β :=
  cond (decide (t49 < t48))
  (cond (decide (0 ≤ t49) && decide (t49 < (List.length t47 : Int)))
  (cond (decide (0 ≤ (List.getD t47 (Int.toNat t49) ((0 : Int), (0 : Int))).1) && decide ((List.getD t47 (Int.toNat t49) ((0 : Int), (0 : Int))).1 < (List.length x3 : Int)))
  (let e : zq0 := List.getD x3 (Int.toNat ((List.getD t47 (Int.toNat t49) ((0 : Int), (0 : Int))).1)) ((0 : Int), ((0 : Int), ([] : List UInt8)));
  cond (decide (0 ≤ (List.getD t47 (Int.toNat t49) ((0 : Int), (0 : Int))).2) && decide ((List.getD t47 (Int.toNat t49) ((0 : Int), (0 : Int))).2 < (List.length x3 : Int)))
  (let e2 : zq0 := List.getD x3 (Int.toNat ((List.getD t47 (Int.toNat t49) ((0 : Int), (0 : Int))).2)) ((0 : Int), ((0 : Int), ([] : List UInt8)));
  let y : Int := (IntKind.i64.wrap (e.2.1 - e2.2.1));
  cond (decide ((1 : Int) < y))
  (k1 false)
  (cond (decide (y < (-1 : Int)))
  (k1 false)
  (rec n links h t29 t30 t48 (IntKind.i64.wrap (t49 + (1 : Int))) r_ r_2 r_3 r_4 x x2 x3 x4 t47)))
  none)
  none)
  none)
  (k2 n links h t29 t30 r_ r_2 r_3 r_4 x x2 x3 x4)
def zqz3 {β : Type} : Nat → zqyn β → zqyo β → Int → Int → Int → Int → Int → Int → Int → (List (List UInt8 × Int)) → (List (Int × (Int × (Int × Int)))) → (List zq0) → (List (Int × (Int × Int))) → (List (List UInt8 × Int)) → (List (Int × (Int × (Int × Int)))) → (List zq0) → (List (Int × (Int × Int))) → (List (Int × Int)) → Option β
  | 0 => fun _ _ _ _ _ _ _ _ _ _ _ _ _ _ _ _ _ _ => none
  | i + 1 => fun k1 k2 n links h t29 t30 t48 t49 r_ r_2 r_3 r_4 x x2 x3 x4 t47 => zqz2 (zqz3 i k1 k2) k1 k2 n links h t29 t30 t48 t49 r_ r_2 r_3 r_4 x x2 x3 x4 t47
theorem zqz4 (hΓ : ΓOk Tryz.prog (law41_TimelineHosts_X c_law41_sane c_made_Dice_Record c_made_Light c_made_Roll c_ref40_Consistent c_ref40_Open c_timeline_Only).Γ) (i : Nat) : PieceOk Tryz.prog 113 0 law41_TimelineHosts_p1_code zqyq zqyr (law41_TimelineHosts_p1_G (zqz3 i)) := by
  rw [show law41_TimelineHosts_p1_code = .loop (loopBody law41_TimelineHosts_p1_code) by kernel_rfl]
  exact piece_loop (X := (law41_TimelineHosts_X c_law41_sane c_made_Dice_Record c_made_Light c_made_Roll c_ref40_Consistent c_ref40_Open c_timeline_Only)) (p := 1) (Λ := pick1 []) (G := fun i => @fun β d ks => law41_TimelineHosts_p1_G (zqz3 i) d ks) mixed tab_ok hΓ rfl (by kernel_rfl) CutsOk_nil (fun _ _ => rfl) (fun i => @fun β d ks r h => Eq.trans (b := law41_TimelineHosts_p1_G (zqz3 (i + 1)) d ks) (by kernel_rfl) h) i
def zqz5 {β : Type} (rec : Int → Int → Int → Int → Int → (List zq0) → Int → Int → (List (List UInt8 × Int)) → (List (Int × (Int × (Int × Int)))) → (List zq0) → (List (Int × (Int × Int))) → (List (List UInt8 × Int)) → (List (Int × (Int × (Int × Int)))) → (List zq0) → (List (Int × (Int × Int))) → Option β) (k1 : zqys β) (k2 : zqyt β) (n : Int) (links : Int) (h : Int) (t29 : Int) (t30 : Int) (t76 : List zq0) (t77 : Int) (t78 : Int) (r_ : List (List UInt8 × Int)) (r_2 : List (Int × (Int × (Int × Int)))) (r_3 : List zq0) (r_4 : List (Int × (Int × Int))) (x : List (List UInt8 × Int)) (x2 : List (Int × (Int × (Int × Int)))) (x3 : List zq0) (x4 : List (Int × (Int × Int))) : Option β :=
  cond (decide (t78 < t77))
  (cond (decide (0 ≤ t78) && decide (t78 < (List.length t76 : Int)))
  (let e : zq0 := List.getD t76 (Int.toNat t78) ((0 : Int), ((0 : Int), ([] : List UInt8)));
  cond (!decide (e.1 = h))
  (k1 false)
  (rec n links h t29 t30 t76 t77 (IntKind.i64.wrap (t78 + (1 : Int))) r_ r_2 r_3 r_4 x x2 x3 x4))
  none)
  (k2 n links t29 t30 r_ r_2 r_3 r_4 x x2 x3 x4)
def zqz6 {β : Type} : Nat → zqys β → zqyt β → Int → Int → Int → Int → Int → (List zq0) → Int → Int → (List (List UInt8 × Int)) → (List (Int × (Int × (Int × Int)))) → (List zq0) → (List (Int × (Int × Int))) → (List (List UInt8 × Int)) → (List (Int × (Int × (Int × Int)))) → (List zq0) → (List (Int × (Int × Int))) → Option β
  | 0 => fun _ _ _ _ _ _ _ _ _ _ _ _ _ _ _ _ _ _ => none
  | i + 1 => fun k1 k2 n links h t29 t30 t76 t77 t78 r_ r_2 r_3 r_4 x x2 x3 x4 => zqz5 (zqz6 i k1 k2) k1 k2 n links h t29 t30 t76 t77 t78 r_ r_2 r_3 r_4 x x2 x3 x4
theorem zqz7 (hΓ : ΓOk Tryz.prog (law41_TimelineHosts_X c_law41_sane c_made_Dice_Record c_made_Light c_made_Roll c_ref40_Consistent c_ref40_Open c_timeline_Only).Γ) (i : Nat) : PieceOk Tryz.prog 113 0 law41_TimelineHosts_p2_code zqyv zqyw (law41_TimelineHosts_p2_G (zqz6 i)) := by
  rw [show law41_TimelineHosts_p2_code = .loop (loopBody law41_TimelineHosts_p2_code) by kernel_rfl]
  exact piece_loop (X := (law41_TimelineHosts_X c_law41_sane c_made_Dice_Record c_made_Light c_made_Roll c_ref40_Consistent c_ref40_Open c_timeline_Only)) (p := 1) (Λ := pick1 []) (G := fun i => @fun β d ks => law41_TimelineHosts_p2_G (zqz6 i) d ks) mixed tab_ok hΓ rfl (by kernel_rfl) CutsOk_nil (fun _ _ => rfl) (fun i => @fun β d ks r h => Eq.trans (b := law41_TimelineHosts_p2_G (zqz6 (i + 1)) d ks) (by kernel_rfl) h) i
def zqz8 (p1 : zqyp) (p2 : zqyu) {β : Type} (rec : Int → Int → Int → Int → (List (List UInt8 × Int)) → (List (Int × (Int × (Int × Int)))) → (List zq0) → (List (Int × (Int × Int))) → Option β) (k1 : zqyx β) (k2 : zqyy β) (n : Int) (links : Int) (t29 : Int) (t30 : Int) (r_ : List (List UInt8 × Int)) (r_2 : List (Int × (Int × (Int × Int)))) (r_3 : List zq0) (r_4 : List (Int × (Int × Int))) : Option β :=
  cond (decide (t30 < t29))
  (c_timeline_Only (r_, (r_2, (r_3, r_4))) t30 (fun (rOnly : zq2) (rOnly2 : Int) =>
  cond (!decide (rOnly2 = (0 : Int)))
  (k1 false)
  (c_ref40_Consistent rOnly (fun (rConsistent : Bool) =>
  cond (!rConsistent)
  (k1 false)
  (c_ref40_Open rOnly (fun (lrOpen : List (Int × Int)) =>
  p1 (fun (t2 : Bool) =>
  k1 t2) (fun (n2 : Int) (links2 : Int) (h : Int) (t292 : Int) (t302 : Int) (r_5 : List (List UInt8 × Int)) (r_6 : List (Int × (Int × (Int × Int)))) (r_7 : List zq0) (r_8 : List (Int × (Int × Int))) (x : List (List UInt8 × Int)) (x2 : List (Int × (Int × (Int × Int)))) (x3 : List zq0) (x4 : List (Int × (Int × Int))) =>
  p2 (fun (t2 : Bool) =>
  k1 t2) (fun (n3 : Int) (links3 : Int) (t293 : Int) (t303 : Int) (r_9 : List (List UInt8 × Int)) (r_10 : List (Int × (Int × (Int × Int)))) (r_11 : List zq0) (r_12 : List (Int × (Int × Int))) (x5 : List (List UInt8 × Int)) (x6 : List (Int × (Int × (Int × Int)))) (x7 : List zq0) (x8 : List (Int × (Int × Int))) =>
  let n4 : Int := (IntKind.i64.wrap (n3 + (List.length x7 : Int)));
  let links4 : Int := (IntKind.i64.wrap (links3 + (List.length x8 : Int)));
  rec n4 links4 t293 (IntKind.i64.wrap (t303 + (1 : Int))) r_9 r_10 r_11 r_12) n2 links2 h t292 t302 x3 (List.length x3 : Int) (0 : Int) r_5 r_6 r_7 r_8 x x2 x3 x4) n links t30 t29 t30 (List.length lrOpen : Int) (0 : Int) r_ r_2 r_3 r_4 rOnly.1 rOnly.2.1 rOnly.2.2.1 rOnly.2.2.2 lrOpen))))))
  (k2 n links r_ r_2 r_3 r_4)
def zqz9 (p1 : zqyp) (p2 : zqyu) {β : Type} : Nat → zqyx β → zqyy β → Int → Int → Int → Int → (List (List UInt8 × Int)) → (List (Int × (Int × (Int × Int)))) → (List zq0) → (List (Int × (Int × Int))) → Option β
  | 0 => fun _ _ _ _ _ _ _ _ _ _ => none
  | i + 1 => fun k1 k2 n links t29 t30 r_ r_2 r_3 r_4 => zqz8 c_ref40_Consistent c_ref40_Open c_timeline_Only p1 p2 (zqz9 p1 p2 i k1 k2) k1 k2 n links t29 t30 r_ r_2 r_3 r_4
theorem zqza (hΓ : ΓOk Tryz.prog (law41_TimelineHosts_X c_law41_sane c_made_Dice_Record c_made_Light c_made_Roll c_ref40_Consistent c_ref40_Open c_timeline_Only).Γ) (p1 : zqyp) (p2 : zqyu) (hp1 : PieceOk Tryz.prog 113 0 law41_TimelineHosts_p1_code zqyq zqyr (law41_TimelineHosts_p1_G p1)) (hp2 : PieceOk Tryz.prog 113 0 law41_TimelineHosts_p2_code zqyv zqyw (law41_TimelineHosts_p2_G p2)) (i : Nat) : PieceOk Tryz.prog 113 0 law41_TimelineHosts_p3_code zqz0 zqz1 (law41_TimelineHosts_p3_G (zqz9 c_ref40_Consistent c_ref40_Open c_timeline_Only p1 p2 i)) := by
  rw [show law41_TimelineHosts_p3_code = .loop (loopBody law41_TimelineHosts_p3_code) by kernel_rfl]
  exact piece_loop (X := (law41_TimelineHosts_X c_law41_sane c_made_Dice_Record c_made_Light c_made_Roll c_ref40_Consistent c_ref40_Open c_timeline_Only)) (p := 1) (Λ := pick1 [(1850, pieceCut zqyq zqyr (law41_TimelineHosts_p1_G p1)), (3706, pieceCut zqyv zqyw (law41_TimelineHosts_p2_G p2))]) (G := fun i => @fun β d ks => law41_TimelineHosts_p3_G (zqz9 c_ref40_Consistent c_ref40_Open c_timeline_Only p1 p2 i) d ks) mixed tab_ok hΓ rfl (by kernel_rfl) (CutsOk_cons (q := 1850) (c' := law41_TimelineHosts_p1_code) (by kernel_rfl) rfl hp1 (CutsOk_cons (q := 3706) (c' := law41_TimelineHosts_p2_code) (by kernel_rfl) rfl hp2 CutsOk_nil)) (fun _ _ => rfl) (fun i => @fun β d ks r h => Eq.trans (b := law41_TimelineHosts_p3_G (zqz9 c_ref40_Consistent c_ref40_Open c_timeline_Only p1 p2 (i + 1)) d ks) (by kernel_rfl) h) i
def zqzb (p3 : zqyz) {β : Type} (t : List Int) (k : (Bool → Option β)) : Option β :=
  c_made_Light t (fun (rLight : Bool) =>
  cond (!rLight)
  (c_law41_sane  (fun (rsane : Bool) =>
  k rsane))
  (c_made_Roll t (fun (mrRoll : (List Int × Int)) =>
  c_made_Dice_Record (7 : Int) mrRoll (fun (rRecord : zq2) (mrRecord : (List Int × Int)) (lrRecord : List Int) =>
  p3 (fun (t2 : Bool) =>
  k t2) (fun (n : Int) (links : Int) (r_ : List (List UInt8 × Int)) (r_2 : List (Int × (Int × (Int × Int)))) (r_3 : List zq0) (r_4 : List (Int × (Int × Int))) =>
  cond (decide (n = (List.length r_3 : Int)))
  (cond (decide (links ≤ (List.length r_4 : Int)))
  (c_law41_sane  (fun (rsane : Bool) =>
  k rsane))
  (k false))
  (k false)) (0 : Int) (0 : Int) (List.length rRecord.1 : Int) (0 : Int) rRecord.1 rRecord.2.1 rRecord.2.2.1 rRecord.2.2.2))))
theorem zqzc (hΓ : ΓOk Tryz.prog (law41_TimelineHosts_X c_law41_sane c_made_Dice_Record c_made_Light c_made_Roll c_ref40_Consistent c_ref40_Open c_timeline_Only).Γ) (p3 : zqyz) (hp3 : PieceOk Tryz.prog 113 0 law41_TimelineHosts_p3_code zqz0 zqz1 (law41_TimelineHosts_p3_G p3)) : SpecOk Tryz.prog 5 (zqym (zqzb c_law41_sane c_made_Dice_Record c_made_Light c_made_Roll p3)) :=
  spec_exec (X := (law41_TimelineHosts_X c_law41_sane c_made_Dice_Record c_made_Light c_made_Roll c_ref40_Consistent c_ref40_Open c_timeline_Only)) (Λ := pick1 [(506, pieceCut zqz0 zqz1 (law41_TimelineHosts_p3_G p3))]) (rs := [.tmp 2]) (c := bodyOf Tryz.f5) mixed tab_ok hΓ Tryz.func5 (by kernel_rfl) (by kernel_rfl) (by kernel_rfl) (by kernel_rfl) (CutsOk_cons (q := 506) (c' := law41_TimelineHosts_p3_code) (by kernel_rfl) rfl hp3 CutsOk_nil) (fun x k r h => Eq.trans (b := (zqym (zqzb c_law41_sane c_made_Dice_Record c_made_Light c_made_Roll p3)).run x k) (by kernel_rfl) h)
end
theorem zqzdΓ : ΓOk Tryz.prog (pick1 [(7, .spec (zqyf zqyj)), (9, .spec (zqag zqc1)), (6, .spec (zq6 zqa)), (8, .spec (zqd zqh)), (15, .spec (zqml zqmp)), (20, .spec (zqms zqni)), (19, .spec (zqkb zqla))]) := (ΓOk_cons zqyk (ΓOk_cons zqc2 (ΓOk_cons zqb (ΓOk_cons zqi (ΓOk_cons zqmq (ΓOk_cons zqnj (ΓOk_cons zqlb ΓOk_nil)))))))
def zqze (m : Nat) : zqyp := zqz3 m
theorem zqzf {β : Type} (i : Nat) (k1 k2 n links h t29 t30 t48 t49 r_ r_2 r_3 r_4 x x2 x3 x4 t47) : (zqze (i + 1) k1 k2 n links h t29 t30 t48 t49 r_ r_2 r_3 r_4 x x2 x3 x4 t47 : Option β) = zqz2 (zqze i k1 k2) k1 k2 n links h t29 t30 t48 t49 r_ r_2 r_3 r_4 x x2 x3 x4 t47 := rfl
def zqzg : zqyp := zqze fuel
theorem zqzh : PieceOk Tryz.prog 113 0 law41_TimelineHosts_p1_code zqyq zqyr (law41_TimelineHosts_p1_G zqzg) := zqz4 zqyj zqc1 zqa zqh zqmp zqni zqla zqzdΓ fuel
def zqzi (m : Nat) : zqyu := zqz6 m
theorem zqzj {β : Type} (i : Nat) (k1 k2 n links h t29 t30 t76 t77 t78 r_ r_2 r_3 r_4 x x2 x3 x4) : (zqzi (i + 1) k1 k2 n links h t29 t30 t76 t77 t78 r_ r_2 r_3 r_4 x x2 x3 x4 : Option β) = zqz5 (zqzi i k1 k2) k1 k2 n links h t29 t30 t76 t77 t78 r_ r_2 r_3 r_4 x x2 x3 x4 := rfl
def zqzk : zqyu := zqzi fuel
theorem zqzl : PieceOk Tryz.prog 113 0 law41_TimelineHosts_p2_code zqyv zqyw (law41_TimelineHosts_p2_G zqzk) := zqz7 zqyj zqc1 zqa zqh zqmp zqni zqla zqzdΓ fuel
def zqzm (m : Nat) : zqyz := zqz9 zqmp zqni zqla zqzg zqzk m
theorem zqzn {β : Type} (i : Nat) (k1 k2 n links t29 t30 r_ r_2 r_3 r_4) : (zqzm (i + 1) k1 k2 n links t29 t30 r_ r_2 r_3 r_4 : Option β) = zqz8 zqmp zqni zqla zqzg zqzk (zqzm i k1 k2) k1 k2 n links t29 t30 r_ r_2 r_3 r_4 := rfl
def zqzo : zqyz := zqzm fuel
theorem zqzp : PieceOk Tryz.prog 113 0 law41_TimelineHosts_p3_code zqz0 zqz1 (law41_TimelineHosts_p3_G zqzo) := zqza zqyj zqc1 zqa zqh zqmp zqni zqla zqzdΓ zqzg zqzk zqzh zqzl fuel
def zqzq : zqyl := zqzb zqyj zqc1 zqa zqh zqzo
theorem zqzr : SpecOk Tryz.prog 5 (zqym zqzq) := zqzc zqyj zqc1 zqa zqh zqmp zqni zqla zqzdΓ zqzo zqzp
end
end Go.Lift
/- Plain lemmas about functional forms: tests that are known, loops. -/
namespace Go.Lift
open Go.RowKit Go.IntWalk

section
variable {β : Type}
/-! ### Tests -/
theorem c_inb {i n : Int} {a b : Option β} (h : 0 ≤ i ∧ i < n) : cond (decide (0 ≤ i) && decide (i < n)) a b = a := by
  rw [decide_eq_true h.1, decide_eq_true h.2]; rfl
theorem c_room {n : Nat} {a b : Option β} (h : n ≤ 140737488355328) : cond (decide (n ≤ roomMax)) a b = a := by
  rw [decide_eq_true (p := n ≤ roomMax) h]; rfl
theorem c_pos {p : Prop} [Decidable p] {a b : Option β} (h : p) : cond (decide p) a b = a := by rw [decide_eq_true h]; rfl
theorem c_neg {p : Prop} [Decidable p] {a b : Option β} (h : ¬ p) : cond (decide p) a b = b := by rw [decide_eq_false h]; rfl
theorem c_npos {p : Prop} [Decidable p] {a b : Option β} (h : p) : cond (!decide p) a b = b := by rw [decide_eq_true h]; rfl
theorem c_nneg {p : Prop} [Decidable p] {a b : Option β} (h : ¬ p) : cond (!decide p) a b = a := by rw [decide_eq_false h]; rfl
theorem c_t {a b : Option β} : cond true a b = a := rfl
theorem c_f {a b : Option β} : cond false a b = b := rfl
theorem c_not {p : Bool} {a b : Option β} : cond (!p) a b = cond p b a := by cases p <;> rfl
theorem c_and {p q : Bool} {a b : Option β} : cond p (cond q a b) b = cond (p && q) a b := by cases p <;> rfl
theorem c_andn {p q : Bool} {a b : Option β} : cond p (cond q b a) b = cond (p && !q) a b := by cases p <;> cases q <;> rfl
theorem c_nand {p q : Bool} {a b : Option β} : cond p b (cond q a b) = cond (!p && q) a b := by cases p <;> rfl
theorem c_k {γ : Type} (k : γ → Option β) (p : Bool) (x y : γ) : cond p (k x) (k y) = k (cond p x y) := by cases p <;> rfl
theorem c_kb (k : Bool → Option β) (p q : Bool) : cond p (k q) (k false) = k (p && q) := by cases p <;> rfl
theorem pair_eta {γ δ : Type} (p : γ × δ) : (p.1, p.2) = p := rfl
theorem k_eq {γ : Type} {k : γ → Option β} {x y : γ} (h : x = y) : k x = k y := by rw [h]

/-! ### Loops over the numbers from 0 on -/
/-- A walk over a list that may end early. -/
def walk {α σ ε : Type} (g : Nat → α → σ → ε ⊕ σ) : List α → Nat → σ → ε ⊕ σ
  | [], _, s => .inr s
  | x :: r, j, s =>
    match g j x s with
    | .inl e => .inl e
    | .inr s' => walk g r (j + 1) s'

def sumK {ε σ : Type} (E : ε → Option β) (K : σ → Option β) : ε ⊕ σ → Option β
  | .inl e => E e
  | .inr s => K s

theorem walk_loop {α σ ε : Type} (F : Nat → Int → σ → Option β) (g : Nat → α → σ → ε ⊕ σ) (E : ε → Option β) (K : σ → Option β) (d : α) (xs : List α)
    (h1 : ∀ (m i : Nat) s, i < xs.length → F (m + 1) (i : Int) s = sumK E (fun s' => F m ((i : Int) + 1) s') (g i (xs.getD i d) s))
    (h2 : ∀ (m : Nat) s, F (m + 1) (xs.length : Int) s = K s) :
    ∀ (r : List α) (j fuel : Nat) (s : σ), xs.drop j = r → j + r.length = xs.length → r.length < fuel → F fuel (j : Int) s = sumK E K (walk g r j s)
  | r, j, 0, s, _, _, h => absurd h (Nat.not_lt_zero _)
  | [], j, m + 1, s, hd, hj, _ => by
    simp only [List.length_nil, Nat.add_zero] at hj
    subst hj
    rw [h2]; rfl
  | x :: r, j, m + 1, s, hd, hj, hm => by
    simp only [List.length_cons] at hj hm
    have h3 : j < xs.length := by omega
    have hx : xs.getD j d = x := by
      rw [List.drop_eq_getElem_cons h3] at hd
      injection hd with hd1 hd2
      simp [List.getD, h3, hd1]
    have hr : xs.drop (j + 1) = r := by
      rw [List.drop_eq_getElem_cons h3] at hd
      injection hd with hd1 hd2
    rw [h1 m j s h3, hx, walk]
    cases hg : g j x s with
    | inl e => rfl
    | inr s' =>
      simp only [sumK]
      exact walk_loop F g E K d xs h1 h2 r (j + 1) m s' hr (by omega) (by omega)

theorem walk_loop0 {α σ ε : Type} (F : Nat → Int → σ → Option β) (g : Nat → α → σ → ε ⊕ σ) (E : ε → Option β) (K : σ → Option β) (d : α) (xs : List α) (s : σ) (n : Nat) (hn : xs.length < n)
    (h1 : ∀ (m i : Nat) s, i < xs.length → F (m + 1) (i : Int) s = sumK E (fun s' => F m ((i : Int) + 1) s') (g i (xs.getD i d) s))
    (h2 : ∀ (m : Nat) s, F (m + 1) (xs.length : Int) s = K s) : F n 0 s = sumK E K (walk g xs 0 s) :=
  walk_loop F g E K d xs h1 h2 xs 0 n s rfl (by simp) hn

/-- A loop that only looks: every element, or out. -/
theorem check_loop {α : Type} (F : Nat → Int → Option β) (p : α → Bool) (E K : Option β) (d : α) (xs : List α) (n : Nat) (hn : xs.length < n)
    (h1 : ∀ (m i : Nat), i < xs.length → F (m + 1) (i : Int) = cond (p (xs.getD i d)) (F m ((i : Int) + 1)) E)
    (h2 : ∀ (m : Nat), F (m + 1) (xs.length : Int) = K) : F n 0 = cond (xs.all p) K E := by
  have h := walk_loop0 (ε := Unit) (fun m i (_ : Unit) => F m i) (fun _ x s => cond (p x) (.inr s) (.inl ())) (fun _ => E) (fun _ => K) d xs () n hn
    (fun m i s hi => by rw [h1 m i hi]; cases p (xs.getD i d) <;> rfl) (fun m s => h2 m)
  rw [h]
  have key : ∀ (l : List α) (j : Nat), sumK (fun _ => E) (fun _ => K) (walk (ε := Unit) (fun _ x (s : Unit) => cond (p x) (.inr s) (.inl ())) l j ()) = cond (l.all p) K E := by
    intro l
    induction l with
    | nil => intro j; rfl
    | cons x l ih =>
      intro j
      simp only [walk, List.all_cons]
      cases p x with
      | true => simpa using ih (j + 1)
      | false => rfl
  exact key xs 0

/-- A loop that goes through all elements. -/
theorem fold_loop {α σ : Type} (F : Nat → Int → σ → Option β) (g : σ → α → σ) (K : σ → Option β) (d : α) (xs : List α) (s : σ) (n : Nat) (hn : xs.length < n)
    (h1 : ∀ (m i : Nat) s, i < xs.length → F (m + 1) (i : Int) s = F m ((i : Int) + 1) (g s (xs.getD i d)))
    (h2 : ∀ (m : Nat) s, F (m + 1) (xs.length : Int) s = K s) : F n 0 s = K (xs.foldl g s) := by
  have h := walk_loop0 (ε := Empty) F (fun _ x s => .inr (g s x)) (fun e => e.elim) K d xs s n hn (fun m i s hi => h1 m i s hi) h2
  rw [h]
  have key : ∀ (l : List α) (j : Nat) (s : σ), sumK (fun e : Empty => e.elim) K (walk (fun _ x s => .inr (g s x)) l j s) = K (l.foldl g s) := by
    intro l
    induction l with
    | nil => intro j s; rfl
    | cons x l ih => intro j s; exact ih (j + 1) (g s x)
  exact key xs 0 s

/-- A loop that goes through all elements, with an invariant. -/
theorem fold_loopI {α σ : Type} (I : Nat → σ → Prop) (F : Nat → Int → σ → Option β) (g : σ → α → σ) (K : σ → Option β) (d : α) (xs : List α) (s : σ) (n : Nat) (hn : xs.length < n) (h0 : I 0 s)
    (hI : ∀ (i : Nat) s, i < xs.length → I i s → I (i + 1) (g s (xs.getD i d)))
    (h1 : ∀ (m i : Nat) s, i < xs.length → I i s → F (m + 1) (i : Int) s = F m ((i : Int) + 1) (g s (xs.getD i d)))
    (h2 : ∀ (m : Nat) s, I xs.length s → F (m + 1) (xs.length : Int) s = K s) : F n 0 s = K (xs.foldl g s) := by
  have key : ∀ (r : List α) (j fuel : Nat) (s : σ), xs.drop j = r → j + r.length = xs.length → r.length < fuel → I j s → F fuel (j : Int) s = K (r.foldl g s) := by
    intro r
    induction r with
    | nil =>
      intro j fuel s hd hj hf hs
      obtain ⟨m, rfl⟩ : ∃ m, fuel = m + 1 := ⟨fuel - 1, by omega⟩
      simp only [List.length_nil, Nat.add_zero] at hj
      subst hj
      exact h2 m s hs
    | cons x r ih =>
      intro j fuel s hd hj hf hs
      obtain ⟨m, rfl⟩ : ∃ m, fuel = m + 1 := ⟨fuel - 1, by omega⟩
      simp only [List.length_cons] at hj hf
      have h3 : j < xs.length := by omega
      have hx : xs.getD j d = x := by
        rw [List.drop_eq_getElem_cons h3] at hd
        injection hd with hd1 hd2
        simp [List.getD, h3, hd1]
      have hr : xs.drop (j + 1) = r := by
        rw [List.drop_eq_getElem_cons h3] at hd
        injection hd with hd1 hd2
      rw [h1 m j s h3 hs, hx]
      have := hI j s h3 hs
      rw [hx] at this
      exact ih (j + 1) m (g s x) hr (by omega) (by omega) this
  exact key xs 0 n s rfl (by simp) hn h0

/-- A loop with an invariant and a measure. -/
theorem while_loop {σ ρ : Type} {Kt : Type → Type} (F : {β : Type} → Kt β → Nat → σ → Option β) (X : {β : Type} → Kt β → ρ → Option β) (I : σ → Prop) (μ : σ → Nat) (Q : ρ → Prop)
    (step : ∀ s, I s → (∃ s', I s' ∧ μ s' < μ s ∧ ∀ {β : Type} (k : Kt β) m, F k (m + 1) s = F k m s') ∨ (∃ r, Q r ∧ ∀ {β : Type} (k : Kt β) m, F k (m + 1) s = X k r)) :
    ∀ (N : Nat) (s : σ), I s → μ s < N → ∃ r, Q r ∧ ∀ {β : Type} (k : Kt β), F k N s = X k r := by
  intro N
  induction N with
  | zero => intro s _ h; omega
  | succ N ih =>
    intro s hI hN
    rcases step s hI with ⟨s', h1, h2, h3⟩ | ⟨r, h1, h2⟩
    · obtain ⟨r, h4, h5⟩ := ih s' h1 (by omega)
      exact ⟨r, h4, fun k => (h3 k N).trans (h5 k)⟩
    · exact ⟨r, h1, fun k => h2 k N⟩
end
end Go.Lift

/- Square matrices as lists of rows. -/
namespace Go.Lift
open Go.RowKit Go.IntWalk
noncomputable section
set_option linter.unusedVariables false
set_option linter.unusedSimpArgs false

abbrev Mat := List (List Int)
def at2 (m : Mat) (i j : Nat) : Int := (m.getD i []).getD j 0
structure Sq (n : Nat) (m : Mat) : Prop where
  len : m.length = n
  row : ∀ i, i < n → (m.getD i []).length = n
def setAt (m : Mat) (i j : Nat) (v : Int) : Mat := m.set i ((m.getD i []).set j v)

theorem getD_set_eq {α : Type} {l : List α} {i : Nat} {v d : α} (h : i < l.length) : (l.set i v).getD i d = v := by simp [List.getD, h]
theorem getD_set_ne {α : Type} {l : List α} {i j : Nat} {v d : α} (h : i ≠ j) : (l.set i v).getD j d = l.getD j d := by simp [List.getD, List.getElem?_set_ne h]

theorem Sq.setAt {n : Nat} {m : Mat} (h : Sq n m) (i j : Nat) (v : Int) : Sq n (setAt m i j v) := by
  refine ⟨by simp [Go.Lift.setAt, h.len], fun a ha => ?_⟩
  by_cases hi : i = a
  · subst hi
    unfold Go.Lift.setAt
    rw [getD_set_eq (by rw [h.len]; exact ha), List.length_set]
    exact h.row i ha
  · unfold Go.Lift.setAt
    rw [getD_set_ne hi]
    exact h.row a ha

theorem at_setAt {n : Nat} {m : Mat} (h : Sq n m) {i j : Nat} (hi : i < n) (hj : j < n) (v : Int) (a b : Nat) : at2 (setAt m i j v) a b = if a = i ∧ b = j then v else at2 m a b := by
  unfold at2 setAt
  by_cases hai : i = a
  · subst hai
    rw [getD_set_eq (by rw [h.len]; exact hi)]
    by_cases hbj : j = b
    · subst hbj
      rw [getD_set_eq (by rw [h.row i hi]; exact hj), if_pos ⟨rfl, rfl⟩]
    · rw [getD_set_ne hbj, if_neg (fun h => hbj h.2.symm)]
  · rw [getD_set_ne hai, if_neg (fun h => hai h.1.symm)]

theorem mat_ext {n : Nat} {m m' : Mat} (h : Sq n m) (h' : Sq n m') (he : ∀ i j, i < n → j < n → at2 m i j = at2 m' i j) : m = m' := by
  apply List.ext_getElem
  · rw [h.len, h'.len]
  · intro i h1 h2
    have hi : i < n := by rw [← h.len]; exact h1
    have e1 : m.getD i [] = m[i] := by rw [List.getD, List.getElem?_eq_getElem h1]; rfl
    have e2 : m'.getD i [] = m'[i] := by rw [List.getD, List.getElem?_eq_getElem h2]; rfl
    apply List.ext_getElem
    · rw [← e1, ← e2, h.row i hi, h'.row i hi]
    · intro j h3 h4
      have hj : j < n := by rw [← h.row i hi, e1]; exact h3
      have := he i j hi hj
      unfold at2 at this
      rw [e1, e2] at this
      have q1 : m[i].getD j 0 = m[i][j] := by rw [List.getD, List.getElem?_eq_getElem h3]; rfl
      have q2 : m'[i].getD j 0 = m'[i][j] := by rw [List.getD, List.getElem?_eq_getElem h4]; rfl
      rw [q1, q2] at this
      exact this

abbrev BIG : Int := 1099511627776
/-- One update of the closure. -/
def relaxW (k i j : Nat) (m : Mat) : Mat :=
  if at2 m i k = BIG ∨ at2 m k j = BIG then m
  else setAt m i j (if IntKind.i64.wrap (at2 m i k + at2 m k j) < at2 m i j then IntKind.i64.wrap (at2 m i k + at2 m k j) else at2 m i j)
def rowW (n k i : Nat) (m : Mat) : Mat := (List.range n).foldl (fun m j => relaxW k i j m) m
def roundW (n k : Nat) (m : Mat) : Mat := (List.range n).foldl (fun m i => rowW n k i m) m

theorem Sq.relaxW {n : Nat} {m : Mat} (h : Sq n m) (k i j : Nat) : Sq n (relaxW k i j m) := by
  unfold Go.Lift.relaxW
  split
  · exact h
  · exact h.setAt _ _ _

theorem fold_inv {α σ : Type} (I : σ → Prop) (g : σ → α → σ) (hg : ∀ s x, I s → I (g s x)) : ∀ (l : List α) (s : σ), I s → I (l.foldl g s)
  | [], _, h => h
  | x :: l, s, h => fold_inv I g hg l _ (hg s x h)

theorem Sq.rowW {n : Nat} {m : Mat} (h : Sq n m) (k i : Nat) : Sq n (rowW n k i m) := fold_inv (Sq n) _ (fun m j h => h.relaxW k i j) _ _ h
theorem Sq.roundW {n : Nat} {m : Mat} (h : Sq n m) (k : Nat) : Sq n (roundW n k m) := fold_inv (Sq n) _ (fun m i h => h.rowW k i) _ _ h
end
end Go.Lift

/- Clocks in plain Lean: what the forms of the chapter 38, the program's and the reference's, compute. -/
namespace Go.Lift
open Go.RowKit Go.IntWalk
noncomputable section
set_option linter.unusedVariables false
set_option linter.unusedSimpArgs false

def inN (n low high : Int) : Bool := decide (low ≤ n) && decide (n ≤ high)
theorem inN_iff {n low high : Int} : inN n low high = true ↔ low ≤ n ∧ n ≤ high := by simp [inN]
theorem inN_mk {n low high : Int} (h : low ≤ n ∧ n ≤ high) : inN n low high = true := inN_iff.2 h

abbrev Host := List UInt8 × Int
abbrev Sync := Int × Int × Int × Int
abbrev Event := Int × Int × List UInt8
abbrev Link := Int × Int × Int
abbrev Rec := List Host × List Sync × List Event × List Link

/-- The numbers of a comparison are right. -/
def okSync (s : Sync) : Bool := inN s.2.1 0 8589934592 && (inN s.2.2.1 0 8589934592 && (inN s.2.2.2 0 8589934592 && decide (s.2.2.1 ≤ s.2.2.2)))
def vHost (h : Host) : Bool := inN h.2 0 500000
def vSync (n : Nat) (s : Sync) : Bool := inN s.1 0 ((n : Int) - 1) && okSync s
def vEvent (n : Nat) (e : Event) : Bool := inN e.1 0 ((n : Int) - 1) && inN e.2.1 0 8589934592
def vLink (n : Nat) (l : Link) : Bool := inN l.1 0 ((n : Int) - 1) && (inN l.2.1 0 ((n : Int) - 1) && (!decide (l.1 = l.2.1) && inN l.2.2 0 8589934592))
def small (r : Rec) : Bool := !decide ((8 : Int) < r.1.length) && (!decide ((64 : Int) < r.2.1.length) && (!decide ((40 : Int) < r.2.2.1.length) && !decide ((64 : Int) < r.2.2.2.length)))
def valid (r : Rec) : Bool := small r && (r.1.all vHost && (r.2.1.all (vSync r.1.length) && (r.2.2.1.all (vEvent r.1.length) && r.2.2.2.all (vLink r.2.2.1.length))))

/-- How far the time advances while a clock advances. -/
def elapsed (drift d : Int) : Int × Int :=
  cond (inN drift 0 500000 && inN d 0 8589934592) (d * 1000000 / (1000000 + drift), (d * 1000000 + (1000000 - drift) - 1) / (1000000 - drift)) (0, 0)
def fromS (h : Host) (s : Sync) (c : Int) : Int × Int :=
  cond (vHost h && (okSync s && inN c 0 8589934592))
    (cond (decide (s.2.1 ≤ c)) (s.2.2.1 + (elapsed h.2 (c - s.2.1)).1, s.2.2.2 + (elapsed h.2 (c - s.2.1)).2) (s.2.2.1 - (elapsed h.2 (s.2.1 - c)).2, s.2.2.2 - (elapsed h.2 (s.2.1 - c)).1))
    (-1099511627776, 1099511627776)
def meet2 (a b : Int × Int) : Int × Int := (if b.1 > a.1 then b.1 else a.1, if b.2 < a.2 then b.2 else a.2)
def whenR (r : Rec) (host c : Int) : Int × Int :=
  r.2.1.foldl (fun out s => cond (decide (s.1 = host)) (meet2 out (fromS (r.1.getD host.toNat ([], 0)) s c)) out) (0, 8589934592)
def when? (r : Rec) (host c : Int) : (Int × Int) × Bool :=
  cond (valid r && (inN host 0 ((r.1.length : Int) - 1) && inN c 0 8589934592)) (whenR r host c, !decide ((whenR r host c).2 < (whenR r host c).1)) ((0, 0), false)
section
variable {β : Type}
theorem clock_in_eq (n lo hi : Int) (k : Bool → Option β) : zq3w n lo hi k = k (inN n lo hi) := by
  simp only [zq3w, zq3t, inN, c_kb]
theorem clock_instant_eq (n : Int) (k : Bool → Option β) : zq43 n k = k (inN n 0 8589934592) := by
  simp only [zq43, zq40, clock_in_eq]
theorem clock_compared_eq (s : Sync) (k : Bool → Option β) : zqfo s k = k (okSync s) := by
  simp only [zqfo, zqfl, clock_instant_eq, c_kb, okSync]

theorem clock_Valid_p1_eq (k1 : zqgh β) (k2 : zqgi β) (xs : List Host) (hx : xs.length ≤ 1000000) (r : List Host) (r2 : List Sync) (r3 : List Event) (r4 : List Link) :
    zqhi k1 k2 xs xs.length 0 r r2 r3 r4 = cond (xs.all vHost) (k2 r r2 r3 r4) (k1 false) := by
  refine check_loop (fun m i => zqhg m k1 k2 xs xs.length i r r2 r3 r4) vHost _ _ ([], 0) xs fuel (lt_fuel (by omega)) (fun m i hi => ?_) (fun m => ?_)
  · simp (disch := omega) only [zqhh, zqh1, clock_in_eq, c_pos, c_inb, c_not, i64_in, Int.toNat_natCast, vHost]
  · simp (disch := omega) only [zqhh, zqh1, c_neg]

theorem clock_Valid_p2_eq (k1 : zqgm β) (k2 : zqgn β) (xs : List Sync) (hx : xs.length ≤ 1000000) (r : List Host) (hr : r.length ≤ 1000000) (r2 : List Sync) (r3 : List Event) (r4 : List Link) :
    zqhm k1 k2 xs xs.length 0 r r2 r3 r4 = cond (xs.all (vSync r.length)) (k2 r r2 r3 r4) (k1 false) := by
  refine check_loop (fun m i => zqhk m k1 k2 xs xs.length i r r2 r3 r4) (vSync r.length) _ _ (0, 0, 0, 0) xs fuel (lt_fuel (by omega)) (fun m i hi => ?_) (fun m => ?_)
  · simp (disch := omega) only [zqhl, zqh4, clock_in_eq, clock_compared_eq, c_pos, c_inb, c_not, i64_in, Int.toNat_natCast, vSync, c_and]
  · simp (disch := omega) only [zqhl, zqh4, c_neg]

theorem clock_Valid_p3_eq (k1 : zqgr β) (k2 : zqgs β) (xs : List Event) (hx : xs.length ≤ 1000000) (r : List Host) (hr : r.length ≤ 1000000) (r2 : List Sync) (r3 : List Event) (r4 : List Link) :
    zqhq k1 k2 xs xs.length 0 r r2 r3 r4 = cond (xs.all (vEvent r.length)) (k2 r r2 r3 r4) (k1 false) := by
  refine check_loop (fun m i => zqho m k1 k2 xs xs.length i r r2 r3 r4) (vEvent r.length) _ _ (0, 0, []) xs fuel (lt_fuel (by omega)) (fun m i hi => ?_) (fun m => ?_)
  · simp (disch := omega) only [zqhp, zqh7, clock_in_eq, clock_instant_eq, c_pos, c_inb, c_not, i64_in, Int.toNat_natCast, vEvent, c_and]
  · simp (disch := omega) only [zqhp, zqh7, c_neg]

theorem clock_Valid_p4_eq (k1 : zqgw β) (k2 : zqgx β) (xs : List Link) (hx : xs.length ≤ 1000000) (r : List Host) (r2 : List Sync) (r3 : List Event) (hr : r3.length ≤ 1000000) (r4 : List Link) :
    zqhu k1 k2 xs xs.length 0 r r2 r3 r4 = cond (xs.all (vLink r3.length)) (k2 ()) (k1 false) := by
  refine check_loop (fun m i => zqhs m k1 k2 xs xs.length i r r2 r3 r4) (vLink r3.length) _ _ (0, 0, 0) xs fuel (lt_fuel (by omega)) (fun m i hi => ?_) (fun m => ?_)
  · simp (disch := omega) only [zqht, zqha, clock_in_eq, clock_instant_eq, c_pos, c_inb, c_not, i64_in, Int.toNat_natCast, vLink, c_nand, c_and, Bool.not_not]
  · simp (disch := omega) only [zqht, zqha, c_neg]

theorem clock_Valid_eq (r : Rec) (k : Bool → Option β) : zqhw r k = k (valid r) := by
  simp only [zqhw, zqhd]
  by_cases h1 : (8 : Int) < r.1.length
  · simp [valid, small, h1]
  by_cases h2 : (64 : Int) < r.2.1.length
  · simp [valid, small, h1, h2]
  by_cases h3 : (40 : Int) < r.2.2.1.length
  · simp [valid, small, h1, h2, h3]
  by_cases h4 : (64 : Int) < r.2.2.2.length
  · simp [valid, small, h1, h2, h3, h4]
  rw [decide_eq_false h1, decide_eq_false h2, decide_eq_false h3, decide_eq_false h4]
  simp only [c_f]
  rw [clock_Valid_p1_eq _ _ _ (by omega), clock_Valid_p2_eq _ _ _ (by omega) _ (by omega), clock_Valid_p3_eq _ _ _ (by omega) _ (by omega), clock_Valid_p4_eq _ _ _ (by omega) _ _ _ (by omega)]
  simp only [c_kb, c_k, valid, small, decide_eq_false h1, decide_eq_false h2, decide_eq_false h3, decide_eq_false h4, Bool.not_false, Bool.true_and]
  apply k_eq
  cases r.1.all vHost <;> cases r.2.1.all (vSync r.1.length) <;> cases r.2.2.1.all (vEvent r.1.length) <;> cases r.2.2.2.all (vLink r.2.2.1.length) <;> rfl

theorem clock_Elapsed_eq (drift d : Int) (k : Int → Int → Option β) : zqgd drift d k = k (elapsed drift d).1 (elapsed drift d).2 := by
  simp only [zqgd, zqga, clock_in_eq, clock_instant_eq, elapsed]
  cases h1 : inN drift 0 500000 with
  | false => rfl
  | true =>
    cases h2 : inN d 0 8589934592 with
    | false => rfl
    | true =>
      have h1 := inN_iff.1 h1
      have h2 := inN_iff.1 h2
      simp (disch := omega) only [zqad, zqaa, Bool.not_true, c_f, Bool.and_true, cond_true, i64_in, i64_quo, c_nneg]

theorem elapsed_bd {drift d : Int} : 0 ≤ (elapsed drift d).1 ∧ (elapsed drift d).1 ≤ 8589934592 ∧ 0 ≤ (elapsed drift d).2 ∧ (elapsed drift d).2 ≤ 17179869184 := by
  unfold elapsed
  cases h : inN drift 0 500000 && inN d 0 8589934592 with
  | false => simp
  | true =>
    simp only [cond_true]
    rw [Bool.and_eq_true, inN_iff, inN_iff] at h
    have hp1 : (0 : Int) < 1000000 + drift := by omega
    have hp2 : (0 : Int) < 1000000 - drift := by omega
    refine ⟨Int.ediv_nonneg (by omega) (by omega), ?_, Int.ediv_nonneg (by omega) (by omega), ?_⟩
    · apply Int.le_of_lt_add_one
      rw [Int.ediv_lt_iff_lt_mul hp1]
      have : (8589934592 + 1) * 1000000 ≤ (8589934592 + 1) * (1000000 + drift) := Int.mul_le_mul_of_nonneg_left (by omega) (by omega)
      omega
    · apply Int.le_of_lt_add_one
      rw [Int.ediv_lt_iff_lt_mul hp2]
      have : (17179869184 + 1) * 500000 ≤ (17179869184 + 1) * (1000000 - drift) := Int.mul_le_mul_of_nonneg_left (by omega) (by omega)
      omega

theorem clock_From_eq (h : Host) (s : Sync) (c : Int) (k : Int × Int → Option β) : zqk8 h s c k = k (fromS h s c) := by
  simp only [zqk8, zqk5, clock_in_eq, clock_compared_eq, clock_instant_eq, clock_Elapsed_eq, fromS, vHost]
  cases h1 : inN h.2 0 500000 with
  | false => rfl
  | true =>
    cases h2 : okSync s with
    | false => rfl
    | true =>
      cases h3 : inN c 0 8589934592 with
      | false => rfl
      | true =>
        simp only [okSync, Bool.and_eq_true, inN_iff, decide_eq_true_eq] at h2
        have h3 := inN_iff.1 h3
        simp only [Bool.not_true, c_f, Bool.and_true, cond_true]
        have e1 := @elapsed_bd h.2 (c - s.2.1)
        have e2 := @elapsed_bd h.2 (s.2.1 - c)
        by_cases h4 : s.2.1 ≤ c
        · simp (disch := omega) only [c_pos, i64_in, decide_eq_true h4, cond_true]
        · simp (disch := omega) only [c_neg, i64_in, decide_eq_false h4, cond_false]

theorem valid_bd {r : Rec} (h : valid r = true) : r.1.length ≤ 8 ∧ r.2.1.length ≤ 64 ∧ r.2.2.1.length ≤ 40 ∧ r.2.2.2.length ≤ 64 := by
  simp [valid, small] at h
  omega

end
end
end Go.Lift

/- The dice in plain Lean. -/
namespace Go.Lift
open Go.RowKit Go.IntWalk
noncomputable section
set_option linter.unusedVariables false
set_option linter.unusedSimpArgs false

abbrev Dice := List Int × Int
def DiceOk (d : Dice) : Prop := 0 ≤ d.2 ∧ d.2 ≤ d.1.length ∧ d.1.length ≤ 500

theorem light_eq {β : Type} (l : List Int) (k : Bool → Option β) : zqa l k = k (decide ((l.length : Int) ≤ 500)) := by
  simp only [zqa, zq7]
theorem roll_eq {β : Type} (l : List Int) (k : Dice → Option β) : zqh l k = k (l, 0) := by
  simp only [zqh, zqe]
theorem roll_ok {l : List Int} (h : (l.length : Int) ≤ 500) : DiceOk (l, 0) := ⟨by simp, by simp, by show l.length ≤ 500; omega⟩

theorem next_ok {n : Int} {d : Dice} (hd : DiceOk d) (hn : 1 ≤ n ∧ n ≤ 4611686018427387904) :
    ∃ x d', 0 ≤ x ∧ x < n ∧ DiceOk d' ∧ ∀ {β : Type} (k : Int → Dice → Option β), zqo n d k = k x d' := by
  obtain ⟨h1, h2, h3⟩ := hd
  by_cases ha : (d.1.length : Int) ≤ d.2
  · exact ⟨0, d, by omega, by omega, ⟨h1, h2, h3⟩, fun k => by simp (disch := omega) only [zqo, zql, c_pos]⟩
  · generalize hv : List.getD d.1 (Int.toNat d.2) (0 : Int) = v
    have hm1 := Int.tmod_lt_of_pos v (show 0 < n by omega)
    have hm2 : -n < Int.tmod v n := by
      have h5 := Int.tmod_lt_of_pos (-v) (show 0 < n by omega)
      rw [Int.neg_tmod] at h5
      omega
    have hd' : DiceOk (d.1, d.2 + 1) := ⟨by show (0 : Int) ≤ d.2 + 1; omega, by show d.2 + 1 ≤ (d.1.length : Int); omega, h3⟩
    by_cases hc : Int.tmod v n < 0
    · refine ⟨Int.tmod v n + n, (d.1, d.2 + 1), by omega, by omega, hd', fun k => ?_⟩
      simp (disch := omega) only [zqo, zql, hv, c_pos, c_neg, c_inb, c_nneg, i64_in]
    · refine ⟨Int.tmod v n, (d.1, d.2 + 1), by omega, by omega, hd', fun k => ?_⟩
      simp (disch := omega) only [zqo, zql, hv, c_pos, c_neg, c_inb, c_nneg, i64_in]

end
end Go.Lift

/- The dice in plain Lean: one of several numbers. -/
namespace Go.Lift
open Go.RowKit Go.IntWalk
noncomputable section
set_option linter.unusedVariables false
set_option linter.unusedSimpArgs false

theorem one_ok {l : List Int} {d : Dice} (hl : 0 < l.length) (hlen : l.length ≤ 1000000) (hd : DiceOk d) :
    ∃ x d', x ∈ l ∧ DiceOk d' ∧ ∀ {β : Type} (k : Int → Dice → Option β), zqv l d k = k x d' := by
  obtain ⟨x, d', h1, h2, hd', hf⟩ := next_ok (n := (l.length : Int)) hd (by omega)
  have hxn : x.toNat < l.length := by omega
  refine ⟨l.getD x.toNat 0, d', ?_, hd', fun k => ?_⟩
  · simp [List.getD, hxn]
  · simp (disch := omega) only [zqv, zqs, hf, c_inb]
end
end Go.Lift

/- Records made by the dice, in plain Lean. -/
namespace Go.Lift
open Go.RowKit Go.IntWalk
noncomputable section
set_option linter.unusedVariables false
set_option linter.unusedSimpArgs false

structure HostsOk (hosts : List Host) (ahead : List Int) : Prop where
  len : ahead.length = hosts.length
  most : hosts.length ≤ 3
  drift : ∀ h ∈ hosts, h.2 = 0 ∨ h.2 = 100 ∨ h.2 = 50000 ∨ h.2 = 500000
  off : ∀ a ∈ ahead, a = 0 ∨ a = 7 ∨ a = 100
/-- A comparison at a true time. -/
def SyncOk (nh : Nat) (ahead : List Int) (s : Sync) : Prop :=
  0 ≤ s.1 ∧ s.1 < nh ∧ ∃ t, 864000 ≤ t ∧ t < 864400 ∧ s.2.1 = t + ahead.getD s.1.toNat 0 ∧ t - 20 ≤ s.2.2.1 ∧ s.2.2.1 ≤ t ∧ t ≤ s.2.2.2 ∧ s.2.2.2 ≤ t + 15
def EventOk (nh : Nat) (ahead : List Int) (e : Event) (t : Int) : Prop :=
  0 ≤ e.1 ∧ e.1 < nh ∧ 864000 ≤ t ∧ t < 864300 ∧ e.2.1 = t + ahead.getD e.1.toNat 0
def LinkOk (times : List Int) (l : Link) : Prop :=
  0 ≤ l.1 ∧ l.1 < times.length ∧ 0 ≤ l.2.1 ∧ l.2.1 < times.length ∧ l.1 ≠ l.2.1 ∧ 0 ≤ l.2.2 ∧ times.getD l.1.toNat 0 + l.2.2 ≤ times.getD l.2.1.toNat 0
/-- What a record of the dice is. -/
structure RecOk (n : Int) (r : Rec) (ahead times : List Int) : Prop where
  hosts : HostsOk r.1 ahead
  some_ : 1 ≤ r.1.length
  fewS : r.2.1.length ≤ 8
  syncs : ∀ s ∈ r.2.1, SyncOk r.1.length ahead s
  lenE : times.length = r.2.2.1.length
  fewE : (r.2.2.1.length : Int) ≤ n
  events : ∀ i, i < r.2.2.1.length → EventOk r.1.length ahead (r.2.2.1.getD i (0, 0, [])) (times.getD i 0)
  fewL : r.2.2.2.length ≤ 8
  links : ∀ l ∈ r.2.2.2, LinkOk times l

theorem getD_mem {α : Type} {l : List α} {i : Nat} {d : α} (h : i < l.length) : l.getD i d ∈ l := by simp [List.getD, h]
theorem getD_append {α : Type} {l l' : List α} {i : Nat} {d : α} (h : i < l.length) : (l ++ l').getD i d = l.getD i d := by simp [List.getD, List.getElem?_append_left h]
theorem getD_last {α : Type} {l : List α} {x d : α} : (l ++ [x]).getD l.length d = x := by simp [List.getD]

theorem record_p1 (n N : Int) (hN : 1 ≤ N ∧ N ≤ 3) {d : Dice} (hd : DiceOk d) :
    ∃ q : Dice × List Int × List Host, (DiceOk q.1 ∧ HostsOk q.2.2 q.2.1 ∧ (q.2.2.length : Int) = N) ∧
      ∀ {β : Type} (k : zqah β), zqbl k n N d.1 d.2 [] [] [] [] [] [] [] [] [] = k n q.1.1 q.1.2 q.2.1 [] [] [] [] q.2.2 [] [] [] := by
  refine while_loop (σ := Int × Dice × List Int × List Host) (ρ := Dice × List Int × List Host) (Kt := zqah)
    (fun k m s => zqbj m k n s.1 s.2.1.1 s.2.1.2 s.2.2.1 [] [] [] [] s.2.2.2 [] [] []) (fun k q => k n q.1.1 q.1.2 q.2.1 [] [] [] [] q.2.2 [] [] [])
    (fun s => 0 ≤ s.1 ∧ s.1 + s.2.2.2.length = N ∧ DiceOk s.2.1 ∧ HostsOk s.2.2.2 s.2.2.1) (fun s => s.1.toNat) _ ?_ fuel (N, d, [], []) ⟨by omega, by simp, hd, ⟨rfl, by simp, by simp, by simp⟩⟩ (lt_fuel (by show N.toNat < _; omega))
  rintro ⟨i, d, ahead, hosts⟩ ⟨h0, h1, h2, h3⟩
  simp only at h0 h1 h2 h3
  have hl := h3.len
  by_cases hi : 0 < i
  · left
    obtain ⟨x, d1, hx, hd1, f1⟩ := one_ok (l := [0, 0, 100, 50000, 500000]) (by simp) (by simp) h2
    obtain ⟨y, d2, hy, hd2, f2⟩ := one_ok (l := [0, 7, 100]) (by simp) (by simp) hd1
    refine ⟨(i - 1, d2, ahead ++ [y], hosts ++ [(List.getD [[100, 98], [119, 101, 98], [108, 98]] hosts.length [], x)]), ⟨by simp only; omega, by simp; omega, hd2, ?_⟩, by simp only; omega, fun k m => ?_⟩
    · refine ⟨by simp [hl], by simp; omega, fun h hh => ?_, fun a ha => ?_⟩
      · simp only [List.mem_append, List.mem_singleton] at hh
        rcases hh with hh | rfl
        · exact h3.drift h hh
        · simpa using hx
      · simp only [List.mem_append, List.mem_singleton] at ha
        rcases ha with ha | rfl
        · exact h3.off a ha
        · simpa using hy
    · simp (disch := omega) only [zqbk, zqb1, pair_eta, c_pos, c_inb, c_room, f1, f2, i64_in, List.length_cons, List.length_nil, Int.toNat_natCast]
  · right
    exact ⟨(d, ahead, hosts), ⟨h2, h3, by simp only; omega⟩, fun k m => by simp (disch := omega) only [zqbk, zqb1, c_neg]⟩

theorem ahead_bd {hosts : List Host} {ahead : List Int} (h : HostsOk hosts ahead) (i : Nat) : 0 ≤ ahead.getD i 0 ∧ ahead.getD i 0 ≤ 100 := by
  by_cases hi : i < ahead.length
  · have := h.off _ (getD_mem (d := 0) hi)
    omega
  · simp [List.getD, hi]

theorem record_p2 (n N : Int) (hN : 0 ≤ N ∧ N ≤ 4) {d : Dice} (hd : DiceOk d) {hosts : List Host} {ahead : List Int} (hh : HostsOk hosts ahead) (h1 : 1 ≤ hosts.length) :
    ∃ q : Dice × List Sync, (DiceOk q.1 ∧ (q.2.length : Int) = N ∧ ∀ s ∈ q.2, SyncOk hosts.length ahead s) ∧
      ∀ {β : Type} (k : zqal β), zqbp k n N d.1 d.2 ahead [] [] [] [] hosts [] [] [] = k n q.1.1 q.1.2 ahead [] [] [] [] hosts q.2 [] [] := by
  have hl := hh.len
  have hm := hh.most
  refine while_loop (σ := Int × Dice × List Sync) (ρ := Dice × List Sync) (Kt := zqal)
    (fun k m s => zqbn m k n s.1 s.2.1.1 s.2.1.2 ahead [] [] [] [] hosts s.2.2 [] []) (fun k q => k n q.1.1 q.1.2 ahead [] [] [] [] hosts q.2 [] [])
    (fun s => 0 ≤ s.1 ∧ s.1 + s.2.2.length = N ∧ DiceOk s.2.1 ∧ ∀ x ∈ s.2.2, SyncOk hosts.length ahead x) (fun s => s.1.toNat) _ ?_ fuel (N, d, []) ⟨by omega, by simp, hd, by simp⟩ (lt_fuel (by show N.toNat < _; omega))
  rintro ⟨i, d, syncs⟩ ⟨h0, h1', h2, h3⟩
  simp only at h0 h1' h2 h3
  by_cases hi : 0 < i
  · left
    obtain ⟨x, d1, hx0, hx1, hd1, f1⟩ := next_ok (n := (hosts.length : Int)) h2 (by omega)
    obtain ⟨y, d2, hy0, hy1, hd2, f2⟩ := next_ok (n := 400) hd1 (by omega)
    obtain ⟨z, d3, hz, hd3, f3⟩ := one_ok (l := [0, 3, 20]) (by simp) (by simp) hd2
    obtain ⟨u, d4, hu, hd4, f4⟩ := one_ok (l := [0, 2, 15]) (by simp) (by simp) hd3
    simp only [List.mem_cons, List.not_mem_nil, or_false] at hz hu
    have ha := ahead_bd hh x.toNat
    refine ⟨(i - 1, d4, syncs ++ [(x, 864000 + y + ahead.getD x.toNat 0, 864000 + y - z, 864000 + y + u)]), ⟨by simp only; omega, by simp; omega, hd4, ?_⟩, by simp only; omega, fun k m => ?_⟩
    · intro s hs
      simp only [List.mem_append, List.mem_singleton] at hs
      rcases hs with hs | rfl
      · exact h3 s hs
      · exact ⟨hx0, hx1, 864000 + y, by omega, by omega, rfl, by simp only; omega, by simp only; omega, by simp only; omega, by simp only; omega⟩
    · simp (disch := omega) only [zqbo, zqb4, pair_eta, c_pos, c_inb, c_room, f1, f2, f3, f4, i64_in, List.length_cons, List.length_nil, Int.toNat_natCast]
  · right
    exact ⟨(d, syncs), ⟨h2, by simp only; omega, h3⟩, fun k m => by simp (disch := omega) only [zqbo, zqb4, c_neg]⟩

theorem record_p3 (N : Int) (hN : 0 ≤ N ∧ N ≤ 1000) {d : Dice} (hd : DiceOk d) {hosts : List Host} {ahead : List Int} (hh : HostsOk hosts ahead) (h1 : 1 ≤ hosts.length) (syncs : List Sync) :
    ∃ q : Dice × List Int × List Event, (DiceOk q.1 ∧ (q.2.2.length : Int) = N ∧ q.2.1.length = q.2.2.length ∧ ∀ i, i < q.2.2.length → EventOk hosts.length ahead (q.2.2.getD i (0, 0, [])) (q.2.1.getD i 0)) ∧
      ∀ {β : Type} (k : zqap β), zqbt k N d.1 d.2 ahead [] [] [] [] [] hosts syncs [] [] = k q.1.1 q.1.2 q.2.1 [] [] [] [] hosts syncs q.2.2 [] := by
  have hl := hh.len
  have hm := hh.most
  refine while_loop (σ := Int × Dice × List Int × List Event) (ρ := Dice × List Int × List Event) (Kt := zqap)
    (fun k m s => zqbr m k s.1 s.2.1.1 s.2.1.2 ahead s.2.2.1 [] [] [] [] hosts syncs s.2.2.2 []) (fun k q => k q.1.1 q.1.2 q.2.1 [] [] [] [] hosts syncs q.2.2 [])
    (fun s => 0 ≤ s.1 ∧ s.1 + s.2.2.2.length = N ∧ s.2.2.1.length = s.2.2.2.length ∧ DiceOk s.2.1 ∧ ∀ i, i < s.2.2.2.length → EventOk hosts.length ahead (s.2.2.2.getD i (0, 0, [])) (s.2.2.1.getD i 0)) (fun s => s.1.toNat) _ ?_ fuel (N, d, [], []) ⟨by omega, by simp, rfl, hd, by simp⟩ (lt_fuel (by show N.toNat < _; omega))
  rintro ⟨i, d, times, evs⟩ ⟨h0, h1', hlen, h2, h3⟩
  simp only at h0 h1' hlen h2 h3
  by_cases hi : 0 < i
  · left
    obtain ⟨x, d1, hx0, hx1, hd1, f1⟩ := next_ok (n := (hosts.length : Int)) h2 (by omega)
    obtain ⟨y, d2, hy0, hy1, hd2, f2⟩ := next_ok (n := 300) hd1 (by omega)
    obtain ⟨z, d3, hz0, hz1, hd3, f3⟩ := next_ok (n := 3) hd2 (by omega)
    have ha := ahead_bd hh x.toNat
    refine ⟨(i - 1, d3, times ++ [864000 + y], evs ++ [(x, 864000 + y + ahead.getD x.toNat 0, List.getD [[117, 112], [100, 111, 119, 110], [115, 108, 111, 119]] z.toNat [])]), ⟨by simp only; omega, by simp; omega, by simp [hlen], hd3, ?_⟩, by simp only; omega, fun k m => ?_⟩
    · intro j hj
      simp only [List.length_append, List.length_singleton] at hj
      by_cases hj' : j < evs.length
      · rw [getD_append hj', getD_append (by omega)]
        exact h3 j hj'
      · obtain rfl : j = evs.length := by omega
        simp only
        rw [getD_last]
        rw [← hlen, getD_last]
        exact ⟨hx0, hx1, by omega, by omega, rfl⟩
    · simp (disch := omega) only [zqbs, zqb7, pair_eta, c_pos, c_inb, c_room, f1, f2, f3, i64_in, List.length_cons, List.length_nil, Int.toNat_natCast]
  · right
    exact ⟨(d, times, evs), ⟨h2, by simp only; omega, hlen, h3⟩, fun k m => by simp (disch := omega) only [zqbs, zqb7, c_neg]⟩

theorem record_p5 (N : Int) (hN : 0 ≤ N ∧ N ≤ 3) {d : Dice} (hd : DiceOk d) (hosts : List Host) (syncs : List Sync) (evs : List Event) {times : List Int} (ht : times.length ≤ 1000) (hb : ∀ i, i < times.length → 864000 ≤ times.getD i 0 ∧ times.getD i 0 < 864300) :
    ∃ q : Dice × List Link, (DiceOk q.1 ∧ q.2.length ≤ 3 ∧ ∀ l ∈ q.2, LinkOk times l) ∧
      ∀ {β : Type} (k : zqax β), zqbz k N d.1 d.2 times [] [] [] [] hosts syncs evs [] = k q.1.1 q.1.2 times [] [] [] [] hosts syncs evs q.2 := by
  refine while_loop (σ := Int × Dice × List Link) (ρ := Dice × List Link) (Kt := zqax)
    (fun k m s => zqbx m k s.1 s.2.1.1 s.2.1.2 times [] [] [] [] hosts syncs evs s.2.2) (fun k q => k q.1.1 q.1.2 times [] [] [] [] hosts syncs evs q.2)
    (fun s => 0 ≤ s.1 ∧ s.1 + s.2.2.length ≤ N ∧ DiceOk s.2.1 ∧ ∀ x ∈ s.2.2, LinkOk times x) (fun s => s.1.toNat) _ ?_ fuel (N, d, []) ⟨by omega, by simp, hd, by simp⟩ (lt_fuel (by show N.toNat < _; omega))
  rintro ⟨i, d, links⟩ ⟨h0, h1', h2, h3⟩
  simp only at h0 h1' h2 h3
  by_cases hi : 0 < i
  · by_cases ht1 : (1 : Int) < times.length
    · left
      obtain ⟨x, d1, hx0, hx1, hd1, f1⟩ := next_ok (n := (times.length : Int)) h2 (by omega)
      obtain ⟨y, d2, hy0, hy1, hd2, f2⟩ := next_ok (n := (times.length : Int)) hd1 (by omega)
      by_cases hxy : x = y
      · refine ⟨(i - 1, d2, links), ⟨by simp only; omega, by simp only; omega, hd2, h3⟩, by simp only; omega, fun k m => ?_⟩
        simp (disch := omega) only [zqby, zqbd, zqbv, zqbb, zqba, pair_eta, c_pos, c_npos, c_f, f1, f2, i64_in]
      · have bx := hb x.toNat (by omega)
        have by_ := hb y.toNat (by omega)
        by_cases hle : times.getD x.toNat 0 ≤ times.getD y.toNat 0
        · obtain ⟨z, d3, hz0, hz1, hd3, f3⟩ := next_ok (n := times.getD y.toNat 0 - times.getD x.toNat 0 + 1) hd2 (by omega)
          refine ⟨(i - 1, d3, links ++ [(x, y, z)]), ⟨by simp only; omega, by simp; omega, hd3, ?_⟩, by simp only; omega, fun k m => ?_⟩
          · intro l hl
            simp only [List.mem_append, List.mem_singleton] at hl
            rcases hl with hl | rfl
            · exact h3 l hl
            · exact ⟨hx0, hx1, hy0, hy1, hxy, hz0, by simp only; omega⟩
          · simp (disch := omega) only [zqby, zqbd, zqbv, zqbb, zqba, pair_eta, c_pos, c_nneg, c_inb, c_room, f1, f2, f3, i64_in, List.length_cons, List.length_nil]
        · refine ⟨(i - 1, d2, links), ⟨by simp only; omega, by simp only; omega, hd2, h3⟩, by simp only; omega, fun k m => ?_⟩
          simp (disch := omega) only [zqby, zqbd, zqbv, zqbb, zqba, pair_eta, c_pos, c_nneg, c_inb, c_neg, f1, f2, i64_in]
    · right
      exact ⟨(d, links), ⟨h2, by simp only; omega, h3⟩, fun k m => by simp (disch := omega) only [zqby, zqbd, c_pos, c_neg]⟩
  · right
    exact ⟨(d, links), ⟨h2, by simp only; omega, h3⟩, fun k m => by simp (disch := omega) only [zqby, zqbd, c_neg]⟩

theorem record_ok4 (n : Int) (hn : 0 ≤ n ∧ n ≤ 900) {d : Dice} (hd : DiceOk d) :
    ∃ r d' times ahead, RecOk n r ahead times ∧ DiceOk d' ∧ (r.2.1.length ≤ 4 ∧ r.2.2.2.length ≤ 3) ∧ ∀ {β : Type} (k : zq2 → Dice → List Int → Option β), zqc1 n d k = k r d' times := by
  obtain ⟨x, d1, hx0, hx1, hd1, f1⟩ := next_ok (n := 3) hd (by omega)
  obtain ⟨⟨d2, ahead, hosts⟩, ⟨hd2, hh, hN⟩, f2⟩ := record_p1 n (1 + x) (by omega) hd1
  simp only at hd2 hh hN f2
  obtain ⟨y, d3, hy0, hy1, hd3, f3⟩ := next_ok (n := 5) hd2 (by omega)
  obtain ⟨⟨d4, syncs⟩, ⟨hd4, hs, hsy⟩, f4⟩ := record_p2 n y (by omega) hd3 hh (by omega)
  simp only at hd4 hs hsy f4
  obtain ⟨z, d5, hz0, hz1, hd5, f5⟩ := next_ok (n := n + 1) hd4 (by omega)
  obtain ⟨⟨d6, times, evs⟩, ⟨hd6, he, hte, hev⟩, f6⟩ := record_p3 z (by omega) hd5 hh (by omega) syncs
  simp only at hd6 he hte hev f6
  obtain ⟨u, d7, hu0, hu1, hd7, f7⟩ := next_ok (n := 4) hd6 (by omega)
  obtain ⟨⟨d8, links⟩, ⟨hd8, hl, hli⟩, f8⟩ := record_p5 u (by omega) hd7 hosts syncs evs (times := times) (by omega) (fun i hi => ⟨(hev i (by omega)).2.2.1, (hev i (by omega)).2.2.2.1⟩)
  simp only at hd8 hl hli f8
  refine ⟨(hosts, syncs, evs, links), d8, times, ahead, ⟨hh, by simp only; omega, by simp only; omega, hsy, hte, by simp only; omega, hev, by simp only; omega, hli⟩, hd8, ⟨by simp only; omega, hl⟩, fun k => ?_⟩
  simp (disch := omega) only [zqc1, zqbg, f1, f2, f3, f4, f5, f6, f7, f8, i64_in, pair_eta]

theorem record_ok (n : Int) (hn : 0 ≤ n ∧ n ≤ 900) {d : Dice} (hd : DiceOk d) :
    ∃ r d' times ahead, RecOk n r ahead times ∧ DiceOk d' ∧ ∀ {β : Type} (k : zq2 → Dice → List Int → Option β), zqc1 n d k = k r d' times := by
  obtain ⟨r, d', times, ahead, h1, h2, _, h3⟩ := record_ok4 n hn hd
  exact ⟨r, d', times, ahead, h1, h2, h3⟩

/-- A record of the dice is valid. -/
theorem RecOk.valid {n : Int} {r : Rec} {ahead times : List Int} (h : RecOk n r ahead times) (hn : n ≤ 40) : valid r = true := by
  obtain ⟨hosts, syncs, evs, links⟩ := r
  have hE := h.fewE
  have hS := h.fewS
  have hL := h.fewL
  have hm := h.hosts.most
  have hle := h.lenE
  simp only at hE hS hL hm hle
  have key : ∀ (l : List Int) (i : Nat), (∀ a ∈ l, a = 0 ∨ a = 7 ∨ a = 100) → 0 ≤ l.getD i 0 ∧ l.getD i 0 ≤ 100 := by
    intro l i hl
    by_cases hi : i < l.length
    · have := hl _ (getD_mem (d := 0) hi); omega
    · simp [List.getD, hi]
  have hev : ∀ e ∈ evs, vEvent hosts.length e = true := by
    intro e he
    obtain ⟨i, hi, rfl⟩ := List.getElem_of_mem he
    have := h.events i hi
    simp only at this
    rw [show evs.getD i (0, 0, []) = evs[i] by simp [List.getD, hi]] at this
    obtain ⟨a1, a2, a3, a4, a5⟩ := this
    have := key ahead evs[i].1.toNat h.hosts.off
    simp only [vEvent, Bool.and_eq_true, inN_iff]
    omega
  have hsy : ∀ s ∈ syncs, vSync hosts.length s = true := by
    intro s hs
    obtain ⟨a1, a2, t, a3, a4, a5, a6, a7, a8, a9⟩ := h.syncs s hs
    have := key ahead s.1.toNat h.hosts.off
    simp only [vSync, okSync, Bool.and_eq_true, inN_iff, decide_eq_true_eq]
    simp only at a2
    omega
  have hli : ∀ l ∈ links, vLink evs.length l = true := by
    intro l hl
    obtain ⟨a1, a2, a3, a4, a5, a6, a7⟩ := h.links l hl
    have b1 := h.events l.1.toNat (by simp only; omega)
    have b2 := h.events l.2.1.toNat (by simp only; omega)
    obtain ⟨-, -, c1, c2, -⟩ := b1
    obtain ⟨-, -, c3, c4, -⟩ := b2
    simp only [vLink, Bool.and_eq_true, inN_iff, Bool.not_eq_true', decide_eq_false_iff_not]
    omega
  have hho : ∀ x ∈ hosts, vHost x = true := by
    intro x hx
    have := h.hosts.drift x hx
    simp only [vHost, inN_iff]
    omega
  simp only [Go.Lift.valid, small, Bool.and_eq_true, List.all_eq_true, Bool.not_eq_true', decide_eq_false_iff_not]
  exact ⟨⟨by omega, by omega, by omega, by omega⟩, hho, hsy, hev, hli⟩

end
end Go.Lift

/- When a clock showed a reading. -/
namespace Go.Lift
open Go.RowKit Go.IntWalk
noncomputable section
set_option linter.unusedVariables false
set_option linter.unusedSimpArgs false

theorem elapsed_le {drift d : Int} (h1 : 0 ≤ drift ∧ drift ≤ 500000) (h2 : 0 ≤ d ∧ d ≤ 8589934592) : (elapsed drift d).1 ≤ d ∧ d ≤ (elapsed drift d).2 := by
  unfold elapsed
  rw [inN_mk h1, inN_mk h2]
  simp only [Bool.and_true, cond_true]
  have hp1 : (0 : Int) < 1000000 + drift := by omega
  have hp2 : (0 : Int) < 1000000 - drift := by omega
  constructor
  · apply Int.le_of_lt_add_one
    rw [Int.ediv_lt_iff_lt_mul hp1]
    have : (d + 1) * 1000000 ≤ (d + 1) * (1000000 + drift) := Int.mul_le_mul_of_nonneg_left (by omega) (by omega)
    omega
  · rw [Int.le_ediv_iff_mul_le hp2]
    have : d * (1000000 - drift) ≤ d * 1000000 := Int.mul_le_mul_of_nonneg_left (by omega) (by omega)
    omega

/-- What a comparison says of a reading, if its numbers are right. -/
theorem fromS_eq {h : Host} {s : Sync} {c : Int} (h1 : 0 ≤ h.2 ∧ h.2 ≤ 500000) (h2 : okSync s = true) (h3 : 0 ≤ c ∧ c ≤ 8589934592) :
    fromS h s c = if s.2.1 ≤ c then (s.2.2.1 + (elapsed h.2 (c - s.2.1)).1, s.2.2.2 + (elapsed h.2 (c - s.2.1)).2) else (s.2.2.1 - (elapsed h.2 (s.2.1 - c)).2, s.2.2.2 - (elapsed h.2 (s.2.1 - c)).1) := by
  unfold fromS
  rw [h2, inN_mk h3, vHost, inN_mk h1]
  simp only [Bool.and_self, cond_true]
  split <;> rename_i hc
  · rw [decide_eq_true hc]; rfl
  · rw [decide_eq_false hc]; rfl

/-- The range that a true comparison gives has the true time. -/
theorem fromS_true {h : Host} {s : Sync} {c t a : Int} (h1 : 0 ≤ h.2 ∧ h.2 ≤ 500000) (h2 : okSync s = true) (h3 : 0 ≤ c ∧ c ≤ 8589934592) (hs : s.2.1 = t + a) (hl : s.2.2.1 ≤ t) (hh : t ≤ s.2.2.2) :
    (fromS h s c).1 ≤ c - a ∧ c - a ≤ (fromS h s c).2 := by
  rw [fromS_eq h1 h2 h3]
  simp only [okSync, Bool.and_eq_true, inN_iff, decide_eq_true_eq] at h2
  split
  · have := elapsed_le h1 (d := c - s.2.1) (by omega)
    simp only; omega
  · have := elapsed_le h1 (d := s.2.1 - c) (by omega)
    simp only; omega

theorem meet2_eq (a b : Int × Int) : meet2 a b = (max a.1 b.1, min a.2 b.2) := by
  unfold meet2
  congr 1
  · omega
  · omega

/-- The ranges that the comparisons of a host give. -/
def froms (hosts : List Host) (host c : Int) (syncs : List Sync) : List (Int × Int) := (syncs.filter fun s => decide (s.1 = host)).map fun s => fromS (hosts.getD host.toNat ([], 0)) s c

theorem whenR_eq (r : Rec) (host c : Int) : whenR r host c = (froms r.1 host c r.2.1).foldl meet2 (0, 8589934592) := by
  unfold whenR froms
  generalize ((0 : Int), (8589934592 : Int)) = o
  induction r.2.1 generalizing o with
  | nil => rfl
  | cons s l ih =>
    simp only [List.foldl_cons, ih, List.filter_cons]
    cases decide (s.1 = host) <;> rfl

theorem foldl_meet_in {x : Int} : ∀ {l : List (Int × Int)} {o : Int × Int}, o.1 ≤ x ∧ x ≤ o.2 → (∀ f ∈ l, f.1 ≤ x ∧ x ≤ f.2) → (l.foldl meet2 o).1 ≤ x ∧ x ≤ (l.foldl meet2 o).2
  | [], o, h, _ => h
  | f :: l, o, h, hl => by
    have h1 := hl f (by simp)
    refine foldl_meet_in (o := meet2 o f) ?_ fun g hg => hl g (by simp [hg])
    rw [meet2_eq]
    simp only; omega

theorem foldl_meet_bd : ∀ {l : List (Int × Int)} {o : Int × Int}, o.1 ≤ (l.foldl meet2 o).1 ∧ (l.foldl meet2 o).2 ≤ o.2
  | [], o => ⟨Int.le_refl _, Int.le_refl _⟩
  | f :: l, o => by
    have := @foldl_meet_bd l (meet2 o f)
    rw [meet2_eq] at this
    rw [List.foldl_cons, meet2_eq]
    simp only at this
    omega

section
variable {n : Int} {r : Rec} {ahead times : List Int}
theorem RecOk.sync_ok (h : RecOk n r ahead times) {s : Sync} (hs : s ∈ r.2.1) : okSync s = true ∧ 864000 ≤ s.2.1 ∧ s.2.1 ≤ 864500 ∧ 863980 ≤ s.2.2.1 ∧ s.2.2.2 ≤ 864415 := by
  obtain ⟨a1, a2, t, a3, a4, a5, a6, a7, a8, a9⟩ := h.syncs s hs
  have := ahead_bd h.hosts s.1.toNat
  refine ⟨?_, by omega, by omega, by omega, by omega⟩
  simp only [okSync, Bool.and_eq_true, inN_iff, decide_eq_true_eq]
  omega
theorem RecOk.drift_ok (h : RecOk n r ahead times) (i : Nat) : 0 ≤ (r.1.getD i ([], 0)).2 ∧ (r.1.getD i ([], 0)).2 ≤ 500000 := by
  by_cases hi : i < r.1.length
  · have := h.hosts.drift _ (getD_mem (d := ([], 0)) hi); omega
  · simp [List.getD, hi]

theorem RecOk.froms_true (h : RecOk n r ahead times) {host c : Int} (hh : 0 ≤ host ∧ host < r.1.length) (hc : 0 ≤ c ∧ c ≤ 8589934592) :
    ∀ f ∈ froms r.1 host c r.2.1, f.1 ≤ c - ahead.getD host.toNat 0 ∧ c - ahead.getD host.toNat 0 ≤ f.2 := by
  intro f hf
  simp only [froms, List.mem_map, List.mem_filter, decide_eq_true_eq] at hf
  obtain ⟨s, ⟨hs, rfl⟩, rfl⟩ := hf
  obtain ⟨a1, a2, t, a3, a4, a5, a6, a7, a8, a9⟩ := h.syncs s hs
  exact fromS_true (h.drift_ok _) (h.sync_ok hs).1 hc a5 a7 a8

theorem RecOk.when_true (h : RecOk n r ahead times) {host c : Int} (hh : 0 ≤ host ∧ host < r.1.length) (hc : 100 ≤ c ∧ c ≤ 8589934592) :
    (whenR r host c).1 ≤ c - ahead.getD host.toNat 0 ∧ c - ahead.getD host.toNat 0 ≤ (whenR r host c).2 := by
  rw [whenR_eq]
  have := ahead_bd h.hosts host.toNat
  exact foldl_meet_in (by simp only; omega) (h.froms_true hh (by omega))

theorem RecOk.when? (h : RecOk n r ahead times) (hn : n ≤ 40) {host c : Int} (hh : 0 ≤ host ∧ host < r.1.length) (hc : 100 ≤ c ∧ c ≤ 8589934592) : when? r host c = (whenR r host c, true) := by
  have h1 := h.when_true hh hc
  unfold Go.Lift.when?
  rw [h.valid hn, inN_mk (by omega), inN_mk (by omega)]
  simp only [Bool.and_self, cond_true]
  rw [decide_eq_false (by omega)]
  rfl
end

end
end Go.Lift

/- constraint.Close in plain Lean. -/
namespace Go.Lift
open Go.RowKit Go.IntWalk
noncomputable section
set_option linter.unusedVariables false
set_option linter.unusedSimpArgs false
set_option maxRecDepth 10000

theorem range_getD {n i : Nat} (h : i < n) : (List.range n).getD i 0 = i := by simp [List.getD, h]

section
variable {β : Type}
/-- The rounds of the closure: c rounds from k on. -/
def roundsW (n : Nat) : Nat → Nat → Mat → Option Mat
  | 0, _, m => some m
  | c + 1, k, m => if at2 (roundW n k m) k k < 0 then none else roundsW n c (k + 1) (roundW n k m)

/-- No number of the diagonal is less than 0. -/
def diagOk (n : Nat) (m : Mat) : Bool := (List.range n).all fun i => decide (¬ at2 m i i < 0)

/-- The diagonal is 0 at most. -/
def diagW (n : Nat) (m : Mat) : Mat := (List.range n).foldl (fun m i => setAt m i i (if 0 < at2 m i i then 0 else at2 m i i)) m
theorem Sq.diagW {n : Nat} {m : Mat} (h : Sq n m) : Sq n (diagW n m) := fold_inv (Sq n) _ (fun m i h => h.setAt _ _ _) _ _ h

end
end
end Go.Lift

/- constraint.Valid and constraint.direct in plain Lean. -/
namespace Go.Lift
open Go.RowKit Go.IntWalk
noncomputable section
set_option linter.unusedVariables false
set_option linter.unusedSimpArgs false
set_option maxRecDepth 10000

abbrev Diff := Int × (Int × Int)
section
variable {β : Type}
def diffOk (n : Nat) (d : Diff) : Bool := decide (0 ≤ d.1 ∧ d.1 < n ∧ 0 ≤ d.2.1 ∧ d.2.1 < n ∧ -17179869184 ≤ d.2.2 ∧ d.2.2 ≤ 17179869184)

def validD (n : Nat) (l : List Diff) : Bool := decide (l.length ≤ 4000) && l.all (diffOk n)

end
end
end Go.Lift

/- constraint.direct in plain Lean. -/
namespace Go.Lift
open Go.RowKit Go.IntWalk
noncomputable section
set_option linter.unusedVariables false
set_option linter.unusedSimpArgs false
set_option maxRecDepth 10000

def bigM (n : Nat) : Mat := List.replicate n (List.replicate n BIG)
/-- One constraint more. -/
def putW (m : Mat) (d : Diff) : Mat := setAt m d.1.toNat d.2.1.toNat (if d.2.2 < at2 m d.1.toNat d.2.1.toNat then d.2.2 else at2 m d.1.toNat d.2.1.toNat)
def directW (n : Nat) (l : List Diff) : Mat := l.foldl putW (bigM n)

theorem bigM_sq (n : Nat) : Sq n (bigM n) := by
  refine ⟨by simp [bigM], fun i hi => ?_⟩
  simp [bigM, List.getD, hi]
theorem Sq.putW {n : Nat} {m : Mat} (h : Sq n m) (d : Diff) : Sq n (putW m d) := h.setAt _ _ _
theorem directW_sq (n : Nat) (l : List Diff) : Sq n (directW n l) := fold_inv (Sq n) _ (fun m d h => h.putW d) _ _ (bigM_sq n)

section
variable {β : Type}
/-- What Close returns. -/
def closeW (n : Nat) (l : List Diff) : Option Mat :=
  if validD n l then
    match roundsW n n 0 (diagW n (directW n l)) with
    | some m => if diagOk n m then some m else none
    | none => none
  else none

end
end
end Go.Lift

/- The theory of the closure. -/
namespace Go.Lift
open Go.RowKit Go.IntWalk
noncomputable section
set_option linter.unusedVariables false
set_option linter.unusedSimpArgs false
set_option maxRecDepth 10000

theorem wrap_in {x : Int} (h : -9223372036854775808 ≤ x ∧ x ≤ 9223372036854775807) : IntKind.i64.wrap x = x := i64_in _ h

theorem range_fold {σ : Type} (g : σ → Nat → σ) (s : σ) (c : Nat) : (List.range (c + 1)).foldl g s = g ((List.range c).foldl g s) c := by
  rw [List.range_succ, List.foldl_append]; rfl

/-- What a round needs. -/
structure RH (n k : Nat) (m : Mat) : Prop where
  sq : Sq n m
  zero : at2 m k k = 0
  row : ∀ j, j < n → -1125899906842624 ≤ at2 m k j ∧ at2 m k j < 1099511627776
  col : ∀ i, i < n → -1125899906842624 ≤ at2 m i k ∧ at2 m i k < 1099511627776

theorem relax_at {n k i j : Nat} {m : Mat} (hm : Sq n m) (hi : i < n) (hj : j < n) (h1 : -1125899906842624 ≤ at2 m i k ∧ at2 m i k < 1099511627776) (h2 : -1125899906842624 ≤ at2 m k j ∧ at2 m k j < 1099511627776) (a b : Nat) :
    at2 (relaxW k i j m) a b = if a = i ∧ b = j then min (at2 m i j) (at2 m i k + at2 m k j) else at2 m a b := by
  have hB : BIG = 1099511627776 := rfl
  unfold relaxW
  rw [if_neg (by omega), at_setAt hm hi hj, wrap_in (by omega)]
  split
  · split <;> omega
  · rfl

theorem row_at {n k i : Nat} {m : Mat} (h : RH n k m) (hk : k < n) (hi : i < n) : ∀ (c : Nat), c ≤ n → Sq n ((List.range c).foldl (fun m j => relaxW k i j m) m) ∧ ∀ a b, a < n → b < n →
    at2 ((List.range c).foldl (fun m j => relaxW k i j m) m) a b = if a = i ∧ b < c then min (at2 m a b) (at2 m a k + at2 m k b) else at2 m a b := by
  intro c
  induction c with
  | zero =>
    intro _
    refine ⟨h.sq, fun a b _ _ => ?_⟩
    rw [if_neg (by omega)]
    rfl
  | succ c ih =>
    intro hc
    obtain ⟨s1, s2⟩ := ih (by omega)
    rw [range_fold]
    refine ⟨s1.relaxW _ _ _, fun a b ha hb => ?_⟩
    have z := h.zero
    have r := h.row c (by omega)
    have cc := h.col i hi
    have ck := h.col k hk
    have q1 : at2 ((List.range c).foldl (fun m j => relaxW k i j m) m) i k = at2 m i k := by
      rw [s2 i k hi hk]; split <;> omega
    have q2 : at2 ((List.range c).foldl (fun m j => relaxW k i j m) m) k c = at2 m k c := by
      rw [s2 k c hk (by omega), if_neg (by omega)]
    rw [relax_at s1 hi (by omega) (by rw [q1]; exact cc) (by rw [q2]; exact r), q1, q2, s2 i c hi (by omega), s2 a b ha hb]
    rw [if_neg (show ¬ (i = i ∧ c < c) by omega)]
    by_cases e1 : a = i
    · subst e1
      by_cases e2 : b = c
      · subst e2
        rw [if_pos ⟨rfl, rfl⟩, if_pos (by omega)]
      · rw [if_neg (fun h => e2 h.2)]
        by_cases e3 : b < c
        · rw [if_pos (by omega), if_pos (by omega)]
        · rw [if_neg (by omega), if_neg (by omega)]
    · rw [if_neg (fun h => e1 h.1), if_neg (fun h => e1 h.1), if_neg (fun h => e1 h.1)]

theorem rowW_at {n k i : Nat} {m : Mat} (h : RH n k m) (hk : k < n) (hi : i < n) (a b : Nat) (ha : a < n) (hb : b < n) :
    at2 (rowW n k i m) a b = if a = i then min (at2 m a b) (at2 m a k + at2 m k b) else at2 m a b := by
  refine ((row_at h hk hi n (Nat.le_refl n)).2 a b ha hb).trans ?_
  by_cases e : a = i
  · rw [if_pos ⟨e, hb⟩, if_pos e]
  · rw [if_neg (fun h => e h.1), if_neg e]

theorem rounds_at {n k : Nat} {m : Mat} (h : RH n k m) (hk : k < n) : ∀ (c : Nat), c ≤ n → RH n k ((List.range c).foldl (fun m i => rowW n k i m) m) ∧ ∀ a b, a < n → b < n →
    at2 ((List.range c).foldl (fun m i => rowW n k i m) m) a b = if a < c then min (at2 m a b) (at2 m a k + at2 m k b) else at2 m a b := by
  intro c
  induction c with
  | zero =>
    intro _
    refine ⟨h, fun a b _ _ => ?_⟩
    rw [if_neg (by omega)]
    rfl
  | succ c ih =>
    intro hc
    obtain ⟨s1, s2⟩ := ih (by omega)
    rw [range_fold]
    have hh : ∀ a b, a < n → b < n → at2 (rowW n k c ((List.range c).foldl (fun m i => rowW n k i m) m)) a b = if a < c + 1 then min (at2 m a b) (at2 m a k + at2 m k b) else at2 m a b := by
      intro a b ha hb
      rw [rowW_at s1 hk (by omega) a b ha hb]
      have z := h.zero
      have e1 : at2 ((List.range c).foldl (fun m i => rowW n k i m) m) k b = at2 m k b := by rw [s2 k b hk hb]; split <;> omega
      have e2 : at2 ((List.range c).foldl (fun m i => rowW n k i m) m) a k = at2 m a k := by rw [s2 a k ha hk]; split <;> omega
      rw [e1, e2, s2 a b ha hb]
      split <;> split <;> split <;> omega
    refine ⟨⟨s1.sq.rowW _ _, ?_, ?_, ?_⟩, hh⟩
    · rw [hh k k hk hk]
      have z := h.zero
      split <;> omega
    · intro j hj
      rw [hh k j hk hj]
      have z := h.zero
      have := h.row j hj
      split <;> omega
    · intro i hi
      rw [hh i k hi hk]
      have z := h.zero
      have := h.col i hi
      split <;> omega

theorem roundW_at {n k : Nat} {m : Mat} (h : RH n k m) (hk : k < n) (a b : Nat) (ha : a < n) (hb : b < n) :
    at2 (roundW n k m) a b = min (at2 m a b) (at2 m a k + at2 m k b) := by
  refine ((rounds_at h hk n (Nat.le_refl n)).2 a b ha hb).trans ?_
  rw [if_pos ha]

/- Entries never grow, whatever they are. -/
def Le (n : Nat) (m' m : Mat) : Prop := ∀ a b, a < n → b < n → at2 m' a b ≤ at2 m a b
theorem Le.refl {n : Nat} (m : Mat) : Le n m m := fun _ _ _ _ => Int.le_refl _
theorem Le.trans {n : Nat} {a b c : Mat} (h : Le n a b) (g : Le n b c) : Le n a c := fun i j hi hj => Int.le_trans (h i j hi hj) (g i j hi hj)

theorem relax_le {n k i j : Nat} {m : Mat} (hm : Sq n m) (hi : i < n) (hj : j < n) : Le n (relaxW k i j m) m := by
  intro a b ha hb
  unfold relaxW
  split
  · exact Int.le_refl _
  · rw [at_setAt hm hi hj]
    split
    · rename_i e
      rw [e.1, e.2]
      split <;> omega
    · exact Int.le_refl _

theorem fold_le {n : Nat} (g : Mat → Nat → Mat) (h1 : ∀ m j, Sq n m → Sq n (g m j)) (h2 : ∀ m j, Sq n m → j < n → Le n (g m j) m) : ∀ (l : List Nat) (m : Mat), Sq n m → (∀ x ∈ l, x < n) → Le n (l.foldl g m) m
  | [], m, _, _ => Le.refl m
  | x :: l, m, hm, hl => (fold_le g h1 h2 l (g m x) (h1 m x hm) (fun y hy => hl y (List.mem_cons_of_mem _ hy))).trans (h2 m x hm (hl x (List.mem_cons_self ..)))

theorem row_le {n k i : Nat} {m : Mat} (hm : Sq n m) (hi : i < n) : Le n (rowW n k i m) m :=
  fold_le _ (fun m j h => h.relaxW k i j) (fun m j h hj => relax_le h hi hj) _ m hm (fun x hx => by simpa using hx)
theorem round_le {n k : Nat} {m : Mat} (hm : Sq n m) : Le n (roundW n k m) m :=
  fold_le _ (fun m j h => h.rowW k j) (fun m j h hj => row_le h hj) _ m hm (fun x hx => by simpa using hx)
theorem rounds_le {n : Nat} : ∀ (c k : Nat) (m m' : Mat), Sq n m → roundsW n c k m = some m' → Le n m' m
  | 0, k, m, m', h, e => by cases e; exact Le.refl m
  | c + 1, k, m, m', h, e => by
    unfold roundsW at e
    split at e
    · cases e
    · exact (rounds_le c (k + 1) _ m' (h.roundW k) e).trans (round_le h)
end
end Go.Lift

