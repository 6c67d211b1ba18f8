/- Part6: Fn0. -/
import Derived.Test.YthliedaegjdljaaProg
import Derived.Test.YthliedaegjdljaaPart5
set_option linter.unusedVariables false
set_option linter.unusedSimpArgs false
namespace Go.Lift
open Go.Proofs
noncomputable section
set_option maxRecDepth 100000
set_option linter.unusedVariables false
abbrev zq0 := (List UInt8 × (Int × (Int × Int)))
abbrev zq1 : Ty := (.prod .str (.prod (.int .i64) (.prod (.int .i64) (.int .i64))))
abbrev zq2 := (Int × (Int × (List UInt8 × List Int)))
abbrev zq3 : Ty := (.prod (.int .i64) (.prod (.int .i64) (.prod .str (.slice (.int .i64)))))
abbrev zq4 := (Int × (Int × (Int × (Int × (List UInt8 × ((Int × (Int × Int)) × (List Int × (List zq0 × (List zq2 × (List Int × (List (Int × (Int × Int)) × Int)))))))))))
abbrev zq5 : Ty := (.prod (.int .i64) (.prod (.int .i64) (.prod (.int .i64) (.prod (.int .i64) (.prod .str (.prod (.prod (.int .i64) (.prod (.int .i64) (.int .i64))) (.prod (.slice (.int .i64)) (.prod (.slice zq1) (.prod (.slice zq3) (.prod (.slice (.int .i64)) (.prod (.slice (.prod (.int .i64) (.prod (.int .i64) (.int .i64)))) (.int .i64))))))))))))
def tab : List  (Nat × TI) := [
  (3, ⟨false, 1, 8, [.int .i64 0], [], none, none, (some (.int .i64)), (some .i64), false, false, none, none⟩),
  (4, ⟨false, 1, 1, [.bool false], [], none, none, (some .bool), none, true, false, none, none⟩),
  (5, ⟨false, 1, 1, [.int .u8 0], [], none, none, (some (.int .u8)), (some .u8), false, false, none, none⟩),
  (9, ⟨false, 1, 16, [.str ([] : List UInt8)], [], none, none, (some .str), none, false, true, none, none⟩),
  (22, ⟨false, 1, 24, [.nils], [], (some 3), none, (some (.slice (.int .i64))), none, false, false, none, none⟩),
  (27, ⟨true, 3, 24, [.int .i64 0, .int .i64 0, .int .i64 0], [], (some 3), (some 3), (some (.prod (.int .i64) (.prod (.int .i64) (.int .i64)))), none, false, false, (some [.i, .i, .i]), none⟩),
  (28, ⟨false, 1, 24, [.nils], [], (some 63), none, (some (.slice zq1)), none, false, false, none, none⟩),
  (29, ⟨false, 1, 24, [.nils], [], (some 65), none, (some (.slice zq3)), none, false, false, none, none⟩),
  (30, ⟨false, 1, 24, [.nils], [], (some 67), none, (some (.slice (.prod (.int .i64) (.prod (.int .i64) (.int .i64))))), none, false, false, none, none⟩),
  (32, ⟨true, 14, 200, [.int .i64 0, .int .i64 0, .int .i64 0, .int .i64 0, .str ([] : List UInt8), .int .i64 0, .int .i64 0, .int .i64 0, .nils, .nils, .nils, .nils, .nils, .int .i64 0], [(0, 1, false), (1, 1, false), (2, 1, false), (3, 1, false), (4, 1, false), (5, 3, true), (8, 1, false), (9, 1, false), (10, 1, false), (11, 1, false), (12, 1, false), (13, 1, false)], none, none, (some zq5), none, false, false, none, none⟩),
  (35, ⟨true, 28, 400, [.int .i64 0, .int .i64 0, .int .i64 0, .int .i64 0, .str ([] : List UInt8), .int .i64 0, .int .i64 0, .int .i64 0, .nils, .nils, .nils, .nils, .nils, .int .i64 0, .int .i64 0, .int .i64 0, .int .i64 0, .int .i64 0, .str ([] : List UInt8), .int .i64 0, .int .i64 0, .int .i64 0, .nils, .nils, .nils, .nils, .nils, .int .i64 0], [], (some 32), (some 2), (some (.prod zq5 zq5)), none, false, false, none, none⟩),
  (37, ⟨false, 1, 24, [.nils], [], (some 35), none, (some (.slice (.prod zq5 zq5))), none, false, false, none, none⟩),
  (38, ⟨true, 2, 16, [.int .i64 0, .int .i64 0], [], (some 3), (some 2), (some (.prod (.int .i64) (.int .i64))), none, false, false, (some [.i, .i]), none⟩),
  (39, ⟨false, 1, 24, [.nils], [], (some 38), none, (some (.slice (.prod (.int .i64) (.int .i64)))), none, false, false, none, none⟩),
  (52, ⟨true, 2, 32, [.nils, .int .i64 0], [(0, 1, false), (1, 1, false)], none, none, (some (.prod (.slice (.int .i64)) (.int .i64))), none, false, false, none, none⟩),
  (63, ⟨true, 4, 40, [.str ([] : List UInt8), .int .i64 0, .int .i64 0, .int .i64 0], [(0, 1, false), (1, 1, false), (2, 1, false), (3, 1, false)], none, none, (some zq1), none, false, false, (some [.s, .i, .i, .i]), none⟩),
  (65, ⟨true, 4, 56, [.int .i64 0, .int .i64 0, .str ([] : List UInt8), .nils], [(0, 1, false), (1, 1, false), (2, 1, false), (3, 1, false)], none, none, (some zq3), none, false, false, none, none⟩),
  (67, ⟨true, 3, 24, [.int .i64 0, .int .i64 0, .int .i64 0], [(0, 1, false), (1, 1, false), (2, 1, false)], none, none, (some (.prod (.int .i64) (.prod (.int .i64) (.int .i64)))), none, false, false, (some [.i, .i, .i]), none⟩),
  (81, ⟨false, 1, 24, [.nils], [], (some 9), none, (some (.slice .str)), none, false, false, none, none⟩),
  (82, ⟨true, 5, 120, [.nils, .nils, .nils, .nils, .nils], [], (some 22), (some 5), (some (.prod (.slice (.int .i64)) (.prod (.slice (.int .i64)) (.prod (.slice (.int .i64)) (.prod (.slice (.int .i64)) (.slice (.int .i64))))))), none, false, false, none, none⟩)]
theorem tab_ok : TOk Try.prog (look tab) := TOk_of (by kernel_rfl)
theorem mixed : Try.prog.follows .mixedOrders = true := by kernel_rfl
abbrev zq6 := {β : Type} → (List Int) → (Bool → Option β) → Option β
def zq7 (c : zq6) : Spec :=
  ⟨[(false, [.data (.slice (.int .i64))])], [], [(false, [.data .bool])], [], fun x k => c x.1.1.1 (fun r0 => k (((r0, ()), ()), ()))⟩
section
@[reducible] def made_Light_X : Ctx := ⟨look tab, pick1 [], false, false, false, false⟩
def zq8 {β : Type} (l : List Int) (k : (Bool → Option β)) : Option β :=
  let t : Bool := (decide ((List.length l : Int) ≤ 500));
  k t
theorem zq9 (hΓ : ΓOk Try.prog made_Light_X.Γ) : SpecOk Try.prog 4 (zq7 (zq8)) :=
  spec_exec (X := made_Light_X) (Λ := pick1 []) (rs := [.tmp 2]) (c := bodyOf Try.f4) mixed tab_ok hΓ Try.func4 (by kernel_rfl) (by kernel_rfl) (by kernel_rfl) (by kernel_rfl) CutsOk_nil (fun x k r h => Eq.trans (b := (zq7 (zq8)).run x k) (by kernel_rfl) h)
end
theorem zqaΓ : ΓOk Try.prog (pick1 []) := ΓOk_nil
def zqb : zq6 := zq8
theorem zqc : SpecOk Try.prog 4 (zq7 zqb) := zq9 zqaΓ
abbrev zqd := {β : Type} → (List Int) → ((List Int × Int) → Option β) → Option β
def zqe (c : zqd) : Spec :=
  ⟨[(false, [.data (.slice (.int .i64))])], [], [(false, [.ptr 0 0])], [.cells 52 [.data (.prod (.slice (.int .i64)) (.int .i64))]], fun x k => c x.1.1.1 (fun r0 => k (((), ()), ((r0, ()), ())))⟩
section
@[reducible] def made_Roll_X : Ctx := ⟨look tab, pick1 [], false, false, false, false⟩
def zqf {β : Type} (l : List Int) (k : ((List Int × Int) → Option β)) : Option β :=
  k (l, 0)
theorem zqg (hΓ : ΓOk Try.prog made_Roll_X.Γ) : SpecOk Try.prog 6 (zqe (zqf)) :=
  spec_exec (X := made_Roll_X) (Λ := pick1 []) (rs := [.tmp 2]) (c := bodyOf Try.f6) mixed tab_ok hΓ Try.func6 (by kernel_rfl) (by kernel_rfl) (by kernel_rfl) (by kernel_rfl) CutsOk_nil (fun x k r h => Eq.trans (b := (zqe (zqf)).run x k) (by kernel_rfl) h)
end
theorem zqhΓ : ΓOk Try.prog (pick1 []) := ΓOk_nil
def zqi : zqd := zqf
theorem zqj : SpecOk Try.prog 6 (zqe zqi) := zqg zqhΓ
abbrev zqk := {β : Type} → Int → (List Int × Int) → (Int → (List Int × Int) → Option β) → Option β
def zql (c : zqk) : Spec :=
  ⟨[(false, [.ptr 0 0]), (false, [.data (.int .i64)])], [.cells 52 [.data (.prod (.slice (.int .i64)) (.int .i64))]], [(false, [.data (.int .i64)])], [.cells 52 [.data (.prod (.slice (.int .i64)) (.int .i64))]], fun x k => c x.1.2.1.1 x.2.1.1 (fun r0 r1 => k (((r0, ()), ()), ((r1, ()), ())))⟩
section
@[reducible] def made_Dice_Next_X : Ctx := ⟨look tab, pick1 [], false, false, false, false⟩
def zqm {β : Type} (n : Int) (d : (List Int × Int)) (k : (Int → (List Int × Int) → Option β)) : Option β :=
  cond (decide ((List.length d.1 : Int) ≤ d.2))
  (k 0 d)
  (cond (decide (n < 1))
  (k 0 d)
  (cond (decide (0 ≤ d.2) && decide (d.2 < (List.length d.1 : Int)))
  (let e : Int := List.getD d.1 (Int.toNat d.2) 0;
  cond (!decide (n = 0))
  (cond (decide ((Int.tmod e n) < 0))
  (let x : Int := (IntKind.i64.wrap ((Int.tmod e n) + n));
  k x (d.1, (IntKind.i64.wrap (d.2 + 1))))
  (k (Int.tmod e n) (d.1, (IntKind.i64.wrap (d.2 + 1)))))
  none)
  none))
theorem zqn (hΓ : ΓOk Try.prog made_Dice_Next_X.Γ) : SpecOk Try.prog 8 (zql (zqm)) :=
  spec_exec (X := made_Dice_Next_X) (Λ := pick1 []) (rs := [.tmp 4]) (c := bodyOf Try.f8) mixed tab_ok hΓ Try.func8 (by kernel_rfl) (by kernel_rfl) (by kernel_rfl) (by kernel_rfl) CutsOk_nil (fun x k r h => Eq.trans (b := (zql (zqm)).run x k) (by kernel_rfl) h)
end
theorem zqoΓ : ΓOk Try.prog (pick1 []) := ΓOk_nil
def zqp : zqk := zqm
theorem zqq : SpecOk Try.prog 8 (zql zqp) := zqn zqoΓ
abbrev zqr := {β : Type} → (List Int) → Int → (Bool → Option β) → Option β
def zqs (c : zqr) : Spec :=
  ⟨[(false, [.data (.slice (.int .i64))]), (false, [.data (.int .i64)])], [], [(false, [.data .bool])], [], fun x k => c x.1.1.1 x.1.2.1.1 (fun r0 => k (((r0, ()), ()), ()))⟩
noncomputable def ref25_Has_p1_code : Code := codeAt 26 (bodyOf Try.f13)
abbrev zqt (β : Type) := Bool → Option β
abbrev zqu (β : Type) := Unit → Option β
abbrev zqv := {β : Type} → zqt β → zqu β → (List Int) → Int → Int → Option β
def zqw : View := ⟨0, [0, 1, 5], [(false, [.data  (.slice (.int .i64))]), (false, [.data (.int .i64)]), (false, [.data (.int .i64)])], []⟩
def zqx : List  (AExit × View) := [(.ret, ⟨0, [4], [(false, [.data .bool])], []⟩), (.exit 0, ⟨0, [], [], []⟩)]
@[reducible] def ref25_Has_p1_G (p : zqv) {β : Type} (d : zqw.den) (ks : Outs.K β zqx) : Option β :=
  p (fun a0 => ks.1 (((a0, ()), ()), ())) (fun _ => ks.2.1 ((), ())) d.1.1.1 d.1.2.1.1 d.1.2.2.1.1
section
@[reducible] def ref25_Has_X : Ctx := ⟨look tab, pick1 [], false, false, false, false⟩
def zqy {β : Type} (rec : (List Int) → Int → Int → Option β) (k1 : zqt β) (k2 : zqu β) (l : List Int) (x i_ : Int) : Option β :=
  cond (decide (i_ < (List.length l : Int)))
  (cond (decide (0 ≤ i_) && decide (i_ < (List.length l : Int)))
  (let e : Int := List.getD l (Int.toNat i_) 0;
  cond (decide (e = x))
  (k1 true)
  (let i_2 : Int := (IntKind.i64.wrap (i_ + 1));
  rec l x i_2))
  none)
  (k2 ())
def zqz {β : Type} : Nat → zqt β → zqu β →  (List Int) → Int → Int → Option β
  | 0 => fun _ _ _ _ _ => none
  | i + 1 => fun k1 k2 l x i_ => zqy (zqz i k1 k2) k1 k2 l x i_
theorem zq10 (hΓ : ΓOk Try.prog ref25_Has_X.Γ) (i : Nat) : PieceOk Try.prog 18 0 ref25_Has_p1_code zqw zqx (ref25_Has_p1_G (zqz i)) := by
  rw [show ref25_Has_p1_code = .loop (loopBody ref25_Has_p1_code) by kernel_rfl]
  exact piece_loop (X := ref25_Has_X) (p := 1) (Λ := pick1 []) (G := fun i => @fun β d ks => ref25_Has_p1_G (zqz i) d ks) mixed tab_ok hΓ rfl (by kernel_rfl) CutsOk_nil (fun _ _ => rfl) (fun i => @fun β d ks r h => Eq.trans (b := ref25_Has_p1_G (zqz (i + 1)) d ks) (by kernel_rfl) h) i
def zq11 (p1 : zqv) {β : Type} (l : List Int) (x : Int) (k : (Bool → Option β)) : Option β :=
  p1 (fun t4 =>
  k t4) (fun _ =>
  k false) l x 0
theorem zq12 (hΓ : ΓOk Try.prog ref25_Has_X.Γ) (p1 : zqv) (hp1 : PieceOk Try.prog 18 0 ref25_Has_p1_code zqw zqx (ref25_Has_p1_G p1)) : SpecOk Try.prog 13 (zqs (zq11 p1)) :=
  spec_exec (X := ref25_Has_X) (Λ := pick1 [(26, pieceCut zqw zqx (ref25_Has_p1_G p1))]) (rs := [.tmp 4]) (c := bodyOf Try.f13) mixed tab_ok hΓ Try.func13 (by kernel_rfl) (by kernel_rfl) (by kernel_rfl) (by kernel_rfl) (CutsOk_cons (q := 26) (c' := ref25_Has_p1_code) (by kernel_rfl) rfl hp1 CutsOk_nil) (fun x k r h => Eq.trans (b := (zqs (zq11 p1)).run x k) (by kernel_rfl) h)
end
theorem zq13Γ : ΓOk Try.prog (pick1 []) := ΓOk_nil
def zq14 (m : Nat) : zqv := zqz m
theorem zq15 {β : Type} (i : Nat) (k1 k2 l x i_) : (zq14 (i + 1) k1 k2 l x i_ : Option β) = zqy (zq14 i k1 k2) k1 k2 l x i_ := rfl
def zq16 : zqv := zq14 fuel
theorem zq17 : PieceOk Try.prog 18 0 ref25_Has_p1_code zqw zqx (ref25_Has_p1_G zq16) := zq10 zq13Γ fuel
def zq18 : zqr := zq11 zq16
theorem zq19 : SpecOk Try.prog 13 (zqs zq18) := zq12 zq13Γ zq16 zq17
abbrev zq1a := {β : Type} → (List Int) → (List Int × Int) → (Int → (List Int × Int) → Option β) → Option β
def zq1b (c : zq1a) : Spec :=
  ⟨[(false, [.ptr 0 0]), (false, [.data (.slice (.int .i64))])], [.cells 52 [.data (.prod (.slice (.int .i64)) (.int .i64))]], [(false, [.data (.int .i64)])], [.cells 52 [.data (.prod (.slice (.int .i64)) (.int .i64))]], fun x k => c x.1.2.1.1 x.2.1.1 (fun r0 r1 => k (((r0, ()), ()), ((r1, ()), ())))⟩
section
variable (c_made_Dice_Next : zqk)
@[reducible] def made_Dice_One_X : Ctx := ⟨look tab, pick1 [(8, .spec (zql c_made_Dice_Next))], false, false, false, false⟩
def zq1c {β : Type} (l : List Int) (d : (List Int × Int)) (k : (Int → (List Int × Int) → Option β)) : Option β :=
  c_made_Dice_Next (List.length l : Int) d (fun rNext mrNext =>
  cond (decide (0 ≤ rNext) && decide (rNext < (List.length l : Int)))
  (let e : Int := List.getD l (Int.toNat rNext) 0;
  k e mrNext)
  none)
theorem zq1d (hΓ : ΓOk Try.prog (made_Dice_One_X c_made_Dice_Next).Γ) : SpecOk Try.prog 19 (zq1b (zq1c c_made_Dice_Next)) :=
  spec_exec (X := (made_Dice_One_X c_made_Dice_Next)) (Λ := pick1 []) (rs := [.tmp 4]) (c := bodyOf Try.f19) mixed tab_ok hΓ Try.func19 (by kernel_rfl) (by kernel_rfl) (by kernel_rfl) (by kernel_rfl) CutsOk_nil (fun x k r h => Eq.trans (b := (zq1b (zq1c c_made_Dice_Next)).run x k) (by kernel_rfl) h)
end
theorem zq1eΓ : ΓOk Try.prog (pick1 [(8, .spec (zql zqp))]) := (ΓOk_cons zqq ΓOk_nil)
def zq1f : zq1a := zq1c zqp
theorem zq1g : SpecOk Try.prog 19 (zq1b zq1f) := zq1d zqp zq1eΓ
abbrev zq1h := {β : Type} → zq4 → (Int → Int → Int → Int → (List UInt8) → Int → Int → Int → Int → (List Int) → (List zq0) → (List zq2) → (List Int) → (List (Int × (Int × Int))) → Option β) → Option β
def zq1i (c : zq1h) : Spec :=
  ⟨[(true, [.data zq5])], [], [(true, [.data (.int .i64), .data (.int .i64), .data (.int .i64), .data (.int .i64), .data .str, .data (.int .i64), .data (.int .i64), .data (.int .i64), .rowh 0, .rowh 1, .rowh 2, .rowh 3, .rowh 4, .data (.int .i64)])], [.row 3 (.int .i64), .row 63 zq1, .row 65 zq3, .row 3 (.int .i64), .row 67 (.prod (.int .i64) (.prod (.int .i64) (.int .i64)))], fun x k => c x.1.1.1 (fun r0 r1 r2 r3 r4 r5 r6 r7 r8 r9 r10 r11 r12 r13 => k (((r0, r1, r2, r3, r4, r5, r6, r7, r8, ()), ()), (r9, r10, r11, r12, r13, ())))⟩
noncomputable def ref37_Copy_p1_code : Code := codeAt 250 (bodyOf Try.f27)
abbrev zq1j (β : Type) := Int → Int → Int → Int → (List UInt8) → Int → Int → Int → (List zq2) → Int → Int → Int → Int → Int → (List UInt8) → Int → Int → Int → Int → (List zq2) → (List Int) → (List zq0) → (List Int) → (List (Int × (Int × Int))) → (List Int) → (List zq0) → (List zq2) → (List Int) → (List (Int × (Int × Int))) → Option β
abbrev zq1k := {β : Type} → zq1j β → Int → Int → Int → Int → Int → (List UInt8) → Int → Int → Int → (List zq2) → Int → Int → Int → Int → Int → (List UInt8) → Int → Int → Int → Int → (List zq2) → (List Int) → (List zq0) → (List Int) → (List (Int × (Int × Int))) → (List Int) → (List zq0) → (List zq2) → (List Int) → (List (Int × (Int × Int))) → Option β
def zq1l : View := ⟨0, [1, 2, 3, 4], [(false, [.ptr 0 0]),  (false, [.ptr 1 0]), (false, [.rowh 2]), (false, [.data (.int .i64)])], [.cells 32 [.data (.int .i64), .data (.int .i64), .data (.int .i64), .data (.int .i64), .data .str, .data (.int .i64), .data (.int .i64), .data (.int .i64), .rowh 3, .rowh 4, .data (.slice zq3), .rowh 5, .rowh 6, .data (.int .i64)], .cells 32 [.data (.int .i64), .data (.int .i64), .data (.int .i64), .data (.int .i64), .data .str, .data (.int .i64), .data (.int .i64), .data (.int .i64), .rowh 7, .rowh 8, .rowh 9, .rowh 10, .rowh 11, .data (.int .i64)], .row 65 zq3, .row 3 (.int .i64), .row 63 zq1, .row 3 (.int .i64), .row 67 (.prod (.int .i64) (.prod (.int .i64) (.int .i64))), .row 3 (.int .i64), .row 63 zq1, .row 65 zq3, .row 3 (.int .i64), .row 67 (.prod (.int .i64) (.prod (.int .i64) (.int .i64)))]⟩
def zq1m : List  (AExit × View) := [(.exit 0, ⟨0, [1, 2, 3], [(false, [.ptr 0 0]), (false, [.ptr 1 0]), (false, [.rowh 2])], [.cells 32 [.data (.int .i64), .data (.int .i64), .data (.int .i64), .data (.int .i64), .data .str, .data (.int .i64), .data (.int .i64), .data (.int .i64), .rowh 3, .rowh 4, .data (.slice zq3), .rowh 5, .rowh 6, .data (.int .i64)], .cells 32 [.data (.int .i64), .data (.int .i64), .data (.int .i64), .data (.int .i64), .data .str, .data (.int .i64), .data (.int .i64), .data (.int .i64), .rowh 7, .rowh 8, .rowh 9, .rowh 10, .rowh 11, .data (.int .i64)], .row 65 zq3, .row 3 (.int .i64), .row 63 zq1, .row 3 (.int .i64), .row 67 (.prod (.int .i64) (.prod (.int .i64) (.int .i64))), .row 3 (.int .i64), .row 63 zq1, .row 65 zq3, .row 3 (.int .i64), .row 67 (.prod (.int .i64) (.prod (.int .i64) (.int .i64)))]⟩)]
@[reducible] def ref37_Copy_p1_G (p : zq1k) {β : Type} (d : zq1l.den) (ks : Outs.K β zq1m) : Option β :=
  p (fun a0 a1 a2 a3 a4 a5 a6 a7 a8 a9 a10 a11 a12 a13 a14 a15 a16 a17 a18 a19 a20 a21 a22 a23 a24 a25 a26 a27 a28 => ks.1 (((), (), (), ()), ((a0, a1, a2, a3, a4, a5, a6, a7, a8, a9, ()), (a10, a11, a12, a13, a14, a15, a16, a17, a18, ()), a19, a20, a21, a22, a23, a24, a25, a26, a27, a28, ()))) d.1.2.2.2.1.1 d.2.1.1 d.2.1.2.1 d.2.1.2.2.1 d.2.1.2.2.2.1 d.2.1.2.2.2.2.1 d.2.1.2.2.2.2.2.1 d.2.1.2.2.2.2.2.2.1 d.2.1.2.2.2.2.2.2.2.1 d.2.1.2.2.2.2.2.2.2.2.1 d.2.1.2.2.2.2.2.2.2.2.2.1 d.2.2.1.1 d.2.2.1.2.1 d.2.2.1.2.2.1 d.2.2.1.2.2.2.1 d.2.2.1.2.2.2.2.1 d.2.2.1.2.2.2.2.2.1 d.2.2.1.2.2.2.2.2.2.1 d.2.2.1.2.2.2.2.2.2.2.1 d.2.2.1.2.2.2.2.2.2.2.2.1 d.2.2.2.1 d.2.2.2.2.1 d.2.2.2.2.2.1 d.2.2.2.2.2.2.1 d.2.2.2.2.2.2.2.1 d.2.2.2.2.2.2.2.2.1 d.2.2.2.2.2.2.2.2.2.1 d.2.2.2.2.2.2.2.2.2.2.1 d.2.2.2.2.2.2.2.2.2.2.2.1 d.2.2.2.2.2.2.2.2.2.2.2.2.1
section
@[reducible] def ref37_Copy_X : Ctx := ⟨look tab, pick1 [], false, false, false, false⟩
def zq1n {β : Type} (rec : Int → Int → Int → Int → Int → (List UInt8) → Int → Int → Int → (List zq2) → Int → Int → Int → Int → Int → (List UInt8) → Int → Int → Int → Int → (List zq2) → (List Int) → (List zq0) → (List Int) → (List (Int × (Int × Int))) → (List Int) → (List zq0) → (List zq2) → (List Int) → (List (Int × (Int × Int))) → Option β) (k1 : zq1j β) (i_ x x2 x3 x4 : Int) (x5 : List UInt8) (x6 x7 x8 : Int) (x9 : List zq2) (x10 t2 t22 t23 t24 : Int) (t25 : List UInt8) (t26 t27 t28 t29 : Int) (l : List zq2) (b3_ : List Int) (b4_ : List zq0) (b5_ : List Int) (b6_ : List (Int × (Int × Int))) (b7_ : List Int) (b8_ : List zq0) (b9_ : List zq2) (b10_ : List Int) (b11_ : List (Int × (Int × Int))) : Option β :=
  cond (decide (i_ < (List.length x9 : Int)))
  (cond (decide (0 ≤ i_) && decide (i_ < (List.length x9 : Int)))
  (let e : zq2 := List.getD x9 (Int.toNat i_) (0, (0, (([] : List UInt8), ([] : List Int))));
  cond (decide (List.length e.2.2.2 * 8 ≤ roomMax))
  (let l2 : List zq2 := ([e] : List zq2);
  cond (decide ((List.length l + List.length l2) * 56 ≤ roomMax))
  (let l3 : List zq2 := (l ++ l2);
  let i_2 : Int := (IntKind.i64.wrap (i_ + 1));
  rec i_2 x x2 x3 x4 x5 x6 x7 x8 x9 x10 t2 t22 t23 t24 t25 t26 t27 t28 t29 l3 b3_ b4_ b5_ b6_ b7_ b8_ b9_ b10_ b11_)
  none)
  none)
  none)
  (k1 x x2 x3 x4 x5 x6 x7 x8 x9 x10 t2 t22 t23 t24 t25 t26 t27 t28 t29 l b3_ b4_ b5_ b6_ b7_ b8_ b9_ b10_ b11_)
def zq1o {β : Type} : Nat → zq1j β → Int → Int → Int → Int → Int →  (List UInt8) → Int → Int → Int → (List zq2) → Int → Int → Int → Int → Int → (List UInt8) → Int → Int → Int → Int → (List zq2) → (List Int) → (List zq0) → (List Int) → (List (Int × (Int × Int))) → (List Int) → (List zq0) → (List zq2) → (List Int) → (List (Int × (Int × Int))) → Option β
  | 0 => fun _ _ _ _ _ _ _ _ _ _ _ _ _ _ _ _ _ _ _ _ _ _ _ _ _ _ _ _ _ _ _ => none
  | i + 1 => fun k1 i_ x x2 x3 x4 x5 x6 x7 x8 x9 x10 t2 t22 t23 t24 t25 t26 t27 t28 t29 l b3_ b4_ b5_ b6_ b7_ b8_ b9_ b10_ b11_ => zq1n (zq1o i k1) k1 i_ x x2 x3 x4 x5 x6 x7 x8 x9 x10 t2 t22 t23 t24 t25 t26 t27 t28 t29 l b3_ b4_ b5_ b6_ b7_ b8_ b9_ b10_ b11_
theorem zq1p (hΓ : ΓOk Try.prog ref37_Copy_X.Γ) (i : Nat) : PieceOk Try.prog 45 0 ref37_Copy_p1_code zq1l zq1m (ref37_Copy_p1_G (zq1o i)) := by
  rw [show ref37_Copy_p1_code = .loop (loopBody ref37_Copy_p1_code) by kernel_rfl]
  exact piece_loop (X := ref37_Copy_X) (p := 1) (Λ := pick1 []) (G := fun i => @fun β d ks => ref37_Copy_p1_G (zq1o i) d ks) mixed tab_ok hΓ rfl (by kernel_rfl) CutsOk_nil (fun _ _ => rfl) (fun i => @fun β d ks r h => Eq.trans (b := ref37_Copy_p1_G (zq1o (i + 1)) d ks) (by kernel_rfl) h) i
def zq1q (p1 : zq1k) {β : Type} (x : zq4) (k : (Int → Int → Int → Int → (List UInt8) → Int → Int → Int → Int → (List Int) → (List zq0) → (List zq2) → (List Int) → (List (Int × (Int × Int))) → Option β)) : Option β :=
  cond (decide (List.length x.2.2.2.2.2.2.1 * 8 ≤ roomMax))
  (cond (decide (List.length x.2.2.2.2.2.2.2.1 * 40 ≤ roomMax))
  (cond (decide (List.length x.2.2.2.2.2.2.2.2.2.1 * 8 ≤ roomMax))
  (cond (decide (List.length x.2.2.2.2.2.2.2.2.2.2.1 * 24 ≤ roomMax))
  (p1 (fun x2 x3 x4 x5 x6 x7 x8 x9 x10 x11 t2 t22 t23 t24 t25 t26 t27 t28 t29 l b3_ b4_ b5_ b6_ b7_ b8_ b9_ b10_ b11_ =>
  k x2 x3 x4 x5 x6 x7 x8 x9 x11 b3_ b4_ l b5_ b6_) 0 x.1 x.2.1 x.2.2.1 x.2.2.2.1 x.2.2.2.2.1 x.2.2.2.2.2.1.1 x.2.2.2.2.2.1.2.1 x.2.2.2.2.2.1.2.2 x.2.2.2.2.2.2.2.2.1 x.2.2.2.2.2.2.2.2.2.2.2 0 0 0 0 ([] : List UInt8) 0 0 0 0 ([] : List zq2) x.2.2.2.2.2.2.1 x.2.2.2.2.2.2.2.1 x.2.2.2.2.2.2.2.2.2.1 x.2.2.2.2.2.2.2.2.2.2.1 ([] : List Int) ([] : List zq0) ([] : List zq2) ([] : List Int) ([] : List (Int × (Int × Int))))
  none)
  none)
  none)
  none
theorem zq1r (hΓ : ΓOk Try.prog ref37_Copy_X.Γ) (p1 : zq1k) (hp1 : PieceOk Try.prog 45 0 ref37_Copy_p1_code zq1l zq1m (ref37_Copy_p1_G p1)) : SpecOk Try.prog 27 (zq1i (zq1q p1)) :=
  spec_exec (X := ref37_Copy_X) (Λ := pick1 [(250, pieceCut zq1l zq1m (ref37_Copy_p1_G p1))]) (rs := [.cell 2 32]) (c := bodyOf Try.f27) mixed tab_ok hΓ Try.func27 (by kernel_rfl) (by kernel_rfl) (by kernel_rfl) (by kernel_rfl) (CutsOk_cons (q := 250) (c' := ref37_Copy_p1_code) (by kernel_rfl) rfl hp1 CutsOk_nil) (fun x k r h => Eq.trans (b := (zq1i (zq1q p1)).run x k) (by kernel_rfl) h)
end
theorem zq1sΓ : ΓOk Try.prog (pick1 []) := ΓOk_nil
def zq1t (m : Nat) : zq1k := zq1o m
theorem zq1u {β : Type} (i : Nat) (k1 i_ x x2 x3 x4 x5 x6 x7 x8 x9 x10 t2 t22 t23 t24 t25 t26 t27 t28 t29 l b3_ b4_ b5_ b6_ b7_ b8_ b9_ b10_ b11_) : (zq1t (i + 1) k1 i_ x x2 x3 x4 x5 x6 x7 x8 x9 x10 t2 t22 t23 t24 t25 t26 t27 t28 t29 l b3_ b4_ b5_ b6_ b7_ b8_ b9_ b10_ b11_ : Option β) = zq1n (zq1t i k1) k1 i_ x x2 x3 x4 x5 x6 x7 x8 x9 x10 t2 t22 t23 t24 t25 t26 t27 t28 t29 l b3_ b4_ b5_ b6_ b7_ b8_ b9_ b10_ b11_ := rfl
def zq1v : zq1k := zq1t fuel
theorem zq1w : PieceOk Try.prog 45 0 ref37_Copy_p1_code zq1l zq1m (ref37_Copy_p1_G zq1v) := zq1p zq1sΓ fuel
def zq1x : zq1h := zq1q zq1v
theorem zq1y : SpecOk Try.prog 27 (zq1i zq1x) := zq1r zq1sΓ zq1v zq1w
abbrev zq1z := {β : Type} → (List Int × Int) → ((List UInt8) → (List Int × Int) → Option β) → Option β
def zq20 (c : zq1z) : Spec :=
  ⟨[(false, [.ptr 0 0])], [.cells 52 [.data (.prod (.slice (.int .i64)) (.int .i64))]], [(false, [.data .str])], [.cells 52 [.data (.prod (.slice (.int .i64)) (.int .i64))]], fun x k => c x.2.1.1 (fun r0 r1 => k (((r0, ()), ()), ((r1, ()), ())))⟩
section
variable (c_made_Dice_Next : zqk) (c_made_Dice_One : zq1a)
@[reducible] def made_Dice_Line_X : Ctx := ⟨look tab, pick1 [(8, .spec (zql c_made_Dice_Next)), (19, .spec (zq1b c_made_Dice_One))], false, false, false, false⟩
def zq21 {β : Type} (d : (List Int × Int)) (k : ((List UInt8) → (List Int × Int) → Option β)) : Option β :=
  let l : List (List UInt8) := ([([100, 105, 115, 107, 32, 102, 117, 108, 108] : List UInt8), ([119, 101, 98] : List UInt8), ([120] : List UInt8), ([] : List UInt8), ([97, 10, 98] : List UInt8), ([126, 111, 107, 126] : List UInt8), ([195, 169] : List UInt8)] : List (List UInt8));
  c_made_Dice_Next 7 d (fun rNext mrNext =>
  let l2 : List Int := ([0, 1, 2, 0, 1, 5, rNext] : List Int);
  c_made_Dice_One l2 mrNext (fun rOne mrOne =>
  cond (decide (0 ≤ rOne) && decide (rOne < (List.length l : Int)))
  (let t : List UInt8 := (List.getD l (Int.toNat rOne) ([] : List UInt8));
  k t mrOne)
  none))
theorem zq22 (hΓ : ΓOk Try.prog (made_Dice_Line_X c_made_Dice_Next c_made_Dice_One).Γ) : SpecOk Try.prog 28 (zq20 (zq21 c_made_Dice_Next c_made_Dice_One)) :=
  spec_exec (X := (made_Dice_Line_X c_made_Dice_Next c_made_Dice_One)) (Λ := pick1 []) (rs := [.tmp 2]) (c := bodyOf Try.f28) mixed tab_ok hΓ Try.func28 (by kernel_rfl) (by kernel_rfl) (by kernel_rfl) (by kernel_rfl) CutsOk_nil (fun x k r h => Eq.trans (b := (zq20 (zq21 c_made_Dice_Next c_made_Dice_One)).run x k) (by kernel_rfl) h)
end
theorem zq23Γ : ΓOk Try.prog (pick1 [(8, .spec (zql zqp)), (19, .spec (zq1b zq1f))]) := (ΓOk_cons zqq (ΓOk_cons zq1g ΓOk_nil))
def zq24 : zq1z := zq21 zqp zq1f
theorem zq25 : SpecOk Try.prog 28 (zq20 zq24) := zq22 zqp zq1f zq23Γ
abbrev zq26 := {β : Type} → (List Int × Int) → ((List Int × Int) → (List Int) → Option β) → Option β
def zq27 (c : zq26) : Spec :=
  ⟨[(false, [.ptr 0 0])], [.cells 52 [.data (.prod (.slice (.int .i64)) (.int .i64))]], [(false, [.rowh 1])], [.cells 52 [.data (.prod (.slice (.int .i64)) (.int .i64))], .row 3 (.int .i64)], fun x k => c x.2.1.1 (fun r0 r1 => k (((), ()), ((r0, ()), r1, ())))⟩
noncomputable def made_Dice_Some_p1_code : Code := codeAt 58 (bodyOf Try.f29)
abbrev zq28 (β : Type) := (List Int) → Int → (List Int) → Option β
abbrev zq29 := {β : Type} → zq28 β → Int → (List Int) → Int → (List Int) → Option β
def zq2a : View := ⟨1, [0, 3, 4], [(false, [.ptr 0 0]),  (false, [.rowh 1]), (false, [.data (.int .i64)])], [.cells 52 [.data (.slice (.int .i64)), .data (.int .i64)], .row 3 (.int .i64)]⟩
def zq2b : List  (AExit × View) := [(.exit 0, ⟨1, [3], [(false, [.rowh 1])], [.cells 52 [.data (.slice (.int .i64)), .data (.int .i64)], .row 3 (.int .i64)]⟩)]
@[reducible] def made_Dice_Some_p1_G (p : zq29) {β : Type} (d : zq2a.den) (ks : Outs.K β zq2b) : Option β :=
  p (fun a0 a1 a2 => ks.1 (((), ()), ((a0, a1, ()), a2, ()))) d.1.2.2.1.1 d.2.1.1 d.2.1.2.1 d.2.2.1
section
variable (c_made_Dice_Next : zqk)
@[reducible] def made_Dice_Some_X : Ctx := ⟨look tab, pick1 [(8, .spec (zql c_made_Dice_Next))], false, false, false, false⟩
def zq2c {β : Type} (rec : Int → (List Int) → Int → (List Int) → Option β) (k1 : zq28 β) (i_ : Int) (d : List Int) (d2 : Int) (out : List Int) : Option β :=
  cond (decide (0 < i_))
  (c_made_Dice_Next 9 (d, d2) (fun rNext mrNext =>
  let l : List Int := ([(IntKind.i64.wrap (rNext - 2))] : List Int);
  cond (decide ((List.length out + List.length l) * 8 ≤ roomMax))
  (let l2 : List Int := (out ++ l);
  let i_2 : Int := (IntKind.i64.wrap (i_ - 1));
  rec i_2 mrNext.1 mrNext.2 l2)
  none))
  (k1 d d2 out)
def zq2d {β : Type} : Nat → zq28 β → Int →  (List Int) → Int → (List Int) → Option β
  | 0 => fun _ _ _ _ _ => none
  | i + 1 => fun k1 i_ d d2 out => zq2c c_made_Dice_Next (zq2d i k1) k1 i_ d d2 out
theorem zq2e (hΓ : ΓOk Try.prog (made_Dice_Some_X c_made_Dice_Next).Γ) (i : Nat) : PieceOk Try.prog 18 1 made_Dice_Some_p1_code zq2a zq2b (made_Dice_Some_p1_G (zq2d c_made_Dice_Next i)) := by
  rw [show made_Dice_Some_p1_code = .loop (loopBody made_Dice_Some_p1_code) by kernel_rfl]
  exact piece_loop (X := (made_Dice_Some_X c_made_Dice_Next)) (p := 1) (Λ := pick1 []) (G := fun i => @fun β d ks => made_Dice_Some_p1_G (zq2d c_made_Dice_Next i) d ks) mixed tab_ok hΓ rfl (by kernel_rfl) CutsOk_nil (fun _ _ => rfl) (fun i => @fun β d ks r h => Eq.trans (b := made_Dice_Some_p1_G (zq2d c_made_Dice_Next (i + 1)) d ks) (by kernel_rfl) h) i
def zq2f (p1 : zq29) {β : Type} (d : (List Int × Int)) (k : ((List Int × Int) → (List Int) → Option β)) : Option β :=
  c_made_Dice_Next 5 d (fun rNext mrNext =>
  p1 (fun b0_ b0_2 out =>
  k (b0_, b0_2) out) rNext mrNext.1 mrNext.2 ([] : List Int))
theorem zq2g (hΓ : ΓOk Try.prog (made_Dice_Some_X c_made_Dice_Next).Γ) (p1 : zq29) (hp1 : PieceOk Try.prog 18 1 made_Dice_Some_p1_code zq2a zq2b (made_Dice_Some_p1_G p1)) : SpecOk Try.prog 29 (zq27 (zq2f c_made_Dice_Next p1)) :=
  spec_exec (X := (made_Dice_Some_X c_made_Dice_Next)) (Λ := pick1 [(58, pieceCut zq2a zq2b (made_Dice_Some_p1_G p1))]) (rs := [.tmp 2]) (c := bodyOf Try.f29) mixed tab_ok hΓ Try.func29 (by kernel_rfl) (by kernel_rfl) (by kernel_rfl) (by kernel_rfl) (CutsOk_cons (q := 58) (c' := made_Dice_Some_p1_code) (by kernel_rfl) rfl hp1 CutsOk_nil) (fun x k r h => Eq.trans (b := (zq27 (zq2f c_made_Dice_Next p1)).run x k) (by kernel_rfl) h)
end
theorem zq2hΓ : ΓOk Try.prog (pick1 [(8, .spec (zql zqp))]) := (ΓOk_cons zqq ΓOk_nil)
def zq2i (m : Nat) : zq29 := zq2d zqp m
theorem zq2j {β : Type} (i : Nat) (k1 i_ d d2 out) : (zq2i (i + 1) k1 i_ d d2 out : Option β) = zq2c zqp (zq2i i k1) k1 i_ d d2 out := rfl
def zq2k : zq29 := zq2i fuel
theorem zq2l : PieceOk Try.prog 18 1 made_Dice_Some_p1_code zq2a zq2b (made_Dice_Some_p1_G zq2k) := zq2e zqp zq2hΓ fuel
def zq2m : zq26 := zq2f zqp zq2k
theorem zq2n : SpecOk Try.prog 29 (zq27 zq2m) := zq2g zqp zq2hΓ zq2k zq2l
abbrev zq2o := {β : Type} → Int → Int → Int → (Bool → Option β) → Option β
def zq2p (c : zq2o) : Spec :=
  ⟨[(false, [.data (.int .i64)]), (false, [.data (.int .i64)]), (false, [.data (.int .i64)])], [], [(false, [.data .bool])], [], fun x k => c x.1.1.1 x.1.2.1.1 x.1.2.2.1.1 (fun r0 => k (((r0, ()), ()), ()))⟩
section
@[reducible] def incident_in_X : Ctx := ⟨look tab, pick1 [], false, false, false, false⟩
def zq2q {β : Type} (n low high : Int) (k : (Bool → Option β)) : Option β :=
  cond (decide (low ≤ n))
  (k (decide (n ≤ high)))
  (k false)
theorem zq2r (hΓ : ΓOk Try.prog incident_in_X.Γ) : SpecOk Try.prog 33 (zq2p (zq2q)) :=
  spec_exec (X := incident_in_X) (Λ := pick1 []) (rs := [.tmp 6]) (c := bodyOf Try.f33) mixed tab_ok hΓ Try.func33 (by kernel_rfl) (by kernel_rfl) (by kernel_rfl) (by kernel_rfl) CutsOk_nil (fun x k r h => Eq.trans (b := (zq2p (zq2q)).run x k) (by kernel_rfl) h)
end
theorem zq2sΓ : ΓOk Try.prog (pick1 []) := ΓOk_nil
def zq2t : zq2o := zq2q
theorem zq2u : SpecOk Try.prog 33 (zq2p zq2t) := zq2r zq2sΓ
abbrev zq2v := {β : Type} → zq4 → (Int → Option β) → Option β
def zq2w (c : zq2v) : Spec :=
  ⟨[(true, [.data zq5])], [], [(false, [.data (.int .i64)])], [], fun x k => c x.1.1.1 (fun r0 => k (((r0, ()), ()), ()))⟩
noncomputable def incident_latest_p1_code : Code := codeAt 58 (bodyOf Try.f34)
noncomputable def incident_latest_p2_code : Code := codeAt 122 (bodyOf Try.f34)
abbrev zq2x (β : Type) := Int → Int → Int → Int → Int → (List UInt8) → Int → Int → Int → (List Int) → (List zq0) → (List zq2) → (List Int) → (List (Int × (Int × Int))) → Int → Option β
abbrev zq2y := {β : Type} → zq2x β → Int → (List zq2) → Int → Int → Int → Int → Int → Int → (List UInt8) → Int → Int → Int → (List Int) → (List zq0) → (List zq2) → (List Int) → (List (Int × (Int × Int))) → Int → Option β
def zq2z : View := ⟨0, [1, 3, 11, 12, 13], [(false, [.ptr 0 0]),  (false, [.data (.int .i64)]), (false, [.data (.slice zq3)]), (false, [.data (.int .i64)]), (false, [.data (.int .i64)])], [.cells 32 [.data (.int .i64), .data (.int .i64), .data (.int .i64), .data (.int .i64), .data .str, .data (.int .i64), .data (.int .i64), .data (.int .i64), .data (.slice (.int .i64)), .data (.slice zq1), .data (.slice zq3), .data (.slice (.int .i64)), .data (.slice (.prod (.int .i64) (.prod (.int .i64) (.int .i64)))), .data (.int .i64)]]⟩
def zq30 : List  (AExit × View) := [(.exit 0, ⟨0, [1, 3], [(false, [.ptr 0 0]), (false, [.data (.int .i64)])], [.cells 32 [.data (.int .i64), .data (.int .i64), .data (.int .i64), .data (.int .i64), .data .str, .data (.int .i64), .data (.int .i64), .data (.int .i64), .data (.slice (.int .i64)), .data (.slice zq1), .data (.slice zq3), .data (.slice (.int .i64)), .data (.slice (.prod (.int .i64) (.prod (.int .i64) (.int .i64)))), .data (.int .i64)]]⟩)]
@[reducible] def incident_latest_p1_G (p : zq2y) {β : Type} (d : zq2z.den) (ks : Outs.K β zq30) : Option β :=
  p (fun a0 a1 a2 a3 a4 a5 a6 a7 a8 a9 a10 a11 a12 a13 a14 => ks.1 (((), (a0, ()), ()), ((a1, a2, a3, a4, a5, a6, a7, a8, a9, a10, a11, a12, a13, a14, ()), ()))) d.1.2.1.1 d.1.2.2.1.1 d.1.2.2.2.1.1 d.1.2.2.2.2.1.1 d.2.1.1 d.2.1.2.1 d.2.1.2.2.1 d.2.1.2.2.2.1 d.2.1.2.2.2.2.1 d.2.1.2.2.2.2.2.1 d.2.1.2.2.2.2.2.2.1 d.2.1.2.2.2.2.2.2.2.1 d.2.1.2.2.2.2.2.2.2.2.1 d.2.1.2.2.2.2.2.2.2.2.2.1 d.2.1.2.2.2.2.2.2.2.2.2.2.1 d.2.1.2.2.2.2.2.2.2.2.2.2.2.1 d.2.1.2.2.2.2.2.2.2.2.2.2.2.2.1 d.2.1.2.2.2.2.2.2.2.2.2.2.2.2.2.1
abbrev zq31 (β : Type) := Int → Option β
abbrev zq32 := {β : Type} → zq31 β → Int → (List (Int × (Int × Int))) → Int → Int → Option β
def zq33 : View := ⟨0, [3, 23, 24, 25], [(false, [.data  (.int .i64)]), (false, [.data (.slice (.prod (.int .i64) (.prod (.int .i64) (.int .i64))))]), (false, [.data (.int .i64)]), (false, [.data (.int .i64)])], []⟩
def zq34 : List  (AExit × View) := [(.exit 2, ⟨0, [3], [(false, [.data (.int .i64)])], []⟩)]
@[reducible] def incident_latest_p2_G (p : zq32) {β : Type} (d : zq33.den) (ks : Outs.K β zq34) : Option β :=
  p (fun a0 => ks.1 (((a0, ()), ()), ())) d.1.1.1 d.1.2.1.1 d.1.2.2.1.1 d.1.2.2.2.1.1
section
@[reducible] def incident_latest_X : Ctx := ⟨look tab, pick1 [], false, false, false, false⟩
def zq35 {β : Type} (rec : Int → (List zq2) → Int → Int → Int → Int → Int → Int → (List UInt8) → Int → Int → Int → (List Int) → (List zq0) → (List zq2) → (List Int) → (List (Int × (Int × Int))) → Int → Option β) (k1 : zq2x β) (at_ : Int) (t11 : List zq2) (t12 t13 x x2 x3 x4 : Int) (x5 : List UInt8) (x6 x7 x8 : Int) (x9 : List Int) (x10 : List zq0) (x11 : List zq2) (x12 : List Int) (x13 : List (Int × (Int × Int))) (x14 : Int) : Option β :=
  cond (decide (t13 < t12))
  (cond (decide (0 ≤ t13) && decide (t13 < (List.length t11 : Int)))
  (let e : zq2 := List.getD t11 (Int.toNat t13) (0, (0, (([] : List UInt8), ([] : List Int))));
  let at_2 : Int := (if e.1 > at_ then e.1 else at_);
  rec at_2 t11 t12 (IntKind.i64.wrap (t13 + 1)) x x2 x3 x4 x5 x6 x7 x8 x9 x10 x11 x12 x13 x14)
  none)
  (k1 at_ x x2 x3 x4 x5 x6 x7 x8 x9 x10 x11 x12 x13 x14)
def zq36 {β : Type} : Nat → zq2x β → Int →  (List zq2) → Int → Int → Int → Int → Int → Int → (List UInt8) → Int → Int → Int → (List Int) → (List zq0) → (List zq2) → (List Int) → (List (Int × (Int × Int))) → Int → Option β
  | 0 => fun _ _ _ _ _ _ _ _ _ _ _ _ _ _ _ _ _ _ _ => none
  | i + 1 => fun k1 at_ t11 t12 t13 x x2 x3 x4 x5 x6 x7 x8 x9 x10 x11 x12 x13 x14 => zq35 (zq36 i k1) k1 at_ t11 t12 t13 x x2 x3 x4 x5 x6 x7 x8 x9 x10 x11 x12 x13 x14
theorem zq37 (hΓ : ΓOk Try.prog incident_latest_X.Γ) (i : Nat) : PieceOk Try.prog 35 0 incident_latest_p1_code zq2z zq30 (incident_latest_p1_G (zq36 i)) := by
  rw [show incident_latest_p1_code = .loop (loopBody incident_latest_p1_code) by kernel_rfl]
  exact piece_loop (X := incident_latest_X) (p := 1) (Λ := pick1 []) (G := fun i => @fun β d ks => incident_latest_p1_G (zq36 i) d ks) mixed tab_ok hΓ rfl (by kernel_rfl) CutsOk_nil (fun _ _ => rfl) (fun i => @fun β d ks r h => Eq.trans (b := incident_latest_p1_G (zq36 (i + 1)) d ks) (by kernel_rfl) h) i
def zq38 {β : Type} (rec : Int → (List (Int × (Int × Int))) → Int → Int → Option β) (k1 : zq31 β) (at_ : Int) (t23 : List (Int × (Int × Int))) (t24 t25 : Int) : Option β :=
  cond (decide (t25 < t24))
  (cond (decide (0 ≤ t25) && decide (t25 < (List.length t23 : Int)))
  (let e : (Int × (Int × Int)) := List.getD t23 (Int.toNat t25) (0, (0, 0));
  let at_2 : Int := (if e.1 > at_ then e.1 else at_);
  rec at_2 t23 t24 (IntKind.i64.wrap (t25 + 1)))
  none)
  (k1 at_)
def zq39 {β : Type} : Nat → zq31 β → Int →  (List (Int × (Int × Int))) → Int → Int → Option β
  | 0 => fun _ _ _ _ _ => none
  | i + 1 => fun k1 at_ t23 t24 t25 => zq38 (zq39 i k1) k1 at_ t23 t24 t25
theorem zq3a (hΓ : ΓOk Try.prog incident_latest_X.Γ) (i : Nat) : PieceOk Try.prog 35 0 incident_latest_p2_code zq33 zq34 (incident_latest_p2_G (zq39 i)) := by
  rw [show incident_latest_p2_code = .loop (loopBody incident_latest_p2_code) by kernel_rfl]
  exact piece_loop (X := incident_latest_X) (p := 1) (Λ := pick1 []) (G := fun i => @fun β d ks => incident_latest_p2_G (zq39 i) d ks) mixed tab_ok hΓ rfl (by kernel_rfl) CutsOk_nil (fun _ _ => rfl) (fun i => @fun β d ks r h => Eq.trans (b := incident_latest_p2_G (zq39 (i + 1)) d ks) (by kernel_rfl) h) i
def zq3b (p1 : zq2y) (p2 : zq32) {β : Type} (x : zq4) (k : (Int → Option β)) : Option β :=
  p1 (fun at_ x2 x3 x4 x5 x6 x7 x8 x9 x10 x11 x12 x13 x14 x15 =>
  p2 (fun at_2 =>
  k at_2) at_ x14 (List.length x14 : Int) 0) x.2.2.2.1 x.2.2.2.2.2.2.2.2.1 (List.length x.2.2.2.2.2.2.2.2.1 : Int) 0 x.1 x.2.1 x.2.2.1 x.2.2.2.1 x.2.2.2.2.1 x.2.2.2.2.2.1.1 x.2.2.2.2.2.1.2.1 x.2.2.2.2.2.1.2.2 x.2.2.2.2.2.2.1 x.2.2.2.2.2.2.2.1 x.2.2.2.2.2.2.2.2.1 x.2.2.2.2.2.2.2.2.2.1 x.2.2.2.2.2.2.2.2.2.2.1 x.2.2.2.2.2.2.2.2.2.2.2
theorem zq3c (hΓ : ΓOk Try.prog incident_latest_X.Γ) (p1 : zq2y) (p2 : zq32) (hp1 : PieceOk Try.prog 35 0 incident_latest_p1_code zq2z zq30 (incident_latest_p1_G p1)) (hp2 : PieceOk Try.prog 35 0 incident_latest_p2_code zq33 zq34 (incident_latest_p2_G p2)) : SpecOk Try.prog 34 (zq2w (zq3b p1 p2)) :=
  spec_exec (X := incident_latest_X) (Λ := pick1 [(58, pieceCut zq2z zq30 (incident_latest_p1_G p1)), (122, pieceCut zq33 zq34 (incident_latest_p2_G p2))]) (rs := [.tmp 2]) (c := bodyOf Try.f34) mixed tab_ok hΓ Try.func34 (by kernel_rfl) (by kernel_rfl) (by kernel_rfl) (by kernel_rfl) (CutsOk_cons (q := 58) (c' := incident_latest_p1_code) (by kernel_rfl) rfl hp1 (CutsOk_cons (q := 122) (c' := incident_latest_p2_code) (by kernel_rfl) rfl hp2 CutsOk_nil)) (fun x k r h => Eq.trans (b := (zq2w (zq3b p1 p2)).run x k) (by kernel_rfl) h)
end
theorem zq3dΓ : ΓOk Try.prog (pick1 []) := ΓOk_nil
def zq3e (m : Nat) : zq2y := zq36 m
theorem zq3f {β : Type} (i : Nat) (k1 at_ t11 t12 t13 x x2 x3 x4 x5 x6 x7 x8 x9 x10 x11 x12 x13 x14) : (zq3e (i + 1) k1 at_ t11 t12 t13 x x2 x3 x4 x5 x6 x7 x8 x9 x10 x11 x12 x13 x14 : Option β) = zq35 (zq3e i k1) k1 at_ t11 t12 t13 x x2 x3 x4 x5 x6 x7 x8 x9 x10 x11 x12 x13 x14 := rfl
def zq3g : zq2y := zq3e fuel
theorem zq3h : PieceOk Try.prog 35 0 incident_latest_p1_code zq2z zq30 (incident_latest_p1_G zq3g) := zq37 zq3dΓ fuel
def zq3i (m : Nat) : zq32 := zq39 m
theorem zq3j {β : Type} (i : Nat) (k1 at_ t23 t24 t25) : (zq3i (i + 1) k1 at_ t23 t24 t25 : Option β) = zq38 (zq3i i k1) k1 at_ t23 t24 t25 := rfl
def zq3k : zq32 := zq3i fuel
theorem zq3l : PieceOk Try.prog 35 0 incident_latest_p2_code zq33 zq34 (incident_latest_p2_G zq3k) := zq3a zq3dΓ fuel
def zq3m : zq2v := zq3b zq3g zq3k
theorem zq3n : SpecOk Try.prog 34 (zq2w zq3m) := zq3c zq3dΓ zq3g zq3k zq3h zq3l
abbrev zq3o := {β : Type} → Int → Int → (Bool → Option β) → Option β
def zq3p (c : zq3o) : Spec :=
  ⟨[(false, [.data (.int .i64)]), (false, [.data (.int .i64)])], [], [(false, [.data .bool])], [], fun x k => c x.1.1.1 x.1.2.1.1 (fun r0 => k (((r0, ()), ()), ()))⟩
section
@[reducible] def ref37_Possible_X : Ctx := ⟨look tab, pick1 [], false, false, false, false⟩
def zq3q {β : Type} (from_ to_ : Int) (k : (Bool → Option β)) : Option β :=
  let t : Bool := (decide (from_ = 0));
  cond t
  (cond (decide (to_ = 1))
  (k true)
  (cond (decide (to_ = 2))
  (k true)
  (let t2 : Bool := (decide (to_ = 4));
  k t2)))
  (let t2 : Bool := (decide (from_ = 1));
  cond t2
  (cond (decide (to_ = 0))
  (k true)
  (cond (decide (to_ = 2))
  (k true)
  (let t3 : Bool := (decide (to_ = 4));
  k t3)))
  (let t3 : Bool := (decide (from_ = 2));
  cond t3
  (cond (decide (to_ = 0))
  (k true)
  (let t4 : Bool := (decide (to_ = 3));
  k t4))
  (k false)))
theorem zq3r (hΓ : ΓOk Try.prog ref37_Possible_X.Γ) : SpecOk Try.prog 38 (zq3p (zq3q)) :=
  spec_exec (X := ref37_Possible_X) (Λ := pick1 []) (rs := [.tmp 4]) (c := bodyOf Try.f38) mixed tab_ok hΓ Try.func38 (by kernel_rfl) (by kernel_rfl) (by kernel_rfl) (by kernel_rfl) CutsOk_nil (fun x k r h => Eq.trans (b := (zq3p (zq3q)).run x k) (by kernel_rfl) h)
end
theorem zq3sΓ : ΓOk Try.prog (pick1 []) := ΓOk_nil
def zq3t : zq3o := zq3q
theorem zq3u : SpecOk Try.prog 38 (zq3p zq3t) := zq3r zq3sΓ
abbrev zq3v := {β : Type} → Int → Int → Int → (Bool → Option β) → Option β
def zq3w (c : zq3v) : Spec :=
  ⟨[(false, [.data (.int .i64)]), (false, [.data (.int .i64)]), (false, [.data (.int .i64)])], [], [(false, [.data .bool])], [], fun x k => c x.1.1.1 x.1.2.1.1 x.1.2.2.1.1 (fun r0 => k (((r0, ()), ()), ()))⟩
section
@[reducible] def ref25_In_X : Ctx := ⟨look tab, pick1 [], false, false, false, false⟩
def zq3x {β : Type} (n lo hi : Int) (k : (Bool → Option β)) : Option β :=
  cond (decide (lo ≤ n))
  (k (decide (n ≤ hi)))
  (k false)
theorem zq3y (hΓ : ΓOk Try.prog ref25_In_X.Γ) : SpecOk Try.prog 39 (zq3w (zq3x)) :=
  spec_exec (X := ref25_In_X) (Λ := pick1 []) (rs := [.tmp 6]) (c := bodyOf Try.f39) mixed tab_ok hΓ Try.func39 (by kernel_rfl) (by kernel_rfl) (by kernel_rfl) (by kernel_rfl) CutsOk_nil (fun x k r h => Eq.trans (b := (zq3w (zq3x)).run x k) (by kernel_rfl) h)
end
theorem zq3zΓ : ΓOk Try.prog (pick1 []) := ΓOk_nil
def zq40 : zq3v := zq3x
theorem zq41 : SpecOk Try.prog 39 (zq3w zq40) := zq3y zq3zΓ
abbrev zq42 := {β : Type} → zq4 → (Int → Option β) → Option β
def zq43 (c : zq42) : Spec :=
  ⟨[(true, [.data zq5])], [], [(false, [.data (.int .i64)])], [], fun x k => c x.1.1.1 (fun r0 => k (((r0, ()), ()), ()))⟩
noncomputable def ref37_last_p1_code : Code := codeAt 15 (bodyOf Try.f40)
abbrev zq44 (β : Type) := Int → Option β
abbrev zq45 := {β : Type} → zq44 β → Int → Int → Int → Int → Int → (List UInt8) → Int → Int → Int → (List Int) → (List zq0) → (List zq2) → (List Int) → (List (Int × (Int × Int))) → Int → Option β
def zq46 : View := ⟨0, [1, 3], [(false, [.ptr 0 0]),  (false, [.data (.int .i64)])], [.cells 32 [.data (.int .i64), .data (.int .i64), .data (.int .i64), .data (.int .i64), .data .str, .data (.int .i64), .data (.int .i64), .data (.int .i64), .data (.slice (.int .i64)), .data (.slice zq1), .data (.slice zq3), .data (.slice (.int .i64)), .data (.slice (.prod (.int .i64) (.prod (.int .i64) (.int .i64)))), .data (.int .i64)]]⟩
def zq47 : List  (AExit × View) := [(.ret, ⟨0, [2], [(false, [.data (.int .i64)])], []⟩)]
@[reducible] def ref37_last_p1_G (p : zq45) {β : Type} (d : zq46.den) (ks : Outs.K β zq47) : Option β :=
  p (fun a0 => ks.1 (((a0, ()), ()), ())) d.1.2.1.1 d.2.1.1 d.2.1.2.1 d.2.1.2.2.1 d.2.1.2.2.2.1 d.2.1.2.2.2.2.1 d.2.1.2.2.2.2.2.1 d.2.1.2.2.2.2.2.2.1 d.2.1.2.2.2.2.2.2.2.1 d.2.1.2.2.2.2.2.2.2.2.1 d.2.1.2.2.2.2.2.2.2.2.2.1 d.2.1.2.2.2.2.2.2.2.2.2.2.1 d.2.1.2.2.2.2.2.2.2.2.2.2.2.1 d.2.1.2.2.2.2.2.2.2.2.2.2.2.2.1 d.2.1.2.2.2.2.2.2.2.2.2.2.2.2.2.1
section
@[reducible] def ref37_last_X : Ctx := ⟨look tab, pick1 [], false, false, false, false⟩
def zq48 {β : Type} (k1 : zq44 β) (at_ x x2 x3 x4 : Int) (x5 : List UInt8) (x6 x7 x8 : Int) (x9 : List Int) (x10 : List zq0) (x11 : List zq2) (x12 : List Int) (x13 : List (Int × (Int × Int))) (x14 : Int) : Option β :=
  cond (decide (0 < (List.length x13 : Int)))
  (cond (decide (0 ≤ (IntKind.i64.wrap ((List.length x13 : Int) - 1))) && decide ((IntKind.i64.wrap ((List.length x13 : Int) - 1)) < (List.length x13 : Int)))
  (let e : (Int × (Int × Int)) := List.getD x13 (Int.toNat (IntKind.i64.wrap ((List.length x13 : Int) - 1))) (0, (0, 0));
  let at_2 : Int := (if e.1 > at_ then e.1 else at_);
  k1 at_2)
  none)
  (k1 at_)
def zq49 {β : Type} (k1 : zq44 β) (at_ x x2 x3 x4 : Int) (x5 : List UInt8) (x6 x7 x8 : Int) (x9 : List Int) (x10 : List zq0) (x11 : List zq2) (x12 : List Int) (x13 : List (Int × (Int × Int))) (x14 : Int) : Option β := zq48 k1 at_ x x2 x3 x4 x5 x6 x7 x8 x9 x10 x11 x12 x13 x14
theorem zq4a (hΓ : ΓOk Try.prog ref37_last_X.Γ) : PieceOk Try.prog 37 0 ref37_last_p1_code zq46 zq47 (ref37_last_p1_G (zq49)) :=
  piece_exec (X := ref37_last_X) (p := 15) (Λ := pick1 []) mixed tab_ok hΓ (by kernel_rfl) CutsOk_nil (fun d ks r h => Eq.trans (b := ref37_last_p1_G (zq49) d ks) (by kernel_rfl) h)
def zq4b (p1 : zq45) {β : Type} (x : zq4) (k : (Int → Option β)) : Option β :=
  cond (decide (0 < (List.length x.2.2.2.2.2.2.2.2.1 : Int)))
  (cond (decide (0 ≤ (IntKind.i64.wrap ((List.length x.2.2.2.2.2.2.2.2.1 : Int) - 1))) && decide ((IntKind.i64.wrap ((List.length x.2.2.2.2.2.2.2.2.1 : Int) - 1)) < (List.length x.2.2.2.2.2.2.2.2.1 : Int)))
  (let e : zq2 := List.getD x.2.2.2.2.2.2.2.2.1 (Int.toNat (IntKind.i64.wrap ((List.length x.2.2.2.2.2.2.2.2.1 : Int) - 1))) (0, (0, (([] : List UInt8), ([] : List Int))));
  let at_ : Int := (if e.1 > x.2.2.2.1 then e.1 else x.2.2.2.1);
  p1 (fun t2 =>
  k t2) at_ x.1 x.2.1 x.2.2.1 x.2.2.2.1 x.2.2.2.2.1 x.2.2.2.2.2.1.1 x.2.2.2.2.2.1.2.1 x.2.2.2.2.2.1.2.2 x.2.2.2.2.2.2.1 x.2.2.2.2.2.2.2.1 x.2.2.2.2.2.2.2.2.1 x.2.2.2.2.2.2.2.2.2.1 x.2.2.2.2.2.2.2.2.2.2.1 x.2.2.2.2.2.2.2.2.2.2.2)
  none)
  (p1 (fun t2 =>
  k t2) x.2.2.2.1 x.1 x.2.1 x.2.2.1 x.2.2.2.1 x.2.2.2.2.1 x.2.2.2.2.2.1.1 x.2.2.2.2.2.1.2.1 x.2.2.2.2.2.1.2.2 x.2.2.2.2.2.2.1 x.2.2.2.2.2.2.2.1 x.2.2.2.2.2.2.2.2.1 x.2.2.2.2.2.2.2.2.2.1 x.2.2.2.2.2.2.2.2.2.2.1 x.2.2.2.2.2.2.2.2.2.2.2)
theorem zq4c (hΓ : ΓOk Try.prog ref37_last_X.Γ) (p1 : zq45) (hp1 : PieceOk Try.prog 37 0 ref37_last_p1_code zq46 zq47 (ref37_last_p1_G p1)) : SpecOk Try.prog 40 (zq43 (zq4b p1)) :=
  spec_exec (X := ref37_last_X) (Λ := pick1 [(15, pieceCut zq46 zq47 (ref37_last_p1_G p1))]) (rs := [.tmp 2]) (c := bodyOf Try.f40) mixed tab_ok hΓ Try.func40 (by kernel_rfl) (by kernel_rfl) (by kernel_rfl) (by kernel_rfl) (CutsOk_cons (q := 15) (c' := ref37_last_p1_code) (by kernel_rfl) rfl hp1 CutsOk_nil) (fun x k r h => Eq.trans (b := (zq43 (zq4b p1)).run x k) (by kernel_rfl) h)
end
theorem zq4dΓ : ΓOk Try.prog (pick1 []) := ΓOk_nil
def zq4e : zq45 := zq49
theorem zq4f : PieceOk Try.prog 37 0 ref37_last_p1_code zq46 zq47 (ref37_last_p1_G zq4e) := zq4a zq4dΓ
def zq4g : zq42 := zq4b zq4e
theorem zq4h : SpecOk Try.prog 40 (zq43 zq4g) := zq4c zq4dΓ zq4e zq4f
abbrev zq4i := {β : Type} → Int → Bool → (Bool → Option β) → Option β
def zq4j (c : zq4i) : Spec :=
  ⟨[(false, [.data (.int .i64)]), (false, [.data .bool])], [], [(false, [.data .bool])], [], fun x k => c x.1.1.1 x.1.2.1.1 (fun r0 => k (((r0, ()), ()), ()))⟩
section
variable (c_ref25_In : zq3v)
@[reducible] def ref37_person_X : Ctx := ⟨look tab, pick1 [(39, .spec (zq3w c_ref25_In))], false, false, false, false⟩
def zq4k {β : Type} (n : Int) (nobody : Bool) (k : (Bool → Option β)) : Option β :=
  c_ref25_In n 0 31 (fun rIn =>
  cond rIn
  (k true)
  (cond nobody
  (let t : Bool := (decide (n = (-1)));
  k t)
  (k false)))
theorem zq4l (hΓ : ΓOk Try.prog (ref37_person_X c_ref25_In).Γ) : SpecOk Try.prog 41 (zq4j (zq4k c_ref25_In)) :=
  spec_exec (X := (ref37_person_X c_ref25_In)) (Λ := pick1 []) (rs := [.tmp 4]) (c := bodyOf Try.f41) mixed tab_ok hΓ Try.func41 (by kernel_rfl) (by kernel_rfl) (by kernel_rfl) (by kernel_rfl) CutsOk_nil (fun x k r h => Eq.trans (b := (zq4j (zq4k c_ref25_In)).run x k) (by kernel_rfl) h)
end
theorem zq4mΓ : ΓOk Try.prog (pick1 [(39, .spec (zq3w zq40))]) := (ΓOk_cons zq41 ΓOk_nil)
def zq4n : zq4i := zq4k zq40
theorem zq4o : SpecOk Try.prog 41 (zq4j zq4n) := zq4l zq40 zq4mΓ
abbrev zq4p := {β : Type} → (List Int) → Int → ((List Int) → Option β) → Option β
def zq4q (c : zq4p) : Spec :=
  ⟨[(false, [.data (.slice (.int .i64))]), (false, [.data (.int .i64)])], [], [(false, [.rowh 0])], [.row 3 (.int .i64)], fun x k => c x.1.1.1 x.1.2.1.1 (fun r0 => k (((), ()), (r0, ())))⟩
noncomputable def ref25_With_p2_code : Code := codeAt 122 (bodyOf Try.f42)
noncomputable def ref25_With_p1_code : Code := codeAt 25 (loopBody ref25_With_p2_code)
abbrev zq4r (β : Type) := (List Int) → Int → Bool → Int → (List Int) → Option β
abbrev zq4s := {β : Type} → zq4r β → (List Int) → Int → Bool → Int → (List Int) → Option β
def zq4t : View := ⟨0, [0, 1, 5, 6, 7], [(false, [.data  (.slice (.int .i64))]), (false, [.data (.int .i64)]), (false, [.rowh 0]), (false, [.data .bool]), (false, [.data (.int .i64)])], [.row 3 (.int .i64)]⟩
def zq4u : List  (AExit × View) := [(.normal, ⟨0, [0, 1, 5, 6, 7], [(false, [.data (.slice (.int .i64))]), (false, [.data (.int .i64)]), (false, [.rowh 0]), (false, [.data .bool]), (false, [.data (.int .i64)])], [.row 3 (.int .i64)]⟩)]
@[reducible] def ref25_With_p1_G (p : zq4s) {β : Type} (d : zq4t.den) (ks : Outs.K β zq4u) : Option β :=
  p (fun a0 a1 a2 a3 a4 => ks.1 (((a0, ()), (a1, ()), (), (a2, ()), (a3, ()), ()), (a4, ()))) d.1.1.1 d.1.2.1.1 d.1.2.2.2.1.1 d.1.2.2.2.2.1.1 d.2.1
abbrev zq4v (β : Type) := Int → Bool → (List Int) → Option β
abbrev zq4w := {β : Type} → zq4v β → (List Int) → Int → Bool → Int → (List Int) → Option β
def zq4x : View := ⟨0, [0, 1, 5, 6, 7], [(false, [.data  (.slice (.int .i64))]), (false, [.data (.int .i64)]), (false, [.rowh 0]), (false, [.data .bool]), (false, [.data (.int .i64)])], [.row 3 (.int .i64)]⟩
def zq4y : List  (AExit × View) := [(.exit 0, ⟨0, [1, 5, 6], [(false, [.data (.int .i64)]), (false, [.rowh 0]), (false, [.data .bool])], [.row 3 (.int .i64)]⟩)]
@[reducible] def ref25_With_p2_G (p : zq4w) {β : Type} (d : zq4x.den) (ks : Outs.K β zq4y) : Option β :=
  p (fun a0 a1 a2 => ks.1 (((a0, ()), (), (a1, ()), ()), (a2, ()))) d.1.1.1 d.1.2.1.1 d.1.2.2.2.1.1 d.1.2.2.2.2.1.1 d.2.1
section
@[reducible] def ref25_With_X : Ctx := ⟨look tab, pick1 [], false, false, false, false⟩
def zq4z {β : Type} (k1 : zq4r β) (l : List Int) (x : Int) (done : Bool) (i_ : Int) (out : List Int) : Option β :=
  cond (decide (0 ≤ i_) && decide (i_ < (List.length l : Int)))
  (let e : Int := List.getD l (Int.toNat i_) 0;
  cond (!decide (e = x))
  (cond (decide (0 ≤ i_) && decide (i_ < (List.length l : Int)))
  (let e2 : Int := List.getD l (Int.toNat i_) 0;
  let l2 : List Int := ([e2] : List Int);
  cond (decide ((List.length out + List.length l2) * 8 ≤ roomMax))
  (let l3 : List Int := (out ++ l2);
  k1 l x done i_ l3)
  none)
  none)
  (k1 l x done i_ out))
  none
def zq50 {β : Type} (k1 : zq4r β) (l : List Int) (x : Int) (done : Bool) (i_ : Int) (out : List Int) : Option β := zq4z k1 l x done i_ out
theorem zq51 (hΓ : ΓOk Try.prog ref25_With_X.Γ) : PieceOk Try.prog 48 0 ref25_With_p1_code zq4t zq4u (ref25_With_p1_G (zq50)) :=
  piece_exec (X := ref25_With_X) (p := 25) (Λ := pick1 []) mixed tab_ok hΓ (by kernel_rfl) CutsOk_nil (fun d ks r h => Eq.trans (b := ref25_With_p1_G (zq50) d ks) (by kernel_rfl) h)
def zq52 (p1 : zq4s) {β : Type} (rec : (List Int) → Int → Bool → Int → (List Int) → Option β) (k1 : zq4v β) (l : List Int) (x : Int) (done : Bool) (i_ : Int) (out : List Int) : Option β :=
  cond (decide (i_ < (List.length l : Int)))
  (cond (!done)
  (cond (decide (0 ≤ i_) && decide (i_ < (List.length l : Int)))
  (let e : Int := List.getD l (Int.toNat i_) 0;
  cond (decide (x ≤ e))
  (let l2 : List Int := ([x] : List Int);
  cond (decide ((List.length out + List.length l2) * 8 ≤ roomMax))
  (let l3 : List Int := (out ++ l2);
  p1 (fun l4 x2 done2 i_2 out2 =>
  let i_3 : Int := (IntKind.i64.wrap (i_2 + 1));
  rec l4 x2 done2 i_3 out2) l x true i_ l3)
  none)
  (p1 (fun l2 x2 done2 i_2 out2 =>
  let i_3 : Int := (IntKind.i64.wrap (i_2 + 1));
  rec l2 x2 done2 i_3 out2) l x done i_ out))
  none)
  (p1 (fun l2 x2 done2 i_2 out2 =>
  let i_3 : Int := (IntKind.i64.wrap (i_2 + 1));
  rec l2 x2 done2 i_3 out2) l x done i_ out))
  (k1 x done out)
def zq53 (p1 : zq4s) {β : Type} : Nat → zq4v β → (List Int) → Int → Bool → Int → (List Int) → Option β
  | 0 => fun _ _ _ _ _ _ => none
  | i + 1 => fun k1 l x done i_ out => zq52 p1 (zq53 p1 i k1) k1 l x done i_ out
theorem zq54 (hΓ : ΓOk Try.prog ref25_With_X.Γ) (p1 : zq4s) (hp1 : PieceOk Try.prog 48 0 ref25_With_p1_code zq4t zq4u (ref25_With_p1_G p1)) (i : Nat) : PieceOk Try.prog 48 0 ref25_With_p2_code zq4x zq4y (ref25_With_p2_G (zq53 p1 i)) := by
  rw [show ref25_With_p2_code = .loop (loopBody ref25_With_p2_code) by kernel_rfl]
  exact piece_loop (X := ref25_With_X) (p := 1) (Λ := pick1 [(25, pieceCut zq4t zq4u (ref25_With_p1_G p1))]) (G := fun i => @fun β d ks => ref25_With_p2_G (zq53 p1 i) d ks) mixed tab_ok hΓ rfl (by kernel_rfl) (CutsOk_cons (q := 25) (c' := ref25_With_p1_code) (by kernel_rfl) rfl hp1 CutsOk_nil) (fun _ _ => rfl) (fun i => @fun β d ks r h => Eq.trans (b := ref25_With_p2_G (zq53 p1 (i + 1)) d ks) (by kernel_rfl) h) i
def zq55 (p2 : zq4w) {β : Type} (l : List Int) (x : Int) (k : ((List Int) → Option β)) : Option β :=
  p2 (fun x2 done out =>
  cond (!done)
  (let l2 : List Int := ([x2] : List Int);
  cond (decide ((List.length out + List.length l2) * 8 ≤ roomMax))
  (let l3 : List Int := (out ++ l2);
  k l3)
  none)
  (k out)) l x false 0 ([] : List Int)
theorem zq56 (hΓ : ΓOk Try.prog ref25_With_X.Γ) (p2 : zq4w) (hp2 : PieceOk Try.prog 48 0 ref25_With_p2_code zq4x zq4y (ref25_With_p2_G p2)) : SpecOk Try.prog 42 (zq4q (zq55 p2)) :=
  spec_exec (X := ref25_With_X) (Λ := pick1 [(122, pieceCut zq4x zq4y (ref25_With_p2_G p2))]) (rs := [.tmp 4]) (c := bodyOf Try.f42) mixed tab_ok hΓ Try.func42 (by kernel_rfl) (by kernel_rfl) (by kernel_rfl) (by kernel_rfl) (CutsOk_cons (q := 122) (c' := ref25_With_p2_code) (by kernel_rfl) rfl hp2 CutsOk_nil) (fun x k r h => Eq.trans (b := (zq4q (zq55 p2)).run x k) (by kernel_rfl) h)
end
theorem zq57Γ : ΓOk Try.prog (pick1 []) := ΓOk_nil
def zq58 : zq4s := zq50
theorem zq59 : PieceOk Try.prog 48 0 ref25_With_p1_code zq4t zq4u (ref25_With_p1_G zq58) := zq51 zq57Γ
def zq5a (m : Nat) : zq4w := zq53 zq58 m
theorem zq5b {β : Type} (i : Nat) (k1 l x done i_ out) : (zq5a (i + 1) k1 l x done i_ out : Option β) = zq52 zq58 (zq5a i k1) k1 l x done i_ out := rfl
def zq5c : zq4w := zq5a fuel
theorem zq5d : PieceOk Try.prog 48 0 ref25_With_p2_code zq4x zq4y (ref25_With_p2_G zq5c) := zq54 zq57Γ zq58 zq59 fuel
def zq5e : zq4p := zq55 zq5c
theorem zq5f : SpecOk Try.prog 42 (zq4q zq5e) := zq56 zq57Γ zq5c zq5d
abbrev zq5g := {β : Type} → zq4 → Int → Int → Int → (zq4 → Option β) → Option β
def zq5h (c : zq5g) : Spec :=
  ⟨[(true, [.data zq5]), (false, [.data (.int .i64)]), (false, [.data (.int .i64)]), (false, [.data (.int .i64)])], [], [(true, [.data zq5])], [], fun x k => c x.1.1.1 x.1.2.1.1 x.1.2.2.1.1 x.1.2.2.2.1.1 (fun r0 => k (((r0, ()), ()), ()))⟩
section
variable (c_ref37_Copy : zq1h)
@[reducible] def ref37_move_X : Ctx := ⟨look tab, pick1 [(27, .spec (zq1i c_ref37_Copy))], false, false, false, false⟩
def zq5i {β : Type} (x : zq4) (at_ to_ who : Int) (k : (zq4 → Option β)) : Option β :=
  c_ref37_Copy x (fun rCopy rCopy2 rCopy3 rCopy4 rCopy5 rCopy6 rCopy7 rCopy8 rCopy9 lrCopy lrCopy2 lrCopy3 lrCopy4 lrCopy5 =>
  let l : List (Int × (Int × Int)) := ([(at_, (to_, who))] : List (Int × (Int × Int)));
  cond (decide ((List.length lrCopy5 + List.length l) * 24 ≤ roomMax))
  (let l2 : List (Int × (Int × Int)) := (lrCopy5 ++ l);
  k (rCopy, (to_, (rCopy3, (rCopy4, (rCopy5, ((rCopy6, (rCopy7, rCopy8)), (lrCopy, (lrCopy2, (lrCopy3, (lrCopy4, (l2, rCopy9))))))))))))
  none)
theorem zq5j (hΓ : ΓOk Try.prog (ref37_move_X c_ref37_Copy).Γ) : SpecOk Try.prog 43 (zq5h (zq5i c_ref37_Copy)) :=
  spec_exec (X := (ref37_move_X c_ref37_Copy)) (Λ := pick1 []) (rs := [.cell 8 32]) (c := bodyOf Try.f43) mixed tab_ok hΓ Try.func43 (by kernel_rfl) (by kernel_rfl) (by kernel_rfl) (by kernel_rfl) CutsOk_nil (fun x k r h => Eq.trans (b := (zq5h (zq5i c_ref37_Copy)).run x k) (by kernel_rfl) h)
end
theorem zq5kΓ : ΓOk Try.prog (pick1 [(27, .spec (zq1i zq1x))]) := (ΓOk_cons zq1y ΓOk_nil)
def zq5l : zq5g := zq5i zq1x
theorem zq5m : SpecOk Try.prog 43 (zq5h zq5l) := zq5j zq1x zq5kΓ
abbrev zq5n := {β : Type} → (List Int) → (List Int) → (Bool → Option β) → Option β
def zq5o (c : zq5n) : Spec :=
  ⟨[(false, [.data (.slice (.int .i64))]), (false, [.data (.slice (.int .i64))])], [], [(false, [.data .bool])], [], fun x k => c x.1.1.1 x.1.2.1.1 (fun r0 => k (((r0, ()), ()), ()))⟩
noncomputable def ref25_Same_p1_code : Code := codeAt 58 (bodyOf Try.f44)
abbrev zq5p (β : Type) := Bool → Option β
abbrev zq5q (β : Type) := Unit → Option β
abbrev zq5r := {β : Type} → zq5p β → zq5q β → (List Int) → (List Int) → Int → Option β
def zq5s : View := ⟨0, [0, 1, 5], [(false, [.data  (.slice (.int .i64))]), (false, [.data (.slice (.int .i64))]), (false, [.data (.int .i64)])], []⟩
def zq5t : List  (AExit × View) := [(.ret, ⟨0, [4], [(false, [.data .bool])], []⟩), (.exit 0, ⟨0, [], [], []⟩)]
@[reducible] def ref25_Same_p1_G (p : zq5r) {β : Type} (d : zq5s.den) (ks : Outs.K β zq5t) : Option β :=
  p (fun a0 => ks.1 (((a0, ()), ()), ())) (fun _ => ks.2.1 ((), ())) d.1.1.1 d.1.2.1.1 d.1.2.2.1.1
section
@[reducible] def ref25_Same_X : Ctx := ⟨look tab, pick1 [], false, false, false, false⟩
def zq5u {β : Type} (rec : (List Int) → (List Int) → Int → Option β) (k1 : zq5p β) (k2 : zq5q β) (a b : List Int) (i_ : Int) : Option β :=
  cond (decide (i_ < (List.length a : Int)))
  (cond (decide (0 ≤ i_) && decide (i_ < (List.length a : Int)))
  (let e : Int := List.getD a (Int.toNat i_) 0;
  cond (decide (0 ≤ i_) && decide (i_ < (List.length b : Int)))
  (let e2 : Int := List.getD b (Int.toNat i_) 0;
  cond (!decide (e = e2))
  (k1 false)
  (let i_2 : Int := (IntKind.i64.wrap (i_ + 1));
  rec a b i_2))
  none)
  none)
  (k2 ())
def zq5v {β : Type} : Nat → zq5p β → zq5q β →  (List Int) → (List Int) → Int → Option β
  | 0 => fun _ _ _ _ _ => none
  | i + 1 => fun k1 k2 a b i_ => zq5u (zq5v i k1 k2) k1 k2 a b i_
theorem zq5w (hΓ : ΓOk Try.prog ref25_Same_X.Γ) (i : Nat) : PieceOk Try.prog 26 0 ref25_Same_p1_code zq5s zq5t (ref25_Same_p1_G (zq5v i)) := by
  rw [show ref25_Same_p1_code = .loop (loopBody ref25_Same_p1_code) by kernel_rfl]
  exact piece_loop (X := ref25_Same_X) (p := 1) (Λ := pick1 []) (G := fun i => @fun β d ks => ref25_Same_p1_G (zq5v i) d ks) mixed tab_ok hΓ rfl (by kernel_rfl) CutsOk_nil (fun _ _ => rfl) (fun i => @fun β d ks r h => Eq.trans (b := ref25_Same_p1_G (zq5v (i + 1)) d ks) (by kernel_rfl) h) i
def zq5x (p1 : zq5r) {β : Type} (a : List Int) (b : List Int) (k : (Bool → Option β)) : Option β :=
  cond (!decide ((List.length a : Int) = (List.length b : Int)))
  (k false)
  (p1 (fun t4 =>
  k t4) (fun _ =>
  k true) a b 0)
theorem zq5y (hΓ : ΓOk Try.prog ref25_Same_X.Γ) (p1 : zq5r) (hp1 : PieceOk Try.prog 26 0 ref25_Same_p1_code zq5s zq5t (ref25_Same_p1_G p1)) : SpecOk Try.prog 44 (zq5o (zq5x p1)) :=
  spec_exec (X := ref25_Same_X) (Λ := pick1 [(58, pieceCut zq5s zq5t (ref25_Same_p1_G p1))]) (rs := [.tmp 4]) (c := bodyOf Try.f44) mixed tab_ok hΓ Try.func44 (by kernel_rfl) (by kernel_rfl) (by kernel_rfl) (by kernel_rfl) (CutsOk_cons (q := 58) (c' := ref25_Same_p1_code) (by kernel_rfl) rfl hp1 CutsOk_nil) (fun x k r h => Eq.trans (b := (zq5o (zq5x p1)).run x k) (by kernel_rfl) h)
end
theorem zq5zΓ : ΓOk Try.prog (pick1 []) := ΓOk_nil
def zq60 (m : Nat) : zq5r := zq5v m
theorem zq61 {β : Type} (i : Nat) (k1 k2 a b i_) : (zq60 (i + 1) k1 k2 a b i_ : Option β) = zq5u (zq60 i k1 k2) k1 k2 a b i_ := rfl
def zq62 : zq5r := zq60 fuel
theorem zq63 : PieceOk Try.prog 26 0 ref25_Same_p1_code zq5s zq5t (ref25_Same_p1_G zq62) := zq5w zq5zΓ fuel
def zq64 : zq5n := zq5x zq62
theorem zq65 : SpecOk Try.prog 44 (zq5o zq64) := zq5y zq5zΓ zq62 zq63
abbrev zq66 := {β : Type} → Int → (Bool → Option β) → Option β
def zq67 (c : zq66) : Spec :=
  ⟨[(false, [.data (.int .i64)])], [], [(false, [.data .bool])], [], fun x k => c x.1.1.1 (fun r0 => k (((r0, ()), ()), ()))⟩
section
variable (c_ref25_In : zq3v)
@[reducible] def ref37_state_X : Ctx := ⟨look tab, pick1 [(39, .spec (zq3w c_ref25_In))], false, false, false, false⟩
def zq68 {β : Type} (n : Int) (k : (Bool → Option β)) : Option β :=
  c_ref25_In n 0 4 (fun rIn =>
  k rIn)
theorem zq69 (hΓ : ΓOk Try.prog (ref37_state_X c_ref25_In).Γ) : SpecOk Try.prog 45 (zq67 (zq68 c_ref25_In)) :=
  spec_exec (X := (ref37_state_X c_ref25_In)) (Λ := pick1 []) (rs := [.tmp 2]) (c := bodyOf Try.f45) mixed tab_ok hΓ Try.func45 (by kernel_rfl) (by kernel_rfl) (by kernel_rfl) (by kernel_rfl) CutsOk_nil (fun x k r h => Eq.trans (b := (zq67 (zq68 c_ref25_In)).run x k) (by kernel_rfl) h)
end
theorem zq6aΓ : ΓOk Try.prog (pick1 [(39, .spec (zq3w zq40))]) := (ΓOk_cons zq41 ΓOk_nil)
def zq6b : zq66 := zq68 zq40
theorem zq6c : SpecOk Try.prog 45 (zq67 zq6b) := zq69 zq40 zq6aΓ
abbrev zq6d := {β : Type} → (List UInt8) → (Bool → Option β) → Option β
def zq6e (c : zq6d) : Spec :=
  ⟨[(false, [.data .str])], [], [(false, [.data .bool])], [], fun x k => c x.1.1.1 (fun r0 => k (((r0, ()), ()), ()))⟩
noncomputable def ref37_Text_p1_code : Code := codeAt 26 (bodyOf Try.f46)
abbrev zq6f (β : Type) := Bool → Option β
abbrev zq6g (β : Type) := (List UInt8) → Option β
abbrev zq6h := {β : Type} → zq6f β → zq6g β → (List UInt8) → Int → Option β
def zq6i : View := ⟨0, [0, 3], [(false, [.data .str]),  (false, [.data (.int .i64)])], []⟩
def zq6j : List  (AExit × View) := [(.ret, ⟨0, [2], [(false, [.data .bool])], []⟩), (.exit 0, ⟨0, [0], [(false, [.data .str])], []⟩)]
@[reducible] def ref37_Text_p1_G (p : zq6h) {β : Type} (d : zq6i.den) (ks : Outs.K β zq6j) : Option β :=
  p (fun a0 => ks.1 (((a0, ()), ()), ())) (fun a0 => ks.2.1 (((a0, ()), ()), ())) d.1.1.1 d.1.2.1.1
section
variable (c_ref25_In : zq3v)
@[reducible] def ref37_Text_X : Ctx := ⟨look tab, pick1 [(39, .spec (zq3w c_ref25_In))], false, false, false, false⟩
def zq6k {β : Type} (rec : (List UInt8) → Int → Option β) (k1 : zq6f β) (k2 : zq6g β) (s : List UInt8) (i_ : Int) : Option β :=
  cond (decide (i_ < (List.length s : Int)))
  (cond (decide (0 ≤ i_) && decide (i_ < (List.length s : Int)))
  (cond (decide (((List.getD s (Int.toNat i_) 0).toNat : Int) < 32))
  (k1 false)
  (cond (decide (0 ≤ i_) && decide (i_ < (List.length s : Int)))
  (cond (decide (126 < ((List.getD s (Int.toNat i_) 0).toNat : Int)))
  (k1 false)
  (let i_2 : Int := (IntKind.i64.wrap (i_ + 1));
  rec s i_2))
  none))
  none)
  (k2 s)
def zq6l {β : Type} : Nat → zq6f β → zq6g β →  (List UInt8) → Int → Option β
  | 0 => fun _ _ _ _ => none
  | i + 1 => fun k1 k2 s i_ => zq6k (zq6l i k1 k2) k1 k2 s i_
theorem zq6m (hΓ : ΓOk Try.prog (ref37_Text_X c_ref25_In).Γ) (i : Nat) : PieceOk Try.prog 23 0 ref37_Text_p1_code zq6i zq6j (ref37_Text_p1_G (zq6l i)) := by
  rw [show ref37_Text_p1_code = .loop (loopBody ref37_Text_p1_code) by kernel_rfl]
  exact piece_loop (X := (ref37_Text_X c_ref25_In)) (p := 1) (Λ := pick1 []) (G := fun i => @fun β d ks => ref37_Text_p1_G (zq6l i) d ks) mixed tab_ok hΓ rfl (by kernel_rfl) CutsOk_nil (fun _ _ => rfl) (fun i => @fun β d ks r h => Eq.trans (b := ref37_Text_p1_G (zq6l (i + 1)) d ks) (by kernel_rfl) h) i
def zq6n (p1 : zq6h) {β : Type} (s : List UInt8) (k : (Bool → Option β)) : Option β :=
  p1 (fun t2 =>
  k t2) (fun s2 =>
  c_ref25_In (List.length s2 : Int) 1 512 (fun rIn =>
  k rIn)) s 0
theorem zq6o (hΓ : ΓOk Try.prog (ref37_Text_X c_ref25_In).Γ) (p1 : zq6h) (hp1 : PieceOk Try.prog 23 0 ref37_Text_p1_code zq6i zq6j (ref37_Text_p1_G p1)) : SpecOk Try.prog 46 (zq6e (zq6n c_ref25_In p1)) :=
  spec_exec (X := (ref37_Text_X c_ref25_In)) (Λ := pick1 [(26, pieceCut zq6i zq6j (ref37_Text_p1_G p1))]) (rs := [.tmp 2]) (c := bodyOf Try.f46) mixed tab_ok hΓ Try.func46 (by kernel_rfl) (by kernel_rfl) (by kernel_rfl) (by kernel_rfl) (CutsOk_cons (q := 26) (c' := ref37_Text_p1_code) (by kernel_rfl) rfl hp1 CutsOk_nil) (fun x k r h => Eq.trans (b := (zq6e (zq6n c_ref25_In p1)).run x k) (by kernel_rfl) h)
end
theorem zq6pΓ : ΓOk Try.prog (pick1 [(39, .spec (zq3w zq40))]) := (ΓOk_cons zq41 ΓOk_nil)
def zq6q (m : Nat) : zq6h := zq6l m
theorem zq6r {β : Type} (i : Nat) (k1 k2 s i_) : (zq6q (i + 1) k1 k2 s i_ : Option β) = zq6k (zq6q i k1 k2) k1 k2 s i_ := rfl
def zq6s : zq6h := zq6q fuel
theorem zq6t : PieceOk Try.prog 23 0 ref37_Text_p1_code zq6i zq6j (ref37_Text_p1_G zq6s) := zq6m zq40 zq6pΓ fuel
def zq6u : zq6d := zq6n zq40 zq6s
theorem zq6v : SpecOk Try.prog 46 (zq6e zq6u) := zq6o zq40 zq6pΓ zq6s zq6t
abbrev zq6w := {β : Type} → (List Int) → Int → (Bool → Option β) → Option β
def zq6x (c : zq6w) : Spec :=
  ⟨[(false, [.data (.slice (.int .i64))]), (false, [.data (.int .i64)])], [], [(false, [.data .bool])], [], fun x k => c x.1.1.1 x.1.2.1.1 (fun r0 => k (((r0, ()), ()), ()))⟩
noncomputable def ref25_Set_p1_code : Code := codeAt 26 (bodyOf Try.f47)
abbrev zq6y (β : Type) := Bool → Option β
abbrev zq6z (β : Type) := Unit → Option β
abbrev zq70 := {β : Type} → zq6y β → zq6z β → (List Int) → Int → Int → Option β
def zq71 : View := ⟨0, [0, 1, 5], [(false, [.data  (.slice (.int .i64))]), (false, [.data (.int .i64)]), (false, [.data (.int .i64)])], []⟩
def zq72 : List  (AExit × View) := [(.ret, ⟨0, [4], [(false, [.data .bool])], []⟩), (.exit 0, ⟨0, [], [], []⟩)]
@[reducible] def ref25_Set_p1_G (p : zq70) {β : Type} (d : zq71.den) (ks : Outs.K β zq72) : Option β :=
  p (fun a0 => ks.1 (((a0, ()), ()), ())) (fun _ => ks.2.1 ((), ())) d.1.1.1 d.1.2.1.1 d.1.2.2.1.1
section
@[reducible] def ref25_Set_X : Ctx := ⟨look tab, pick1 [], false, false, false, false⟩
def zq73 {β : Type} (rec : (List Int) → Int → Int → Option β) (k1 : zq6y β) (k2 : zq6z β) (l : List Int) (n i_ : Int) : Option β :=
  cond (decide (i_ < (List.length l : Int)))
  (cond (decide (0 ≤ i_) && decide (i_ < (List.length l : Int)))
  (let e : Int := List.getD l (Int.toNat i_) 0;
  cond (decide (e < 0))
  (k1 false)
  (cond (decide (0 ≤ i_) && decide (i_ < (List.length l : Int)))
  (let e2 : Int := List.getD l (Int.toNat i_) 0;
  cond (decide (n ≤ e2))
  (k1 false)
  (cond (decide (0 < i_))
  (cond (decide (0 ≤ (IntKind.i64.wrap (i_ - 1))) && decide ((IntKind.i64.wrap (i_ - 1)) < (List.length l : Int)))
  (let e3 : Int := List.getD l (Int.toNat (IntKind.i64.wrap (i_ - 1))) 0;
  cond (decide (0 ≤ i_) && decide (i_ < (List.length l : Int)))
  (let e4 : Int := List.getD l (Int.toNat i_) 0;
  cond (decide (e4 ≤ e3))
  (k1 false)
  (let i_2 : Int := (IntKind.i64.wrap (i_ + 1));
  rec l n i_2))
  none)
  none)
  (let i_2 : Int := (IntKind.i64.wrap (i_ + 1));
  rec l n i_2)))
  none))
  none)
  (k2 ())
def zq74 {β : Type} : Nat → zq6y β → zq6z β →  (List Int) → Int → Int → Option β
  | 0 => fun _ _ _ _ _ => none
  | i + 1 => fun k1 k2 l n i_ => zq73 (zq74 i k1 k2) k1 k2 l n i_
theorem zq75 (hΓ : ΓOk Try.prog ref25_Set_X.Γ) (i : Nat) : PieceOk Try.prog 41 0 ref25_Set_p1_code zq71 zq72 (ref25_Set_p1_G (zq74 i)) := by
  rw [show ref25_Set_p1_code = .loop (loopBody ref25_Set_p1_code) by kernel_rfl]
  exact piece_loop (X := ref25_Set_X) (p := 1) (Λ := pick1 []) (G := fun i => @fun β d ks => ref25_Set_p1_G (zq74 i) d ks) mixed tab_ok hΓ rfl (by kernel_rfl) CutsOk_nil (fun _ _ => rfl) (fun i => @fun β d ks r h => Eq.trans (b := ref25_Set_p1_G (zq74 (i + 1)) d ks) (by kernel_rfl) h) i
def zq76 (p1 : zq70) {β : Type} (l : List Int) (n : Int) (k : (Bool → Option β)) : Option β :=
  p1 (fun t4 =>
  k t4) (fun _ =>
  k true) l n 0
theorem zq77 (hΓ : ΓOk Try.prog ref25_Set_X.Γ) (p1 : zq70) (hp1 : PieceOk Try.prog 41 0 ref25_Set_p1_code zq71 zq72 (ref25_Set_p1_G p1)) : SpecOk Try.prog 47 (zq6x (zq76 p1)) :=
  spec_exec (X := ref25_Set_X) (Λ := pick1 [(26, pieceCut zq71 zq72 (ref25_Set_p1_G p1))]) (rs := [.tmp 4]) (c := bodyOf Try.f47) mixed tab_ok hΓ Try.func47 (by kernel_rfl) (by kernel_rfl) (by kernel_rfl) (by kernel_rfl) (CutsOk_cons (q := 26) (c' := ref25_Set_p1_code) (by kernel_rfl) rfl hp1 CutsOk_nil) (fun x k r h => Eq.trans (b := (zq6x (zq76 p1)).run x k) (by kernel_rfl) h)
end
theorem zq78Γ : ΓOk Try.prog (pick1 []) := ΓOk_nil
def zq79 (m : Nat) : zq70 := zq74 m
theorem zq7a {β : Type} (i : Nat) (k1 k2 l n i_) : (zq79 (i + 1) k1 k2 l n i_ : Option β) = zq73 (zq79 i k1 k2) k1 k2 l n i_ := rfl
def zq7b : zq70 := zq79 fuel
theorem zq7c : PieceOk Try.prog 41 0 ref25_Set_p1_code zq71 zq72 (ref25_Set_p1_G zq7b) := zq75 zq78Γ fuel
def zq7d : zq6w := zq76 zq7b
theorem zq7e : SpecOk Try.prog 47 (zq6x zq7d) := zq77 zq78Γ zq7b zq7c
abbrev zq7f := {β : Type} → zq4 → (Bool → Option β) → Option β
def zq7g (c : zq7f) : Spec :=
  ⟨[(true, [.data zq5])], [], [(false, [.data .bool])], [], fun x k => c x.1.1.1 (fun r0 => k (((r0, ()), ()), ()))⟩
noncomputable def ref37_lists_p1_code : Code := codeAt 26 (bodyOf Try.f48)
noncomputable def ref37_lists_p2_code : Code := codeAt 122 (bodyOf Try.f48)
noncomputable def ref37_lists_p3_code : Code := codeAt 1018 (bodyOf Try.f48)
abbrev zq7h (β : Type) := Bool → Option β
abbrev zq7i (β : Type) := Int → Int → Int → Int → (List UInt8) → Int → Int → Int → (List Int) → (List zq0) → (List zq2) → (List Int) → (List (Int × (Int × Int))) → Int → Option β
abbrev zq7j := {β : Type} → zq7h β → zq7i β → Int → Int → Int → Int → Int → (List UInt8) → Int → Int → Int → (List Int) → (List zq0) → (List zq2) → (List Int) → (List (Int × (Int × Int))) → Int → Option β
def zq7k : View := ⟨0, [1, 3], [(false, [.ptr 0 0]),  (false, [.data (.int .i64)])], [.cells 32 [.data (.int .i64), .data (.int .i64), .data (.int .i64), .data (.int .i64), .data .str, .data (.int .i64), .data (.int .i64), .data (.int .i64), .data (.slice (.int .i64)), .data (.slice zq1), .data (.slice zq3), .data (.slice (.int .i64)), .data (.slice (.prod (.int .i64) (.prod (.int .i64) (.int .i64)))), .data (.int .i64)]]⟩
def zq7l : List  (AExit × View) := [(.ret, ⟨0, [2], [(false, [.data .bool])], []⟩), (.exit 0, ⟨0, [1], [(false, [.ptr 0 0])], [.cells 32 [.data (.int .i64), .data (.int .i64), .data (.int .i64), .data (.int .i64), .data .str, .data (.int .i64), .data (.int .i64), .data (.int .i64), .data (.slice (.int .i64)), .data (.slice zq1), .data (.slice zq3), .data (.slice (.int .i64)), .data (.slice (.prod (.int .i64) (.prod (.int .i64) (.int .i64)))), .data (.int .i64)]]⟩)]
@[reducible] def ref37_lists_p1_G (p : zq7j) {β : Type} (d : zq7k.den) (ks : Outs.K β zq7l) : Option β :=
  p (fun a0 => ks.1 (((a0, ()), ()), ())) (fun a0 a1 a2 a3 a4 a5 a6 a7 a8 a9 a10 a11 a12 a13 => ks.2.1 (((), ()), ((a0, a1, a2, a3, a4, a5, a6, a7, a8, a9, a10, a11, a12, a13, ()), ()))) d.1.2.1.1 d.2.1.1 d.2.1.2.1 d.2.1.2.2.1 d.2.1.2.2.2.1 d.2.1.2.2.2.2.1 d.2.1.2.2.2.2.2.1 d.2.1.2.2.2.2.2.2.1 d.2.1.2.2.2.2.2.2.2.1 d.2.1.2.2.2.2.2.2.2.2.1 d.2.1.2.2.2.2.2.2.2.2.2.1 d.2.1.2.2.2.2.2.2.2.2.2.2.1 d.2.1.2.2.2.2.2.2.2.2.2.2.2.1 d.2.1.2.2.2.2.2.2.2.2.2.2.2.2.1 d.2.1.2.2.2.2.2.2.2.2.2.2.2.2.2.1
abbrev zq7m (β : Type) := Bool → Option β
abbrev zq7n (β : Type) := Int → Int → Int → Int → (List UInt8) → Int → Int → Int → (List Int) → (List zq0) → (List zq2) → (List Int) → (List (Int × (Int × Int))) → Int → Option β
abbrev zq7o := {β : Type} → zq7m β → zq7n β → Int → Int → Int → Int → Int → Int → (List UInt8) → Int → Int → Int → (List Int) → (List zq0) → (List zq2) → (List Int) → (List (Int × (Int × Int))) → Int → Option β
def zq7p : View := ⟨0, [1, 5, 6], [(false, [.ptr 0 0]),  (false, [.data (.int .i64)]), (false, [.data (.int .i64)])], [.cells 32 [.data (.int .i64), .data (.int .i64), .data (.int .i64), .data (.int .i64), .data .str, .data (.int .i64), .data (.int .i64), .data (.int .i64), .data (.slice (.int .i64)), .data (.slice zq1), .data (.slice zq3), .data (.slice (.int .i64)), .data (.slice (.prod (.int .i64) (.prod (.int .i64) (.int .i64)))), .data (.int .i64)]]⟩
def zq7q : List  (AExit × View) := [(.ret, ⟨0, [2], [(false, [.data .bool])], []⟩), (.exit 2, ⟨0, [1], [(false, [.ptr 0 0])], [.cells 32 [.data (.int .i64), .data (.int .i64), .data (.int .i64), .data (.int .i64), .data .str, .data (.int .i64), .data (.int .i64), .data (.int .i64), .data (.slice (.int .i64)), .data (.slice zq1), .data (.slice zq3), .data (.slice (.int .i64)), .data (.slice (.prod (.int .i64) (.prod (.int .i64) (.int .i64)))), .data (.int .i64)]]⟩)]
@[reducible] def ref37_lists_p2_G (p : zq7o) {β : Type} (d : zq7p.den) (ks : Outs.K β zq7q) : Option β :=
  p (fun a0 => ks.1 (((a0, ()), ()), ())) (fun a0 a1 a2 a3 a4 a5 a6 a7 a8 a9 a10 a11 a12 a13 => ks.2.1 (((), ()), ((a0, a1, a2, a3, a4, a5, a6, a7, a8, a9, a10, a11, a12, a13, ()), ()))) d.1.2.1.1 d.1.2.2.1.1 d.2.1.1 d.2.1.2.1 d.2.1.2.2.1 d.2.1.2.2.2.1 d.2.1.2.2.2.2.1 d.2.1.2.2.2.2.2.1 d.2.1.2.2.2.2.2.2.1 d.2.1.2.2.2.2.2.2.2.1 d.2.1.2.2.2.2.2.2.2.2.1 d.2.1.2.2.2.2.2.2.2.2.2.1 d.2.1.2.2.2.2.2.2.2.2.2.2.1 d.2.1.2.2.2.2.2.2.2.2.2.2.2.1 d.2.1.2.2.2.2.2.2.2.2.2.2.2.2.1 d.2.1.2.2.2.2.2.2.2.2.2.2.2.2.2.1
abbrev zq7r (β : Type) := Bool → Option β
abbrev zq7s (β : Type) := Int → Int → Int → Int → Int → (List UInt8) → Int → Int → Int → (List Int) → (List zq0) → (List zq2) → (List Int) → (List (Int × (Int × Int))) → Int → Option β
abbrev zq7t := {β : Type} → zq7r β → zq7s β → Int → Int → Int → Int → Int → Int → Int → (List UInt8) → Int → Int → Int → (List Int) → (List zq0) → (List zq2) → (List Int) → (List (Int × (Int × Int))) → Int → Option β
def zq7u : View := ⟨0, [1, 5, 8, 9], [(false, [.ptr 0 0]),  (false, [.data (.int .i64)]), (false, [.data (.int .i64)]), (false, [.data (.int .i64)])], [.cells 32 [.data (.int .i64), .data (.int .i64), .data (.int .i64), .data (.int .i64), .data .str, .data (.int .i64), .data (.int .i64), .data (.int .i64), .data (.slice (.int .i64)), .data (.slice zq1), .data (.slice zq3), .data (.slice (.int .i64)), .data (.slice (.prod (.int .i64) (.prod (.int .i64) (.int .i64)))), .data (.int .i64)]]⟩
def zq7v : List  (AExit × View) := [(.ret, ⟨0, [2], [(false, [.data .bool])], []⟩), (.exit 4, ⟨0, [1, 8], [(false, [.ptr 0 0]), (false, [.data (.int .i64)])], [.cells 32 [.data (.int .i64), .data (.int .i64), .data (.int .i64), .data (.int .i64), .data .str, .data (.int .i64), .data (.int .i64), .data (.int .i64), .data (.slice (.int .i64)), .data (.slice zq1), .data (.slice zq3), .data (.slice (.int .i64)), .data (.slice (.prod (.int .i64) (.prod (.int .i64) (.int .i64)))), .data (.int .i64)]]⟩)]
@[reducible] def ref37_lists_p3_G (p : zq7t) {β : Type} (d : zq7u.den) (ks : Outs.K β zq7v) : Option β :=
  p (fun a0 => ks.1 (((a0, ()), ()), ())) (fun a0 a1 a2 a3 a4 a5 a6 a7 a8 a9 a10 a11 a12 a13 a14 => ks.2.1 (((), (a0, ()), ()), ((a1, a2, a3, a4, a5, a6, a7, a8, a9, a10, a11, a12, a13, a14, ()), ()))) d.1.2.1.1 d.1.2.2.1.1 d.1.2.2.2.1.1 d.2.1.1 d.2.1.2.1 d.2.1.2.2.1 d.2.1.2.2.2.1 d.2.1.2.2.2.2.1 d.2.1.2.2.2.2.2.1 d.2.1.2.2.2.2.2.2.1 d.2.1.2.2.2.2.2.2.2.1 d.2.1.2.2.2.2.2.2.2.2.1 d.2.1.2.2.2.2.2.2.2.2.2.1 d.2.1.2.2.2.2.2.2.2.2.2.2.1 d.2.1.2.2.2.2.2.2.2.2.2.2.2.1 d.2.1.2.2.2.2.2.2.2.2.2.2.2.2.1 d.2.1.2.2.2.2.2.2.2.2.2.2.2.2.2.1
section
variable (c_ref25_In : zq3v) (c_ref25_Set : zq6w) (c_ref37_Text : zq6d) (c_ref37_person : zq4i) (c_ref37_state : zq66)
@[reducible] def ref37_lists_X : Ctx := ⟨look tab, pick1 [(39, .spec (zq3w c_ref25_In)), (47, .spec (zq6x c_ref25_Set)), (46, .spec (zq6e c_ref37_Text)), (41, .spec (zq4j c_ref37_person)), (45, .spec (zq67 c_ref37_state))], false, false, false, false⟩
def zq7w {β : Type} (rec : Int → Int → Int → Int → Int → (List UInt8) → Int → Int → Int → (List Int) → (List zq0) → (List zq2) → (List Int) → (List (Int × (Int × Int))) → Int → Option β) (k1 : zq7h β) (k2 : zq7i β) (i_ x x2 x3 x4 : Int) (x5 : List UInt8) (x6 x7 x8 : Int) (x9 : List Int) (x10 : List zq0) (x11 : List zq2) (x12 : List Int) (x13 : List (Int × (Int × Int))) (x14 : Int) : Option β :=
  cond (decide (i_ < (List.length x10 : Int)))
  (cond (decide (0 ≤ i_) && decide (i_ < (List.length x10 : Int)))
  (let e : zq0 := List.getD x10 (Int.toNat i_) (([] : List UInt8), (0, (0, 0)));
  c_ref37_Text e.1 (fun rText =>
  cond (!rText)
  (k1 false)
  (c_ref37_person e.2.1 true (fun rperson =>
  cond (!rperson)
  (k1 false)
  (c_ref25_In e.2.2.1 x4 8589934592 (fun rIn =>
  cond (!rIn)
  (k1 false)
  (cond (!decide (e.2.2.2 = (-1)))
  (c_ref25_In e.2.2.2 e.2.2.1 8589934592 (fun rIn2 =>
  cond (!rIn2)
  (k1 false)
  (let i_2 : Int := (IntKind.i64.wrap (i_ + 1));
  rec i_2 x x2 x3 x4 x5 x6 x7 x8 x9 x10 x11 x12 x13 x14)))
  (let i_2 : Int := (IntKind.i64.wrap (i_ + 1));
  rec i_2 x x2 x3 x4 x5 x6 x7 x8 x9 x10 x11 x12 x13 x14))))))))
  none)
  (k2 x x2 x3 x4 x5 x6 x7 x8 x9 x10 x11 x12 x13 x14)
def zq7x {β : Type} : Nat → zq7h β → zq7i β → Int → Int → Int → Int → Int →  (List UInt8) → Int → Int → Int → (List Int) → (List zq0) → (List zq2) → (List Int) → (List (Int × (Int × Int))) → Int → Option β
  | 0 => fun _ _ _ _ _ _ _ _ _ _ _ _ _ _ _ _ _ => none
  | i + 1 => fun k1 k2 i_ x x2 x3 x4 x5 x6 x7 x8 x9 x10 x11 x12 x13 x14 => zq7w c_ref25_In c_ref37_Text c_ref37_person (zq7x i k1 k2) k1 k2 i_ x x2 x3 x4 x5 x6 x7 x8 x9 x10 x11 x12 x13 x14
theorem zq7y (hΓ : ΓOk Try.prog (ref37_lists_X c_ref25_In c_ref25_Set c_ref37_Text c_ref37_person c_ref37_state).Γ) (i : Nat) : PieceOk Try.prog 138 0 ref37_lists_p1_code zq7k zq7l (ref37_lists_p1_G (zq7x c_ref25_In c_ref37_Text c_ref37_person i)) := by
  rw [show ref37_lists_p1_code = .loop (loopBody ref37_lists_p1_code) by kernel_rfl]
  exact piece_loop (X := (ref37_lists_X c_ref25_In c_ref25_Set c_ref37_Text c_ref37_person c_ref37_state)) (p := 1) (Λ := pick1 []) (G := fun i => @fun β d ks => ref37_lists_p1_G (zq7x c_ref25_In c_ref37_Text c_ref37_person i) d ks) mixed tab_ok hΓ rfl (by kernel_rfl) CutsOk_nil (fun _ _ => rfl) (fun i => @fun β d ks r h => Eq.trans (b := ref37_lists_p1_G (zq7x c_ref25_In c_ref37_Text c_ref37_person (i + 1)) d ks) (by kernel_rfl) h) i
def zq7z {β : Type} (rec : Int → Int → Int → Int → Int → Int → (List UInt8) → Int → Int → Int → (List Int) → (List zq0) → (List zq2) → (List Int) → (List (Int × (Int × Int))) → Int → Option β) (k1 : zq7m β) (k2 : zq7n β) (at_ i_ x x2 x3 x4 : Int) (x5 : List UInt8) (x6 x7 x8 : Int) (x9 : List Int) (x10 : List zq0) (x11 : List zq2) (x12 : List Int) (x13 : List (Int × (Int × Int))) (x14 : Int) : Option β :=
  cond (decide (i_ < (List.length x11 : Int)))
  (cond (decide (0 ≤ i_) && decide (i_ < (List.length x11 : Int)))
  (let e : zq2 := List.getD x11 (Int.toNat i_) (0, (0, (([] : List UInt8), ([] : List Int))));
  c_ref37_Text e.2.2.1 (fun rText =>
  cond (!rText)
  (k1 false)
  (c_ref37_state e.2.1 (fun rstate =>
  cond (!rstate)
  (k1 false)
  (c_ref25_Set e.2.2.2 32 (fun rSet =>
  cond (!rSet)
  (k1 false)
  (c_ref25_In e.1 at_ 8589934592 (fun rIn =>
  cond (!rIn)
  (k1 false)
  (let i_2 : Int := (IntKind.i64.wrap (i_ + 1));
  rec e.1 i_2 x x2 x3 x4 x5 x6 x7 x8 x9 x10 x11 x12 x13 x14)))))))))
  none)
  (k2 x x2 x3 x4 x5 x6 x7 x8 x9 x10 x11 x12 x13 x14)
def zq80 {β : Type} : Nat → zq7m β → zq7n β → Int → Int → Int → Int → Int → Int →  (List UInt8) → Int → Int → Int → (List Int) → (List zq0) → (List zq2) → (List Int) → (List (Int × (Int × Int))) → Int → Option β
  | 0 => fun _ _ _ _ _ _ _ _ _ _ _ _ _ _ _ _ _ _ => none
  | i + 1 => fun k1 k2 at_ i_ x x2 x3 x4 x5 x6 x7 x8 x9 x10 x11 x12 x13 x14 => zq7z c_ref25_In c_ref25_Set c_ref37_Text c_ref37_state (zq80 i k1 k2) k1 k2 at_ i_ x x2 x3 x4 x5 x6 x7 x8 x9 x10 x11 x12 x13 x14
theorem zq81 (hΓ : ΓOk Try.prog (ref37_lists_X c_ref25_In c_ref25_Set c_ref37_Text c_ref37_person c_ref37_state).Γ) (i : Nat) : PieceOk Try.prog 138 0 ref37_lists_p2_code zq7p zq7q (ref37_lists_p2_G (zq80 c_ref25_In c_ref25_Set c_ref37_Text c_ref37_state i)) := by
  rw [show ref37_lists_p2_code = .loop (loopBody ref37_lists_p2_code) by kernel_rfl]
  exact piece_loop (X := (ref37_lists_X c_ref25_In c_ref25_Set c_ref37_Text c_ref37_person c_ref37_state)) (p := 1) (Λ := pick1 []) (G := fun i => @fun β d ks => ref37_lists_p2_G (zq80 c_ref25_In c_ref25_Set c_ref37_Text c_ref37_state i) d ks) mixed tab_ok hΓ rfl (by kernel_rfl) CutsOk_nil (fun _ _ => rfl) (fun i => @fun β d ks r h => Eq.trans (b := ref37_lists_p2_G (zq80 c_ref25_In c_ref25_Set c_ref37_Text c_ref37_state (i + 1)) d ks) (by kernel_rfl) h) i
def zq82 {β : Type} (rec : Int → Int → Int → Int → Int → Int → Int → (List UInt8) → Int → Int → Int → (List Int) → (List zq0) → (List zq2) → (List Int) → (List (Int × (Int × Int))) → Int → Option β) (k1 : zq7r β) (k2 : zq7s β) (at_ now i_ x x2 x3 x4 : Int) (x5 : List UInt8) (x6 x7 x8 : Int) (x9 : List Int) (x10 : List zq0) (x11 : List zq2) (x12 : List Int) (x13 : List (Int × (Int × Int))) (x14 : Int) : Option β :=
  cond (decide (i_ < (List.length x13 : Int)))
  (cond (decide (0 ≤ i_) && decide (i_ < (List.length x13 : Int)))
  (let e : (Int × (Int × Int)) := List.getD x13 (Int.toNat i_) (0, (0, 0));
  c_ref37_state e.2.1 (fun rstate =>
  cond (!rstate)
  (k1 false)
  (cond (decide (e.2.1 = now))
  (k1 false)
  (c_ref37_person e.2.2 true (fun rperson =>
  cond (!rperson)
  (k1 false)
  (c_ref25_In e.1 at_ 8589934592 (fun rIn =>
  cond (!rIn)
  (k1 false)
  (let i_2 : Int := (IntKind.i64.wrap (i_ + 1));
  rec e.1 e.2.1 i_2 x x2 x3 x4 x5 x6 x7 x8 x9 x10 x11 x12 x13 x14))))))))
  none)
  (k2 now x x2 x3 x4 x5 x6 x7 x8 x9 x10 x11 x12 x13 x14)
def zq83 {β : Type} : Nat → zq7r β → zq7s β → Int → Int → Int → Int → Int → Int → Int →  (List UInt8) → Int → Int → Int → (List Int) → (List zq0) → (List zq2) → (List Int) → (List (Int × (Int × Int))) → Int → Option β
  | 0 => fun _ _ _ _ _ _ _ _ _ _ _ _ _ _ _ _ _ _ _ => none
  | i + 1 => fun k1 k2 at_ now i_ x x2 x3 x4 x5 x6 x7 x8 x9 x10 x11 x12 x13 x14 => zq82 c_ref25_In c_ref37_person c_ref37_state (zq83 i k1 k2) k1 k2 at_ now i_ x x2 x3 x4 x5 x6 x7 x8 x9 x10 x11 x12 x13 x14
theorem zq84 (hΓ : ΓOk Try.prog (ref37_lists_X c_ref25_In c_ref25_Set c_ref37_Text c_ref37_person c_ref37_state).Γ) (i : Nat) : PieceOk Try.prog 138 0 ref37_lists_p3_code zq7u zq7v (ref37_lists_p3_G (zq83 c_ref25_In c_ref37_person c_ref37_state i)) := by
  rw [show ref37_lists_p3_code = .loop (loopBody ref37_lists_p3_code) by kernel_rfl]
  exact piece_loop (X := (ref37_lists_X c_ref25_In c_ref25_Set c_ref37_Text c_ref37_person c_ref37_state)) (p := 1) (Λ := pick1 []) (G := fun i => @fun β d ks => ref37_lists_p3_G (zq83 c_ref25_In c_ref37_person c_ref37_state i) d ks) mixed tab_ok hΓ rfl (by kernel_rfl) CutsOk_nil (fun _ _ => rfl) (fun i => @fun β d ks r h => Eq.trans (b := ref37_lists_p3_G (zq83 c_ref25_In c_ref37_person c_ref37_state (i + 1)) d ks) (by kernel_rfl) h) i
def zq85 (p1 : zq7j) (p2 : zq7o) (p3 : zq7t) {β : Type} (x : zq4) (k : (Bool → Option β)) : Option β :=
  p1 (fun t2 =>
  k t2) (fun x2 x3 x4 x5 x6 x7 x8 x9 x10 x11 x12 x13 x14 x15 =>
  p2 (fun t2 =>
  k t2) (fun x16 x17 x18 x19 x20 x21 x22 x23 x24 x25 x26 x27 x28 x29 =>
  p3 (fun t2 =>
  k t2) (fun now x30 x31 x32 x33 x34 x35 x36 x37 x38 x39 x40 x41 x42 x43 =>
  k (decide (now = x31))) x19 0 0 x16 x17 x18 x19 x20 x21 x22 x23 x24 x25 x26 x27 x28 x29) x5 0 x2 x3 x4 x5 x6 x7 x8 x9 x10 x11 x12 x13 x14 x15) 0 x.1 x.2.1 x.2.2.1 x.2.2.2.1 x.2.2.2.2.1 x.2.2.2.2.2.1.1 x.2.2.2.2.2.1.2.1 x.2.2.2.2.2.1.2.2 x.2.2.2.2.2.2.1 x.2.2.2.2.2.2.2.1 x.2.2.2.2.2.2.2.2.1 x.2.2.2.2.2.2.2.2.2.1 x.2.2.2.2.2.2.2.2.2.2.1 x.2.2.2.2.2.2.2.2.2.2.2
theorem zq86 (hΓ : ΓOk Try.prog (ref37_lists_X c_ref25_In c_ref25_Set c_ref37_Text c_ref37_person c_ref37_state).Γ) (p1 : zq7j) (p2 : zq7o) (p3 : zq7t) (hp1 : PieceOk Try.prog 138 0 ref37_lists_p1_code zq7k zq7l (ref37_lists_p1_G p1)) (hp2 : PieceOk Try.prog 138 0 ref37_lists_p2_code zq7p zq7q (ref37_lists_p2_G p2)) (hp3 : PieceOk Try.prog 138 0 ref37_lists_p3_code zq7u zq7v (ref37_lists_p3_G p3)) : SpecOk Try.prog 48 (zq7g (zq85 p1 p2 p3)) :=
  spec_exec (X := (ref37_lists_X c_ref25_In c_ref25_Set c_ref37_Text c_ref37_person c_ref37_state)) (Λ := pick1 [(26, pieceCut zq7k zq7l (ref37_lists_p1_G p1)), (122, pieceCut zq7p zq7q (ref37_lists_p2_G p2)), (1018, pieceCut zq7u zq7v (ref37_lists_p3_G p3))]) (rs := [.tmp 2]) (c := bodyOf Try.f48) mixed tab_ok hΓ Try.func48 (by kernel_rfl) (by kernel_rfl) (by kernel_rfl) (by kernel_rfl) (CutsOk_cons (q := 26) (c' := ref37_lists_p1_code) (by kernel_rfl) rfl hp1 (CutsOk_cons (q := 122) (c' := ref37_lists_p2_code) (by kernel_rfl) rfl hp2 (CutsOk_cons (q := 1018) (c' := ref37_lists_p3_code) (by kernel_rfl) rfl hp3 CutsOk_nil))) (fun x k r h => Eq.trans (b := (zq7g (zq85 p1 p2 p3)).run x k) (by kernel_rfl) h)
end
theorem zq87Γ : ΓOk Try.prog (pick1 [(39, .spec (zq3w zq40)), (47, .spec (zq6x zq7d)), (46, .spec (zq6e zq6u)), (41, .spec (zq4j zq4n)), (45, .spec (zq67 zq6b))]) := (ΓOk_cons zq41 (ΓOk_cons zq7e (ΓOk_cons zq6v (ΓOk_cons zq4o (ΓOk_cons zq6c ΓOk_nil)))))
def zq88 (m : Nat) : zq7j := zq7x zq40 zq6u zq4n m
theorem zq89 {β : Type} (i : Nat) (k1 k2 i_ x x2 x3 x4 x5 x6 x7 x8 x9 x10 x11 x12 x13 x14) : (zq88 (i + 1) k1 k2 i_ x x2 x3 x4 x5 x6 x7 x8 x9 x10 x11 x12 x13 x14 : Option β) = zq7w zq40 zq6u zq4n (zq88 i k1 k2) k1 k2 i_ x x2 x3 x4 x5 x6 x7 x8 x9 x10 x11 x12 x13 x14 := rfl
def zq8a : zq7j := zq88 fuel
theorem zq8b : PieceOk Try.prog 138 0 ref37_lists_p1_code zq7k zq7l (ref37_lists_p1_G zq8a) := zq7y zq40 zq7d zq6u zq4n zq6b zq87Γ fuel
def zq8c (m : Nat) : zq7o := zq80 zq40 zq7d zq6u zq6b m
theorem zq8d {β : Type} (i : Nat) (k1 k2 at_ i_ x x2 x3 x4 x5 x6 x7 x8 x9 x10 x11 x12 x13 x14) : (zq8c (i + 1) k1 k2 at_ i_ x x2 x3 x4 x5 x6 x7 x8 x9 x10 x11 x12 x13 x14 : Option β) = zq7z zq40 zq7d zq6u zq6b (zq8c i k1 k2) k1 k2 at_ i_ x x2 x3 x4 x5 x6 x7 x8 x9 x10 x11 x12 x13 x14 := rfl
def zq8e : zq7o := zq8c fuel
theorem zq8f : PieceOk Try.prog 138 0 ref37_lists_p2_code zq7p zq7q (ref37_lists_p2_G zq8e) := zq81 zq40 zq7d zq6u zq4n zq6b zq87Γ fuel
def zq8g (m : Nat) : zq7t := zq83 zq40 zq4n zq6b m
theorem zq8h {β : Type} (i : Nat) (k1 k2 at_ now i_ x x2 x3 x4 x5 x6 x7 x8 x9 x10 x11 x12 x13 x14) : (zq8g (i + 1) k1 k2 at_ now i_ x x2 x3 x4 x5 x6 x7 x8 x9 x10 x11 x12 x13 x14 : Option β) = zq82 zq40 zq4n zq6b (zq8g i k1 k2) k1 k2 at_ now i_ x x2 x3 x4 x5 x6 x7 x8 x9 x10 x11 x12 x13 x14 := rfl
def zq8i : zq7t := zq8g fuel
theorem zq8j : PieceOk Try.prog 138 0 ref37_lists_p3_code zq7u zq7v (ref37_lists_p3_G zq8i) := zq84 zq40 zq7d zq6u zq4n zq6b zq87Γ fuel
def zq8k : zq7f := zq85 zq8a zq8e zq8i
theorem zq8l : SpecOk Try.prog 48 (zq7g zq8k) := zq86 zq40 zq7d zq6u zq4n zq6b zq87Γ zq8a zq8e zq8i zq8b zq8f zq8j
abbrev zq8m := {β : Type} → Int → (Bool → Option β) → Option β
def zq8n (c : zq8m) : Spec :=
  ⟨[(false, [.data (.int .i64)])], [], [(false, [.data .bool])], [], fun x k => c x.1.1.1 (fun r0 => k (((r0, ()), ()), ()))⟩
section
variable (c_incident_in : zq2o)
@[reducible] def incident_number_X : Ctx := ⟨look tab, pick1 [(33, .spec (zq2p c_incident_in))], false, false, false, false⟩
def zq8o {β : Type} (n : Int) (k : (Bool → Option β)) : Option β :=
  c_incident_in n 1 999999 (fun rin =>
  k rin)
theorem zq8p (hΓ : ΓOk Try.prog (incident_number_X c_incident_in).Γ) : SpecOk Try.prog 50 (zq8n (zq8o c_incident_in)) :=
  spec_exec (X := (incident_number_X c_incident_in)) (Λ := pick1 []) (rs := [.tmp 2]) (c := bodyOf Try.f50) mixed tab_ok hΓ Try.func50 (by kernel_rfl) (by kernel_rfl) (by kernel_rfl) (by kernel_rfl) CutsOk_nil (fun x k r h => Eq.trans (b := (zq8n (zq8o c_incident_in)).run x k) (by kernel_rfl) h)
end
theorem zq8qΓ : ΓOk Try.prog (pick1 [(33, .spec (zq2p zq2t))]) := (ΓOk_cons zq2u ΓOk_nil)
def zq8r : zq8m := zq8o zq2t
theorem zq8s : SpecOk Try.prog 50 (zq8n zq8r) := zq8p zq2t zq8qΓ
abbrev zq8t := {β : Type} → (List UInt8) → (Bool → Option β) → Option β
def zq8u (c : zq8t) : Spec :=
  ⟨[(false, [.data .str])], [], [(false, [.data .bool])], [], fun x k => c x.1.1.1 (fun r0 => k (((r0, ()), ()), ()))⟩
noncomputable def incident_Text_p1_code : Code := codeAt 26 (bodyOf Try.f51)
abbrev zq8v (β : Type) := Bool → Option β
abbrev zq8w (β : Type) := (List UInt8) → Option β
abbrev zq8x := {β : Type} → zq8v β → zq8w β → (List UInt8) → Int → Int → Option β
def zq8y : View := ⟨0, [0, 5, 6], [(false, [.data .str]),  (false, [.data (.int .i64)]), (false, [.data (.int .i64)])], []⟩
def zq8z : List  (AExit × View) := [(.ret, ⟨0, [2], [(false, [.data .bool])], []⟩), (.exit 0, ⟨0, [0], [(false, [.data .str])], []⟩)]
@[reducible] def incident_Text_p1_G (p : zq8x) {β : Type} (d : zq8y.den) (ks : Outs.K β zq8z) : Option β :=
  p (fun a0 => ks.1 (((a0, ()), ()), ())) (fun a0 => ks.2.1 (((a0, ()), ()), ())) d.1.1.1 d.1.2.1.1 d.1.2.2.1.1
section
variable (c_incident_in : zq2o)
@[reducible] def incident_Text_X : Ctx := ⟨look tab, pick1 [(33, .spec (zq2p c_incident_in))], false, false, false, false⟩
def zq90 {β : Type} (rec : (List UInt8) → Int → Int → Option β) (k1 : zq8v β) (k2 : zq8w β) (s : List UInt8) (t5 t6 : Int) : Option β :=
  cond (decide (t6 < t5))
  (cond (decide (0 ≤ t6) && decide (t6 < (List.length s : Int)))
  (c_incident_in (IntKind.i64.wrap ((List.getD s (Int.toNat t6) 0).toNat : Int)) 32 126 (fun rin =>
  cond (!rin)
  (k1 false)
  (rec s t5 (IntKind.i64.wrap (t6 + 1)))))
  none)
  (k2 s)
def zq91 {β : Type} : Nat → zq8v β → zq8w β →  (List UInt8) → Int → Int → Option β
  | 0 => fun _ _ _ _ _ => none
  | i + 1 => fun k1 k2 s t5 t6 => zq90 c_incident_in (zq91 i k1 k2) k1 k2 s t5 t6
theorem zq92 (hΓ : ΓOk Try.prog (incident_Text_X c_incident_in).Γ) (i : Nat) : PieceOk Try.prog 19 0 incident_Text_p1_code zq8y zq8z (incident_Text_p1_G (zq91 c_incident_in i)) := by
  rw [show incident_Text_p1_code = .loop (loopBody incident_Text_p1_code) by kernel_rfl]
  exact piece_loop (X := (incident_Text_X c_incident_in)) (p := 1) (Λ := pick1 []) (G := fun i => @fun β d ks => incident_Text_p1_G (zq91 c_incident_in i) d ks) mixed tab_ok hΓ rfl (by kernel_rfl) CutsOk_nil (fun _ _ => rfl) (fun i => @fun β d ks r h => Eq.trans (b := incident_Text_p1_G (zq91 c_incident_in (i + 1)) d ks) (by kernel_rfl) h) i
def zq93 (p1 : zq8x) {β : Type} (s : List UInt8) (k : (Bool → Option β)) : Option β :=
  p1 (fun t2 =>
  k t2) (fun s2 =>
  c_incident_in (List.length s2 : Int) 1 512 (fun rin =>
  k rin)) s (List.length s : Int) 0
theorem zq94 (hΓ : ΓOk Try.prog (incident_Text_X c_incident_in).Γ) (p1 : zq8x) (hp1 : PieceOk Try.prog 19 0 incident_Text_p1_code zq8y zq8z (incident_Text_p1_G p1)) : SpecOk Try.prog 51 (zq8u (zq93 c_incident_in p1)) :=
  spec_exec (X := (incident_Text_X c_incident_in)) (Λ := pick1 [(26, pieceCut zq8y zq8z (incident_Text_p1_G p1))]) (rs := [.tmp 2]) (c := bodyOf Try.f51) mixed tab_ok hΓ Try.func51 (by kernel_rfl) (by kernel_rfl) (by kernel_rfl) (by kernel_rfl) (CutsOk_cons (q := 26) (c' := incident_Text_p1_code) (by kernel_rfl) rfl hp1 CutsOk_nil) (fun x k r h => Eq.trans (b := (zq8u (zq93 c_incident_in p1)).run x k) (by kernel_rfl) h)
end
theorem zq95Γ : ΓOk Try.prog (pick1 [(33, .spec (zq2p zq2t))]) := (ΓOk_cons zq2u ΓOk_nil)
def zq96 (m : Nat) : zq8x := zq91 zq2t m
theorem zq97 {β : Type} (i : Nat) (k1 k2 s t5 t6) : (zq96 (i + 1) k1 k2 s t5 t6 : Option β) = zq90 zq2t (zq96 i k1 k2) k1 k2 s t5 t6 := rfl
def zq98 : zq8x := zq96 fuel
theorem zq99 : PieceOk Try.prog 19 0 incident_Text_p1_code zq8y zq8z (incident_Text_p1_G zq98) := zq92 zq2t zq95Γ fuel
def zq9a : zq8t := zq93 zq2t zq98
theorem zq9b : SpecOk Try.prog 51 (zq8u zq9a) := zq94 zq2t zq95Γ zq98 zq99
abbrev zq9c := {β : Type} → (List Int) → Int → Int → (Bool → Option β) → Option β
def zq9d (c : zq9c) : Spec :=
  ⟨[(false, [.data (.slice (.int .i64))]), (false, [.data (.int .i64)]), (false, [.data (.int .i64)])], [], [(false, [.data .bool])], [], fun x k => c x.1.1.1 x.1.2.1.1 x.1.2.2.1.1 (fun r0 => k (((r0, ()), ()), ()))⟩
noncomputable def incident_set_p1_code : Code := codeAt 26 (bodyOf Try.f52)
abbrev zq9e (β : Type) := Bool → Option β
abbrev zq9f (β : Type) := Unit → Option β
abbrev zq9g := {β : Type} → zq9e β → zq9f β → (List Int) → Int → Int → (List Int) → Int → Int → Option β
def zq9h : View := ⟨0, [0, 1, 2, 9, 10, 11], [(false, [.data  (.slice (.int .i64))]), (false, [.data (.int .i64)]), (false, [.data (.int .i64)]), (false, [.data (.slice (.int .i64))]), (false, [.data (.int .i64)]), (false, [.data (.int .i64)])], []⟩
def zq9i : List  (AExit × View) := [(.ret, ⟨0, [6], [(false, [.data .bool])], []⟩), (.exit 0, ⟨0, [], [], []⟩)]
@[reducible] def incident_set_p1_G (p : zq9g) {β : Type} (d : zq9h.den) (ks : Outs.K β zq9i) : Option β :=
  p (fun a0 => ks.1 (((a0, ()), ()), ())) (fun _ => ks.2.1 ((), ())) d.1.1.1 d.1.2.1.1 d.1.2.2.1.1 d.1.2.2.2.1.1 d.1.2.2.2.2.1.1 d.1.2.2.2.2.2.1.1
section
variable (c_incident_in : zq2o)
@[reducible] def incident_set_X : Ctx := ⟨look tab, pick1 [(33, .spec (zq2p c_incident_in))], false, false, false, false⟩
def zq9j {β : Type} (rec : (List Int) → Int → Int → (List Int) → Int → Int → Option β) (k1 : zq9e β) (k2 : zq9f β) (l : List Int) (low high : Int) (t9 : List Int) (t10 t11 : Int) : Option β :=
  cond (decide (t11 < t10))
  (cond (decide (0 ≤ t11) && decide (t11 < (List.length t9 : Int)))
  (let e : Int := List.getD t9 (Int.toNat t11) 0;
  c_incident_in e low high (fun rin =>
  cond (!rin)
  (k1 false)
  (cond (decide (0 < t11))
  (cond (decide (0 ≤ (IntKind.i64.wrap (t11 - 1))) && decide ((IntKind.i64.wrap (t11 - 1)) < (List.length l : Int)))
  (let e2 : Int := List.getD l (Int.toNat (IntKind.i64.wrap (t11 - 1))) 0;
  cond (decide (e ≤ e2))
  (k1 false)
  (rec l low high t9 t10 (IntKind.i64.wrap (t11 + 1))))
  none)
  (rec l low high t9 t10 (IntKind.i64.wrap (t11 + 1))))))
  none)
  (k2 ())
def zq9k {β : Type} : Nat → zq9e β → zq9f β →  (List Int) → Int → Int → (List Int) → Int → Int → Option β
  | 0 => fun _ _ _ _ _ _ _ _ => none
  | i + 1 => fun k1 k2 l low high t9 t10 t11 => zq9j c_incident_in (zq9k i k1 k2) k1 k2 l low high t9 t10 t11
theorem zq9l (hΓ : ΓOk Try.prog (incident_set_X c_incident_in).Γ) (i : Nat) : PieceOk Try.prog 35 0 incident_set_p1_code zq9h zq9i (incident_set_p1_G (zq9k c_incident_in i)) := by
  rw [show incident_set_p1_code = .loop (loopBody incident_set_p1_code) by kernel_rfl]
  exact piece_loop (X := (incident_set_X c_incident_in)) (p := 1) (Λ := pick1 []) (G := fun i => @fun β d ks => incident_set_p1_G (zq9k c_incident_in i) d ks) mixed tab_ok hΓ rfl (by kernel_rfl) CutsOk_nil (fun _ _ => rfl) (fun i => @fun β d ks r h => Eq.trans (b := incident_set_p1_G (zq9k c_incident_in (i + 1)) d ks) (by kernel_rfl) h) i
def zq9m (p1 : zq9g) {β : Type} (l : List Int) (low : Int) (high : Int) (k : (Bool → Option β)) : Option β :=
  p1 (fun t6 =>
  k t6) (fun _ =>
  k true) l low high l (List.length l : Int) 0
theorem zq9n (hΓ : ΓOk Try.prog (incident_set_X c_incident_in).Γ) (p1 : zq9g) (hp1 : PieceOk Try.prog 35 0 incident_set_p1_code zq9h zq9i (incident_set_p1_G p1)) : SpecOk Try.prog 52 (zq9d (zq9m p1)) :=
  spec_exec (X := (incident_set_X c_incident_in)) (Λ := pick1 [(26, pieceCut zq9h zq9i (incident_set_p1_G p1))]) (rs := [.tmp 6]) (c := bodyOf Try.f52) mixed tab_ok hΓ Try.func52 (by kernel_rfl) (by kernel_rfl) (by kernel_rfl) (by kernel_rfl) (CutsOk_cons (q := 26) (c' := incident_set_p1_code) (by kernel_rfl) rfl hp1 CutsOk_nil) (fun x k r h => Eq.trans (b := (zq9d (zq9m p1)).run x k) (by kernel_rfl) h)
end
theorem zq9oΓ : ΓOk Try.prog (pick1 [(33, .spec (zq2p zq2t))]) := (ΓOk_cons zq2u ΓOk_nil)
def zq9p (m : Nat) : zq9g := zq9k zq2t m
theorem zq9q {β : Type} (i : Nat) (k1 k2 l low high t9 t10 t11) : (zq9p (i + 1) k1 k2 l low high t9 t10 t11 : Option β) = zq9j zq2t (zq9p i k1 k2) k1 k2 l low high t9 t10 t11 := rfl
def zq9r : zq9g := zq9p fuel
theorem zq9s : PieceOk Try.prog 35 0 incident_set_p1_code zq9h zq9i (incident_set_p1_G zq9r) := zq9l zq2t zq9oΓ fuel
def zq9t : zq9c := zq9m zq9r
theorem zq9u : SpecOk Try.prog 52 (zq9d zq9t) := zq9n zq2t zq9oΓ zq9r zq9s
abbrev zq9v := {β : Type} → (List Int) → (Bool → Option β) → Option β
def zq9w (c : zq9v) : Spec :=
  ⟨[(false, [.data (.slice (.int .i64))])], [], [(false, [.data .bool])], [], fun x k => c x.1.1.1 (fun r0 => k (((r0, ()), ()), ()))⟩
section
variable (c_incident_set : zq9c)
@[reducible] def incident_persons_X : Ctx := ⟨look tab, pick1 [(52, .spec (zq9d c_incident_set))], false, false, false, false⟩
def zq9x {β : Type} (l : List Int) (k : (Bool → Option β)) : Option β :=
  c_incident_set l 0 31 (fun rset =>
  k rset)
theorem zq9y (hΓ : ΓOk Try.prog (incident_persons_X c_incident_set).Γ) : SpecOk Try.prog 53 (zq9w (zq9x c_incident_set)) :=
  spec_exec (X := (incident_persons_X c_incident_set)) (Λ := pick1 []) (rs := [.tmp 2]) (c := bodyOf Try.f53) mixed tab_ok hΓ Try.func53 (by kernel_rfl) (by kernel_rfl) (by kernel_rfl) (by kernel_rfl) CutsOk_nil (fun x k r h => Eq.trans (b := (zq9w (zq9x c_incident_set)).run x k) (by kernel_rfl) h)
end
theorem zq9zΓ : ΓOk Try.prog (pick1 [(52, .spec (zq9d zq9t))]) := (ΓOk_cons zq9u ΓOk_nil)
def zqa0 : zq9v := zq9x zq9t
theorem zqa1 : SpecOk Try.prog 53 (zq9w zqa0) := zq9y zq9t zq9zΓ
abbrev zqa2 := {β : Type} → zq4 → (Bool → Option β) → Option β
def zqa3 (c : zqa2) : Spec :=
  ⟨[(true, [.data zq5])], [], [(false, [.data .bool])], [], fun x k => c x.1.1.1 (fun r0 => k (((r0, ()), ()), ()))⟩
noncomputable def incident_updates_p1_code : Code := codeAt 58 (bodyOf Try.f55)
abbrev zqa4 (β : Type) := Bool → Option β
abbrev zqa5 (β : Type) := Int → Int → Int → Int → (List UInt8) → Int → Int → Int → (List Int) → (List zq0) → (List zq2) → (List Int) → (List (Int × (Int × Int))) → Int → Option β
abbrev zqa6 := {β : Type} → zqa4 β → zqa5 β → Int → (List zq2) → Int → Int → Int → Int → Int → Int → (List UInt8) → Int → Int → Int → (List Int) → (List zq0) → (List zq2) → (List Int) → (List (Int × (Int × Int))) → Int → Option β
def zqa7 : View := ⟨0, [1, 3, 9, 10, 11], [(false, [.ptr 0 0]),  (false, [.data (.int .i64)]), (false, [.data (.slice zq3)]), (false, [.data (.int .i64)]), (false, [.data (.int .i64)])], [.cells 32 [.data (.int .i64), .data (.int .i64), .data (.int .i64), .data (.int .i64), .data .str, .data (.int .i64), .data (.int .i64), .data (.int .i64), .data (.slice (.int .i64)), .data (.slice zq1), .data (.slice zq3), .data (.slice (.int .i64)), .data (.slice (.prod (.int .i64) (.prod (.int .i64) (.int .i64)))), .data (.int .i64)]]⟩
def zqa8 : List  (AExit × View) := [(.ret, ⟨0, [2], [(false, [.data .bool])], []⟩), (.exit 0, ⟨0, [1], [(false, [.ptr 0 0])], [.cells 32 [.data (.int .i64), .data (.int .i64), .data (.int .i64), .data (.int .i64), .data .str, .data (.int .i64), .data (.int .i64), .data (.int .i64), .data (.slice (.int .i64)), .data (.slice zq1), .data (.slice zq3), .data (.slice (.int .i64)), .data (.slice (.prod (.int .i64) (.prod (.int .i64) (.int .i64)))), .data (.int .i64)]]⟩)]
@[reducible] def incident_updates_p1_G (p : zqa6) {β : Type} (d : zqa7.den) (ks : Outs.K β zqa8) : Option β :=
  p (fun a0 => ks.1 (((a0, ()), ()), ())) (fun a0 a1 a2 a3 a4 a5 a6 a7 a8 a9 a10 a11 a12 a13 => ks.2.1 (((), ()), ((a0, a1, a2, a3, a4, a5, a6, a7, a8, a9, a10, a11, a12, a13, ()), ()))) d.1.2.1.1 d.1.2.2.1.1 d.1.2.2.2.1.1 d.1.2.2.2.2.1.1 d.2.1.1 d.2.1.2.1 d.2.1.2.2.1 d.2.1.2.2.2.1 d.2.1.2.2.2.2.1 d.2.1.2.2.2.2.2.1 d.2.1.2.2.2.2.2.2.1 d.2.1.2.2.2.2.2.2.2.1 d.2.1.2.2.2.2.2.2.2.2.1 d.2.1.2.2.2.2.2.2.2.2.2.1 d.2.1.2.2.2.2.2.2.2.2.2.2.1 d.2.1.2.2.2.2.2.2.2.2.2.2.2.1 d.2.1.2.2.2.2.2.2.2.2.2.2.2.2.1 d.2.1.2.2.2.2.2.2.2.2.2.2.2.2.2.1
section
variable (c_incident_Text : zq8t) (c_incident_in : zq2o) (c_incident_persons : zq9v)
@[reducible] def incident_updates_X : Ctx := ⟨look tab, pick1 [(51, .spec (zq8u c_incident_Text)), (33, .spec (zq2p c_incident_in)), (53, .spec (zq9w c_incident_persons))], false, false, false, false⟩
def zqa9 {β : Type} (rec : Int → (List zq2) → Int → Int → Int → Int → Int → Int → (List UInt8) → Int → Int → Int → (List Int) → (List zq0) → (List zq2) → (List Int) → (List (Int × (Int × Int))) → Int → Option β) (k1 : zqa4 β) (k2 : zqa5 β) (at_ : Int) (t9 : List zq2) (t10 t11 x x2 x3 x4 : Int) (x5 : List UInt8) (x6 x7 x8 : Int) (x9 : List Int) (x10 : List zq0) (x11 : List zq2) (x12 : List Int) (x13 : List (Int × (Int × Int))) (x14 : Int) : Option β :=
  cond (decide (t11 < t10))
  (cond (decide (0 ≤ t11) && decide (t11 < (List.length t9 : Int)))
  (let e : zq2 := List.getD t9 (Int.toNat t11) (0, (0, (([] : List UInt8), ([] : List Int))));
  c_incident_in e.1 at_ 8589934592 (fun rin =>
  cond (!rin)
  (k1 false)
  (c_incident_in e.2.1 0 4 (fun rin2 =>
  cond (!rin2)
  (k1 false)
  (c_incident_Text e.2.2.1 (fun rText =>
  cond (!rText)
  (k1 false)
  (c_incident_persons e.2.2.2 (fun rpersons =>
  cond (!rpersons)
  (k1 false)
  (rec e.1 t9 t10 (IntKind.i64.wrap (t11 + 1)) x x2 x3 x4 x5 x6 x7 x8 x9 x10 x11 x12 x13 x14)))))))))
  none)
  (k2 x x2 x3 x4 x5 x6 x7 x8 x9 x10 x11 x12 x13 x14)
def zqaa {β : Type} : Nat → zqa4 β → zqa5 β → Int →  (List zq2) → Int → Int → Int → Int → Int → Int → (List UInt8) → Int → Int → Int → (List Int) → (List zq0) → (List zq2) → (List Int) → (List (Int × (Int × Int))) → Int → Option β
  | 0 => fun _ _ _ _ _ _ _ _ _ _ _ _ _ _ _ _ _ _ _ _ => none
  | i + 1 => fun k1 k2 at_ t9 t10 t11 x x2 x3 x4 x5 x6 x7 x8 x9 x10 x11 x12 x13 x14 => zqa9 c_incident_Text c_incident_in c_incident_persons (zqaa i k1 k2) k1 k2 at_ t9 t10 t11 x x2 x3 x4 x5 x6 x7 x8 x9 x10 x11 x12 x13 x14
theorem zqab (hΓ : ΓOk Try.prog (incident_updates_X c_incident_Text c_incident_in c_incident_persons).Γ) (i : Nat) : PieceOk Try.prog 45 0 incident_updates_p1_code zqa7 zqa8 (incident_updates_p1_G (zqaa c_incident_Text c_incident_in c_incident_persons i)) := by
  rw [show incident_updates_p1_code = .loop (loopBody incident_updates_p1_code) by kernel_rfl]
  exact piece_loop (X := (incident_updates_X c_incident_Text c_incident_in c_incident_persons)) (p := 1) (Λ := pick1 []) (G := fun i => @fun β d ks => incident_updates_p1_G (zqaa c_incident_Text c_incident_in c_incident_persons i) d ks) mixed tab_ok hΓ rfl (by kernel_rfl) CutsOk_nil (fun _ _ => rfl) (fun i => @fun β d ks r h => Eq.trans (b := incident_updates_p1_G (zqaa c_incident_Text c_incident_in c_incident_persons (i + 1)) d ks) (by kernel_rfl) h) i
def zqac (p1 : zqa6) {β : Type} (x : zq4) (k : (Bool → Option β)) : Option β :=
  p1 (fun t2 =>
  k t2) (fun x2 x3 x4 x5 x6 x7 x8 x9 x10 x11 x12 x13 x14 x15 =>
  let t : Bool := (decide ((List.length x12 : Int) ≤ 32));
  k t) x.2.2.2.1 x.2.2.2.2.2.2.2.2.1 (List.length x.2.2.2.2.2.2.2.2.1 : Int) 0 x.1 x.2.1 x.2.2.1 x.2.2.2.1 x.2.2.2.2.1 x.2.2.2.2.2.1.1 x.2.2.2.2.2.1.2.1 x.2.2.2.2.2.1.2.2 x.2.2.2.2.2.2.1 x.2.2.2.2.2.2.2.1 x.2.2.2.2.2.2.2.2.1 x.2.2.2.2.2.2.2.2.2.1 x.2.2.2.2.2.2.2.2.2.2.1 x.2.2.2.2.2.2.2.2.2.2.2
theorem zqad (hΓ : ΓOk Try.prog (incident_updates_X c_incident_Text c_incident_in c_incident_persons).Γ) (p1 : zqa6) (hp1 : PieceOk Try.prog 45 0 incident_updates_p1_code zqa7 zqa8 (incident_updates_p1_G p1)) : SpecOk Try.prog 55 (zqa3 (zqac p1)) :=
  spec_exec (X := (incident_updates_X c_incident_Text c_incident_in c_incident_persons)) (Λ := pick1 [(58, pieceCut zqa7 zqa8 (incident_updates_p1_G p1))]) (rs := [.tmp 2]) (c := bodyOf Try.f55) mixed tab_ok hΓ Try.func55 (by kernel_rfl) (by kernel_rfl) (by kernel_rfl) (by kernel_rfl) (CutsOk_cons (q := 58) (c' := incident_updates_p1_code) (by kernel_rfl) rfl hp1 CutsOk_nil) (fun x k r h => Eq.trans (b := (zqa3 (zqac p1)).run x k) (by kernel_rfl) h)
end
theorem zqaeΓ : ΓOk Try.prog (pick1 [(51, .spec (zq8u zq9a)), (33, .spec (zq2p zq2t)), (53, .spec (zq9w zqa0))]) := (ΓOk_cons zq9b (ΓOk_cons zq2u (ΓOk_cons zqa1 ΓOk_nil)))
def zqaf (m : Nat) : zqa6 := zqaa zq9a zq2t zqa0 m
theorem zqag {β : Type} (i : Nat) (k1 k2 at_ t9 t10 t11 x x2 x3 x4 x5 x6 x7 x8 x9 x10 x11 x12 x13 x14) : (zqaf (i + 1) k1 k2 at_ t9 t10 t11 x x2 x3 x4 x5 x6 x7 x8 x9 x10 x11 x12 x13 x14 : Option β) = zqa9 zq9a zq2t zqa0 (zqaf i k1 k2) k1 k2 at_ t9 t10 t11 x x2 x3 x4 x5 x6 x7 x8 x9 x10 x11 x12 x13 x14 := rfl
def zqah : zqa6 := zqaf fuel
theorem zqai : PieceOk Try.prog 45 0 incident_updates_p1_code zqa7 zqa8 (incident_updates_p1_G zqah) := zqab zq9a zq2t zqa0 zqaeΓ fuel
def zqaj : zqa2 := zqac zqah
theorem zqak : SpecOk Try.prog 55 (zqa3 zqaj) := zqad zq9a zq2t zqa0 zqaeΓ zqah zqai
abbrev zqal := {β : Type} → ((List Int × (List Int × (List Int × (List Int × List Int)))) → Option β) → Option β
def zqam (c : zqal) : Spec :=
  ⟨[], [], [(true, [.data (.prod (.slice (.int .i64)) (.prod (.slice (.int .i64)) (.prod (.slice (.int .i64)) (.prod (.slice (.int .i64)) (.slice (.int .i64))))))])], [], fun x k => c  (fun r0 => k (((r0, ()), ()), ()))⟩
section
@[reducible] def incident_possible_X : Ctx := ⟨look tab, pick1 [], false, false, false, false⟩
def zqan {β : Type} (k : ((List Int × (List Int × (List Int × (List Int × List Int)))) → Option β)) : Option β :=
  let l : List Int := ([1, 2, 4] : List Int);
  let l2 : List Int := ([0, 2, 4] : List Int);
  let l3 : List Int := ([0, 3] : List Int);
  k (l, (l2, (l3, (([] : List Int), ([] : List Int)))))
theorem zqao (hΓ : ΓOk Try.prog incident_possible_X.Γ) : SpecOk Try.prog 58 (zqam (zqan)) :=
  spec_exec (X := incident_possible_X) (Λ := pick1 []) (rs := [.cell 0 82]) (c := bodyOf Try.f58) mixed tab_ok hΓ Try.func58 (by kernel_rfl) (by kernel_rfl) (by kernel_rfl) (by kernel_rfl) CutsOk_nil (fun x k r h => Eq.trans (b := (zqam (zqan)).run x k) (by kernel_rfl) h)
end
theorem zqapΓ : ΓOk Try.prog (pick1 []) := ΓOk_nil
def zqaq : zqal := zqan
theorem zqar : SpecOk Try.prog 58 (zqam zqaq) := zqao zqapΓ
abbrev zqas := {β : Type} → Int → (Bool → Option β) → Option β
def zqat (c : zqas) : Spec :=
  ⟨[(false, [.data (.int .i64)])], [], [(false, [.data .bool])], [], fun x k => c x.1.1.1 (fun r0 => k (((r0, ()), ()), ()))⟩
section
variable (c_incident_in : zq2o)
@[reducible] def incident_person_X : Ctx := ⟨look tab, pick1 [(33, .spec (zq2p c_incident_in))], false, false, false, false⟩
def zqau {β : Type} (n : Int) (k : (Bool → Option β)) : Option β :=
  c_incident_in n 0 31 (fun rin =>
  k rin)
theorem zqav (hΓ : ΓOk Try.prog (incident_person_X c_incident_in).Γ) : SpecOk Try.prog 59 (zqat (zqau c_incident_in)) :=
  spec_exec (X := (incident_person_X c_incident_in)) (Λ := pick1 []) (rs := [.tmp 2]) (c := bodyOf Try.f59) mixed tab_ok hΓ Try.func59 (by kernel_rfl) (by kernel_rfl) (by kernel_rfl) (by kernel_rfl) CutsOk_nil (fun x k r h => Eq.trans (b := (zqat (zqau c_incident_in)).run x k) (by kernel_rfl) h)
end
theorem zqawΓ : ΓOk Try.prog (pick1 [(33, .spec (zq2p zq2t))]) := (ΓOk_cons zq2u ΓOk_nil)
def zqax : zqas := zqau zq2t
theorem zqay : SpecOk Try.prog 59 (zqat zqax) := zqav zq2t zqawΓ
abbrev zqaz := {β : Type} → (List Int) → ((List Int) → Option β) → Option β
def zqb0 (c : zqaz) : Spec :=
  ⟨[(false, [.data (.slice (.int .i64))])], [], [(false, [.rowh 0])], [.row 3 (.int .i64)], fun x k => c x.1.1.1 (fun r0 => k (((), ()), (r0, ())))⟩
def zqb1 : zqaz := fun l k => cloneF  (.int .i64) 8 l k
theorem zqb2 : SpecOk Try.prog 60 (zqb0 zqb1) :=
  clone_ok (et := 3) (e := (.int .i64)) (bytes := 8) (by kernel_rfl)
    (spec_exec (X := ⟨look tab, pick1 [], false, false, false, false⟩) (Λ := pick1 []) (rs := [.tmp 2]) (c := bodyOf Try.f60) mixed tab_ok ΓOk_nil Try.func60 (by kernel_rfl) (by kernel_rfl) (by kernel_rfl) (by kernel_rfl) CutsOk_nil (fun x k r h => Eq.trans (b := (clone1S 3 (.int .i64) 8).run x k) (by kernel_rfl) h))
    (spec_exec (X := ⟨look tab, pick1 [], false, false, false, false⟩) (Λ := pick1 []) (rs := [.tmp 2]) (c := bodyOf Try.f60) mixed tab_ok ΓOk_nil Try.func60 (by kernel_rfl) (by kernel_rfl) (by kernel_rfl) (by kernel_rfl) CutsOk_nil (fun x k r h => Eq.trans (b := (clone2S 3 (.int .i64)).run x k) (by kernel_rfl) h))
def zqb3 : Shelf.Ren :=
      {
      f := fun x =>
        match x with
        | 189 => 61
        | 125 => 68
        | 257 => 67
        | 128 => 78
        | 129 => 79
        | 294 => 69
        | 295 => 70
        | 296 => 71
        | 297 => 72
        | 298 => 73
        | 299 => 74
        | 216 => 75
        | 300 => 76
        | 301 => 77
        | 328 => 80
        | 329 => 81
        | 330 => 82
        | 331 => 83
        | 332 => 84
        | 215 => 85
        | 343 => 86
        | n => n,
      t := fun x =>
        match x with
        | 28 => 22
        | 3 => 3
        | 46 => 92
        | 0 => 0
        | 51 => 101
        | 53 => 103
        | 4 => 4
        | 183 => 95
        | 182 => 94
        | 131 => 98
        | 5 => 5
        | 9 => 9
        | 218 => 104
        | 222 => 108
        | 228 => 110
        | 229 => 111
        | n => n,
      g := fun x => x }
theorem zqb4 : Go.Proofs.Lays.n189 Try.prog zqb3 :=
  { mixed := by kernel_rfl,
    f125 := Eq.trans Try.func68 (congrArg some (by kernel_rfl)),
    f128 := Eq.trans Try.func78 (congrArg some (by kernel_rfl)),
    f129 := Eq.trans Try.func79 (congrArg some (by kernel_rfl)),
    f189 := Eq.trans Try.func61 (congrArg some (by kernel_rfl)),
    f215 := Eq.trans Try.func85 (congrArg some (by kernel_rfl)),
    f216 := Eq.trans Try.func75 (congrArg some (by kernel_rfl)),
    f257 := Eq.trans Try.func67 (congrArg some (by kernel_rfl)),
    f294 := Eq.trans Try.func69 (congrArg some (by kernel_rfl)),
    f295 := Eq.trans Try.func70 (congrArg some (by kernel_rfl)),
    f296 := Eq.trans Try.func71 (congrArg some (by kernel_rfl)),
    f297 := Eq.trans Try.func72 (congrArg some (by kernel_rfl)),
    f298 := Eq.trans Try.func73 (congrArg some (by kernel_rfl)),
    f299 := Eq.trans Try.func74 (congrArg some (by kernel_rfl)),
    f300 := Eq.trans Try.func76 (congrArg some (by kernel_rfl)),
    f301 := Eq.trans Try.func77 (congrArg some (by kernel_rfl)),
    f328 := Eq.trans Try.func80 (congrArg some (by kernel_rfl)),
    f329 := Eq.trans Try.func81 (congrArg some (by kernel_rfl)),
    f330 := Eq.trans Try.func82 (congrArg some (by kernel_rfl)),
    f331 := Eq.trans Try.func83 (congrArg some (by kernel_rfl)),
    f332 := Eq.trans Try.func84 (congrArg some (by kernel_rfl)),
    f343 := Eq.trans Try.func86 (congrArg some (by kernel_rfl)),
    t0 := Try.underlying0,
    a0 := Try.isAgg0,
    z0 := Try.sizeOf0,
    v0 := Try.zeroValue0,
    t3 := Try.underlying3,
    a3 := Try.isAgg3,
    z3 := Try.sizeOf3,
    v3 := Try.zeroValue3,
    t4 := Try.underlying4,
    a4 := Try.isAgg4,
    z4 := Try.sizeOf4,
    v4 := Try.zeroValue4,
    t5 := Try.underlying5,
    a5 := Try.isAgg5,
    z5 := Try.sizeOf5,
    v5 := Try.zeroValue5,
    t9 := Try.underlying9,
    a9 := Try.isAgg9,
    z9 := Try.sizeOf9,
    v9 := Try.zeroValue9,
    t28 := Try.underlying22,
    a28 := Try.isAgg22,
    z28 := Try.sizeOf22,
    v28 := Try.zeroValue22,
    t46 := Try.underlying92,
    a46 := Try.isAgg92,
    z46 := Try.sizeOf92,
    v46 := Try.zeroValue92,
    t51 := Try.underlying101,
    a51 := Try.isAgg101,
    z51 := Try.sizeOf101,
    v51 := Try.zeroValue101,
    t53 := Try.underlying103,
    a53 := Try.isAgg103,
    z53 := Try.sizeOf103,
    v53 := Try.zeroValue103,
    t131 := Try.underlying98,
    a131 := Try.isAgg98,
    z131 := Try.sizeOf98,
    v131 := Try.zeroValue98,
    t182 := Try.underlying94,
    a182 := Try.isAgg94,
    z182 := Try.sizeOf94,
    v182 := Try.zeroValue94,
    t183 := Try.underlying95,
    a183 := Try.isAgg95,
    z183 := Try.sizeOf95,
    v183 := Try.zeroValue95,
    t218 := Try.underlying104,
    a218 := Try.isAgg104,
    z218 := Try.sizeOf104,
    v218 := Try.zeroValue104,
    t222 := Try.underlying108,
    a222 := Try.isAgg108,
    z222 := Try.sizeOf108,
    v222 := Try.zeroValue108,
    t228 := Try.underlying110,
    a228 := Try.isAgg110,
    z228 := Try.sizeOf110,
    v228 := Try.zeroValue110,
    t229 := Try.underlying111,
    a229 := Try.isAgg111,
    z229 := Try.sizeOf111,
    v229 := Try.zeroValue111 }
def zqb5 : RowF := sortF 3
theorem zqb6 : RowOk Try.prog 61 zqb5 :=
  sort_rowok zqb4 rfl ⟨_, Try.func61, by kernel_rfl, by kernel_rfl⟩
def zqb7 : Shelf.Ren :=
      {
      f := fun x =>
        match x with
        | 20 => 62
        | n => n,
      t := fun x =>
        match x with
        | 22 => 22
        | 3 => 3
        | 4 => 4
        | 0 => 0
        | n => n,
      g := fun x => x }
theorem zqb8 : Go.Proofs.Lays2.n20 Try.prog zqb7 :=
  { mixed := by kernel_rfl,
    f20 := Eq.trans Try.func62 (congrArg some (by kernel_rfl)),
    t0 := Try.underlying0,
    a0 := Try.isAgg0,
    z0 := Try.sizeOf0,
    v0 := Try.zeroValue0,
    t3 := Try.underlying3,
    a3 := Try.isAgg3,
    z3 := Try.sizeOf3,
    v3 := Try.zeroValue3,
    t4 := Try.underlying4,
    a4 := Try.isAgg4,
    z4 := Try.sizeOf4,
    v4 := Try.zeroValue4,
    t22 := Try.underlying22,
    a22 := Try.isAgg22,
    z22 := Try.sizeOf22,
    v22 := Try.zeroValue22,
    i3 := by kernel_rfl }
def zqb9 : RowF := compactF 3
theorem zqba : RowOk Try.prog 62 zqb9 :=
  compact_rowok zqb8 rfl ⟨_, Try.func62, by kernel_rfl, by kernel_rfl⟩
abbrev zqbb := {β : Type} → (List zq0) → ((List zq0) → Option β) → Option β
def zqbc (c : zqbb) : Spec :=
  ⟨[(false, [.data (.slice zq1)])], [], [(false, [.rowh 0])], [.row 63 zq1], fun x k => c x.1.1.1 (fun r0 => k (((), ()), (r0, ())))⟩
def zqbd : zqbb := fun l k => cloneF zq1 40 l k
theorem zqbe : SpecOk Try.prog 63 (zqbc zqbd) :=
  clone_ok (et := 63) (e := zq1) (bytes := 40) (by kernel_rfl)
    (spec_exec (X := ⟨look tab, pick1 [], false, false, false, false⟩) (Λ := pick1 []) (rs := [.tmp 2]) (c := bodyOf Try.f63) mixed tab_ok ΓOk_nil Try.func63 (by kernel_rfl) (by kernel_rfl) (by kernel_rfl) (by kernel_rfl) CutsOk_nil (fun x k r h => Eq.trans (b := (clone1S 63 zq1 40).run x k) (by kernel_rfl) h))
    (spec_exec (X := ⟨look tab, pick1 [], false, false, false, false⟩) (Λ := pick1 []) (rs := [.tmp 2]) (c := bodyOf Try.f63) mixed tab_ok ΓOk_nil Try.func63 (by kernel_rfl) (by kernel_rfl) (by kernel_rfl) (by kernel_rfl) CutsOk_nil (fun x k r h => Eq.trans (b := (clone2S 63 zq1).run x k) (by kernel_rfl) h))
abbrev zqbf := {β : Type} → (List zq2) → ((List zq2) → Option β) → Option β
def zqbg (c : zqbf) : Spec :=
  ⟨[(false, [.data (.slice zq3)])], [], [(false, [.rowh 0])], [.row 65 zq3], fun x k => c x.1.1.1 (fun r0 => k (((), ()), (r0, ())))⟩
def zqbh : zqbf := fun l k => cloneF zq3 56 l k
theorem zqbi : SpecOk Try.prog 64 (zqbg zqbh) :=
  clone_ok (et := 65) (e := zq3) (bytes := 56) (by kernel_rfl)
    (spec_exec (X := ⟨look tab, pick1 [], false, false, false, false⟩) (Λ := pick1 []) (rs := [.tmp 2]) (c := bodyOf Try.f64) mixed tab_ok ΓOk_nil Try.func64 (by kernel_rfl) (by kernel_rfl) (by kernel_rfl) (by kernel_rfl) CutsOk_nil (fun x k r h => Eq.trans (b := (clone1S 65 zq3 56).run x k) (by kernel_rfl) h))
    (spec_exec (X := ⟨look tab, pick1 [], false, false, false, false⟩) (Λ := pick1 []) (rs := [.tmp 2]) (c := bodyOf Try.f64) mixed tab_ok ΓOk_nil Try.func64 (by kernel_rfl) (by kernel_rfl) (by kernel_rfl) (by kernel_rfl) CutsOk_nil (fun x k r h => Eq.trans (b := (clone2S 65 zq3).run x k) (by kernel_rfl) h))
abbrev zqbj := {β : Type} → (List (Int × (Int × Int))) → ((List (Int × (Int × Int))) → Option β) → Option β
def zqbk (c : zqbj) : Spec :=
  ⟨[(false, [.data (.slice (.prod (.int .i64) (.prod (.int .i64) (.int .i64))))])], [], [(false, [.rowh 0])], [.row 67 (.prod (.int .i64) (.prod (.int .i64) (.int .i64)))], fun x k => c x.1.1.1 (fun r0 => k (((), ()), (r0, ())))⟩
def zqbl : zqbj := fun l k => cloneF  (.prod (.int .i64) (.prod (.int .i64) (.int .i64))) 24 l k
theorem zqbm : SpecOk Try.prog 65 (zqbk zqbl) :=
  clone_ok (et := 67) (e := (.prod (.int .i64) (.prod (.int .i64) (.int .i64)))) (bytes := 24) (by kernel_rfl)
    (spec_exec (X := ⟨look tab, pick1 [], false, false, false, false⟩) (Λ := pick1 []) (rs := [.tmp 2]) (c := bodyOf Try.f65) mixed tab_ok ΓOk_nil Try.func65 (by kernel_rfl) (by kernel_rfl) (by kernel_rfl) (by kernel_rfl) CutsOk_nil (fun x k r h => Eq.trans (b := (clone1S 67 (.prod (.int .i64) (.prod (.int .i64) (.int .i64))) 24).run x k) (by kernel_rfl) h))
    (spec_exec (X := ⟨look tab, pick1 [], false, false, false, false⟩) (Λ := pick1 []) (rs := [.tmp 2]) (c := bodyOf Try.f65) mixed tab_ok ΓOk_nil Try.func65 (by kernel_rfl) (by kernel_rfl) (by kernel_rfl) (by kernel_rfl) CutsOk_nil (fun x k r h => Eq.trans (b := (clone2S 67 (.prod (.int .i64) (.prod (.int .i64) (.int .i64)))).run x k) (by kernel_rfl) h))
abbrev zqbn := {β : Type} → (List Int) → Int → (Int → Option β) → Option β
def zqbo (c : zqbn) : Spec :=
  ⟨[(false, [.data (.slice (.int .i64))]), (false, [.data (.int .i64)])], [], [(false, [.data (.int .i64)])], [], fun x k => c x.1.1.1 x.1.2.1.1 (fun r0 => k (((r0, ()), ()), ()))⟩
noncomputable def slices_Index_int_int_p1_code : Code := codeAt 26 (bodyOf Try.f66)
abbrev zqbp (β : Type) := Int → Option β
abbrev zqbq (β : Type) := Unit → Option β
abbrev zqbr := {β : Type} → zqbp β → zqbq β → (List Int) → Int → Int → Int → Option β
def zqbs : View := ⟨0, [0, 1, 7, 8], [(false, [.data  (.slice (.int .i64))]), (false, [.data (.int .i64)]), (false, [.data (.int .i64)]), (false, [.data (.int .i64)])], []⟩
def zqbt : List  (AExit × View) := [(.ret, ⟨0, [4], [(false, [.data (.int .i64)])], []⟩), (.exit 0, ⟨0, [], [], []⟩)]
@[reducible] def slices_Index_int_int_p1_G (p : zqbr) {β : Type} (d : zqbs.den) (ks : Outs.K β zqbt) : Option β :=
  p (fun a0 => ks.1 (((a0, ()), ()), ())) (fun _ => ks.2.1 ((), ())) d.1.1.1 d.1.2.1.1 d.1.2.2.1.1 d.1.2.2.2.1.1
section
@[reducible] def slices_Index_int_int_X : Ctx := ⟨look tab, pick1 [], false, false, false, false⟩
def zqbu {β : Type} (rec : (List Int) → Int → Int → Int → Option β) (k1 : zqbp β) (k2 : zqbq β) (s : List Int) (v t7 t8 : Int) : Option β :=
  cond (decide (t8 < t7))
  (cond (decide (0 ≤ t8) && decide (t8 < (List.length s : Int)))
  (let e : Int := List.getD s (Int.toNat t8) 0;
  cond (decide (v = e))
  (k1 t8)
  (rec s v t7 (IntKind.i64.wrap (t8 + 1))))
  none)
  (k2 ())
def zqbv {β : Type} : Nat → zqbp β → zqbq β →  (List Int) → Int → Int → Int → Option β
  | 0 => fun _ _ _ _ _ _ => none
  | i + 1 => fun k1 k2 s v t7 t8 => zqbu (zqbv i k1 k2) k1 k2 s v t7 t8
theorem zqbw (hΓ : ΓOk Try.prog slices_Index_int_int_X.Γ) (i : Nat) : PieceOk Try.prog 19 0 slices_Index_int_int_p1_code zqbs zqbt (slices_Index_int_int_p1_G (zqbv i)) := by
  rw [show slices_Index_int_int_p1_code = .loop (loopBody slices_Index_int_int_p1_code) by kernel_rfl]
  exact piece_loop (X := slices_Index_int_int_X) (p := 1) (Λ := pick1 []) (G := fun i => @fun β d ks => slices_Index_int_int_p1_G (zqbv i) d ks) mixed tab_ok hΓ rfl (by kernel_rfl) CutsOk_nil (fun _ _ => rfl) (fun i => @fun β d ks r h => Eq.trans (b := slices_Index_int_int_p1_G (zqbv (i + 1)) d ks) (by kernel_rfl) h) i
def zqbx (p1 : zqbr) {β : Type} (s : List Int) (v : Int) (k : (Int → Option β)) : Option β :=
  p1 (fun t4 =>
  k t4) (fun _ =>
  k (-1)) s v (List.length s : Int) 0
theorem zqby (hΓ : ΓOk Try.prog slices_Index_int_int_X.Γ) (p1 : zqbr) (hp1 : PieceOk Try.prog 19 0 slices_Index_int_int_p1_code zqbs zqbt (slices_Index_int_int_p1_G p1)) : SpecOk Try.prog 66 (zqbo (zqbx p1)) :=
  spec_exec (X := slices_Index_int_int_X) (Λ := pick1 [(26, pieceCut zqbs zqbt (slices_Index_int_int_p1_G p1))]) (rs := [.tmp 4]) (c := bodyOf Try.f66) mixed tab_ok hΓ Try.func66 (by kernel_rfl) (by kernel_rfl) (by kernel_rfl) (by kernel_rfl) (CutsOk_cons (q := 26) (c' := slices_Index_int_int_p1_code) (by kernel_rfl) rfl hp1 CutsOk_nil) (fun x k r h => Eq.trans (b := (zqbo (zqbx p1)).run x k) (by kernel_rfl) h)
end
theorem zqbzΓ : ΓOk Try.prog (pick1 []) := ΓOk_nil
def zqc0 (m : Nat) : zqbr := zqbv m
theorem zqc1 {β : Type} (i : Nat) (k1 k2 s v t7 t8) : (zqc0 (i + 1) k1 k2 s v t7 t8 : Option β) = zqbu (zqc0 i k1 k2) k1 k2 s v t7 t8 := rfl
def zqc2 : zqbr := zqc0 fuel
theorem zqc3 : PieceOk Try.prog 19 0 slices_Index_int_int_p1_code zqbs zqbt (slices_Index_int_int_p1_G zqc2) := zqbw zqbzΓ fuel
def zqc4 : zqbn := zqbx zqc2
theorem zqc5 : SpecOk Try.prog 66 (zqbo zqc4) := zqby zqbzΓ zqc2 zqc3
abbrev zqc6 := {β : Type} → zq4 → (List Int × Int) → (zq4 → (List Int × Int) → Option β) → Option β
def zqc7 (c : zqc6) : Spec :=
  ⟨[(false, [.ptr 0 0]), (true, [.data zq5])], [.cells 52 [.data (.prod (.slice (.int .i64)) (.int .i64))]], [(true, [.data zq5])], [.cells 52 [.data (.prod (.slice (.int .i64)) (.int .i64))]], fun x k => c x.1.2.1.1 x.2.1.1 (fun r0 r1 => k (((r0, ()), ()), ((r1, ()), ())))⟩
noncomputable def law37_odd_p1_code : Code := codeAt 7918845948 (bodyOf Try.f9)
noncomputable def law37_odd_p2_code : Code := codeAt 63350767608 (bodyOf Try.f9)
abbrev zqc8 (β : Type) := (List Int) → Int → Int → Int → Int → Int → (List UInt8) → Int → Int → Int → Int → Int → Int → Int → Int → (List UInt8) → Int → Int → Int → Int → (List Int) → (List zq0) → (List zq2) → (List Int) → (List (Int × (Int × Int))) → (List Int) → (List zq0) → (List zq2) → (List Int) → (List (Int × (Int × Int))) → Option β
abbrev zqc9 := {β : Type} → zqc8 β → (List Int) → Int → Int → Int → Int → Int → (List UInt8) → Int → Int → Int → Int → Int → Int → Int → Int → (List UInt8) → Int → Int → Int → Int → (List Int) → (List zq0) → (List zq2) → (List Int) → (List (Int × (Int × Int))) → (List Int) → (List zq0) → (List zq2) → (List Int) → (List (Int × (Int × Int))) → Option β
def zqca : View := ⟨1, [0, 4, 5], [(false, [.ptr 0 0]),  (false, [.ptr 1 0]), (false, [.ptr 2 0])], [.cells 52 [.data (.slice (.int .i64)), .data (.int .i64)], .cells 32 [.data (.int .i64), .data (.int .i64), .data (.int .i64), .data (.int .i64), .data .str, .data (.int .i64), .data (.int .i64), .data (.int .i64), .rowh 3, .rowh 4, .rowh 5, .rowh 6, .rowh 7, .data (.int .i64)], .cells 32 [.data (.int .i64), .data (.int .i64), .data (.int .i64), .data (.int .i64), .data .str, .data (.int .i64), .data (.int .i64), .data (.int .i64), .rowh 8, .rowh 9, .rowh 10, .rowh 11, .rowh 12, .data (.int .i64)], .row 3 (.int .i64), .row 63 zq1, .row 65 zq3, .row 3 (.int .i64), .row 67 (.prod (.int .i64) (.prod (.int .i64) (.int .i64))), .row 3 (.int .i64), .row 63 zq1, .row 65 zq3, .row 3 (.int .i64), .row 67 (.prod (.int .i64) (.prod (.int .i64) (.int .i64)))]⟩
def zqcb : List  (AExit × View) := [(.exit 1, ⟨1, [4, 5], [(false, [.ptr 1 0]), (false, [.ptr 2 0])], [.cells 52 [.data (.slice (.int .i64)), .data (.int .i64)], .cells 32 [.data (.int .i64), .data (.int .i64), .data (.int .i64), .data (.int .i64), .data .str, .data (.int .i64), .data (.int .i64), .data (.int .i64), .rowh 3, .rowh 4, .rowh 5, .rowh 6, .rowh 7, .data (.int .i64)], .cells 32 [.data (.int .i64), .data (.int .i64), .data (.int .i64), .data (.int .i64), .data .str, .data (.int .i64), .data (.int .i64), .data (.int .i64), .rowh 8, .rowh 9, .rowh 10, .rowh 11, .rowh 12, .data (.int .i64)], .row 3 (.int .i64), .row 63 zq1, .row 65 zq3, .row 3 (.int .i64), .row 67 (.prod (.int .i64) (.prod (.int .i64) (.int .i64))), .row 3 (.int .i64), .row 63 zq1, .row 65 zq3, .row 3 (.int .i64), .row 67 (.prod (.int .i64) (.prod (.int .i64) (.int .i64)))]⟩)]
@[reducible] def law37_odd_p1_G (p : zqc9) {β : Type} (d : zqca.den) (ks : Outs.K β zqcb) : Option β :=
  p (fun a0 a1 a2 a3 a4 a5 a6 a7 a8 a9 a10 a11 a12 a13 a14 a15 a16 a17 a18 a19 a20 a21 a22 a23 a24 a25 a26 a27 a28 a29 => ks.1 (((), (), ()), ((a0, a1, ()), (a2, a3, a4, a5, a6, a7, a8, a9, a10, ()), (a11, a12, a13, a14, a15, a16, a17, a18, a19, ()), a20, a21, a22, a23, a24, a25, a26, a27, a28, a29, ()))) d.2.1.1 d.2.1.2.1 d.2.2.1.1 d.2.2.1.2.1 d.2.2.1.2.2.1 d.2.2.1.2.2.2.1 d.2.2.1.2.2.2.2.1 d.2.2.1.2.2.2.2.2.1 d.2.2.1.2.2.2.2.2.2.1 d.2.2.1.2.2.2.2.2.2.2.1 d.2.2.1.2.2.2.2.2.2.2.2.1 d.2.2.2.1.1 d.2.2.2.1.2.1 d.2.2.2.1.2.2.1 d.2.2.2.1.2.2.2.1 d.2.2.2.1.2.2.2.2.1 d.2.2.2.1.2.2.2.2.2.1 d.2.2.2.1.2.2.2.2.2.2.1 d.2.2.2.1.2.2.2.2.2.2.2.1 d.2.2.2.1.2.2.2.2.2.2.2.2.1 d.2.2.2.2.1 d.2.2.2.2.2.1 d.2.2.2.2.2.2.1 d.2.2.2.2.2.2.2.1 d.2.2.2.2.2.2.2.2.1 d.2.2.2.2.2.2.2.2.2.1 d.2.2.2.2.2.2.2.2.2.2.1 d.2.2.2.2.2.2.2.2.2.2.2.1 d.2.2.2.2.2.2.2.2.2.2.2.2.1 d.2.2.2.2.2.2.2.2.2.2.2.2.2.1
abbrev zqcc (β : Type) := (List Int) → Int → Int → Int → Int → Int → (List UInt8) → Int → Int → Int → Int → Int → Int → Int → Int → (List UInt8) → Int → Int → Int → Int → (List Int) → (List zq0) → (List zq2) → (List Int) → (List (Int × (Int × Int))) → (List Int) → (List zq0) → (List zq2) → (List Int) → (List (Int × (Int × Int))) → Option β
abbrev zqcd := {β : Type} → zqcc β → (List Int) → Int → Int → Int → Int → Int → (List UInt8) → Int → Int → Int → Int → Int → Int → Int → Int → (List UInt8) → Int → Int → Int → Int → (List Int) → (List zq0) → (List zq2) → (List Int) → (List (Int × (Int × Int))) → (List Int) → (List zq0) → (List zq2) → (List Int) → (List (Int × (Int × Int))) → Option β
def zqce : View := ⟨1, [4, 5], [(false, [.ptr 1 0]),  (false, [.ptr 2 0])], [.cells 52 [.data (.slice (.int .i64)), .data (.int .i64)], .cells 32 [.data (.int .i64), .data (.int .i64), .data (.int .i64), .data (.int .i64), .data .str, .data (.int .i64), .data (.int .i64), .data (.int .i64), .rowh 3, .rowh 4, .rowh 5, .rowh 6, .rowh 7, .data (.int .i64)], .cells 32 [.data (.int .i64), .data (.int .i64), .data (.int .i64), .data (.int .i64), .data .str, .data (.int .i64), .data (.int .i64), .data (.int .i64), .rowh 8, .rowh 9, .rowh 10, .rowh 11, .rowh 12, .data (.int .i64)], .row 3 (.int .i64), .row 63 zq1, .row 65 zq3, .row 3 (.int .i64), .row 67 (.prod (.int .i64) (.prod (.int .i64) (.int .i64))), .row 3 (.int .i64), .row 63 zq1, .row 65 zq3, .row 3 (.int .i64), .row 67 (.prod (.int .i64) (.prod (.int .i64) (.int .i64)))]⟩
def zqcf : List  (AExit × View) := [(.exit 3, ⟨1, [4, 5], [(false, [.ptr 1 0]), (false, [.ptr 2 0])], [.cells 52 [.data (.slice (.int .i64)), .data (.int .i64)], .cells 32 [.data (.int .i64), .data (.int .i64), .data (.int .i64), .data (.int .i64), .data .str, .data (.int .i64), .data (.int .i64), .data (.int .i64), .rowh 3, .rowh 4, .rowh 5, .rowh 6, .rowh 7, .data (.int .i64)], .cells 32 [.data (.int .i64), .data (.int .i64), .data (.int .i64), .data (.int .i64), .data .str, .data (.int .i64), .data (.int .i64), .data (.int .i64), .rowh 8, .rowh 9, .rowh 10, .rowh 11, .rowh 12, .data (.int .i64)], .row 3 (.int .i64), .row 63 zq1, .row 65 zq3, .row 3 (.int .i64), .row 67 (.prod (.int .i64) (.prod (.int .i64) (.int .i64))), .row 3 (.int .i64), .row 63 zq1, .row 65 zq3, .row 3 (.int .i64), .row 67 (.prod (.int .i64) (.prod (.int .i64) (.int .i64)))]⟩)]
@[reducible] def law37_odd_p2_G (p : zqcd) {β : Type} (d : zqce.den) (ks : Outs.K β zqcf) : Option β :=
  p (fun a0 a1 a2 a3 a4 a5 a6 a7 a8 a9 a10 a11 a12 a13 a14 a15 a16 a17 a18 a19 a20 a21 a22 a23 a24 a25 a26 a27 a28 a29 => ks.1 (((), (), ()), ((a0, a1, ()), (a2, a3, a4, a5, a6, a7, a8, a9, a10, ()), (a11, a12, a13, a14, a15, a16, a17, a18, a19, ()), a20, a21, a22, a23, a24, a25, a26, a27, a28, a29, ()))) d.2.1.1 d.2.1.2.1 d.2.2.1.1 d.2.2.1.2.1 d.2.2.1.2.2.1 d.2.2.1.2.2.2.1 d.2.2.1.2.2.2.2.1 d.2.2.1.2.2.2.2.2.1 d.2.2.1.2.2.2.2.2.2.1 d.2.2.1.2.2.2.2.2.2.2.1 d.2.2.1.2.2.2.2.2.2.2.2.1 d.2.2.2.1.1 d.2.2.2.1.2.1 d.2.2.2.1.2.2.1 d.2.2.2.1.2.2.2.1 d.2.2.2.1.2.2.2.2.1 d.2.2.2.1.2.2.2.2.2.1 d.2.2.2.1.2.2.2.2.2.2.1 d.2.2.2.1.2.2.2.2.2.2.2.1 d.2.2.2.1.2.2.2.2.2.2.2.2.1 d.2.2.2.2.1 d.2.2.2.2.2.1 d.2.2.2.2.2.2.1 d.2.2.2.2.2.2.2.1 d.2.2.2.2.2.2.2.2.1 d.2.2.2.2.2.2.2.2.2.1 d.2.2.2.2.2.2.2.2.2.2.1 d.2.2.2.2.2.2.2.2.2.2.2.1 d.2.2.2.2.2.2.2.2.2.2.2.2.1 d.2.2.2.2.2.2.2.2.2.2.2.2.2.1
section
variable (c_made_Dice_Line : zq1z) (c_made_Dice_Next : zqk) (c_made_Dice_One : zq1a) (c_made_Dice_Some : zq26) (c_ref37_Copy : zq1h)
@[reducible] def law37_odd_X : Ctx := ⟨look tab, pick1 [(28, .spec (zq20 c_made_Dice_Line)), (8, .spec (zql c_made_Dice_Next)), (19, .spec (zq1b c_made_Dice_One)), (29, .spec (zq27 c_made_Dice_Some)), (27, .spec (zq1i c_ref37_Copy))], false, false, false, false⟩
def zqcg {β : Type} (rec : (List Int) → Int → Int → Int → Int → Int → (List UInt8) → Int → Int → Int → Int → Int → Int → Int → Int → (List UInt8) → Int → Int → Int → Int → (List Int) → (List zq0) → (List zq2) → (List Int) → (List (Int × (Int × Int))) → (List Int) → (List zq0) → (List zq2) → (List Int) → (List (Int × (Int × Int))) → Option β) (k1 : zqc8 β) (d : List Int) (d2 t4 t42 t43 t44 : Int) (t45 : List UInt8) (t46 t47 t48 t49 out out2 out3 out4 : Int) (out5 : List UInt8) (out6 out7 out8 out9 : Int) (b3_ : List Int) (b4_ : List zq0) (b5_ : List zq2) (b6_ : List Int) (b7_ : List (Int × (Int × Int))) (b8_ : List Int) (b9_ : List zq0) (b10_ : List zq2) (b11_ : List Int) (b12_ : List (Int × (Int × Int))) : Option β :=
  c_made_Dice_Next 2 (d, d2) (fun rNext mrNext =>
  cond (decide ((List.length b9_ : Int) ≤ (IntKind.i64.wrap (16 - rNext))))
  (let l : List zq0 := ([(([120] : List UInt8), ((-1), (864900, (-1))))] : List zq0);
  cond (decide ((List.length b9_ + List.length l) * 40 ≤ roomMax))
  (let l2 : List zq0 := (b9_ ++ l);
  rec mrNext.1 mrNext.2 t4 t42 t43 t44 t45 t46 t47 t48 t49 out out2 out3 out4 out5 out6 out7 out8 out9 b3_ b4_ b5_ b6_ b7_ b8_ l2 b10_ b11_ b12_)
  none)
  (k1 mrNext.1 mrNext.2 t4 t42 t43 t44 t45 t46 t47 t48 t49 out out2 out3 out4 out5 out6 out7 out8 out9 b3_ b4_ b5_ b6_ b7_ b8_ b9_ b10_ b11_ b12_))
def zqch {β : Type} : Nat → zqc8 β →  (List Int) → Int → Int → Int → Int → Int → (List UInt8) → Int → Int → Int → Int → Int → Int → Int → Int → (List UInt8) → Int → Int → Int → Int → (List Int) → (List zq0) → (List zq2) → (List Int) → (List (Int × (Int × Int))) → (List Int) → (List zq0) → (List zq2) → (List Int) → (List (Int × (Int × Int))) → Option β
  | 0 => fun _ _ _ _ _ _ _ _ _ _ _ _ _ _ _ _ _ _ _ _ _ _ _ _ _ _ _ _ _ _ _ => none
  | i + 1 => fun k1 d d2 t4 t42 t43 t44 t45 t46 t47 t48 t49 out out2 out3 out4 out5 out6 out7 out8 out9 b3_ b4_ b5_ b6_ b7_ b8_ b9_ b10_ b11_ b12_ => zqcg c_made_Dice_Next (zqch i k1) k1 d d2 t4 t42 t43 t44 t45 t46 t47 t48 t49 out out2 out3 out4 out5 out6 out7 out8 out9 b3_ b4_ b5_ b6_ b7_ b8_ b9_ b10_ b11_ b12_
theorem zqci (hΓ : ΓOk Try.prog (law37_odd_X c_made_Dice_Line c_made_Dice_Next c_made_Dice_One c_made_Dice_Some c_ref37_Copy).Γ) (i : Nat) : PieceOk Try.prog 146 1 law37_odd_p1_code zqca zqcb (law37_odd_p1_G (zqch c_made_Dice_Next i)) := by
  rw [show law37_odd_p1_code = .loop (loopBody law37_odd_p1_code) by kernel_rfl]
  exact piece_loop (X := (law37_odd_X c_made_Dice_Line c_made_Dice_Next c_made_Dice_One c_made_Dice_Some c_ref37_Copy)) (p := 1) (Λ := pick1 []) (G := fun i => @fun β d ks => law37_odd_p1_G (zqch c_made_Dice_Next i) d ks) mixed tab_ok hΓ rfl (by kernel_rfl) CutsOk_nil (fun _ _ => rfl) (fun i => @fun β d ks r h => Eq.trans (b := law37_odd_p1_G (zqch c_made_Dice_Next (i + 1)) d ks) (by kernel_rfl) h) i
def zqcj {β : Type} (rec : (List Int) → Int → Int → Int → Int → Int → (List UInt8) → Int → Int → Int → Int → Int → Int → Int → Int → (List UInt8) → Int → Int → Int → Int → (List Int) → (List zq0) → (List zq2) → (List Int) → (List (Int × (Int × Int))) → (List Int) → (List zq0) → (List zq2) → (List Int) → (List (Int × (Int × Int))) → Option β) (k1 : zqcc β) (b0_ : List Int) (b0_2 t4 t42 t43 t44 : Int) (t45 : List UInt8) (t46 t47 t48 t49 out out2 out3 out4 : Int) (out5 : List UInt8) (out6 out7 out8 out9 : Int) (b3_ : List Int) (b4_ : List zq0) (b5_ : List zq2) (b6_ : List Int) (b7_ : List (Int × (Int × Int))) (b8_ : List Int) (b9_ : List zq0) (b10_ : List zq2) (b11_ : List Int) (b12_ : List (Int × (Int × Int))) : Option β :=
  cond (decide ((List.length b12_ : Int) < 31))
  (let l : List (Int × (Int × Int)) := ([(864900, (1, 0)), (864900, (0, 0))] : List (Int × (Int × Int)));
  cond (decide ((List.length b12_ + List.length l) * 24 ≤ roomMax))
  (let l2 : List (Int × (Int × Int)) := (b12_ ++ l);
  rec b0_ b0_2 t4 t42 t43 t44 t45 t46 t47 t48 t49 out out2 out3 out4 out5 out6 out7 out8 out9 b3_ b4_ b5_ b6_ b7_ b8_ b9_ b10_ b11_ l2)
  none)
  (k1 b0_ b0_2 t4 t42 t43 t44 t45 t46 t47 t48 t49 out out2 out3 out4 out5 out6 out7 out8 out9 b3_ b4_ b5_ b6_ b7_ b8_ b9_ b10_ b11_ b12_)
def zqck {β : Type} : Nat → zqcc β →  (List Int) → Int → Int → Int → Int → Int → (List UInt8) → Int → Int → Int → Int → Int → Int → Int → Int → (List UInt8) → Int → Int → Int → Int → (List Int) → (List zq0) → (List zq2) → (List Int) → (List (Int × (Int × Int))) → (List Int) → (List zq0) → (List zq2) → (List Int) → (List (Int × (Int × Int))) → Option β
  | 0 => fun _ _ _ _ _ _ _ _ _ _ _ _ _ _ _ _ _ _ _ _ _ _ _ _ _ _ _ _ _ _ _ => none
  | i + 1 => fun k1 b0_ b0_2 t4 t42 t43 t44 t45 t46 t47 t48 t49 out out2 out3 out4 out5 out6 out7 out8 out9 b3_ b4_ b5_ b6_ b7_ b8_ b9_ b10_ b11_ b12_ => zqcj (zqck i k1) k1 b0_ b0_2 t4 t42 t43 t44 t45 t46 t47 t48 t49 out out2 out3 out4 out5 out6 out7 out8 out9 b3_ b4_ b5_ b6_ b7_ b8_ b9_ b10_ b11_ b12_
theorem zqcl (hΓ : ΓOk Try.prog (law37_odd_X c_made_Dice_Line c_made_Dice_Next c_made_Dice_One c_made_Dice_Some c_ref37_Copy).Γ) (i : Nat) : PieceOk Try.prog 146 1 law37_odd_p2_code zqce zqcf (law37_odd_p2_G (zqck i)) := by
  rw [show law37_odd_p2_code = .loop (loopBody law37_odd_p2_code) by kernel_rfl]
  exact piece_loop (X := (law37_odd_X c_made_Dice_Line c_made_Dice_Next c_made_Dice_One c_made_Dice_Some c_ref37_Copy)) (p := 1) (Λ := pick1 []) (G := fun i => @fun β d ks => law37_odd_p2_G (zqck i) d ks) mixed tab_ok hΓ rfl (by kernel_rfl) CutsOk_nil (fun _ _ => rfl) (fun i => @fun β d ks r h => Eq.trans (b := law37_odd_p2_G (zqck (i + 1)) d ks) (by kernel_rfl) h) i
def zqcm (p1 : zqc9) (p2 : zqcd) {β : Type} (x : zq4) (d : (List Int × Int)) (k : (zq4 → (List Int × Int) → Option β)) : Option β :=
  c_ref37_Copy x (fun rCopy rCopy2 rCopy3 rCopy4 rCopy5 rCopy6 rCopy7 rCopy8 rCopy9 lrCopy lrCopy2 lrCopy3 lrCopy4 lrCopy5 =>
  c_made_Dice_Next 14 d (fun rNext mrNext =>
  let t : Bool := (decide (rNext = 0));
  cond t
  (let l : List Int := ([0, 999999, 1000000] : List Int);
  c_made_Dice_One l mrNext (fun rOne mrOne =>
  k (rOne, (rCopy2, (rCopy3, (rCopy4, (rCopy5, ((rCopy6, (rCopy7, rCopy8)), (lrCopy, (lrCopy2, (lrCopy3, (lrCopy4, (lrCopy5, rCopy9))))))))))) mrOne))
  (let t2 : Bool := (decide (rNext = 1));
  cond t2
  (c_made_Dice_Next 7 mrNext (fun rNext2 mrNext2 =>
  k (rCopy, ((IntKind.i64.wrap (rNext2 - 1)), (rCopy3, (rCopy4, (rCopy5, ((rCopy6, (rCopy7, rCopy8)), (lrCopy, (lrCopy2, (lrCopy3, (lrCopy4, (lrCopy5, rCopy9))))))))))) mrNext2))
  (let t3 : Bool := (decide (rNext = 2));
  cond t3
  (let l : List Int := ([0, 1, 5, 6] : List Int);
  c_made_Dice_One l mrNext (fun rOne mrOne =>
  k (rCopy, (rCopy2, (rOne, (rCopy4, (rCopy5, ((rCopy6, (rCopy7, rCopy8)), (lrCopy, (lrCopy2, (lrCopy3, (lrCopy4, (lrCopy5, rCopy9))))))))))) mrOne))
  (let t4 : Bool := (decide (rNext = 3));
  cond t4
  (let l : List Int := ([(-1), 0, 864030, 8589934593] : List Int);
  c_made_Dice_One l mrNext (fun rOne mrOne =>
  k (rCopy, (rCopy2, (rCopy3, (rOne, (rCopy5, ((rCopy6, (rCopy7, rCopy8)), (lrCopy, (lrCopy2, (lrCopy3, (lrCopy4, (lrCopy5, rCopy9))))))))))) mrOne))
  (let t5 : Bool := (decide (rNext = 4));
  cond t5
  (c_made_Dice_Line mrNext (fun rLine mrLine =>
  k (rCopy, (rCopy2, (rCopy3, (rCopy4, (rLine, ((rCopy6, (rCopy7, rCopy8)), (lrCopy, (lrCopy2, (lrCopy3, (lrCopy4, (lrCopy5, rCopy9))))))))))) mrLine))
  (let t6 : Bool := (decide (rNext = 5));
  cond t6
  (c_made_Dice_Next 3 mrNext (fun rNext2 mrNext2 =>
  let l : List Int := ([(-2), (-1), 31, 32] : List Int);
  c_made_Dice_One l mrNext2 (fun rOne mrOne =>
  cond (decide (rNext2 = 0))
  (k (rCopy, (rCopy2, (rCopy3, (rCopy4, (rCopy5, ((rOne, (rCopy7, rCopy8)), (lrCopy, (lrCopy2, (lrCopy3, (lrCopy4, (lrCopy5, rCopy9))))))))))) mrOne)
  (cond (decide (rNext2 = 1))
  (k (rCopy, (rCopy2, (rCopy3, (rCopy4, (rCopy5, ((rCopy6, (rOne, rCopy8)), (lrCopy, (lrCopy2, (lrCopy3, (lrCopy4, (lrCopy5, rCopy9))))))))))) mrOne)
  (cond (decide (rNext2 = 2))
  (k (rCopy, (rCopy2, (rCopy3, (rCopy4, (rCopy5, ((rCopy6, (rCopy7, rOne)), (lrCopy, (lrCopy2, (lrCopy3, (lrCopy4, (lrCopy5, rCopy9))))))))))) mrOne)
  (none))))))
  (let t7 : Bool := (decide (rNext = 6));
  cond t7
  (c_made_Dice_Some mrNext (fun mrSome lrSome =>
  k (rCopy, (rCopy2, (rCopy3, (rCopy4, (rCopy5, ((rCopy6, (rCopy7, rCopy8)), (lrSome, (lrCopy2, (lrCopy3, (lrCopy4, (lrCopy5, rCopy9))))))))))) mrSome))
  (let t8 : Bool := (decide (rNext = 7));
  cond t8
  (c_made_Dice_Line mrNext (fun rLine mrLine =>
  let l : List Int := ([(-1), 0, 99] : List Int);
  c_made_Dice_One l mrLine (fun rOne mrOne =>
  c_made_Dice_Next 200 mrOne (fun rNext2 mrNext2 =>
  let l2 : List Int := ([(-1), 864000, 864300] : List Int);
  c_made_Dice_One l2 mrNext2 (fun rOne2 mrOne2 =>
  let l3 : List zq0 := ([(rLine, (rOne, ((IntKind.i64.wrap (864000 + rNext2)), rOne2)))] : List zq0);
  cond (decide ((List.length lrCopy2 + List.length l3) * 40 ≤ roomMax))
  (let l4 : List zq0 := (lrCopy2 ++ l3);
  k (rCopy, (rCopy2, (rCopy3, (rCopy4, (rCopy5, ((rCopy6, (rCopy7, rCopy8)), (lrCopy, (l4, (lrCopy3, (lrCopy4, (lrCopy5, rCopy9))))))))))) mrOne2)
  none)))))
  (let t9 : Bool := (decide (rNext = 8));
  cond t9
  (c_made_Dice_Next 300 mrNext (fun rNext2 mrNext2 =>
  c_made_Dice_Next 6 mrNext2 (fun rNext3 mrNext3 =>
  c_made_Dice_Line mrNext3 (fun rLine mrLine =>
  c_made_Dice_Some mrLine (fun mrSome lrSome =>
  let l : List zq2 := ([((IntKind.i64.wrap (864000 + rNext2)), (rNext3, (rLine, lrSome)))] : List zq2);
  cond (decide ((List.length lrCopy3 + List.length l) * 56 ≤ roomMax))
  (let l2 : List zq2 := (lrCopy3 ++ l);
  k (rCopy, (rCopy2, (rCopy3, (rCopy4, (rCopy5, ((rCopy6, (rCopy7, rCopy8)), (lrCopy, (lrCopy2, (l2, (lrCopy4, (lrCopy5, rCopy9))))))))))) mrSome)
  none)))))
  (let t10 : Bool := (decide (rNext = 9));
  cond t10
  (c_made_Dice_Next 300 mrNext (fun rNext2 mrNext2 =>
  c_made_Dice_Next 6 mrNext2 (fun rNext3 mrNext3 =>
  let l : List Int := ([(-2), (-1), 0] : List Int);
  c_made_Dice_One l mrNext3 (fun rOne mrOne =>
  let l2 : List (Int × (Int × Int)) := ([((IntKind.i64.wrap (864000 + rNext2)), (rNext3, rOne))] : List (Int × (Int × Int)));
  cond (decide ((List.length lrCopy5 + List.length l2) * 24 ≤ roomMax))
  (let l3 : List (Int × (Int × Int)) := (lrCopy5 ++ l2);
  k (rCopy, (rCopy2, (rCopy3, (rCopy4, (rCopy5, ((rCopy6, (rCopy7, rCopy8)), (lrCopy, (lrCopy2, (lrCopy3, (lrCopy4, (l3, rCopy9))))))))))) mrOne)
  none))))
  (let t11 : Bool := (decide (rNext = 10));
  cond t11
  (c_made_Dice_Some mrNext (fun mrSome lrSome =>
  k (rCopy, (rCopy2, (rCopy3, (rCopy4, (rCopy5, ((rCopy6, (rCopy7, rCopy8)), (lrCopy, (lrCopy2, (lrCopy3, (lrSome, (lrCopy5, rCopy9))))))))))) mrSome))
  (let t12 : Bool := (decide (rNext = 11));
  cond t12
  (let l : List Int := ([0, 1, 2] : List Int);
  c_made_Dice_One l mrNext (fun rOne mrOne =>
  k (rCopy, (rCopy2, (rCopy3, (rCopy4, (rCopy5, ((rCopy6, (rCopy7, rCopy8)), (lrCopy, (lrCopy2, (lrCopy3, (lrCopy4, (lrCopy5, rOne))))))))))) mrOne))
  (let t13 : Bool := (decide (rNext = 12));
  cond t13
  (p1 (fun b0_ b0_2 t42 t43 t44 t45 t46 t47 t48 t49 t410 out out2 out3 out4 out5 out6 out7 out8 out9 b3_ b4_ b5_ b6_ b7_ b8_ b9_ b10_ b11_ b12_ =>
  k (out, (out2, (out3, (out4, (out5, ((out6, (out7, out8)), (b8_, (b9_, (b10_, (b11_, (b12_, out9))))))))))) (b0_, b0_2)) mrNext.1 mrNext.2 0 0 0 0 ([] : List UInt8) 0 0 0 0 rCopy rCopy2 rCopy3 rCopy4 rCopy5 rCopy6 rCopy7 rCopy8 rCopy9 ([] : List Int) ([] : List zq0) ([] : List zq2) ([] : List Int) ([] : List (Int × (Int × Int))) lrCopy lrCopy2 lrCopy3 lrCopy4 lrCopy5)
  (let t14 : Bool := (decide (rNext = 13));
  cond t14
  (p2 (fun b0_ b0_2 t42 t43 t44 t45 t46 t47 t48 t49 t410 out out2 out3 out4 out5 out6 out7 out8 out9 b3_ b4_ b5_ b6_ b7_ b8_ b9_ b10_ b11_ b12_ =>
  k (out, (0, (out3, (out4, (out5, ((out6, (out7, out8)), (b8_, (b9_, (b10_, (b11_, (b12_, out9))))))))))) (b0_, b0_2)) mrNext.1 mrNext.2 0 0 0 0 ([] : List UInt8) 0 0 0 0 rCopy rCopy2 rCopy3 rCopy4 rCopy5 rCopy6 rCopy7 rCopy8 rCopy9 ([] : List Int) ([] : List zq0) ([] : List zq2) ([] : List Int) ([] : List (Int × (Int × Int))) lrCopy lrCopy2 lrCopy3 lrCopy4 lrCopy5)
  (k (rCopy, (rCopy2, (rCopy3, (rCopy4, (rCopy5, ((rCopy6, (rCopy7, rCopy8)), (lrCopy, (lrCopy2, (lrCopy3, (lrCopy4, (lrCopy5, rCopy9))))))))))) mrNext))))))))))))))))
theorem zqcn (hΓ : ΓOk Try.prog (law37_odd_X c_made_Dice_Line c_made_Dice_Next c_made_Dice_One c_made_Dice_Some c_ref37_Copy).Γ) (p1 : zqc9) (p2 : zqcd) (hp1 : PieceOk Try.prog 146 1 law37_odd_p1_code zqca zqcb (law37_odd_p1_G p1)) (hp2 : PieceOk Try.prog 146 1 law37_odd_p2_code zqce zqcf (law37_odd_p2_G p2)) : SpecOk Try.prog 9 (zqc7 (zqcm c_made_Dice_Line c_made_Dice_Next c_made_Dice_One c_made_Dice_Some c_ref37_Copy p1 p2)) :=
  spec_exec (X := (law37_odd_X c_made_Dice_Line c_made_Dice_Next c_made_Dice_One c_made_Dice_Some c_ref37_Copy)) (Λ := pick1 [(7918845948, pieceCut zqca zqcb (law37_odd_p1_G p1)), (63350767608, pieceCut zqce zqcf (law37_odd_p2_G p2))]) (rs := [.cell 4 32]) (c := bodyOf Try.f9) mixed tab_ok hΓ Try.func9 (by kernel_rfl) (by kernel_rfl) (by kernel_rfl) (by kernel_rfl) (CutsOk_cons (q := 7918845948) (c' := law37_odd_p1_code) (by kernel_rfl) rfl hp1 (CutsOk_cons (q := 63350767608) (c' := law37_odd_p2_code) (by kernel_rfl) rfl hp2 CutsOk_nil)) (fun x k r h => Eq.trans (b := (zqc7 (zqcm c_made_Dice_Line c_made_Dice_Next c_made_Dice_One c_made_Dice_Some c_ref37_Copy p1 p2)).run x k) (by kernel_rfl) h)
end
theorem zqcoΓ : ΓOk Try.prog (pick1 [(28, .spec (zq20 zq24)), (8, .spec (zql zqp)), (19, .spec (zq1b zq1f)), (29, .spec (zq27 zq2m)), (27, .spec (zq1i zq1x))]) := (ΓOk_cons zq25 (ΓOk_cons zqq (ΓOk_cons zq1g (ΓOk_cons zq2n (ΓOk_cons zq1y ΓOk_nil)))))
def zqcp (m : Nat) : zqc9 := zqch zqp m
theorem zqcq {β : Type} (i : Nat) (k1 d d2 t4 t42 t43 t44 t45 t46 t47 t48 t49 out out2 out3 out4 out5 out6 out7 out8 out9 b3_ b4_ b5_ b6_ b7_ b8_ b9_ b10_ b11_ b12_) : (zqcp (i + 1) k1 d d2 t4 t42 t43 t44 t45 t46 t47 t48 t49 out out2 out3 out4 out5 out6 out7 out8 out9 b3_ b4_ b5_ b6_ b7_ b8_ b9_ b10_ b11_ b12_ : Option β) = zqcg zqp (zqcp i k1) k1 d d2 t4 t42 t43 t44 t45 t46 t47 t48 t49 out out2 out3 out4 out5 out6 out7 out8 out9 b3_ b4_ b5_ b6_ b7_ b8_ b9_ b10_ b11_ b12_ := rfl
def zqcr : zqc9 := zqcp fuel
theorem zqcs : PieceOk Try.prog 146 1 law37_odd_p1_code zqca zqcb (law37_odd_p1_G zqcr) := zqci zq24 zqp zq1f zq2m zq1x zqcoΓ fuel
def zqct (m : Nat) : zqcd := zqck m
theorem zqcu {β : Type} (i : Nat) (k1 b0_ b0_2 t4 t42 t43 t44 t45 t46 t47 t48 t49 out out2 out3 out4 out5 out6 out7 out8 out9 b3_ b4_ b5_ b6_ b7_ b8_ b9_ b10_ b11_ b12_) : (zqct (i + 1) k1 b0_ b0_2 t4 t42 t43 t44 t45 t46 t47 t48 t49 out out2 out3 out4 out5 out6 out7 out8 out9 b3_ b4_ b5_ b6_ b7_ b8_ b9_ b10_ b11_ b12_ : Option β) = zqcj (zqct i k1) k1 b0_ b0_2 t4 t42 t43 t44 t45 t46 t47 t48 t49 out out2 out3 out4 out5 out6 out7 out8 out9 b3_ b4_ b5_ b6_ b7_ b8_ b9_ b10_ b11_ b12_ := rfl
def zqcv : zqcd := zqct fuel
theorem zqcw : PieceOk Try.prog 146 1 law37_odd_p2_code zqce zqcf (law37_odd_p2_G zqcv) := zqcl zq24 zqp zq1f zq2m zq1x zqcoΓ fuel
def zqcx : zqc6 := zqcm zq24 zqp zq1f zq2m zq1x zqcr zqcv
theorem zqcy : SpecOk Try.prog 9 (zqc7 zqcx) := zqcn zq24 zqp zq1f zq2m zq1x zqcoΓ zqcr zqcv zqcs zqcw
abbrev zqcz := {β : Type} → zq4 → zq4 → (Bool → Option β) → Option β
def zqd0 (c : zqcz) : Spec :=
  ⟨[(true, [.data zq5]), (true, [.data zq5])], [], [(false, [.data .bool])], [], fun x k => c x.1.1.1 x.1.2.1.1 (fun r0 => k (((r0, ()), ()), ()))⟩
noncomputable def ref37_Same_p1_code : Code := codeAt 58 (bodyOf Try.f12)
noncomputable def ref37_Same_p2_code : Code := codeAt 122 (bodyOf Try.f12)
noncomputable def ref37_Same_p3_code : Code := codeAt 250 (bodyOf Try.f12)
abbrev zqd1 (β : Type) := Bool → Option β
abbrev zqd2 (β : Type) := Int → Int → Int → Int → (List UInt8) → Int → Int → Int → (List Int) → (List zq0) → (List zq2) → (List Int) → (List (Int × (Int × Int))) → Int → Int → Int → Int → Int → (List UInt8) → Int → Int → Int → (List Int) → (List zq0) → (List zq2) → (List Int) → (List (Int × (Int × Int))) → Int → Option β
abbrev zqd3 := {β : Type} → zqd1 β → zqd2 β → Int → Int → Int → Int → Int → (List UInt8) → Int → Int → Int → (List Int) → (List zq0) → (List zq2) → (List Int) → (List (Int × (Int × Int))) → Int → Int → Int → Int → Int → (List UInt8) → Int → Int → Int → (List Int) → (List zq0) → (List zq2) → (List Int) → (List (Int × (Int × Int))) → Int → Option β
def zqd4 : View := ⟨0, [2, 3, 5], [(false, [.ptr 0 0]),  (false, [.ptr 1 0]), (false, [.data (.int .i64)])], [.cells 32 [.data (.int .i64), .data (.int .i64), .data (.int .i64), .data (.int .i64), .data .str, .data (.int .i64), .data (.int .i64), .data (.int .i64), .data (.slice (.int .i64)), .data (.slice zq1), .data (.slice zq3), .data (.slice (.int .i64)), .data (.slice (.prod (.int .i64) (.prod (.int .i64) (.int .i64)))), .data (.int .i64)], .cells 32 [.data (.int .i64), .data (.int .i64), .data (.int .i64), .data (.int .i64), .data .str, .data (.int .i64), .data (.int .i64), .data (.int .i64), .data (.slice (.int .i64)), .data (.slice zq1), .data (.slice zq3), .data (.slice (.int .i64)), .data (.slice (.prod (.int .i64) (.prod (.int .i64) (.int .i64)))), .data (.int .i64)]]⟩
def zqd5 : List  (AExit × View) := [(.ret, ⟨0, [4], [(false, [.data .bool])], []⟩), (.exit 0, ⟨0, [2, 3], [(false, [.ptr 0 0]), (false, [.ptr 1 0])], [.cells 32 [.data (.int .i64), .data (.int .i64), .data (.int .i64), .data (.int .i64), .data .str, .data (.int .i64), .data (.int .i64), .data (.int .i64), .data (.slice (.int .i64)), .data (.slice zq1), .data (.slice zq3), .data (.slice (.int .i64)), .data (.slice (.prod (.int .i64) (.prod (.int .i64) (.int .i64)))), .data (.int .i64)], .cells 32 [.data (.int .i64), .data (.int .i64), .data (.int .i64), .data (.int .i64), .data .str, .data (.int .i64), .data (.int .i64), .data (.int .i64), .data (.slice (.int .i64)), .data (.slice zq1), .data (.slice zq3), .data (.slice (.int .i64)), .data (.slice (.prod (.int .i64) (.prod (.int .i64) (.int .i64)))), .data (.int .i64)]]⟩)]
@[reducible] def ref37_Same_p1_G (p : zqd3) {β : Type} (d : zqd4.den) (ks : Outs.K β zqd5) : Option β :=
  p (fun a0 => ks.1 (((a0, ()), ()), ())) (fun a0 a1 a2 a3 a4 a5 a6 a7 a8 a9 a10 a11 a12 a13 a14 a15 a16 a17 a18 a19 a20 a21 a22 a23 a24 a25 a26 a27 => ks.2.1 (((), (), ()), ((a0, a1, a2, a3, a4, a5, a6, a7, a8, a9, a10, a11, a12, a13, ()), (a14, a15, a16, a17, a18, a19, a20, a21, a22, a23, a24, a25, a26, a27, ()), ()))) d.1.2.2.1.1 d.2.1.1 d.2.1.2.1 d.2.1.2.2.1 d.2.1.2.2.2.1 d.2.1.2.2.2.2.1 d.2.1.2.2.2.2.2.1 d.2.1.2.2.2.2.2.2.1 d.2.1.2.2.2.2.2.2.2.1 d.2.1.2.2.2.2.2.2.2.2.1 d.2.1.2.2.2.2.2.2.2.2.2.1 d.2.1.2.2.2.2.2.2.2.2.2.2.1 d.2.1.2.2.2.2.2.2.2.2.2.2.2.1 d.2.1.2.2.2.2.2.2.2.2.2.2.2.2.1 d.2.1.2.2.2.2.2.2.2.2.2.2.2.2.2.1 d.2.2.1.1 d.2.2.1.2.1 d.2.2.1.2.2.1 d.2.2.1.2.2.2.1 d.2.2.1.2.2.2.2.1 d.2.2.1.2.2.2.2.2.1 d.2.2.1.2.2.2.2.2.2.1 d.2.2.1.2.2.2.2.2.2.2.1 d.2.2.1.2.2.2.2.2.2.2.2.1 d.2.2.1.2.2.2.2.2.2.2.2.2.1 d.2.2.1.2.2.2.2.2.2.2.2.2.2.1 d.2.2.1.2.2.2.2.2.2.2.2.2.2.2.1 d.2.2.1.2.2.2.2.2.2.2.2.2.2.2.2.1 d.2.2.1.2.2.2.2.2.2.2.2.2.2.2.2.2.1
abbrev zqd6 (β : Type) := Bool → Option β
abbrev zqd7 (β : Type) := Int → Int → Int → Int → (List UInt8) → Int → Int → Int → (List Int) → (List zq0) → (List zq2) → (List Int) → (List (Int × (Int × Int))) → Int → Int → Int → Int → Int → (List UInt8) → Int → Int → Int → (List Int) → (List zq0) → (List zq2) → (List Int) → (List (Int × (Int × Int))) → Int → Option β
abbrev zqd8 := {β : Type} → zqd6 β → zqd7 β → Int → Int → Int → Int → Int → (List UInt8) → Int → Int → Int → (List Int) → (List zq0) → (List zq2) → (List Int) → (List (Int × (Int × Int))) → Int → Int → Int → Int → Int → (List UInt8) → Int → Int → Int → (List Int) → (List zq0) → (List zq2) → (List Int) → (List (Int × (Int × Int))) → Int → Option β
def zqd9 : View := ⟨0, [2, 3, 6], [(false, [.ptr 0 0]),  (false, [.ptr 1 0]), (false, [.data (.int .i64)])], [.cells 32 [.data (.int .i64), .data (.int .i64), .data (.int .i64), .data (.int .i64), .data .str, .data (.int .i64), .data (.int .i64), .data (.int .i64), .data (.slice (.int .i64)), .data (.slice zq1), .data (.slice zq3), .data (.slice (.int .i64)), .data (.slice (.prod (.int .i64) (.prod (.int .i64) (.int .i64)))), .data (.int .i64)], .cells 32 [.data (.int .i64), .data (.int .i64), .data (.int .i64), .data (.int .i64), .data .str, .data (.int .i64), .data (.int .i64), .data (.int .i64), .data (.slice (.int .i64)), .data (.slice zq1), .data (.slice zq3), .data (.slice (.int .i64)), .data (.slice (.prod (.int .i64) (.prod (.int .i64) (.int .i64)))), .data (.int .i64)]]⟩
def zqda : List  (AExit × View) := [(.ret, ⟨0, [4], [(false, [.data .bool])], []⟩), (.exit 2, ⟨0, [2, 3], [(false, [.ptr 0 0]), (false, [.ptr 1 0])], [.cells 32 [.data (.int .i64), .data (.int .i64), .data (.int .i64), .data (.int .i64), .data .str, .data (.int .i64), .data (.int .i64), .data (.int .i64), .data (.slice (.int .i64)), .data (.slice zq1), .data (.slice zq3), .data (.slice (.int .i64)), .data (.slice (.prod (.int .i64) (.prod (.int .i64) (.int .i64)))), .data (.int .i64)], .cells 32 [.data (.int .i64), .data (.int .i64), .data (.int .i64), .data (.int .i64), .data .str, .data (.int .i64), .data (.int .i64), .data (.int .i64), .data (.slice (.int .i64)), .data (.slice zq1), .data (.slice zq3), .data (.slice (.int .i64)), .data (.slice (.prod (.int .i64) (.prod (.int .i64) (.int .i64)))), .data (.int .i64)]]⟩)]
@[reducible] def ref37_Same_p2_G (p : zqd8) {β : Type} (d : zqd9.den) (ks : Outs.K β zqda) : Option β :=
  p (fun a0 => ks.1 (((a0, ()), ()), ())) (fun a0 a1 a2 a3 a4 a5 a6 a7 a8 a9 a10 a11 a12 a13 a14 a15 a16 a17 a18 a19 a20 a21 a22 a23 a24 a25 a26 a27 => ks.2.1 (((), (), ()), ((a0, a1, a2, a3, a4, a5, a6, a7, a8, a9, a10, a11, a12, a13, ()), (a14, a15, a16, a17, a18, a19, a20, a21, a22, a23, a24, a25, a26, a27, ()), ()))) d.1.2.2.1.1 d.2.1.1 d.2.1.2.1 d.2.1.2.2.1 d.2.1.2.2.2.1 d.2.1.2.2.2.2.1 d.2.1.2.2.2.2.2.1 d.2.1.2.2.2.2.2.2.1 d.2.1.2.2.2.2.2.2.2.1 d.2.1.2.2.2.2.2.2.2.2.1 d.2.1.2.2.2.2.2.2.2.2.2.1 d.2.1.2.2.2.2.2.2.2.2.2.2.1 d.2.1.2.2.2.2.2.2.2.2.2.2.2.1 d.2.1.2.2.2.2.2.2.2.2.2.2.2.2.1 d.2.1.2.2.2.2.2.2.2.2.2.2.2.2.2.1 d.2.2.1.1 d.2.2.1.2.1 d.2.2.1.2.2.1 d.2.2.1.2.2.2.1 d.2.2.1.2.2.2.2.1 d.2.2.1.2.2.2.2.2.1 d.2.2.1.2.2.2.2.2.2.1 d.2.2.1.2.2.2.2.2.2.2.1 d.2.2.1.2.2.2.2.2.2.2.2.1 d.2.2.1.2.2.2.2.2.2.2.2.2.1 d.2.2.1.2.2.2.2.2.2.2.2.2.2.1 d.2.2.1.2.2.2.2.2.2.2.2.2.2.2.1 d.2.2.1.2.2.2.2.2.2.2.2.2.2.2.2.1 d.2.2.1.2.2.2.2.2.2.2.2.2.2.2.2.2.1
abbrev zqdb (β : Type) := Bool → Option β
abbrev zqdc (β : Type) := Unit → Option β
abbrev zqdd := {β : Type} → zqdb β → zqdc β → Int → Int → Int → Int → Int → (List UInt8) → Int → Int → Int → (List Int) → (List zq0) → (List zq2) → (List Int) → (List (Int × (Int × Int))) → Int → Int → Int → Int → Int → (List UInt8) → Int → Int → Int → (List Int) → (List zq0) → (List zq2) → (List Int) → (List (Int × (Int × Int))) → Int → Option β
def zqde : View := ⟨0, [2, 3, 7], [(false, [.ptr 0 0]),  (false, [.ptr 1 0]), (false, [.data (.int .i64)])], [.cells 32 [.data (.int .i64), .data (.int .i64), .data (.int .i64), .data (.int .i64), .data .str, .data (.int .i64), .data (.int .i64), .data (.int .i64), .data (.slice (.int .i64)), .data (.slice zq1), .data (.slice zq3), .data (.slice (.int .i64)), .data (.slice (.prod (.int .i64) (.prod (.int .i64) (.int .i64)))), .data (.int .i64)], .cells 32 [.data (.int .i64), .data (.int .i64), .data (.int .i64), .data (.int .i64), .data .str, .data (.int .i64), .data (.int .i64), .data (.int .i64), .data (.slice (.int .i64)), .data (.slice zq1), .data (.slice zq3), .data (.slice (.int .i64)), .data (.slice (.prod (.int .i64) (.prod (.int .i64) (.int .i64)))), .data (.int .i64)]]⟩
def zqdf : List  (AExit × View) := [(.ret, ⟨0, [4], [(false, [.data .bool])], []⟩), (.exit 4, ⟨0, [], [], []⟩)]
@[reducible] def ref37_Same_p3_G (p : zqdd) {β : Type} (d : zqde.den) (ks : Outs.K β zqdf) : Option β :=
  p (fun a0 => ks.1 (((a0, ()), ()), ())) (fun _ => ks.2.1 ((), ())) d.1.2.2.1.1 d.2.1.1 d.2.1.2.1 d.2.1.2.2.1 d.2.1.2.2.2.1 d.2.1.2.2.2.2.1 d.2.1.2.2.2.2.2.1 d.2.1.2.2.2.2.2.2.1 d.2.1.2.2.2.2.2.2.2.1 d.2.1.2.2.2.2.2.2.2.2.1 d.2.1.2.2.2.2.2.2.2.2.2.1 d.2.1.2.2.2.2.2.2.2.2.2.2.1 d.2.1.2.2.2.2.2.2.2.2.2.2.2.1 d.2.1.2.2.2.2.2.2.2.2.2.2.2.2.1 d.2.1.2.2.2.2.2.2.2.2.2.2.2.2.2.1 d.2.2.1.1 d.2.2.1.2.1 d.2.2.1.2.2.1 d.2.2.1.2.2.2.1 d.2.2.1.2.2.2.2.1 d.2.2.1.2.2.2.2.2.1 d.2.2.1.2.2.2.2.2.2.1 d.2.2.1.2.2.2.2.2.2.2.1 d.2.2.1.2.2.2.2.2.2.2.2.1 d.2.2.1.2.2.2.2.2.2.2.2.2.1 d.2.2.1.2.2.2.2.2.2.2.2.2.2.1 d.2.2.1.2.2.2.2.2.2.2.2.2.2.2.1 d.2.2.1.2.2.2.2.2.2.2.2.2.2.2.2.1 d.2.2.1.2.2.2.2.2.2.2.2.2.2.2.2.2.1
section
variable (c_ref25_Same : zq5n)
@[reducible] def ref37_Same_X : Ctx := ⟨look tab, pick1 [(44, .spec (zq5o c_ref25_Same))], false, false, false, false⟩
def zqdg {β : Type} (rec : Int → Int → Int → Int → Int → (List UInt8) → Int → Int → Int → (List Int) → (List zq0) → (List zq2) → (List Int) → (List (Int × (Int × Int))) → Int → Int → Int → Int → Int → (List UInt8) → Int → Int → Int → (List Int) → (List zq0) → (List zq2) → (List Int) → (List (Int × (Int × Int))) → Int → Option β) (k1 : zqd1 β) (k2 : zqd2 β) (i_ a a2 a3 a4 : Int) (a5 : List UInt8) (a6 a7 a8 : Int) (a9 : List Int) (a10 : List zq0) (a11 : List zq2) (a12 : List Int) (a13 : List (Int × (Int × Int))) (a14 b b2 b3 b4 : Int) (b5 : List UInt8) (b6 b7 b8 : Int) (b9 : List Int) (b10 : List zq0) (b11 : List zq2) (b12 : List Int) (b13 : List (Int × (Int × Int))) (b14 : Int) : Option β :=
  cond (decide (i_ < (List.length a10 : Int)))
  (cond (decide (0 ≤ i_) && decide (i_ < (List.length a10 : Int)))
  (let e : zq0 := List.getD a10 (Int.toNat i_) (([] : List UInt8), (0, (0, 0)));
  cond (decide (0 ≤ i_) && decide (i_ < (List.length b10 : Int)))
  (let e2 : zq0 := List.getD b10 (Int.toNat i_) (([] : List UInt8), (0, (0, 0)));
  cond (!(decide (e.1 = e2.1) && (decide (e.2.1 = e2.2.1) && (decide (e.2.2.1 = e2.2.2.1) && (decide (e.2.2.2 = e2.2.2.2) && true)))))
  (k1 false)
  (let i_2 : Int := (IntKind.i64.wrap (i_ + 1));
  rec i_2 a a2 a3 a4 a5 a6 a7 a8 a9 a10 a11 a12 a13 a14 b b2 b3 b4 b5 b6 b7 b8 b9 b10 b11 b12 b13 b14))
  none)
  none)
  (k2 a a2 a3 a4 a5 a6 a7 a8 a9 a10 a11 a12 a13 a14 b b2 b3 b4 b5 b6 b7 b8 b9 b10 b11 b12 b13 b14)
def zqdh {β : Type} : Nat → zqd1 β → zqd2 β → Int → Int → Int → Int → Int →  (List UInt8) → Int → Int → Int → (List Int) → (List zq0) → (List zq2) → (List Int) → (List (Int × (Int × Int))) → Int → Int → Int → Int → Int → (List UInt8) → Int → Int → Int → (List Int) → (List zq0) → (List zq2) → (List Int) → (List (Int × (Int × Int))) → Int → Option β
  | 0 => fun _ _ _ _ _ _ _ _ _ _ _ _ _ _ _ _ _ _ _ _ _ _ _ _ _ _ _ _ _ _ _ => none
  | i + 1 => fun k1 k2 i_ a a2 a3 a4 a5 a6 a7 a8 a9 a10 a11 a12 a13 a14 b b2 b3 b4 b5 b6 b7 b8 b9 b10 b11 b12 b13 b14 => zqdg (zqdh i k1 k2) k1 k2 i_ a a2 a3 a4 a5 a6 a7 a8 a9 a10 a11 a12 a13 a14 b b2 b3 b4 b5 b6 b7 b8 b9 b10 b11 b12 b13 b14
theorem zqdi (hΓ : ΓOk Try.prog (ref37_Same_X c_ref25_Same).Γ) (i : Nat) : PieceOk Try.prog 180 0 ref37_Same_p1_code zqd4 zqd5 (ref37_Same_p1_G (zqdh i)) := by
  rw [show ref37_Same_p1_code = .loop (loopBody ref37_Same_p1_code) by kernel_rfl]
  exact piece_loop (X := (ref37_Same_X c_ref25_Same)) (p := 1) (Λ := pick1 []) (G := fun i => @fun β d ks => ref37_Same_p1_G (zqdh i) d ks) mixed tab_ok hΓ rfl (by kernel_rfl) CutsOk_nil (fun _ _ => rfl) (fun i => @fun β d ks r h => Eq.trans (b := ref37_Same_p1_G (zqdh (i + 1)) d ks) (by kernel_rfl) h) i
def zqdj {β : Type} (rec : Int → Int → Int → Int → Int → (List UInt8) → Int → Int → Int → (List Int) → (List zq0) → (List zq2) → (List Int) → (List (Int × (Int × Int))) → Int → Int → Int → Int → Int → (List UInt8) → Int → Int → Int → (List Int) → (List zq0) → (List zq2) → (List Int) → (List (Int × (Int × Int))) → Int → Option β) (k1 : zqd6 β) (k2 : zqd7 β) (i_ a a2 a3 a4 : Int) (a5 : List UInt8) (a6 a7 a8 : Int) (a9 : List Int) (a10 : List zq0) (a11 : List zq2) (a12 : List Int) (a13 : List (Int × (Int × Int))) (a14 b b2 b3 b4 : Int) (b5 : List UInt8) (b6 b7 b8 : Int) (b9 : List Int) (b10 : List zq0) (b11 : List zq2) (b12 : List Int) (b13 : List (Int × (Int × Int))) (b14 : Int) : Option β :=
  cond (decide (i_ < (List.length a13 : Int)))
  (cond (decide (0 ≤ i_) && decide (i_ < (List.length a13 : Int)))
  (let e : (Int × (Int × Int)) := List.getD a13 (Int.toNat i_) (0, (0, 0));
  cond (decide (0 ≤ i_) && decide (i_ < (List.length b13 : Int)))
  (let e2 : (Int × (Int × Int)) := List.getD b13 (Int.toNat i_) (0, (0, 0));
  cond (!(decide (e.1 = e2.1) && (decide (e.2.1 = e2.2.1) && (decide (e.2.2 = e2.2.2) && true))))
  (k1 false)
  (let i_2 : Int := (IntKind.i64.wrap (i_ + 1));
  rec i_2 a a2 a3 a4 a5 a6 a7 a8 a9 a10 a11 a12 a13 a14 b b2 b3 b4 b5 b6 b7 b8 b9 b10 b11 b12 b13 b14))
  none)
  none)
  (k2 a a2 a3 a4 a5 a6 a7 a8 a9 a10 a11 a12 a13 a14 b b2 b3 b4 b5 b6 b7 b8 b9 b10 b11 b12 b13 b14)
def zqdk {β : Type} : Nat → zqd6 β → zqd7 β → Int → Int → Int → Int → Int →  (List UInt8) → Int → Int → Int → (List Int) → (List zq0) → (List zq2) → (List Int) → (List (Int × (Int × Int))) → Int → Int → Int → Int → Int → (List UInt8) → Int → Int → Int → (List Int) → (List zq0) → (List zq2) → (List Int) → (List (Int × (Int × Int))) → Int → Option β
  | 0 => fun _ _ _ _ _ _ _ _ _ _ _ _ _ _ _ _ _ _ _ _ _ _ _ _ _ _ _ _ _ _ _ => none
  | i + 1 => fun k1 k2 i_ a a2 a3 a4 a5 a6 a7 a8 a9 a10 a11 a12 a13 a14 b b2 b3 b4 b5 b6 b7 b8 b9 b10 b11 b12 b13 b14 => zqdj (zqdk i k1 k2) k1 k2 i_ a a2 a3 a4 a5 a6 a7 a8 a9 a10 a11 a12 a13 a14 b b2 b3 b4 b5 b6 b7 b8 b9 b10 b11 b12 b13 b14
theorem zqdl (hΓ : ΓOk Try.prog (ref37_Same_X c_ref25_Same).Γ) (i : Nat) : PieceOk Try.prog 180 0 ref37_Same_p2_code zqd9 zqda (ref37_Same_p2_G (zqdk i)) := by
  rw [show ref37_Same_p2_code = .loop (loopBody ref37_Same_p2_code) by kernel_rfl]
  exact piece_loop (X := (ref37_Same_X c_ref25_Same)) (p := 1) (Λ := pick1 []) (G := fun i => @fun β d ks => ref37_Same_p2_G (zqdk i) d ks) mixed tab_ok hΓ rfl (by kernel_rfl) CutsOk_nil (fun _ _ => rfl) (fun i => @fun β d ks r h => Eq.trans (b := ref37_Same_p2_G (zqdk (i + 1)) d ks) (by kernel_rfl) h) i
def zqdm {β : Type} (rec : Int → Int → Int → Int → Int → (List UInt8) → Int → Int → Int → (List Int) → (List zq0) → (List zq2) → (List Int) → (List (Int × (Int × Int))) → Int → Int → Int → Int → Int → (List UInt8) → Int → Int → Int → (List Int) → (List zq0) → (List zq2) → (List Int) → (List (Int × (Int × Int))) → Int → Option β) (k1 : zqdb β) (k2 : zqdc β) (i_ a a2 a3 a4 : Int) (a5 : List UInt8) (a6 a7 a8 : Int) (a9 : List Int) (a10 : List zq0) (a11 : List zq2) (a12 : List Int) (a13 : List (Int × (Int × Int))) (a14 b b2 b3 b4 : Int) (b5 : List UInt8) (b6 b7 b8 : Int) (b9 : List Int) (b10 : List zq0) (b11 : List zq2) (b12 : List Int) (b13 : List (Int × (Int × Int))) (b14 : Int) : Option β :=
  cond (decide (i_ < (List.length a11 : Int)))
  (cond (decide (0 ≤ i_) && decide (i_ < (List.length a11 : Int)))
  (let e : zq2 := List.getD a11 (Int.toNat i_) (0, (0, (([] : List UInt8), ([] : List Int))));
  cond (decide (0 ≤ i_) && decide (i_ < (List.length b11 : Int)))
  (let e2 : zq2 := List.getD b11 (Int.toNat i_) (0, (0, (([] : List UInt8), ([] : List Int))));
  cond (!decide (e.1 = e2.1))
  (k1 false)
  (cond (!decide (e.2.1 = e2.2.1))
  (k1 false)
  (cond (!decide (e.2.2.1 = e2.2.2.1))
  (k1 false)
  (c_ref25_Same e.2.2.2 e2.2.2.2 (fun rSame =>
  cond (!rSame)
  (k1 false)
  (let i_2 : Int := (IntKind.i64.wrap (i_ + 1));
  rec i_2 a a2 a3 a4 a5 a6 a7 a8 a9 a10 a11 a12 a13 a14 b b2 b3 b4 b5 b6 b7 b8 b9 b10 b11 b12 b13 b14))))))
  none)
  none)
  (k2 ())
def zqdn {β : Type} : Nat → zqdb β → zqdc β → Int → Int → Int → Int → Int →  (List UInt8) → Int → Int → Int → (List Int) → (List zq0) → (List zq2) → (List Int) → (List (Int × (Int × Int))) → Int → Int → Int → Int → Int → (List UInt8) → Int → Int → Int → (List Int) → (List zq0) → (List zq2) → (List Int) → (List (Int × (Int × Int))) → Int → Option β
  | 0 => fun _ _ _ _ _ _ _ _ _ _ _ _ _ _ _ _ _ _ _ _ _ _ _ _ _ _ _ _ _ _ _ => none
  | i + 1 => fun k1 k2 i_ a a2 a3 a4 a5 a6 a7 a8 a9 a10 a11 a12 a13 a14 b b2 b3 b4 b5 b6 b7 b8 b9 b10 b11 b12 b13 b14 => zqdm c_ref25_Same (zqdn i k1 k2) k1 k2 i_ a a2 a3 a4 a5 a6 a7 a8 a9 a10 a11 a12 a13 a14 b b2 b3 b4 b5 b6 b7 b8 b9 b10 b11 b12 b13 b14
theorem zqdo (hΓ : ΓOk Try.prog (ref37_Same_X c_ref25_Same).Γ) (i : Nat) : PieceOk Try.prog 180 0 ref37_Same_p3_code zqde zqdf (ref37_Same_p3_G (zqdn c_ref25_Same i)) := by
  rw [show ref37_Same_p3_code = .loop (loopBody ref37_Same_p3_code) by kernel_rfl]
  exact piece_loop (X := (ref37_Same_X c_ref25_Same)) (p := 1) (Λ := pick1 []) (G := fun i => @fun β d ks => ref37_Same_p3_G (zqdn c_ref25_Same i) d ks) mixed tab_ok hΓ rfl (by kernel_rfl) CutsOk_nil (fun _ _ => rfl) (fun i => @fun β d ks r h => Eq.trans (b := ref37_Same_p3_G (zqdn c_ref25_Same (i + 1)) d ks) (by kernel_rfl) h) i
def zqdp (p1 : zqd3) (p2 : zqd8) (p3 : zqdd) {β : Type} (a : zq4) (b : zq4) (k : (Bool → Option β)) : Option β :=
  cond (!decide (a.1 = b.1))
  (k false)
  (cond (!decide (a.2.1 = b.2.1))
  (k false)
  (cond (!decide (a.2.2.1 = b.2.2.1))
  (k false)
  (cond (!decide (a.2.2.2.1 = b.2.2.2.1))
  (k false)
  (cond (!decide (a.2.2.2.2.1 = b.2.2.2.2.1))
  (k false)
  (cond (!(decide (a.2.2.2.2.2.1.1 = b.2.2.2.2.2.1.1) && (decide (a.2.2.2.2.2.1.2.1 = b.2.2.2.2.2.1.2.1) && (decide (a.2.2.2.2.2.1.2.2 = b.2.2.2.2.2.1.2.2) && true))))
  (k false)
  (cond (!decide (a.2.2.2.2.2.2.2.2.2.2.2 = b.2.2.2.2.2.2.2.2.2.2.2))
  (k false)
  (c_ref25_Same a.2.2.2.2.2.2.1 b.2.2.2.2.2.2.1 (fun rSame =>
  cond (!rSame)
  (k false)
  (c_ref25_Same a.2.2.2.2.2.2.2.2.2.1 b.2.2.2.2.2.2.2.2.2.1 (fun rSame2 =>
  cond (!rSame2)
  (k false)
  (cond (!decide ((List.length a.2.2.2.2.2.2.2.1 : Int) = (List.length b.2.2.2.2.2.2.2.1 : Int)))
  (k false)
  (cond (!decide ((List.length a.2.2.2.2.2.2.2.2.1 : Int) = (List.length b.2.2.2.2.2.2.2.2.1 : Int)))
  (k false)
  (cond (!decide ((List.length a.2.2.2.2.2.2.2.2.2.2.1 : Int) = (List.length b.2.2.2.2.2.2.2.2.2.2.1 : Int)))
  (k false)
  (p1 (fun t4 =>
  k t4) (fun a2 a3 a4 a5 a6 a7 a8 a9 a10 a11 a12 a13 a14 a15 b2 b3 b4 b5 b6 b7 b8 b9 b10 b11 b12 b13 b14 b15 =>
  p2 (fun t4 =>
  k t4) (fun a16 a17 a18 a19 a20 a21 a22 a23 a24 a25 a26 a27 a28 a29 b16 b17 b18 b19 b20 b21 b22 b23 b24 b25 b26 b27 b28 b29 =>
  p3 (fun t4 =>
  k t4) (fun _ =>
  k true) 0 a16 a17 a18 a19 a20 a21 a22 a23 a24 a25 a26 a27 a28 a29 b16 b17 b18 b19 b20 b21 b22 b23 b24 b25 b26 b27 b28 b29) 0 a2 a3 a4 a5 a6 a7 a8 a9 a10 a11 a12 a13 a14 a15 b2 b3 b4 b5 b6 b7 b8 b9 b10 b11 b12 b13 b14 b15) 0 a.1 a.2.1 a.2.2.1 a.2.2.2.1 a.2.2.2.2.1 a.2.2.2.2.2.1.1 a.2.2.2.2.2.1.2.1 a.2.2.2.2.2.1.2.2 a.2.2.2.2.2.2.1 a.2.2.2.2.2.2.2.1 a.2.2.2.2.2.2.2.2.1 a.2.2.2.2.2.2.2.2.2.1 a.2.2.2.2.2.2.2.2.2.2.1 a.2.2.2.2.2.2.2.2.2.2.2 b.1 b.2.1 b.2.2.1 b.2.2.2.1 b.2.2.2.2.1 b.2.2.2.2.2.1.1 b.2.2.2.2.2.1.2.1 b.2.2.2.2.2.1.2.2 b.2.2.2.2.2.2.1 b.2.2.2.2.2.2.2.1 b.2.2.2.2.2.2.2.2.1 b.2.2.2.2.2.2.2.2.2.1 b.2.2.2.2.2.2.2.2.2.2.1 b.2.2.2.2.2.2.2.2.2.2.2))))))))))))))
theorem zqdq (hΓ : ΓOk Try.prog (ref37_Same_X c_ref25_Same).Γ) (p1 : zqd3) (p2 : zqd8) (p3 : zqdd) (hp1 : PieceOk Try.prog 180 0 ref37_Same_p1_code zqd4 zqd5 (ref37_Same_p1_G p1)) (hp2 : PieceOk Try.prog 180 0 ref37_Same_p2_code zqd9 zqda (ref37_Same_p2_G p2)) (hp3 : PieceOk Try.prog 180 0 ref37_Same_p3_code zqde zqdf (ref37_Same_p3_G p3)) : SpecOk Try.prog 12 (zqd0 (zqdp c_ref25_Same p1 p2 p3)) :=
  spec_exec (X := (ref37_Same_X c_ref25_Same)) (Λ := pick1 [(58, pieceCut zqd4 zqd5 (ref37_Same_p1_G p1)), (122, pieceCut zqd9 zqda (ref37_Same_p2_G p2)), (250, pieceCut zqde zqdf (ref37_Same_p3_G p3))]) (rs := [.tmp 4]) (c := bodyOf Try.f12) mixed tab_ok hΓ Try.func12 (by kernel_rfl) (by kernel_rfl) (by kernel_rfl) (by kernel_rfl) (CutsOk_cons (q := 58) (c' := ref37_Same_p1_code) (by kernel_rfl) rfl hp1 (CutsOk_cons (q := 122) (c' := ref37_Same_p2_code) (by kernel_rfl) rfl hp2 (CutsOk_cons (q := 250) (c' := ref37_Same_p3_code) (by kernel_rfl) rfl hp3 CutsOk_nil))) (fun x k r h => Eq.trans (b := (zqd0 (zqdp c_ref25_Same p1 p2 p3)).run x k) (by kernel_rfl) h)
end
theorem zqdrΓ : ΓOk Try.prog (pick1 [(44, .spec (zq5o zq64))]) := (ΓOk_cons zq65 ΓOk_nil)
def zqds (m : Nat) : zqd3 := zqdh m
theorem zqdt {β : Type} (i : Nat) (k1 k2 i_ a a2 a3 a4 a5 a6 a7 a8 a9 a10 a11 a12 a13 a14 b b2 b3 b4 b5 b6 b7 b8 b9 b10 b11 b12 b13 b14) : (zqds (i + 1) k1 k2 i_ a a2 a3 a4 a5 a6 a7 a8 a9 a10 a11 a12 a13 a14 b b2 b3 b4 b5 b6 b7 b8 b9 b10 b11 b12 b13 b14 : Option β) = zqdg (zqds i k1 k2) k1 k2 i_ a a2 a3 a4 a5 a6 a7 a8 a9 a10 a11 a12 a13 a14 b b2 b3 b4 b5 b6 b7 b8 b9 b10 b11 b12 b13 b14 := rfl
def zqdu : zqd3 := zqds fuel
theorem zqdv : PieceOk Try.prog 180 0 ref37_Same_p1_code zqd4 zqd5 (ref37_Same_p1_G zqdu) := zqdi zq64 zqdrΓ fuel
def zqdw (m : Nat) : zqd8 := zqdk m
theorem zqdx {β : Type} (i : Nat) (k1 k2 i_ a a2 a3 a4 a5 a6 a7 a8 a9 a10 a11 a12 a13 a14 b b2 b3 b4 b5 b6 b7 b8 b9 b10 b11 b12 b13 b14) : (zqdw (i + 1) k1 k2 i_ a a2 a3 a4 a5 a6 a7 a8 a9 a10 a11 a12 a13 a14 b b2 b3 b4 b5 b6 b7 b8 b9 b10 b11 b12 b13 b14 : Option β) = zqdj (zqdw i k1 k2) k1 k2 i_ a a2 a3 a4 a5 a6 a7 a8 a9 a10 a11 a12 a13 a14 b b2 b3 b4 b5 b6 b7 b8 b9 b10 b11 b12 b13 b14 := rfl
def zqdy : zqd8 := zqdw fuel
theorem zqdz : PieceOk Try.prog 180 0 ref37_Same_p2_code zqd9 zqda (ref37_Same_p2_G zqdy) := zqdl zq64 zqdrΓ fuel
def zqe0 (m : Nat) : zqdd := zqdn zq64 m
theorem zqe1 {β : Type} (i : Nat) (k1 k2 i_ a a2 a3 a4 a5 a6 a7 a8 a9 a10 a11 a12 a13 a14 b b2 b3 b4 b5 b6 b7 b8 b9 b10 b11 b12 b13 b14) : (zqe0 (i + 1) k1 k2 i_ a a2 a3 a4 a5 a6 a7 a8 a9 a10 a11 a12 a13 a14 b b2 b3 b4 b5 b6 b7 b8 b9 b10 b11 b12 b13 b14 : Option β) = zqdm zq64 (zqe0 i k1 k2) k1 k2 i_ a a2 a3 a4 a5 a6 a7 a8 a9 a10 a11 a12 a13 a14 b b2 b3 b4 b5 b6 b7 b8 b9 b10 b11 b12 b13 b14 := rfl
def zqe2 : zqdd := zqe0 fuel
theorem zqe3 : PieceOk Try.prog 180 0 ref37_Same_p3_code zqde zqdf (ref37_Same_p3_G zqe2) := zqdo zq64 zqdrΓ fuel
def zqe4 : zqcz := zqdp zq64 zqdu zqdy zqe2
theorem zqe5 : SpecOk Try.prog 12 (zqd0 zqe4) := zqdq zq64 zqdrΓ zqdu zqdy zqe2 zqdv zqdz zqe3
abbrev zqe6 := {β : Type} → zq4 → (Bool → Option β) → Option β
def zqe7 (c : zqe6) : Spec :=
  ⟨[(true, [.data zq5])], [], [(false, [.data .bool])], [], fun x k => c x.1.1.1 (fun r0 => k (((r0, ()), ()), ()))⟩
noncomputable def ref37_Check_p1_code : Code := codeAt 58 (bodyOf Try.f14)
noncomputable def ref37_Check_p2_code : Code := codeAt 122 (bodyOf Try.f14)
abbrev zqe8 (β : Type) := Bool → Option β
abbrev zqe9 (β : Type) := Int → Int → Int → Int → (List UInt8) → Int → Int → Int → (List Int) → (List zq0) → (List zq2) → (List Int) → (List (Int × (Int × Int))) → Int → Option β
abbrev zqea := {β : Type} → zqe8 β → zqe9 β → Int → Int → Int → Int → Int → (List UInt8) → Int → Int → Int → (List Int) → (List zq0) → (List zq2) → (List Int) → (List (Int × (Int × Int))) → Int → Option β
def zqeb : View := ⟨0, [1, 3], [(false, [.ptr 0 0]),  (false, [.data (.int .i64)])], [.cells 32 [.data (.int .i64), .data (.int .i64), .data (.int .i64), .data (.int .i64), .data .str, .data (.int .i64), .data (.int .i64), .data (.int .i64), .data (.slice (.int .i64)), .data (.slice zq1), .data (.slice zq3), .data (.slice (.int .i64)), .data (.slice (.prod (.int .i64) (.prod (.int .i64) (.int .i64)))), .data (.int .i64)]]⟩
def zqec : List  (AExit × View) := [(.ret, ⟨0, [2], [(false, [.data .bool])], []⟩), (.exit 0, ⟨0, [1], [(false, [.ptr 0 0])], [.cells 32 [.data (.int .i64), .data (.int .i64), .data (.int .i64), .data (.int .i64), .data .str, .data (.int .i64), .data (.int .i64), .data (.int .i64), .data (.slice (.int .i64)), .data (.slice zq1), .data (.slice zq3), .data (.slice (.int .i64)), .data (.slice (.prod (.int .i64) (.prod (.int .i64) (.int .i64)))), .data (.int .i64)]]⟩)]
@[reducible] def ref37_Check_p1_G (p : zqea) {β : Type} (d : zqeb.den) (ks : Outs.K β zqec) : Option β :=
  p (fun a0 => ks.1 (((a0, ()), ()), ())) (fun a0 a1 a2 a3 a4 a5 a6 a7 a8 a9 a10 a11 a12 a13 => ks.2.1 (((), ()), ((a0, a1, a2, a3, a4, a5, a6, a7, a8, a9, a10, a11, a12, a13, ()), ()))) d.1.2.1.1 d.2.1.1 d.2.1.2.1 d.2.1.2.2.1 d.2.1.2.2.2.1 d.2.1.2.2.2.2.1 d.2.1.2.2.2.2.2.1 d.2.1.2.2.2.2.2.2.1 d.2.1.2.2.2.2.2.2.2.1 d.2.1.2.2.2.2.2.2.2.2.1 d.2.1.2.2.2.2.2.2.2.2.2.1 d.2.1.2.2.2.2.2.2.2.2.2.2.1 d.2.1.2.2.2.2.2.2.2.2.2.2.2.1 d.2.1.2.2.2.2.2.2.2.2.2.2.2.2.1 d.2.1.2.2.2.2.2.2.2.2.2.2.2.2.2.1
abbrev zqed (β : Type) := Bool → Option β
abbrev zqee (β : Type) := Int → Int → Int → Int → (List UInt8) → Int → Int → Int → (List Int) → (List zq0) → (List zq2) → (List Int) → (List (Int × (Int × Int))) → Int → Option β
abbrev zqef := {β : Type} → zqed β → zqee β → Int → Int → Int → Int → Int → (List UInt8) → Int → Int → Int → (List Int) → (List zq0) → (List zq2) → (List Int) → (List (Int × (Int × Int))) → Int → Option β
def zqeg : View := ⟨0, [1, 4], [(false, [.ptr 0 0]),  (false, [.data (.int .i64)])], [.cells 32 [.data (.int .i64), .data (.int .i64), .data (.int .i64), .data (.int .i64), .data .str, .data (.int .i64), .data (.int .i64), .data (.int .i64), .data (.slice (.int .i64)), .data (.slice zq1), .data (.slice zq3), .data (.slice (.int .i64)), .data (.slice (.prod (.int .i64) (.prod (.int .i64) (.int .i64)))), .data (.int .i64)]]⟩
def zqeh : List  (AExit × View) := [(.ret, ⟨0, [2], [(false, [.data .bool])], []⟩), (.exit 2, ⟨0, [1], [(false, [.ptr 0 0])], [.cells 32 [.data (.int .i64), .data (.int .i64), .data (.int .i64), .data (.int .i64), .data .str, .data (.int .i64), .data (.int .i64), .data (.int .i64), .data (.slice (.int .i64)), .data (.slice zq1), .data (.slice zq3), .data (.slice (.int .i64)), .data (.slice (.prod (.int .i64) (.prod (.int .i64) (.int .i64)))), .data (.int .i64)]]⟩)]
@[reducible] def ref37_Check_p2_G (p : zqef) {β : Type} (d : zqeg.den) (ks : Outs.K β zqeh) : Option β :=
  p (fun a0 => ks.1 (((a0, ()), ()), ())) (fun a0 a1 a2 a3 a4 a5 a6 a7 a8 a9 a10 a11 a12 a13 => ks.2.1 (((), ()), ((a0, a1, a2, a3, a4, a5, a6, a7, a8, a9, a10, a11, a12, a13, ()), ()))) d.1.2.1.1 d.2.1.1 d.2.1.2.1 d.2.1.2.2.1 d.2.1.2.2.2.1 d.2.1.2.2.2.2.1 d.2.1.2.2.2.2.2.1 d.2.1.2.2.2.2.2.2.1 d.2.1.2.2.2.2.2.2.2.1 d.2.1.2.2.2.2.2.2.2.2.1 d.2.1.2.2.2.2.2.2.2.2.2.1 d.2.1.2.2.2.2.2.2.2.2.2.2.1 d.2.1.2.2.2.2.2.2.2.2.2.2.2.1 d.2.1.2.2.2.2.2.2.2.2.2.2.2.2.1 d.2.1.2.2.2.2.2.2.2.2.2.2.2.2.2.1
section
variable (c_ref25_In : zq3v) (c_ref25_Set : zq6w) (c_ref37_Text : zq6d) (c_ref37_lists : zq7f) (c_ref37_person : zq4i) (c_ref37_state : zq66)
@[reducible] def ref37_Check_X : Ctx := ⟨look tab, pick1 [(39, .spec (zq3w c_ref25_In)), (47, .spec (zq6x c_ref25_Set)), (46, .spec (zq6e c_ref37_Text)), (48, .spec (zq7g c_ref37_lists)), (41, .spec (zq4j c_ref37_person)), (45, .spec (zq67 c_ref37_state))], false, false, false, false⟩
def zqei {β : Type} (rec : Int → Int → Int → Int → Int → (List UInt8) → Int → Int → Int → (List Int) → (List zq0) → (List zq2) → (List Int) → (List (Int × (Int × Int))) → Int → Option β) (k1 : zqe8 β) (k2 : zqe9 β) (i_ x x2 x3 x4 : Int) (x5 : List UInt8) (x6 x7 x8 : Int) (x9 : List Int) (x10 : List zq0) (x11 : List zq2) (x12 : List Int) (x13 : List (Int × (Int × Int))) (x14 : Int) : Option β :=
  cond (decide (i_ < 3))
  (cond (decide (i_ = 0))
  (c_ref37_person x6 true (fun rperson =>
  cond (!rperson)
  (k1 false)
  (let i_2 : Int := (IntKind.i64.wrap (i_ + 1));
  rec i_2 x x2 x3 x4 x5 x6 x7 x8 x9 x10 x11 x12 x13 x14)))
  (cond (decide (i_ = 1))
  (c_ref37_person x7 true (fun rperson =>
  cond (!rperson)
  (k1 false)
  (let i_2 : Int := (IntKind.i64.wrap (i_ + 1));
  rec i_2 x x2 x3 x4 x5 x6 x7 x8 x9 x10 x11 x12 x13 x14)))
  (cond (decide (i_ = 2))
  (c_ref37_person x8 true (fun rperson =>
  cond (!rperson)
  (k1 false)
  (let i_2 : Int := (IntKind.i64.wrap (i_ + 1));
  rec i_2 x x2 x3 x4 x5 x6 x7 x8 x9 x10 x11 x12 x13 x14)))
  (none))))
  (k2 x x2 x3 x4 x5 x6 x7 x8 x9 x10 x11 x12 x13 x14)
def zqej {β : Type} : Nat → zqe8 β → zqe9 β → Int → Int → Int → Int → Int →  (List UInt8) → Int → Int → Int → (List Int) → (List zq0) → (List zq2) → (List Int) → (List (Int × (Int × Int))) → Int → Option β
  | 0 => fun _ _ _ _ _ _ _ _ _ _ _ _ _ _ _ _ _ => none
  | i + 1 => fun k1 k2 i_ x x2 x3 x4 x5 x6 x7 x8 x9 x10 x11 x12 x13 x14 => zqei c_ref37_person (zqej i k1 k2) k1 k2 i_ x x2 x3 x4 x5 x6 x7 x8 x9 x10 x11 x12 x13 x14
theorem zqek (hΓ : ΓOk Try.prog (ref37_Check_X c_ref25_In c_ref25_Set c_ref37_Text c_ref37_lists c_ref37_person c_ref37_state).Γ) (i : Nat) : PieceOk Try.prog 124 0 ref37_Check_p1_code zqeb zqec (ref37_Check_p1_G (zqej c_ref37_person i)) := by
  rw [show ref37_Check_p1_code = .loop (loopBody ref37_Check_p1_code) by kernel_rfl]
  exact piece_loop (X := (ref37_Check_X c_ref25_In c_ref25_Set c_ref37_Text c_ref37_lists c_ref37_person c_ref37_state)) (p := 1) (Λ := pick1 []) (G := fun i => @fun β d ks => ref37_Check_p1_G (zqej c_ref37_person i) d ks) mixed tab_ok hΓ rfl (by kernel_rfl) CutsOk_nil (fun _ _ => rfl) (fun i => @fun β d ks r h => Eq.trans (b := ref37_Check_p1_G (zqej c_ref37_person (i + 1)) d ks) (by kernel_rfl) h) i
def zqel {β : Type} (rec : Int → Int → Int → Int → Int → (List UInt8) → Int → Int → Int → (List Int) → (List zq0) → (List zq2) → (List Int) → (List (Int × (Int × Int))) → Int → Option β) (k1 : zqed β) (k2 : zqee β) (i_ x x2 x3 x4 : Int) (x5 : List UInt8) (x6 x7 x8 : Int) (x9 : List Int) (x10 : List zq0) (x11 : List zq2) (x12 : List Int) (x13 : List (Int × (Int × Int))) (x14 : Int) : Option β :=
  cond (decide (i_ < (List.length x9 : Int)))
  (cond (decide (0 ≤ i_) && decide (i_ < (List.length x9 : Int)))
  (let e : Int := List.getD x9 (Int.toNat i_) 0;
  c_ref25_In e 1 999999 (fun rIn =>
  cond (!rIn)
  (k1 false)
  (cond (decide (0 < i_))
  (cond (decide (0 ≤ (IntKind.i64.wrap (i_ - 1))) && decide ((IntKind.i64.wrap (i_ - 1)) < (List.length x9 : Int)))
  (let e2 : Int := List.getD x9 (Int.toNat (IntKind.i64.wrap (i_ - 1))) 0;
  cond (decide (0 ≤ i_) && decide (i_ < (List.length x9 : Int)))
  (let e3 : Int := List.getD x9 (Int.toNat i_) 0;
  cond (decide (e3 ≤ e2))
  (k1 false)
  (let i_2 : Int := (IntKind.i64.wrap (i_ + 1));
  rec i_2 x x2 x3 x4 x5 x6 x7 x8 x9 x10 x11 x12 x13 x14))
  none)
  none)
  (let i_2 : Int := (IntKind.i64.wrap (i_ + 1));
  rec i_2 x x2 x3 x4 x5 x6 x7 x8 x9 x10 x11 x12 x13 x14))))
  none)
  (k2 x x2 x3 x4 x5 x6 x7 x8 x9 x10 x11 x12 x13 x14)
def zqem {β : Type} : Nat → zqed β → zqee β → Int → Int → Int → Int → Int →  (List UInt8) → Int → Int → Int → (List Int) → (List zq0) → (List zq2) → (List Int) → (List (Int × (Int × Int))) → Int → Option β
  | 0 => fun _ _ _ _ _ _ _ _ _ _ _ _ _ _ _ _ _ => none
  | i + 1 => fun k1 k2 i_ x x2 x3 x4 x5 x6 x7 x8 x9 x10 x11 x12 x13 x14 => zqel c_ref25_In (zqem i k1 k2) k1 k2 i_ x x2 x3 x4 x5 x6 x7 x8 x9 x10 x11 x12 x13 x14
theorem zqen (hΓ : ΓOk Try.prog (ref37_Check_X c_ref25_In c_ref25_Set c_ref37_Text c_ref37_lists c_ref37_person c_ref37_state).Γ) (i : Nat) : PieceOk Try.prog 124 0 ref37_Check_p2_code zqeg zqeh (ref37_Check_p2_G (zqem c_ref25_In i)) := by
  rw [show ref37_Check_p2_code = .loop (loopBody ref37_Check_p2_code) by kernel_rfl]
  exact piece_loop (X := (ref37_Check_X c_ref25_In c_ref25_Set c_ref37_Text c_ref37_lists c_ref37_person c_ref37_state)) (p := 1) (Λ := pick1 []) (G := fun i => @fun β d ks => ref37_Check_p2_G (zqem c_ref25_In i) d ks) mixed tab_ok hΓ rfl (by kernel_rfl) CutsOk_nil (fun _ _ => rfl) (fun i => @fun β d ks r h => Eq.trans (b := ref37_Check_p2_G (zqem c_ref25_In (i + 1)) d ks) (by kernel_rfl) h) i
def zqeo (p1 : zqea) (p2 : zqef) {β : Type} (x : zq4) (k : (Bool → Option β)) : Option β :=
  c_ref25_In x.1 1 999999 (fun rIn =>
  cond (!rIn)
  (k false)
  (c_ref37_state x.2.1 (fun rstate =>
  cond (!rstate)
  (k false)
  (c_ref25_In x.2.2.1 1 5 (fun rIn2 =>
  cond (!rIn2)
  (k false)
  (c_ref25_In x.2.2.2.1 0 8589934592 (fun rIn3 =>
  cond (!rIn3)
  (k false)
  (c_ref37_Text x.2.2.2.2.1 (fun rText =>
  cond (!rText)
  (k false)
  (p1 (fun t2 =>
  k t2) (fun x2 x3 x4 x5 x6 x7 x8 x9 x10 x11 x12 x13 x14 x15 =>
  p2 (fun t2 =>
  k t2) (fun x16 x17 x18 x19 x20 x21 x22 x23 x24 x25 x26 x27 x28 x29 =>
  cond (decide (64 < (List.length x24 : Int)))
  (k false)
  (cond (decide (16 < (List.length x25 : Int)))
  (k false)
  (cond (decide (32 < (List.length x26 : Int)))
  (k false)
  (cond (decide (32 < (List.length x28 : Int)))
  (k false)
  (c_ref25_Set x27 32 (fun rSet =>
  cond (!rSet)
  (k false)
  (c_ref37_lists (x16, (x17, (x18, (x19, (x20, ((x21, (x22, x23)), (x24, (x25, (x26, (x27, (x28, x29))))))))))) (fun rlists =>
  cond (!rlists)
  (k false)
  (cond (decide (x17 = 4))
  (c_ref25_In x29 1 999999 (fun rIn4 =>
  cond rIn4
  (k (!decide (x29 = x16)))
  (k false)))
  (let t : Bool := (decide (x29 = 0));
  k t)))))))))) 0 x2 x3 x4 x5 x6 x7 x8 x9 x10 x11 x12 x13 x14 x15) 0 x.1 x.2.1 x.2.2.1 x.2.2.2.1 x.2.2.2.2.1 x.2.2.2.2.2.1.1 x.2.2.2.2.2.1.2.1 x.2.2.2.2.2.1.2.2 x.2.2.2.2.2.2.1 x.2.2.2.2.2.2.2.1 x.2.2.2.2.2.2.2.2.1 x.2.2.2.2.2.2.2.2.2.1 x.2.2.2.2.2.2.2.2.2.2.1 x.2.2.2.2.2.2.2.2.2.2.2))))))))))
theorem zqep (hΓ : ΓOk Try.prog (ref37_Check_X c_ref25_In c_ref25_Set c_ref37_Text c_ref37_lists c_ref37_person c_ref37_state).Γ) (p1 : zqea) (p2 : zqef) (hp1 : PieceOk Try.prog 124 0 ref37_Check_p1_code zqeb zqec (ref37_Check_p1_G p1)) (hp2 : PieceOk Try.prog 124 0 ref37_Check_p2_code zqeg zqeh (ref37_Check_p2_G p2)) : SpecOk Try.prog 14 (zqe7 (zqeo c_ref25_In c_ref25_Set c_ref37_Text c_ref37_lists c_ref37_state p1 p2)) :=
  spec_exec (X := (ref37_Check_X c_ref25_In c_ref25_Set c_ref37_Text c_ref37_lists c_ref37_person c_ref37_state)) (Λ := pick1 [(58, pieceCut zqeb zqec (ref37_Check_p1_G p1)), (122, pieceCut zqeg zqeh (ref37_Check_p2_G p2))]) (rs := [.tmp 2]) (c := bodyOf Try.f14) mixed tab_ok hΓ Try.func14 (by kernel_rfl) (by kernel_rfl) (by kernel_rfl) (by kernel_rfl) (CutsOk_cons (q := 58) (c' := ref37_Check_p1_code) (by kernel_rfl) rfl hp1 (CutsOk_cons (q := 122) (c' := ref37_Check_p2_code) (by kernel_rfl) rfl hp2 CutsOk_nil)) (fun x k r h => Eq.trans (b := (zqe7 (zqeo c_ref25_In c_ref25_Set c_ref37_Text c_ref37_lists c_ref37_state p1 p2)).run x k) (by kernel_rfl) h)
end
theorem zqeqΓ : ΓOk Try.prog (pick1 [(39, .spec (zq3w zq40)), (47, .spec (zq6x zq7d)), (46, .spec (zq6e zq6u)), (48, .spec (zq7g zq8k)), (41, .spec (zq4j zq4n)), (45, .spec (zq67 zq6b))]) := (ΓOk_cons zq41 (ΓOk_cons zq7e (ΓOk_cons zq6v (ΓOk_cons zq8l (ΓOk_cons zq4o (ΓOk_cons zq6c ΓOk_nil))))))
def zqer (m : Nat) : zqea := zqej zq4n m
theorem zqes {β : Type} (i : Nat) (k1 k2 i_ x x2 x3 x4 x5 x6 x7 x8 x9 x10 x11 x12 x13 x14) : (zqer (i + 1) k1 k2 i_ x x2 x3 x4 x5 x6 x7 x8 x9 x10 x11 x12 x13 x14 : Option β) = zqei zq4n (zqer i k1 k2) k1 k2 i_ x x2 x3 x4 x5 x6 x7 x8 x9 x10 x11 x12 x13 x14 := rfl
def zqet : zqea := zqer fuel
theorem zqeu : PieceOk Try.prog 124 0 ref37_Check_p1_code zqeb zqec (ref37_Check_p1_G zqet) := zqek zq40 zq7d zq6u zq8k zq4n zq6b zqeqΓ fuel
def zqev (m : Nat) : zqef := zqem zq40 m
theorem zqew {β : Type} (i : Nat) (k1 k2 i_ x x2 x3 x4 x5 x6 x7 x8 x9 x10 x11 x12 x13 x14) : (zqev (i + 1) k1 k2 i_ x x2 x3 x4 x5 x6 x7 x8 x9 x10 x11 x12 x13 x14 : Option β) = zqel zq40 (zqev i k1 k2) k1 k2 i_ x x2 x3 x4 x5 x6 x7 x8 x9 x10 x11 x12 x13 x14 := rfl
def zqex : zqef := zqev fuel
theorem zqey : PieceOk Try.prog 124 0 ref37_Check_p2_code zqeg zqeh (ref37_Check_p2_G zqex) := zqen zq40 zq7d zq6u zq8k zq4n zq6b zqeqΓ fuel
def zqez : zqe6 := zqeo zq40 zq7d zq6u zq8k zq6b zqet zqex
theorem zqf0 : SpecOk Try.prog 14 (zqe7 zqez) := zqep zq40 zq7d zq6u zq8k zq4n zq6b zqeqΓ zqet zqex zqeu zqey
abbrev zqf1 := {β : Type} → Int → Int → Int → (List UInt8) → Int → (zq4 → Int → Option β) → Option β
def zqf2 (c : zqf1) : Spec :=
  ⟨[(false, [.data (.int .i64)]), (false, [.data (.int .i64)]), (false, [.data (.int .i64)]), (false, [.data .str]), (false, [.data (.int .i64)])], [], [(true, [.data zq5]), (false, [.data (.int .i64)])], [], fun x k => c x.1.1.1 x.1.2.1.1 x.1.2.2.1.1 x.1.2.2.2.1.1 x.1.2.2.2.2.1.1 (fun r0 r1 => k (((r0, ()), (r1, ()), ()), ()))⟩
noncomputable def ref37_Open_p1_code : Code := codeAt 15 (bodyOf Try.f18)
abbrev zqf3 (β : Type) := Int → Int → Int → Int → Int → (List UInt8) → Int → Int → Int → Int → (List Int) → (List zq0) → (List zq2) → (List Int) → (List (Int × (Int × Int))) → Option β
abbrev zqf4 := {β : Type} → zqf3 β → Int → Int → Int → Int → (List UInt8) → Int → Int → Int → Int → Int → Int → Int → Int → (List UInt8) → Int → Int → Int → Int → (List Int) → (List Int) → (List zq0) → (List zq2) → (List Int) → (List (Int × (Int × Int))) → (List zq0) → (List zq2) → (List Int) → (List (Int × (Int × Int))) → Option β
def zqf5 : View := ⟨0, [10, 12], [(false, [.ptr 0 0]),  (false, [.ptr 1 0])], [.cells 32 [.data (.int .i64), .data (.int .i64), .data (.int .i64), .data (.int .i64), .data .str, .data (.int .i64), .data (.int .i64), .data (.int .i64), .rowh 3, .rowh 4, .rowh 5, .rowh 6, .rowh 7, .data (.int .i64)], .cells 32 [.data (.int .i64), .data (.int .i64), .data (.int .i64), .data (.int .i64), .data .str, .data (.int .i64), .data (.int .i64), .data (.int .i64), .rowh 2, .rowh 8, .rowh 9, .rowh 10, .rowh 11, .data (.int .i64)], .row 3 (.int .i64), .row 3 (.int .i64), .row 63 zq1, .row 65 zq3, .row 3 (.int .i64), .row 67 (.prod (.int .i64) (.prod (.int .i64) (.int .i64))), .row 63 zq1, .row 65 zq3, .row 3 (.int .i64), .row 67 (.prod (.int .i64) (.prod (.int .i64) (.int .i64)))]⟩
def zqf6 : List  (AExit × View) := [(.ret, ⟨0, [10, 11], [(false, [.ptr 0 0]), (false, [.data (.int .i64)])], [.cells 32 [.data (.int .i64), .data (.int .i64), .data (.int .i64), .data (.int .i64), .data .str, .data (.int .i64), .data (.int .i64), .data (.int .i64), .rowh 1, .rowh 2, .rowh 3, .rowh 4, .rowh 5, .data (.int .i64)], .row 3 (.int .i64), .row 63 zq1, .row 65 zq3, .row 3 (.int .i64), .row 67 (.prod (.int .i64) (.prod (.int .i64) (.int .i64)))]⟩)]
@[reducible] def ref37_Open_p1_G (p : zqf4) {β : Type} (d : zqf5.den) (ks : Outs.K β zqf6) : Option β :=
  p (fun a0 a1 a2 a3 a4 a5 a6 a7 a8 a9 a10 a11 a12 a13 a14 => ks.1 (((), (a0, ()), ()), ((a1, a2, a3, a4, a5, a6, a7, a8, a9, ()), a10, a11, a12, a13, a14, ()))) d.2.1.1 d.2.1.2.1 d.2.1.2.2.1 d.2.1.2.2.2.1 d.2.1.2.2.2.2.1 d.2.1.2.2.2.2.2.1 d.2.1.2.2.2.2.2.2.1 d.2.1.2.2.2.2.2.2.2.1 d.2.1.2.2.2.2.2.2.2.2.1 d.2.2.1.1 d.2.2.1.2.1 d.2.2.1.2.2.1 d.2.2.1.2.2.2.1 d.2.2.1.2.2.2.2.1 d.2.2.1.2.2.2.2.2.1 d.2.2.1.2.2.2.2.2.2.1 d.2.2.1.2.2.2.2.2.2.2.1 d.2.2.1.2.2.2.2.2.2.2.2.1 d.2.2.2.1 d.2.2.2.2.1 d.2.2.2.2.2.1 d.2.2.2.2.2.2.1 d.2.2.2.2.2.2.2.1 d.2.2.2.2.2.2.2.2.1 d.2.2.2.2.2.2.2.2.2.1 d.2.2.2.2.2.2.2.2.2.2.1 d.2.2.2.2.2.2.2.2.2.2.2.1 d.2.2.2.2.2.2.2.2.2.2.2.2.1
section
variable (c_ref37_Check : zqe6)
@[reducible] def ref37_Open_X : Ctx := ⟨look tab, pick1 [(14, .spec (zqe7 c_ref37_Check))], false, false, false, false⟩
def zqf7 {β : Type} (k1 : zqf3 β) (t10 t102 t103 t104 : Int) (t105 : List UInt8) (t106 t107 t108 t109 x x2 x3 x4 : Int) (x5 : List UInt8) (x6 x7 x8 x9 : Int) (b2_ b3_ : List Int) (b4_ : List zq0) (b5_ : List zq2) (b6_ : List Int) (b7_ : List (Int × (Int × Int))) (b8_ : List zq0) (b9_ : List zq2) (b10_ : List Int) (b11_ : List (Int × (Int × Int))) : Option β :=
  c_ref37_Check (x, (x2, (x3, (x4, (x5, ((x6, (x7, x8)), (b2_, (b8_, (b9_, (b10_, (b11_, x9))))))))))) (fun rCheck =>
  cond (!rCheck)
  (k1 8 0 0 0 0 ([] : List UInt8) 0 0 0 0 ([] : List Int) ([] : List zq0) ([] : List zq2) ([] : List Int) ([] : List (Int × (Int × Int))))
  (k1 0 x x2 x3 x4 x5 x6 x7 x8 x9 b2_ b8_ b9_ b10_ b11_))
def zqf8 {β : Type} (k1 : zqf3 β) (t10 t102 t103 t104 : Int) (t105 : List UInt8) (t106 t107 t108 t109 x x2 x3 x4 : Int) (x5 : List UInt8) (x6 x7 x8 x9 : Int) (b2_ b3_ : List Int) (b4_ : List zq0) (b5_ : List zq2) (b6_ : List Int) (b7_ : List (Int × (Int × Int))) (b8_ : List zq0) (b9_ : List zq2) (b10_ : List Int) (b11_ : List (Int × (Int × Int))) : Option β := zqf7 c_ref37_Check k1 t10 t102 t103 t104 t105 t106 t107 t108 t109 x x2 x3 x4 x5 x6 x7 x8 x9 b2_ b3_ b4_ b5_ b6_ b7_ b8_ b9_ b10_ b11_
theorem zqf9 (hΓ : ΓOk Try.prog (ref37_Open_X c_ref37_Check).Γ) : PieceOk Try.prog 29 0 ref37_Open_p1_code zqf5 zqf6 (ref37_Open_p1_G (zqf8 c_ref37_Check)) :=
  piece_exec (X := (ref37_Open_X c_ref37_Check)) (p := 15) (Λ := pick1 []) mixed tab_ok hΓ (by kernel_rfl) CutsOk_nil (fun d ks r h => Eq.trans (b := ref37_Open_p1_G (zqf8 c_ref37_Check) d ks) (by kernel_rfl) h)
def zqfa (p1 : zqf4) {β : Type} (id : Int) (at_ : Int) (severity : Int) (title : List UInt8) (page : Int) (k : (zq4 → Int → Option β)) : Option β :=
  cond (!decide (page = 0))
  (let l : List Int := ([page] : List Int);
  p1 (fun t11 t10 t102 t103 t104 t105 t106 t107 t108 t109 b1_ b2_ b3_ b4_ b5_ =>
  k (t10, (t102, (t103, (t104, (t105, ((t106, (t107, t108)), (b1_, (b2_, (b3_, (b4_, (b5_, t109))))))))))) t11) 0 0 0 0 ([] : List UInt8) 0 0 0 0 id 0 severity at_ title (-1) (-1) (-1) 0 l ([] : List Int) ([] : List zq0) ([] : List zq2) ([] : List Int) ([] : List (Int × (Int × Int))) ([] : List zq0) ([] : List zq2) ([] : List Int) ([] : List (Int × (Int × Int))))
  (p1 (fun t11 t10 t102 t103 t104 t105 t106 t107 t108 t109 b1_ b2_ b3_ b4_ b5_ =>
  k (t10, (t102, (t103, (t104, (t105, ((t106, (t107, t108)), (b1_, (b2_, (b3_, (b4_, (b5_, t109))))))))))) t11) 0 0 0 0 ([] : List UInt8) 0 0 0 0 id 0 severity at_ title (-1) (-1) (-1) 0 ([] : List Int) ([] : List Int) ([] : List zq0) ([] : List zq2) ([] : List Int) ([] : List (Int × (Int × Int))) ([] : List zq0) ([] : List zq2) ([] : List Int) ([] : List (Int × (Int × Int))))
theorem zqfb (hΓ : ΓOk Try.prog (ref37_Open_X c_ref37_Check).Γ) (p1 : zqf4) (hp1 : PieceOk Try.prog 29 0 ref37_Open_p1_code zqf5 zqf6 (ref37_Open_p1_G p1)) : SpecOk Try.prog 18 (zqf2 (zqfa p1)) :=
  spec_exec (X := (ref37_Open_X c_ref37_Check)) (Λ := pick1 [(15, pieceCut zqf5 zqf6 (ref37_Open_p1_G p1))]) (rs := [.cell 10 32, .tmp 11]) (c := bodyOf Try.f18) mixed tab_ok hΓ Try.func18 (by kernel_rfl) (by kernel_rfl) (by kernel_rfl) (by kernel_rfl) (CutsOk_cons (q := 15) (c' := ref37_Open_p1_code) (by kernel_rfl) rfl hp1 CutsOk_nil) (fun x k r h => Eq.trans (b := (zqf2 (zqfa p1)).run x k) (by kernel_rfl) h)
end
theorem zqfcΓ : ΓOk Try.prog (pick1 [(14, .spec (zqe7 zqez))]) := (ΓOk_cons zqf0 ΓOk_nil)
def zqfd : zqf4 := zqf8 zqez
theorem zqfe : PieceOk Try.prog 29 0 ref37_Open_p1_code zqf5 zqf6 (ref37_Open_p1_G zqfd) := zqf9 zqez zqfcΓ
def zqff : zqf1 := zqfa zqfd
theorem zqfg : SpecOk Try.prog 18 (zqf2 zqff) := zqfb zqez zqfcΓ zqfd zqfe
abbrev zqfh := {β : Type} → Int → (Bool → Option β) → Option β
def zqfi (c : zqfh) : Spec :=
  ⟨[(false, [.data (.int .i64)])], [], [(false, [.data .bool])], [], fun x k => c x.1.1.1 (fun r0 => k (((r0, ()), ()), ()))⟩
section
variable (c_incident_person : zqas)
@[reducible] def incident_somebody_X : Ctx := ⟨look tab, pick1 [(59, .spec (zqat c_incident_person))], false, false, false, false⟩
def zqfj {β : Type} (n : Int) (k : (Bool → Option β)) : Option β :=
  cond (decide (n = (-1)))
  (k true)
  (c_incident_person n (fun rperson =>
  k rperson))
theorem zqfk (hΓ : ΓOk Try.prog (incident_somebody_X c_incident_person).Γ) : SpecOk Try.prog 35 (zqfi (zqfj c_incident_person)) :=
  spec_exec (X := (incident_somebody_X c_incident_person)) (Λ := pick1 []) (rs := [.tmp 2]) (c := bodyOf Try.f35) mixed tab_ok hΓ Try.func35 (by kernel_rfl) (by kernel_rfl) (by kernel_rfl) (by kernel_rfl) CutsOk_nil (fun x k r h => Eq.trans (b := (zqfi (zqfj c_incident_person)).run x k) (by kernel_rfl) h)
end
theorem zqflΓ : ΓOk Try.prog (pick1 [(59, .spec (zqat zqax))]) := (ΓOk_cons zqay ΓOk_nil)
def zqfm : zqfh := zqfj zqax
theorem zqfn : SpecOk Try.prog 35 (zqfi zqfm) := zqfk zqax zqflΓ
abbrev zqfo := {β : Type} → (List Int) → (List Int) → ((List Int) → Option β) → Option β
def zqfp (c : zqfo) : Spec :=
  ⟨[(false, [.data (.slice (.int .i64))]), (false, [.data (.slice (.int .i64))])], [], [(false, [.rowh 0])], [.row 3 (.int .i64)], fun x k => c x.1.1.1 x.1.2.1.1 (fun r0 => k (((), ()), (r0, ())))⟩
section
variable (c_slices_Clone_int_int : zqaz)
@[reducible] def incident_joined_X : Ctx := ⟨look tab, pick1 [(60, .spec (zqb0 c_slices_Clone_int_int)), (62, .rows zqb9), (61, .rows zqb5)], false, false, false, false⟩
def zqfq {β : Type} (l more : List Int) (k : ((List Int) → Option β)) : Option β :=
  c_slices_Clone_int_int l (fun lrCloneintint =>
  cond (decide ((List.length lrCloneintint + List.length more) * 8 ≤ roomMax))
  (let l2 : List Int := (lrCloneintint ++ more);
  cond (decide (List.length l2 < 4611686018427387904))
  (let l3 : List Int := (sortInts l2);
  cond (decide (List.length l3 < 4611686018427387904))
  (let l4 : List Int := (Go.Lib.compact l3);
  k l4)
  none)
  none)
  none)
theorem zqfr (hΓ : ΓOk Try.prog (incident_joined_X c_slices_Clone_int_int).Γ) : SpecOk Try.prog 36 (zqfp (zqfq c_slices_Clone_int_int)) :=
  spec_exec (X := (incident_joined_X c_slices_Clone_int_int)) (Λ := pick1 []) (rs := [.tmp 4]) (c := bodyOf Try.f36) mixed tab_ok hΓ Try.func36 (by kernel_rfl) (by kernel_rfl) (by kernel_rfl) (by kernel_rfl) CutsOk_nil (fun x k r h => Eq.trans (b := (zqfp (zqfq c_slices_Clone_int_int)).run x k) (by kernel_rfl) h)
end
theorem zqfsΓ : ΓOk Try.prog (pick1 [(60, .spec (zqb0 zqb1)), (62, .rows zqb9), (61, .rows zqb5)]) := (ΓOk_cons zqb2 (ΓOk_row zqba (ΓOk_row zqb6 ΓOk_nil)))
def zqft : zqfo := zqfq zqb1
theorem zqfu : SpecOk Try.prog 36 (zqfp zqft) := zqfr zqb1 zqfsΓ
abbrev zqfv := {β : Type} → zq4 → (Int → Int → Int → Int → (List UInt8) → Int → Int → Int → Int → (List Int) → (List zq0) → (List zq2) → (List Int) → (List (Int × (Int × Int))) → Option β) → Option β
def zqfw (c : zqfv) : Spec :=
  ⟨[(true, [.data zq5])], [], [(true, [.data (.int .i64), .data (.int .i64), .data (.int .i64), .data (.int .i64), .data .str, .data (.int .i64), .data (.int .i64), .data (.int .i64), .rowh 0, .rowh 1, .rowh 2, .rowh 3, .rowh 4, .data (.int .i64)])], [.row 3 (.int .i64), .row 63 zq1, .row 65 zq3, .row 3 (.int .i64), .row 67 (.prod (.int .i64) (.prod (.int .i64) (.int .i64)))], fun x k => c x.1.1.1 (fun r0 r1 r2 r3 r4 r5 r6 r7 r8 r9 r10 r11 r12 r13 => k (((r0, r1, r2, r3, r4, r5, r6, r7, r8, ()), ()), (r9, r10, r11, r12, r13, ())))⟩
noncomputable def incident_copied_p1_code : Code := codeAt 58 (bodyOf Try.f37)
abbrev zqfx (β : Type) := Int → Int → Int → Int → (List UInt8) → Int → Int → Int → Int → Int → Int → Int → Int → (List UInt8) → Int → Int → Int → Int → (List Int) → (List zq0) → (List zq2) → (List Int) → (List (Int × (Int × Int))) → (List Int) → (List zq0) → (List zq2) → (List Int) → (List (Int × (Int × Int))) → Option β
abbrev zqfy := {β : Type} → zqfx β → Int → Int → Int → Int → Int → Int → (List UInt8) → Int → Int → Int → Int → Int → Int → Int → Int → (List UInt8) → Int → Int → Int → Int → (List Int) → (List zq0) → (List zq2) → (List Int) → (List (Int × (Int × Int))) → (List Int) → (List zq0) → (List zq2) → (List Int) → (List (Int × (Int × Int))) → Option β
def zqfz : View := ⟨0, [1, 2, 26, 27], [(false, [.ptr 0 0]),  (false, [.ptr 1 0]), (false, [.data (.int .i64)]), (false, [.data (.int .i64)])], [.cells 32 [.data (.int .i64), .data (.int .i64), .data (.int .i64), .data (.int .i64), .data .str, .data (.int .i64), .data (.int .i64), .data (.int .i64), .rowh 2, .rowh 3, .rowh 4, .rowh 5, .rowh 6, .data (.int .i64)], .cells 32 [.data (.int .i64), .data (.int .i64), .data (.int .i64), .data (.int .i64), .data .str, .data (.int .i64), .data (.int .i64), .data (.int .i64), .rowh 7, .rowh 8, .rowh 9, .rowh 10, .rowh 11, .data (.int .i64)], .row 3 (.int .i64), .row 63 zq1, .row 65 zq3, .row 3 (.int .i64), .row 67 (.prod (.int .i64) (.prod (.int .i64) (.int .i64))), .row 3 (.int .i64), .row 63 zq1, .row 65 zq3, .row 3 (.int .i64), .row 67 (.prod (.int .i64) (.prod (.int .i64) (.int .i64)))]⟩
def zqg0 : List  (AExit × View) := [(.exit 0, ⟨0, [1, 2], [(false, [.ptr 0 0]), (false, [.ptr 1 0])], [.cells 32 [.data (.int .i64), .data (.int .i64), .data (.int .i64), .data (.int .i64), .data .str, .data (.int .i64), .data (.int .i64), .data (.int .i64), .rowh 2, .rowh 3, .rowh 4, .rowh 5, .rowh 6, .data (.int .i64)], .cells 32 [.data (.int .i64), .data (.int .i64), .data (.int .i64), .data (.int .i64), .data .str, .data (.int .i64), .data (.int .i64), .data (.int .i64), .rowh 7, .rowh 8, .rowh 9, .rowh 10, .rowh 11, .data (.int .i64)], .row 3 (.int .i64), .row 63 zq1, .row 65 zq3, .row 3 (.int .i64), .row 67 (.prod (.int .i64) (.prod (.int .i64) (.int .i64))), .row 3 (.int .i64), .row 63 zq1, .row 65 zq3, .row 3 (.int .i64), .row 67 (.prod (.int .i64) (.prod (.int .i64) (.int .i64)))]⟩)]
@[reducible] def incident_copied_p1_G (p : zqfy) {β : Type} (d : zqfz.den) (ks : Outs.K β zqg0) : Option β :=
  p (fun a0 a1 a2 a3 a4 a5 a6 a7 a8 a9 a10 a11 a12 a13 a14 a15 a16 a17 a18 a19 a20 a21 a22 a23 a24 a25 a26 a27 => ks.1 (((), (), ()), ((a0, a1, a2, a3, a4, a5, a6, a7, a8, ()), (a9, a10, a11, a12, a13, a14, a15, a16, a17, ()), a18, a19, a20, a21, a22, a23, a24, a25, a26, a27, ()))) d.1.2.2.1.1 d.1.2.2.2.1.1 d.2.1.1 d.2.1.2.1 d.2.1.2.2.1 d.2.1.2.2.2.1 d.2.1.2.2.2.2.1 d.2.1.2.2.2.2.2.1 d.2.1.2.2.2.2.2.2.1 d.2.1.2.2.2.2.2.2.2.1 d.2.1.2.2.2.2.2.2.2.2.1 d.2.2.1.1 d.2.2.1.2.1 d.2.2.1.2.2.1 d.2.2.1.2.2.2.1 d.2.2.1.2.2.2.2.1 d.2.2.1.2.2.2.2.2.1 d.2.2.1.2.2.2.2.2.2.1 d.2.2.1.2.2.2.2.2.2.2.1 d.2.2.1.2.2.2.2.2.2.2.2.1 d.2.2.2.1 d.2.2.2.2.1 d.2.2.2.2.2.1 d.2.2.2.2.2.2.1 d.2.2.2.2.2.2.2.1 d.2.2.2.2.2.2.2.2.1 d.2.2.2.2.2.2.2.2.2.1 d.2.2.2.2.2.2.2.2.2.2.1 d.2.2.2.2.2.2.2.2.2.2.2.1 d.2.2.2.2.2.2.2.2.2.2.2.2.1
section
variable (c_slices_Clone_api_StateChange_api_StateChange : zqbj) (c_slices_Clone_api_Task_api_Task : zqbb) (c_slices_Clone_api_Update_api_Update : zqbf) (c_slices_Clone_int_int : zqaz)
@[reducible] def incident_copied_X : Ctx := ⟨look tab, pick1 [(65, .spec (zqbk c_slices_Clone_api_StateChange_api_StateChange)), (63, .spec (zqbc c_slices_Clone_api_Task_api_Task)), (64, .spec (zqbg c_slices_Clone_api_Update_api_Update)), (60, .spec (zqb0 c_slices_Clone_int_int))], false, false, false, false⟩
def zqg1 {β : Type} (rec : Int → Int → Int → Int → Int → Int → (List UInt8) → Int → Int → Int → Int → Int → Int → Int → Int → (List UInt8) → Int → Int → Int → Int → (List Int) → (List zq0) → (List zq2) → (List Int) → (List (Int × (Int × Int))) → (List Int) → (List zq0) → (List zq2) → (List Int) → (List (Int × (Int × Int))) → Option β) (k1 : zqfx β) (t26 t27 x x2 x3 x4 : Int) (x5 : List UInt8) (x6 x7 x8 x9 t2 t22 t23 t24 : Int) (t25 : List UInt8) (t28 t29 t210 t211 : Int) (b2_ : List Int) (b3_ : List zq0) (b4_ : List zq2) (b5_ : List Int) (b6_ : List (Int × (Int × Int))) (b7_ : List Int) (b8_ : List zq0) (b9_ : List zq2) (b10_ : List Int) (b11_ : List (Int × (Int × Int))) : Option β :=
  cond (decide (t27 < t26))
  (cond (decide (0 ≤ t27) && decide (t27 < (List.length b4_ : Int)))
  (c_slices_Clone_int_int ((((List.getD b4_ (Int.toNat t27) (0, (0, (([] : List UInt8), ([] : List Int))))).2).2).2) (fun lrCloneintint =>
  cond (decide (0 ≤ t27) && decide (t27 < (List.length b4_ : Int)))
  (let l : List zq2 := (List.set b4_ (Int.toNat t27) ((List.getD b4_ (Int.toNat t27) (0, (0, (([] : List UInt8), ([] : List Int))))).1, (((List.getD b4_ (Int.toNat t27) (0, (0, (([] : List UInt8), ([] : List Int))))).2).1, ((((List.getD b4_ (Int.toNat t27) (0, (0, (([] : List UInt8), ([] : List Int))))).2).2).1, lrCloneintint))));
  rec t26 (IntKind.i64.wrap (t27 + 1)) x x2 x3 x4 x5 x6 x7 x8 x9 t2 t22 t23 t24 t25 t28 t29 t210 t211 b2_ b3_ l b5_ b6_ b7_ b8_ b9_ b10_ b11_)
  none))
  none)
  (k1 x x2 x3 x4 x5 x6 x7 x8 x9 t2 t22 t23 t24 t25 t28 t29 t210 t211 b2_ b3_ b4_ b5_ b6_ b7_ b8_ b9_ b10_ b11_)
def zqg2 {β : Type} : Nat → zqfx β → Int → Int → Int → Int → Int → Int →  (List UInt8) → Int → Int → Int → Int → Int → Int → Int → Int → (List UInt8) → Int → Int → Int → Int → (List Int) → (List zq0) → (List zq2) → (List Int) → (List (Int × (Int × Int))) → (List Int) → (List zq0) → (List zq2) → (List Int) → (List (Int × (Int × Int))) → Option β
  | 0 => fun _ _ _ _ _ _ _ _ _ _ _ _ _ _ _ _ _ _ _ _ _ _ _ _ _ _ _ _ _ _ _ => none
  | i + 1 => fun k1 t26 t27 x x2 x3 x4 x5 x6 x7 x8 x9 t2 t22 t23 t24 t25 t28 t29 t210 t211 b2_ b3_ b4_ b5_ b6_ b7_ b8_ b9_ b10_ b11_ => zqg1 c_slices_Clone_int_int (zqg2 i k1) k1 t26 t27 x x2 x3 x4 x5 x6 x7 x8 x9 t2 t22 t23 t24 t25 t28 t29 t210 t211 b2_ b3_ b4_ b5_ b6_ b7_ b8_ b9_ b10_ b11_
theorem zqg3 (hΓ : ΓOk Try.prog (incident_copied_X c_slices_Clone_api_StateChange_api_StateChange c_slices_Clone_api_Task_api_Task c_slices_Clone_api_Update_api_Update c_slices_Clone_int_int).Γ) (i : Nat) : PieceOk Try.prog 44 0 incident_copied_p1_code zqfz zqg0 (incident_copied_p1_G (zqg2 c_slices_Clone_int_int i)) := by
  rw [show incident_copied_p1_code = .loop (loopBody incident_copied_p1_code) by kernel_rfl]
  exact piece_loop (X := (incident_copied_X c_slices_Clone_api_StateChange_api_StateChange c_slices_Clone_api_Task_api_Task c_slices_Clone_api_Update_api_Update c_slices_Clone_int_int)) (p := 1) (Λ := pick1 []) (G := fun i => @fun β d ks => incident_copied_p1_G (zqg2 c_slices_Clone_int_int i) d ks) mixed tab_ok hΓ rfl (by kernel_rfl) CutsOk_nil (fun _ _ => rfl) (fun i => @fun β d ks r h => Eq.trans (b := incident_copied_p1_G (zqg2 c_slices_Clone_int_int (i + 1)) d ks) (by kernel_rfl) h) i
def zqg4 (p1 : zqfy) {β : Type} (x : zq4) (k : (Int → Int → Int → Int → (List UInt8) → Int → Int → Int → Int → (List Int) → (List zq0) → (List zq2) → (List Int) → (List (Int × (Int × Int))) → Option β)) : Option β :=
  c_slices_Clone_int_int x.2.2.2.2.2.2.1 (fun lrCloneintint =>
  c_slices_Clone_api_Task_api_Task x.2.2.2.2.2.2.2.1 (fun lrTask =>
  c_slices_Clone_api_Update_api_Update x.2.2.2.2.2.2.2.2.1 (fun lrUpdate =>
  c_slices_Clone_int_int x.2.2.2.2.2.2.2.2.2.1 (fun lrCloneintint2 =>
  c_slices_Clone_api_StateChange_api_StateChange x.2.2.2.2.2.2.2.2.2.2.1 (fun lrStateChange =>
  p1 (fun x2 x3 x4 x5 x6 x7 x8 x9 x10 t2 t22 t23 t24 t25 t26 t27 t28 t29 b2_ b3_ b4_ b5_ b6_ b7_ b8_ b9_ b10_ b11_ =>
  k x2 x3 x4 x5 x6 x7 x8 x9 x10 b2_ b3_ b4_ b5_ b6_) (List.length lrUpdate : Int) 0 x.1 x.2.1 x.2.2.1 x.2.2.2.1 x.2.2.2.2.1 x.2.2.2.2.2.1.1 x.2.2.2.2.2.1.2.1 x.2.2.2.2.2.1.2.2 x.2.2.2.2.2.2.2.2.2.2.2 0 0 0 0 ([] : List UInt8) 0 0 0 0 lrCloneintint lrTask lrUpdate lrCloneintint2 lrStateChange ([] : List Int) ([] : List zq0) ([] : List zq2) ([] : List Int) ([] : List (Int × (Int × Int))))))))
theorem zqg5 (hΓ : ΓOk Try.prog (incident_copied_X c_slices_Clone_api_StateChange_api_StateChange c_slices_Clone_api_Task_api_Task c_slices_Clone_api_Update_api_Update c_slices_Clone_int_int).Γ) (p1 : zqfy) (hp1 : PieceOk Try.prog 44 0 incident_copied_p1_code zqfz zqg0 (incident_copied_p1_G p1)) : SpecOk Try.prog 37 (zqfw (zqg4 c_slices_Clone_api_StateChange_api_StateChange c_slices_Clone_api_Task_api_Task c_slices_Clone_api_Update_api_Update c_slices_Clone_int_int p1)) :=
  spec_exec (X := (incident_copied_X c_slices_Clone_api_StateChange_api_StateChange c_slices_Clone_api_Task_api_Task c_slices_Clone_api_Update_api_Update c_slices_Clone_int_int)) (Λ := pick1 [(58, pieceCut zqfz zqg0 (incident_copied_p1_G p1))]) (rs := [.cell 2 32]) (c := bodyOf Try.f37) mixed tab_ok hΓ Try.func37 (by kernel_rfl) (by kernel_rfl) (by kernel_rfl) (by kernel_rfl) (CutsOk_cons (q := 58) (c' := incident_copied_p1_code) (by kernel_rfl) rfl hp1 CutsOk_nil) (fun x k r h => Eq.trans (b := (zqfw (zqg4 c_slices_Clone_api_StateChange_api_StateChange c_slices_Clone_api_Task_api_Task c_slices_Clone_api_Update_api_Update c_slices_Clone_int_int p1)).run x k) (by kernel_rfl) h)
end
theorem zqg6Γ : ΓOk Try.prog (pick1 [(65, .spec (zqbk zqbl)), (63, .spec (zqbc zqbd)), (64, .spec (zqbg zqbh)), (60, .spec (zqb0 zqb1))]) := (ΓOk_cons zqbm (ΓOk_cons zqbe (ΓOk_cons zqbi (ΓOk_cons zqb2 ΓOk_nil))))
def zqg7 (m : Nat) : zqfy := zqg2 zqb1 m
theorem zqg8 {β : Type} (i : Nat) (k1 t26 t27 x x2 x3 x4 x5 x6 x7 x8 x9 t2 t22 t23 t24 t25 t28 t29 t210 t211 b2_ b3_ b4_ b5_ b6_ b7_ b8_ b9_ b10_ b11_) : (zqg7 (i + 1) k1 t26 t27 x x2 x3 x4 x5 x6 x7 x8 x9 t2 t22 t23 t24 t25 t28 t29 t210 t211 b2_ b3_ b4_ b5_ b6_ b7_ b8_ b9_ b10_ b11_ : Option β) = zqg1 zqb1 (zqg7 i k1) k1 t26 t27 x x2 x3 x4 x5 x6 x7 x8 x9 t2 t22 t23 t24 t25 t28 t29 t210 t211 b2_ b3_ b4_ b5_ b6_ b7_ b8_ b9_ b10_ b11_ := rfl
def zqg9 : zqfy := zqg7 fuel
theorem zqga : PieceOk Try.prog 44 0 incident_copied_p1_code zqfz zqg0 (incident_copied_p1_G zqg9) := zqg3 zqbl zqbd zqbh zqb1 zqg6Γ fuel
def zqgb : zqfv := zqg4 zqbl zqbd zqbh zqb1 zqg9
theorem zqgc : SpecOk Try.prog 37 (zqfw zqgb) := zqg5 zqbl zqbd zqbh zqb1 zqg6Γ zqg9 zqga
abbrev zqgd := {β : Type} → zq4 → (Int → Option β) → Option β
def zqge (c : zqgd) : Spec :=
  ⟨[(true, [.data zq5])], [], [(false, [.data (.int .i64)])], [], fun x k => c x.1.1.1 (fun r0 => k (((r0, ()), ()), ()))⟩
section
variable (c_ref37_Check : zqe6)
@[reducible] def ref37_ready_X : Ctx := ⟨look tab, pick1 [(14, .spec (zqe7 c_ref37_Check))], false, false, false, false⟩
def zqgf {β : Type} (x : zq4) (k : (Int → Option β)) : Option β :=
  c_ref37_Check x (fun rCheck =>
  cond (!rCheck)
  (k 8)
  (cond (decide (x.2.1 = 3))
  (k 9)
  (let t : Bool := (decide (x.2.1 = 4));
  cond t
  (k 9)
  (k 0))))
theorem zqgg (hΓ : ΓOk Try.prog (ref37_ready_X c_ref37_Check).Γ) : SpecOk Try.prog 49 (zqge (zqgf c_ref37_Check)) :=
  spec_exec (X := (ref37_ready_X c_ref37_Check)) (Λ := pick1 []) (rs := [.tmp 2]) (c := bodyOf Try.f49) mixed tab_ok hΓ Try.func49 (by kernel_rfl) (by kernel_rfl) (by kernel_rfl) (by kernel_rfl) CutsOk_nil (fun x k r h => Eq.trans (b := (zqge (zqgf c_ref37_Check)).run x k) (by kernel_rfl) h)
end
theorem zqghΓ : ΓOk Try.prog (pick1 [(14, .spec (zqe7 zqez))]) := (ΓOk_cons zqf0 ΓOk_nil)
def zqgi : zqgd := zqgf zqez
theorem zqgj : SpecOk Try.prog 49 (zqge zqgi) := zqgg zqez zqghΓ
abbrev zqgk := {β : Type} → zq4 → (Bool → Option β) → Option β
def zqgl (c : zqgk) : Spec :=
  ⟨[(true, [.data zq5])], [], [(false, [.data .bool])], [], fun x k => c x.1.1.1 (fun r0 => k (((r0, ()), ()), ()))⟩
noncomputable def incident_tasks_p1_code : Code := codeAt 26 (bodyOf Try.f54)
abbrev zqgm (β : Type) := Bool → Option β
abbrev zqgn (β : Type) := Int → Int → Int → Int → (List UInt8) → Int → Int → Int → (List Int) → (List zq0) → (List zq2) → (List Int) → (List (Int × (Int × Int))) → Int → Option β
abbrev zqgo := {β : Type} → zqgm β → zqgn β → (List zq0) → Int → Int → Int → Int → Int → Int → (List UInt8) → Int → Int → Int → (List Int) → (List zq0) → (List zq2) → (List Int) → (List (Int × (Int × Int))) → Int → Option β
def zqgp : View := ⟨0, [1, 6, 7, 8], [(false, [.ptr 0 0]),  (false, [.data (.slice zq1)]), (false, [.data (.int .i64)]), (false, [.data (.int .i64)])], [.cells 32 [.data (.int .i64), .data (.int .i64), .data (.int .i64), .data (.int .i64), .data .str, .data (.int .i64), .data (.int .i64), .data (.int .i64), .data (.slice (.int .i64)), .data (.slice zq1), .data (.slice zq3), .data (.slice (.int .i64)), .data (.slice (.prod (.int .i64) (.prod (.int .i64) (.int .i64)))), .data (.int .i64)]]⟩
def zqgq : List  (AExit × View) := [(.ret, ⟨0, [2], [(false, [.data .bool])], []⟩), (.exit 0, ⟨0, [1], [(false, [.ptr 0 0])], [.cells 32 [.data (.int .i64), .data (.int .i64), .data (.int .i64), .data (.int .i64), .data .str, .data (.int .i64), .data (.int .i64), .data (.int .i64), .data (.slice (.int .i64)), .data (.slice zq1), .data (.slice zq3), .data (.slice (.int .i64)), .data (.slice (.prod (.int .i64) (.prod (.int .i64) (.int .i64)))), .data (.int .i64)]]⟩)]
@[reducible] def incident_tasks_p1_G (p : zqgo) {β : Type} (d : zqgp.den) (ks : Outs.K β zqgq) : Option β :=
  p (fun a0 => ks.1 (((a0, ()), ()), ())) (fun a0 a1 a2 a3 a4 a5 a6 a7 a8 a9 a10 a11 a12 a13 => ks.2.1 (((), ()), ((a0, a1, a2, a3, a4, a5, a6, a7, a8, a9, a10, a11, a12, a13, ()), ()))) d.1.2.1.1 d.1.2.2.1.1 d.1.2.2.2.1.1 d.2.1.1 d.2.1.2.1 d.2.1.2.2.1 d.2.1.2.2.2.1 d.2.1.2.2.2.2.1 d.2.1.2.2.2.2.2.1 d.2.1.2.2.2.2.2.2.1 d.2.1.2.2.2.2.2.2.2.1 d.2.1.2.2.2.2.2.2.2.2.1 d.2.1.2.2.2.2.2.2.2.2.2.1 d.2.1.2.2.2.2.2.2.2.2.2.2.1 d.2.1.2.2.2.2.2.2.2.2.2.2.2.1 d.2.1.2.2.2.2.2.2.2.2.2.2.2.2.1 d.2.1.2.2.2.2.2.2.2.2.2.2.2.2.2.1
section
variable (c_incident_Text : zq8t) (c_incident_in : zq2o) (c_incident_somebody : zqfh)
@[reducible] def incident_tasks_X : Ctx := ⟨look tab, pick1 [(51, .spec (zq8u c_incident_Text)), (33, .spec (zq2p c_incident_in)), (35, .spec (zqfi c_incident_somebody))], false, false, false, false⟩
def zqgr {β : Type} (rec : (List zq0) → Int → Int → Int → Int → Int → Int → (List UInt8) → Int → Int → Int → (List Int) → (List zq0) → (List zq2) → (List Int) → (List (Int × (Int × Int))) → Int → Option β) (k1 : zqgm β) (k2 : zqgn β) (t6 : List zq0) (t7 t8 x x2 x3 x4 : Int) (x5 : List UInt8) (x6 x7 x8 : Int) (x9 : List Int) (x10 : List zq0) (x11 : List zq2) (x12 : List Int) (x13 : List (Int × (Int × Int))) (x14 : Int) : Option β :=
  cond (decide (t8 < t7))
  (cond (decide (0 ≤ t8) && decide (t8 < (List.length t6 : Int)))
  (let e : zq0 := List.getD t6 (Int.toNat t8) (([] : List UInt8), (0, (0, 0)));
  c_incident_Text e.1 (fun rText =>
  cond (!rText)
  (k1 false)
  (c_incident_somebody e.2.1 (fun rsomebody =>
  cond (!rsomebody)
  (k1 false)
  (c_incident_in e.2.2.1 x4 8589934592 (fun rin =>
  cond (!rin)
  (k1 false)
  (cond (!decide (e.2.2.2 = (-1)))
  (c_incident_in e.2.2.2 e.2.2.1 8589934592 (fun rin2 =>
  cond (!rin2)
  (k1 false)
  (rec t6 t7 (IntKind.i64.wrap (t8 + 1)) x x2 x3 x4 x5 x6 x7 x8 x9 x10 x11 x12 x13 x14)))
  (rec t6 t7 (IntKind.i64.wrap (t8 + 1)) x x2 x3 x4 x5 x6 x7 x8 x9 x10 x11 x12 x13 x14))))))))
  none)
  (k2 x x2 x3 x4 x5 x6 x7 x8 x9 x10 x11 x12 x13 x14)
def zqgs {β : Type} : Nat → zqgm β → zqgn β →  (List zq0) → Int → Int → Int → Int → Int → Int → (List UInt8) → Int → Int → Int → (List Int) → (List zq0) → (List zq2) → (List Int) → (List (Int × (Int × Int))) → Int → Option β
  | 0 => fun _ _ _ _ _ _ _ _ _ _ _ _ _ _ _ _ _ _ _ => none
  | i + 1 => fun k1 k2 t6 t7 t8 x x2 x3 x4 x5 x6 x7 x8 x9 x10 x11 x12 x13 x14 => zqgr c_incident_Text c_incident_in c_incident_somebody (zqgs i k1 k2) k1 k2 t6 t7 t8 x x2 x3 x4 x5 x6 x7 x8 x9 x10 x11 x12 x13 x14
theorem zqgt (hΓ : ΓOk Try.prog (incident_tasks_X c_incident_Text c_incident_in c_incident_somebody).Γ) (i : Nat) : PieceOk Try.prog 48 0 incident_tasks_p1_code zqgp zqgq (incident_tasks_p1_G (zqgs c_incident_Text c_incident_in c_incident_somebody i)) := by
  rw [show incident_tasks_p1_code = .loop (loopBody incident_tasks_p1_code) by kernel_rfl]
  exact piece_loop (X := (incident_tasks_X c_incident_Text c_incident_in c_incident_somebody)) (p := 1) (Λ := pick1 []) (G := fun i => @fun β d ks => incident_tasks_p1_G (zqgs c_incident_Text c_incident_in c_incident_somebody i) d ks) mixed tab_ok hΓ rfl (by kernel_rfl) CutsOk_nil (fun _ _ => rfl) (fun i => @fun β d ks r h => Eq.trans (b := incident_tasks_p1_G (zqgs c_incident_Text c_incident_in c_incident_somebody (i + 1)) d ks) (by kernel_rfl) h) i
def zqgu (p1 : zqgo) {β : Type} (x : zq4) (k : (Bool → Option β)) : Option β :=
  p1 (fun t2 =>
  k t2) (fun x2 x3 x4 x5 x6 x7 x8 x9 x10 x11 x12 x13 x14 x15 =>
  let t : Bool := (decide ((List.length x11 : Int) ≤ 16));
  k t) x.2.2.2.2.2.2.2.1 (List.length x.2.2.2.2.2.2.2.1 : Int) 0 x.1 x.2.1 x.2.2.1 x.2.2.2.1 x.2.2.2.2.1 x.2.2.2.2.2.1.1 x.2.2.2.2.2.1.2.1 x.2.2.2.2.2.1.2.2 x.2.2.2.2.2.2.1 x.2.2.2.2.2.2.2.1 x.2.2.2.2.2.2.2.2.1 x.2.2.2.2.2.2.2.2.2.1 x.2.2.2.2.2.2.2.2.2.2.1 x.2.2.2.2.2.2.2.2.2.2.2
theorem zqgv (hΓ : ΓOk Try.prog (incident_tasks_X c_incident_Text c_incident_in c_incident_somebody).Γ) (p1 : zqgo) (hp1 : PieceOk Try.prog 48 0 incident_tasks_p1_code zqgp zqgq (incident_tasks_p1_G p1)) : SpecOk Try.prog 54 (zqgl (zqgu p1)) :=
  spec_exec (X := (incident_tasks_X c_incident_Text c_incident_in c_incident_somebody)) (Λ := pick1 [(26, pieceCut zqgp zqgq (incident_tasks_p1_G p1))]) (rs := [.tmp 2]) (c := bodyOf Try.f54) mixed tab_ok hΓ Try.func54 (by kernel_rfl) (by kernel_rfl) (by kernel_rfl) (by kernel_rfl) (CutsOk_cons (q := 26) (c' := incident_tasks_p1_code) (by kernel_rfl) rfl hp1 CutsOk_nil) (fun x k r h => Eq.trans (b := (zqgl (zqgu p1)).run x k) (by kernel_rfl) h)
end
theorem zqgwΓ : ΓOk Try.prog (pick1 [(51, .spec (zq8u zq9a)), (33, .spec (zq2p zq2t)), (35, .spec (zqfi zqfm))]) := (ΓOk_cons zq9b (ΓOk_cons zq2u (ΓOk_cons zqfn ΓOk_nil)))
def zqgx (m : Nat) : zqgo := zqgs zq9a zq2t zqfm m
theorem zqgy {β : Type} (i : Nat) (k1 k2 t6 t7 t8 x x2 x3 x4 x5 x6 x7 x8 x9 x10 x11 x12 x13 x14) : (zqgx (i + 1) k1 k2 t6 t7 t8 x x2 x3 x4 x5 x6 x7 x8 x9 x10 x11 x12 x13 x14 : Option β) = zqgr zq9a zq2t zqfm (zqgx i k1 k2) k1 k2 t6 t7 t8 x x2 x3 x4 x5 x6 x7 x8 x9 x10 x11 x12 x13 x14 := rfl
def zqgz : zqgo := zqgx fuel
theorem zqh0 : PieceOk Try.prog 48 0 incident_tasks_p1_code zqgp zqgq (incident_tasks_p1_G zqgz) := zqgt zq9a zq2t zqfm zqgwΓ fuel
def zqh1 : zqgk := zqgu zqgz
theorem zqh2 : SpecOk Try.prog 54 (zqgl zqh1) := zqgv zq9a zq2t zqfm zqgwΓ zqgz zqh0
abbrev zqh3 := {β : Type} → zq4 → (Bool → Option β) → Option β
def zqh4 (c : zqh3) : Spec :=
  ⟨[(true, [.data zq5])], [], [(false, [.data .bool])], [], fun x k => c x.1.1.1 (fun r0 => k (((r0, ()), ()), ()))⟩
noncomputable def incident_changes_p1_code : Code := codeAt 58 (bodyOf Try.f56)
abbrev zqh5 (β : Type) := Bool → Option β
abbrev zqh6 (β : Type) := Int → Int → Int → Int → Int → (List UInt8) → Int → Int → Int → (List Int) → (List zq0) → (List zq2) → (List Int) → (List (Int × (Int × Int))) → Int → Option β
abbrev zqh7 := {β : Type} → zqh5 β → zqh6 β → Int → Int → (List (Int × (Int × Int))) → Int → Int → Int → Int → Int → Int → (List UInt8) → Int → Int → Int → (List Int) → (List zq0) → (List zq2) → (List Int) → (List (Int × (Int × Int))) → Int → Option β
def zqh8 : View := ⟨0, [1, 3, 4, 10, 11, 12], [(false, [.ptr 0 0]),  (false, [.data (.int .i64)]), (false, [.data (.int .i64)]), (false, [.data (.slice (.prod (.int .i64) (.prod (.int .i64) (.int .i64))))]), (false, [.data (.int .i64)]), (false, [.data (.int .i64)])], [.cells 32 [.data (.int .i64), .data (.int .i64), .data (.int .i64), .data (.int .i64), .data .str, .data (.int .i64), .data (.int .i64), .data (.int .i64), .data (.slice (.int .i64)), .data (.slice zq1), .data (.slice zq3), .data (.slice (.int .i64)), .data (.slice (.prod (.int .i64) (.prod (.int .i64) (.int .i64)))), .data (.int .i64)]]⟩
def zqh9 : List  (AExit × View) := [(.ret, ⟨0, [2], [(false, [.data .bool])], []⟩), (.exit 0, ⟨0, [1, 4], [(false, [.ptr 0 0]), (false, [.data (.int .i64)])], [.cells 32 [.data (.int .i64), .data (.int .i64), .data (.int .i64), .data (.int .i64), .data .str, .data (.int .i64), .data (.int .i64), .data (.int .i64), .data (.slice (.int .i64)), .data (.slice zq1), .data (.slice zq3), .data (.slice (.int .i64)), .data (.slice (.prod (.int .i64) (.prod (.int .i64) (.int .i64)))), .data (.int .i64)]]⟩)]
@[reducible] def incident_changes_p1_G (p : zqh7) {β : Type} (d : zqh8.den) (ks : Outs.K β zqh9) : Option β :=
  p (fun a0 => ks.1 (((a0, ()), ()), ())) (fun a0 a1 a2 a3 a4 a5 a6 a7 a8 a9 a10 a11 a12 a13 a14 => ks.2.1 (((), (a0, ()), ()), ((a1, a2, a3, a4, a5, a6, a7, a8, a9, a10, a11, a12, a13, a14, ()), ()))) d.1.2.1.1 d.1.2.2.1.1 d.1.2.2.2.1.1 d.1.2.2.2.2.1.1 d.1.2.2.2.2.2.1.1 d.2.1.1 d.2.1.2.1 d.2.1.2.2.1 d.2.1.2.2.2.1 d.2.1.2.2.2.2.1 d.2.1.2.2.2.2.2.1 d.2.1.2.2.2.2.2.2.1 d.2.1.2.2.2.2.2.2.2.1 d.2.1.2.2.2.2.2.2.2.2.1 d.2.1.2.2.2.2.2.2.2.2.2.1 d.2.1.2.2.2.2.2.2.2.2.2.2.1 d.2.1.2.2.2.2.2.2.2.2.2.2.2.1 d.2.1.2.2.2.2.2.2.2.2.2.2.2.2.1 d.2.1.2.2.2.2.2.2.2.2.2.2.2.2.2.1
section
variable (c_incident_in : zq2o) (c_incident_somebody : zqfh)
@[reducible] def incident_changes_X : Ctx := ⟨look tab, pick1 [(33, .spec (zq2p c_incident_in)), (35, .spec (zqfi c_incident_somebody))], false, false, false, false⟩
def zqha {β : Type} (rec : Int → Int → (List (Int × (Int × Int))) → Int → Int → Int → Int → Int → Int → (List UInt8) → Int → Int → Int → (List Int) → (List zq0) → (List zq2) → (List Int) → (List (Int × (Int × Int))) → Int → Option β) (k1 : zqh5 β) (k2 : zqh6 β) (at_ state : Int) (t10 : List (Int × (Int × Int))) (t11 t12 x x2 x3 x4 : Int) (x5 : List UInt8) (x6 x7 x8 : Int) (x9 : List Int) (x10 : List zq0) (x11 : List zq2) (x12 : List Int) (x13 : List (Int × (Int × Int))) (x14 : Int) : Option β :=
  cond (decide (t12 < t11))
  (cond (decide (0 ≤ t12) && decide (t12 < (List.length t10 : Int)))
  (let e : (Int × (Int × Int)) := List.getD t10 (Int.toNat t12) (0, (0, 0));
  c_incident_in e.1 at_ 8589934592 (fun rin =>
  cond (!rin)
  (k1 false)
  (c_incident_in e.2.1 0 4 (fun rin2 =>
  cond (!rin2)
  (k1 false)
  (cond (decide (e.2.1 = state))
  (k1 false)
  (c_incident_somebody e.2.2 (fun rsomebody =>
  cond (!rsomebody)
  (k1 false)
  (rec e.1 e.2.1 t10 t11 (IntKind.i64.wrap (t12 + 1)) x x2 x3 x4 x5 x6 x7 x8 x9 x10 x11 x12 x13 x14))))))))
  none)
  (k2 state x x2 x3 x4 x5 x6 x7 x8 x9 x10 x11 x12 x13 x14)
def zqhb {β : Type} : Nat → zqh5 β → zqh6 β → Int → Int →  (List (Int × (Int × Int))) → Int → Int → Int → Int → Int → Int → (List UInt8) → Int → Int → Int → (List Int) → (List zq0) → (List zq2) → (List Int) → (List (Int × (Int × Int))) → Int → Option β
  | 0 => fun _ _ _ _ _ _ _ _ _ _ _ _ _ _ _ _ _ _ _ _ _ => none
  | i + 1 => fun k1 k2 at_ state t10 t11 t12 x x2 x3 x4 x5 x6 x7 x8 x9 x10 x11 x12 x13 x14 => zqha c_incident_in c_incident_somebody (zqhb i k1 k2) k1 k2 at_ state t10 t11 t12 x x2 x3 x4 x5 x6 x7 x8 x9 x10 x11 x12 x13 x14
theorem zqhc (hΓ : ΓOk Try.prog (incident_changes_X c_incident_in c_incident_somebody).Γ) (i : Nat) : PieceOk Try.prog 54 0 incident_changes_p1_code zqh8 zqh9 (incident_changes_p1_G (zqhb c_incident_in c_incident_somebody i)) := by
  rw [show incident_changes_p1_code = .loop (loopBody incident_changes_p1_code) by kernel_rfl]
  exact piece_loop (X := (incident_changes_X c_incident_in c_incident_somebody)) (p := 1) (Λ := pick1 []) (G := fun i => @fun β d ks => incident_changes_p1_G (zqhb c_incident_in c_incident_somebody i) d ks) mixed tab_ok hΓ rfl (by kernel_rfl) CutsOk_nil (fun _ _ => rfl) (fun i => @fun β d ks r h => Eq.trans (b := incident_changes_p1_G (zqhb c_incident_in c_incident_somebody (i + 1)) d ks) (by kernel_rfl) h) i
def zqhd (p1 : zqh7) {β : Type} (x : zq4) (k : (Bool → Option β)) : Option β :=
  p1 (fun t2 =>
  k t2) (fun state x2 x3 x4 x5 x6 x7 x8 x9 x10 x11 x12 x13 x14 x15 =>
  cond (decide ((List.length x14 : Int) ≤ 32))
  (k (decide (x3 = state)))
  (k false)) x.2.2.2.1 0 x.2.2.2.2.2.2.2.2.2.2.1 (List.length x.2.2.2.2.2.2.2.2.2.2.1 : Int) 0 x.1 x.2.1 x.2.2.1 x.2.2.2.1 x.2.2.2.2.1 x.2.2.2.2.2.1.1 x.2.2.2.2.2.1.2.1 x.2.2.2.2.2.1.2.2 x.2.2.2.2.2.2.1 x.2.2.2.2.2.2.2.1 x.2.2.2.2.2.2.2.2.1 x.2.2.2.2.2.2.2.2.2.1 x.2.2.2.2.2.2.2.2.2.2.1 x.2.2.2.2.2.2.2.2.2.2.2
theorem zqhe (hΓ : ΓOk Try.prog (incident_changes_X c_incident_in c_incident_somebody).Γ) (p1 : zqh7) (hp1 : PieceOk Try.prog 54 0 incident_changes_p1_code zqh8 zqh9 (incident_changes_p1_G p1)) : SpecOk Try.prog 56 (zqh4 (zqhd p1)) :=
  spec_exec (X := (incident_changes_X c_incident_in c_incident_somebody)) (Λ := pick1 [(58, pieceCut zqh8 zqh9 (incident_changes_p1_G p1))]) (rs := [.tmp 2]) (c := bodyOf Try.f56) mixed tab_ok hΓ Try.func56 (by kernel_rfl) (by kernel_rfl) (by kernel_rfl) (by kernel_rfl) (CutsOk_cons (q := 58) (c' := incident_changes_p1_code) (by kernel_rfl) rfl hp1 CutsOk_nil) (fun x k r h => Eq.trans (b := (zqh4 (zqhd p1)).run x k) (by kernel_rfl) h)
end
theorem zqhfΓ : ΓOk Try.prog (pick1 [(33, .spec (zq2p zq2t)), (35, .spec (zqfi zqfm))]) := (ΓOk_cons zq2u (ΓOk_cons zqfn ΓOk_nil))
def zqhg (m : Nat) : zqh7 := zqhb zq2t zqfm m
theorem zqhh {β : Type} (i : Nat) (k1 k2 at_ state t10 t11 t12 x x2 x3 x4 x5 x6 x7 x8 x9 x10 x11 x12 x13 x14) : (zqhg (i + 1) k1 k2 at_ state t10 t11 t12 x x2 x3 x4 x5 x6 x7 x8 x9 x10 x11 x12 x13 x14 : Option β) = zqha zq2t zqfm (zqhg i k1 k2) k1 k2 at_ state t10 t11 t12 x x2 x3 x4 x5 x6 x7 x8 x9 x10 x11 x12 x13 x14 := rfl
def zqhi : zqh7 := zqhg fuel
theorem zqhj : PieceOk Try.prog 54 0 incident_changes_p1_code zqh8 zqh9 (incident_changes_p1_G zqhi) := zqhc zq2t zqfm zqhfΓ fuel
def zqhk : zqh3 := zqhd zqhi
theorem zqhl : SpecOk Try.prog 56 (zqh4 zqhk) := zqhe zq2t zqfm zqhfΓ zqhi zqhj
abbrev zqhm := {β : Type} → (List Int) → Int → (Bool → Option β) → Option β
def zqhn (c : zqhm) : Spec :=
  ⟨[(false, [.data (.slice (.int .i64))]), (false, [.data (.int .i64)])], [], [(false, [.data .bool])], [], fun x k => c x.1.1.1 x.1.2.1.1 (fun r0 => k (((r0, ()), ()), ()))⟩
section
variable (c_slices_Index_int_int : zqbn)
@[reducible] def slices_Contains_int_int_X : Ctx := ⟨look tab, pick1 [(66, .spec (zqbo c_slices_Index_int_int))], false, false, false, false⟩
def zqho {β : Type} (s : List Int) (v : Int) (k : (Bool → Option β)) : Option β :=
  c_slices_Index_int_int s v (fun rIndexintint =>
  let t : Bool := (decide (0 ≤ rIndexintint));
  k t)
theorem zqhp (hΓ : ΓOk Try.prog (slices_Contains_int_int_X c_slices_Index_int_int).Γ) : SpecOk Try.prog 57 (zqhn (zqho c_slices_Index_int_int)) :=
  spec_exec (X := (slices_Contains_int_int_X c_slices_Index_int_int)) (Λ := pick1 []) (rs := [.tmp 4]) (c := bodyOf Try.f57) mixed tab_ok hΓ Try.func57 (by kernel_rfl) (by kernel_rfl) (by kernel_rfl) (by kernel_rfl) CutsOk_nil (fun x k r h => Eq.trans (b := (zqhn (zqho c_slices_Index_int_int)).run x k) (by kernel_rfl) h)
end
theorem zqhqΓ : ΓOk Try.prog (pick1 [(66, .spec (zqbo zqc4))]) := (ΓOk_cons zqc5 ΓOk_nil)
def zqhr : zqhm := zqho zqc4
theorem zqhs : SpecOk Try.prog 57 (zqhn zqhr) := zqhp zqc4 zqhqΓ
end
end Go.Lift
