/- Part7: Fn0. -/
import Derived.Test.YtecdnhcojfdgmaaGreatDoorProg
import Derived.Test.YtecdnhcojfdgmaaGreatDoorPart6
set_option linter.unusedVariables false
set_option linter.unusedSimpArgs false
namespace Go.Lift
open Go.Proofs
noncomputable section
set_option maxRecDepth 100000
set_option linter.unusedVariables false
abbrev zq0 := (Int × (List UInt8 × Int))
abbrev zq1 : Ty := (.prod (.int .i64) (.prod .str (.int .i64)))
abbrev zq2 := (List UInt8 × (List Int × Bool))
abbrev zq3 : Ty := (.prod .str (.prod (.slice (.int .i64)) .bool))
def tab : List  (Nat × TI) := [
  (3, ⟨false, 1, 8, [.int .i64 0], [], none, none, (some (.int .i64)), (some .i64), false, false, none, none⟩),
  (4, ⟨false, 1, 1, [.bool false], [], none, none, (some .bool), none, true, false, none, none⟩),
  (5, ⟨false, 1, 1, [.int .u8 0], [], none, none, (some (.int .u8)), (some .u8), false, false, none, none⟩),
  (9, ⟨false, 1, 16, [.str ([] : List UInt8)], [], none, none, (some .str), none, false, true, none, none⟩),
  (22, ⟨false, 1, 24, [.nils], [], (some 3), none, (some (.slice (.int .i64))), none, false, false, none, none⟩),
  (28, ⟨false, 1, 24, [.nils], [], (some 35), none, (some (.slice (.prod (.int .i64) (.slice zq1)))), none, false, false, none, none⟩),
  (33, ⟨false, 1, 24, [.nils], [], (some 51), none, (some (.slice zq1)), none, false, false, none, none⟩),
  (35, ⟨true, 2, 32, [.int .i64 0, .nils], [(0, 1, false), (1, 1, false)], none, none, (some (.prod (.int .i64) (.slice zq1))), none, false, false, none, none⟩),
  (42, ⟨true, 2, 32, [.nils, .int .i64 0], [(0, 1, false), (1, 1, false)], none, none, (some (.prod (.slice (.int .i64)) (.int .i64))), none, false, false, none, none⟩),
  (43, ⟨false, 1, 24, [.nils], [], (some 9), none, (some (.slice .str)), none, false, false, none, none⟩),
  (51, ⟨true, 3, 32, [.int .i64 0, .str ([] : List UInt8), .int .i64 0], [(0, 1, false), (1, 1, false), (2, 1, false)], none, none, (some zq1), none, false, false, (some [.i, .s, .i]), none⟩),
  (58, ⟨false, 1, 16, [.err true], [], none, none, (some .err), none, false, false, none, none⟩),
  (64, ⟨true, 3, 48, [.str ([] : List UInt8), .nils, .bool false], [(0, 1, false), (1, 1, false), (2, 1, false)], none, none, (some zq3), none, false, false, none, none⟩),
  (79, ⟨false, 1, 24, [.nils], [], (some 64), none, (some (.slice zq3)), none, false, false, none, none⟩),
  (85, ⟨false, 1, 24, [.nils], [], (some 87), none, (some (.slice (.prod .str .str))), none, false, false, none, none⟩),
  (87, ⟨true, 2, 32, [.str ([] : List UInt8), .str ([] : List UInt8)], [], (some 9), (some 2), (some (.prod .str .str)), none, false, false, (some [.s, .s]), none⟩),
  (120, ⟨true, 3, 24, [.int .i64 0, .int .i64 0, .int .i64 0], [(0, 1, false), (1, 1, false), (2, 1, false)], none, none, (some (.prod (.int .i64) (.prod (.int .i64) (.int .i64)))), none, false, false, (some [.i, .i, .i]), none⟩),
  (164, ⟨true, 12, 96, [.int .i64 0, .int .i64 0, .int .i64 0, .int .i64 0, .int .i64 0, .int .i64 0, .int .i64 0, .int .i64 0, .int .i64 0, .int .i64 0, .int .i64 0, .int .i64 0], [], (some 3), (some 12), (some (.prod (.int .i64) (.prod (.int .i64) (.prod (.int .i64) (.prod (.int .i64) (.prod (.int .i64) (.prod (.int .i64) (.prod (.int .i64) (.prod (.int .i64) (.prod (.int .i64) (.prod (.int .i64) (.prod (.int .i64) (.int .i64))))))))))))), none, false, false, (some [.i, .i, .i, .i, .i, .i, .i, .i, .i, .i, .i, .i]), none⟩)]
theorem tab_ok : TOk Tryz.prog (look tab) := TOk_of (by kernel_rfl)
theorem mixed : Tryz.prog.follows .mixedOrders = true := by kernel_rfl
abbrev zq4 := {β : Type} → (List Int) → (Bool → Option β) → Option β
def zq5 (c : zq4) : Spec :=
  ⟨[(false, [.data (.slice (.int .i64))])], [], [(false, [.data .bool])], [], fun x k => c x.1.1.1 (fun r0 => k (((r0, ()), ()), ()))⟩
section
@[reducible] def made_Light_X : Ctx := ⟨look tab, pick1 [], false, false, false, false⟩
def zq6 {β : Type} (l : List Int) (k : (Bool → Option β)) : Option β :=
  let t : Bool := (decide ((List.length l : Int) ≤ 500));
  k t
theorem zq7 (hΓ : ΓOk Tryz.prog made_Light_X.Γ) : SpecOk Tryz.prog 5 (zq5 (zq6)) :=
  spec_exec (X := made_Light_X) (Λ := pick1 []) (rs := [.tmp 2]) (c := bodyOf Tryz.f5) mixed tab_ok hΓ Tryz.func5 (by kernel_rfl) (by kernel_rfl) (by kernel_rfl) (by kernel_rfl) CutsOk_nil (fun x k r h => Eq.trans (b := (zq5 (zq6)).run x k) (by kernel_rfl) h)
end
theorem zq8Γ : ΓOk Tryz.prog (pick1 []) := ΓOk_nil
def zq9 : zq4 := zq6
theorem zqa : SpecOk Tryz.prog 5 (zq5 zq9) := zq7 zq8Γ
abbrev zqb := {β : Type} → (List Int) → ((List Int × Int) → Option β) → Option β
def zqc (c : zqb) : Spec :=
  ⟨[(false, [.data (.slice (.int .i64))])], [], [(false, [.ptr 0 0])], [.cells 42 [.data (.prod (.slice (.int .i64)) (.int .i64))]], fun x k => c x.1.1.1 (fun r0 => k (((), ()), ((r0, ()), ())))⟩
section
@[reducible] def made_Roll_X : Ctx := ⟨look tab, pick1 [], false, false, false, false⟩
def zqd {β : Type} (l : List Int) (k : ((List Int × Int) → Option β)) : Option β :=
  k (l, 0)
theorem zqe (hΓ : ΓOk Tryz.prog made_Roll_X.Γ) : SpecOk Tryz.prog 7 (zqc (zqd)) :=
  spec_exec (X := made_Roll_X) (Λ := pick1 []) (rs := [.tmp 2]) (c := bodyOf Tryz.f7) mixed tab_ok hΓ Tryz.func7 (by kernel_rfl) (by kernel_rfl) (by kernel_rfl) (by kernel_rfl) CutsOk_nil (fun x k r h => Eq.trans (b := (zqc (zqd)).run x k) (by kernel_rfl) h)
end
theorem zqfΓ : ΓOk Tryz.prog (pick1 []) := ΓOk_nil
def zqg : zqb := zqd
theorem zqh : SpecOk Tryz.prog 7 (zqc zqg) := zqe zqfΓ
abbrev zqi := {β : Type} → (List zq0) → (List zq0) → (Bool → Option β) → Option β
def zqj (c : zqi) : Spec :=
  ⟨[(false, [.data (.slice zq1)]), (false, [.data (.slice zq1)])], [], [(false, [.data .bool])], [], fun x k => c x.1.1.1 x.1.2.1.1 (fun r0 => k (((r0, ()), ()), ()))⟩
noncomputable def law07_tokens_p1_code : Code := codeAt 58 (bodyOf Tryz.f10)
abbrev zqk (β : Type) := Bool → Option β
abbrev zql (β : Type) := Unit → Option β
abbrev zqm := {β : Type} → zqk β → zql β → (List zq0) → (List zq0) → Int → Int → Option β
def zqn : View := ⟨0, [0, 1, 12, 13], [(false, [.data  (.slice zq1)]), (false, [.data (.slice zq1)]), (false, [.data (.int .i64)]), (false, [.data (.int .i64)])], []⟩
def zqo : List  (AExit × View) := [(.ret, ⟨0, [4], [(false, [.data .bool])], []⟩), (.exit 0, ⟨0, [], [], []⟩)]
@[reducible] def law07_tokens_p1_G (p : zqm) {β : Type} (d : zqn.den) (ks : Outs.K β zqo) : Option β :=
  p (fun a0 => ks.1 (((a0, ()), ()), ())) (fun _ => ks.2.1 ((), ())) d.1.1.1 d.1.2.1.1 d.1.2.2.1.1 d.1.2.2.2.1.1
section
@[reducible] def law07_tokens_X : Ctx := ⟨look tab, pick1 [], false, false, false, false⟩
def zqp {β : Type} (rec : (List zq0) → (List zq0) → Int → Int → Option β) (k1 : zqk β) (k2 : zql β) (a b : List zq0) (t12 t13 : Int) : Option β :=
  cond (decide (t13 < t12))
  (cond (decide (0 ≤ t13) && decide (t13 < (List.length a : Int)))
  (let e : zq0 := List.getD a (Int.toNat t13) (0, (([] : List UInt8), 0));
  cond (decide (0 ≤ t13) && decide (t13 < (List.length b : Int)))
  (let e2 : zq0 := List.getD b (Int.toNat t13) (0, (([] : List UInt8), 0));
  cond (!(decide (e.1 = e2.1) && (decide (e.2.1 = e2.2.1) && (decide (e.2.2 = e2.2.2) && true))))
  (k1 false)
  (rec a b t12 (IntKind.i64.wrap (t13 + 1))))
  none)
  none)
  (k2 ())
def zqq {β : Type} : Nat → zqk β → zql β →  (List zq0) → (List zq0) → Int → Int → Option β
  | 0 => fun _ _ _ _ _ _ => none
  | i + 1 => fun k1 k2 a b t12 t13 => zqp (zqq i k1 k2) k1 k2 a b t12 t13
theorem zqr (hΓ : ΓOk Tryz.prog law07_tokens_X.Γ) (i : Nat) : PieceOk Tryz.prog 26 0 law07_tokens_p1_code zqn zqo (law07_tokens_p1_G (zqq i)) := by
  rw [show law07_tokens_p1_code = .loop (loopBody law07_tokens_p1_code) by kernel_rfl]
  exact piece_loop (X := law07_tokens_X) (p := 1) (Λ := pick1 []) (G := fun i => @fun β d ks => law07_tokens_p1_G (zqq i) d ks) mixed tab_ok hΓ rfl (by kernel_rfl) CutsOk_nil (fun _ _ => rfl) (fun i => @fun β d ks r h => Eq.trans (b := law07_tokens_p1_G (zqq (i + 1)) d ks) (by kernel_rfl) h) i
def zqs (p1 : zqm) {β : Type} (a : List zq0) (b : List zq0) (k : (Bool → Option β)) : Option β :=
  cond (!decide ((List.length a : Int) = (List.length b : Int)))
  (k false)
  (p1 (fun t4 =>
  k t4) (fun _ =>
  k true) a b (List.length a : Int) 0)
theorem zqt (hΓ : ΓOk Tryz.prog law07_tokens_X.Γ) (p1 : zqm) (hp1 : PieceOk Tryz.prog 26 0 law07_tokens_p1_code zqn zqo (law07_tokens_p1_G p1)) : SpecOk Tryz.prog 10 (zqj (zqs p1)) :=
  spec_exec (X := law07_tokens_X) (Λ := pick1 [(58, pieceCut zqn zqo (law07_tokens_p1_G p1))]) (rs := [.tmp 4]) (c := bodyOf Tryz.f10) mixed tab_ok hΓ Tryz.func10 (by kernel_rfl) (by kernel_rfl) (by kernel_rfl) (by kernel_rfl) (CutsOk_cons (q := 58) (c' := law07_tokens_p1_code) (by kernel_rfl) rfl hp1 CutsOk_nil) (fun x k r h => Eq.trans (b := (zqj (zqs p1)).run x k) (by kernel_rfl) h)
end
theorem zquΓ : ΓOk Tryz.prog (pick1 []) := ΓOk_nil
def zqv (m : Nat) : zqm := zqq m
theorem zqw {β : Type} (i : Nat) (k1 k2 a b t12 t13) : (zqv (i + 1) k1 k2 a b t12 t13 : Option β) = zqp (zqv i k1 k2) k1 k2 a b t12 t13 := rfl
def zqx : zqm := zqv fuel
theorem zqy : PieceOk Tryz.prog 26 0 law07_tokens_p1_code zqn zqo (law07_tokens_p1_G zqx) := zqr zquΓ fuel
def zqz : zqi := zqs zqx
theorem zq10 : SpecOk Tryz.prog 10 (zqj zqz) := zqt zquΓ zqx zqy
abbrev zq11 := {β : Type} → ((List (List UInt8)) → Option β) → Option β
def zq12 (c : zq11) : Spec :=
  ⟨[], [], [(false, [.rowh 0])], [.row 9 .str], fun x k => c  (fun r0 => k (((), ()), (r0, ())))⟩
section
@[reducible] def law07_lines_X : Ctx := ⟨look tab, pick1 [], false, false, false, false⟩
def zq13 {β : Type} (k : ((List (List UInt8)) → Option β)) : Option β :=
  let l : List (List UInt8) := ([([122, 111, 110, 101, 32, 97, 32, 43, 48, 49, 58, 48, 48] : List UInt8), ([122, 111, 110, 101, 32, 97, 32, 48, 49, 58, 48, 48] : List UInt8), ([114, 117, 108, 101, 32, 50, 48, 50, 48, 32, 50, 48, 51, 48, 32, 109, 97, 114, 32, 108, 97, 115, 116, 32, 115, 117, 110, 32, 48, 50, 58, 48, 48, 32, 43, 48, 50, 58, 48, 48] : List UInt8), ([114, 117, 108, 101, 32, 50, 48, 50, 48, 32, 109, 97, 114, 32, 108, 97, 115, 116, 32, 115, 117, 110, 32, 48, 50, 58, 48, 48, 32, 43, 48, 50, 58, 48, 48] : List UInt8), ([112, 101, 114, 115, 111, 110, 32, 112, 32, 97] : List UInt8), ([112, 101, 114, 115, 111, 110, 32, 112, 32, 97, 32, 119, 101, 101, 107, 32, 52, 48] : List UInt8), ([112, 101, 114, 115, 111, 110, 32, 112, 32, 97, 32, 114, 101, 115, 116, 32, 49, 49] : List UInt8), ([112, 101, 114, 115, 111, 110, 32, 112, 32, 97, 32, 119, 101, 101, 107, 32, 52, 48, 32, 114, 101, 115, 116, 32, 49, 49, 32, 99, 111, 110, 115, 101, 110, 116] : List UInt8), ([112, 101, 114, 115, 111, 110, 32, 112, 32, 97, 32, 114, 101, 115, 116, 32, 49, 49, 32, 119, 101, 101, 107, 32, 52, 48] : List UInt8), ([112, 101, 114, 115, 111, 110, 32, 112, 32, 97, 32, 99, 111, 110, 115, 101, 110, 116, 32, 99, 111, 110, 115, 101, 110, 116] : List UInt8), ([112, 101, 114, 115, 111, 110, 32, 112, 32, 97, 32, 119, 101, 101, 107] : List UInt8), ([112, 101, 114, 115, 111, 110, 32, 112] : List UInt8), ([113, 117, 105, 101, 116, 32, 109, 111, 110, 32, 50, 50, 58, 48, 48, 32, 109, 111, 110, 32, 50, 52, 58, 48, 48] : List UInt8), ([113, 117, 105, 101, 116, 32, 109, 111, 110, 32, 50, 50, 58, 48, 48] : List UInt8), ([99, 97, 108, 101, 110, 100, 97, 114, 32, 99, 32, 97] : List UInt8), ([100, 97, 121, 115, 32, 50, 48, 50, 54, 45, 48, 49, 45, 48, 49] : List UInt8), ([100, 97, 121, 115, 32, 50, 48, 50, 54, 45, 48, 49, 45, 48, 49, 32, 50, 48, 50, 54, 45, 48, 49, 45, 48, 50] : List UInt8), ([100, 97, 121, 115] : List UInt8), ([100, 97, 121, 115, 32, 50, 48, 50, 54, 45, 48, 49, 45, 48, 49, 32, 120] : List UInt8), ([115, 99, 104, 101, 100, 117, 108, 101, 32, 115] : List UInt8), ([115, 99, 104, 101, 100, 117, 108, 101] : List UInt8), ([108, 97, 121, 101, 114, 32, 108, 32, 97, 32, 50, 48, 50, 54, 45, 48, 49, 45, 48, 53, 32, 48, 57, 58, 48, 48, 32, 49, 32, 119, 101, 101, 107, 115] : List UInt8), ([108, 97, 121, 101, 114, 32, 108, 32, 97, 32, 50, 48, 50, 54, 45, 48, 49, 45, 48, 53, 32, 49, 32, 119, 101, 101, 107, 115] : List UInt8), ([109, 101, 109, 98, 101, 114, 32, 112, 32, 113, 32, 114] : List UInt8), ([109, 101, 109, 98, 101, 114] : List UInt8), ([111, 110, 32, 109, 111, 110, 32, 48, 57, 58, 48, 48, 32, 102, 114, 105, 32, 49, 55, 58, 48, 48] : List UInt8), ([110, 111, 116, 32, 99] : List UInt8), ([111, 110, 108, 121, 32, 99] : List UInt8), ([111, 110, 108, 121, 32, 99, 32, 100] : List UInt8), ([108, 101, 97, 118, 101, 32, 112, 32, 50, 48, 50, 54, 45, 48, 49, 45, 48, 49, 84, 48, 48, 58, 48, 48, 58, 48, 48, 90, 32, 50, 48, 50, 54, 45, 48, 49, 45, 48, 50, 84, 48, 48, 58, 48, 48, 58, 48, 48, 90] : List UInt8), ([111, 118, 101, 114, 114, 105, 100, 101, 32, 110, 111, 98, 111, 100, 121, 32, 50, 48, 50, 54, 45, 48, 49, 45, 48, 49, 84, 48, 48, 58, 48, 48, 58, 48, 48, 90, 32, 50, 48, 50, 54, 45, 48, 49, 45, 48, 50, 84, 48, 48, 58, 48, 48, 58, 48, 48, 90] : List UInt8), ([115, 119, 97, 112, 32, 112, 32, 113, 32, 50, 48, 50, 54, 45, 48, 49, 45, 48, 49, 84, 48, 48, 58, 48, 48, 58, 48, 48, 90, 32, 50, 48, 50, 54, 45, 48, 49, 45, 48, 50, 84, 48, 48, 58, 48, 48, 58, 48, 48, 90] : List UInt8), ([115, 119, 97, 112, 32, 112, 32, 50, 48, 50, 54, 45, 48, 49, 45, 48, 49, 84, 48, 48, 58, 48, 48, 58, 48, 48, 90, 32, 50, 48, 50, 54, 45, 48, 49, 45, 48, 50, 84, 48, 48, 58, 48, 48, 58, 48, 48, 90] : List UInt8), ([] : List UInt8), ([32, 32, 32] : List UInt8), ([35, 32, 111, 110, 108, 121, 32, 116, 104, 105, 115] : List UInt8), ([122, 111, 110, 101, 32, 97, 32, 43, 48, 49, 58, 48, 48, 32, 35, 32, 119, 105, 116, 104, 32, 116, 104, 105, 115] : List UInt8), ([117, 110, 107, 110, 111, 119, 110, 32, 97] : List UInt8), ([49, 32, 97] : List UInt8), ([122, 111, 110, 101] : List UInt8)] : List (List UInt8));
  k l
theorem zq14 (hΓ : ΓOk Tryz.prog law07_lines_X.Γ) : SpecOk Tryz.prog 15 (zq12 (zq13)) :=
  spec_exec (X := law07_lines_X) (Λ := pick1 []) (rs := [.tmp 0]) (c := bodyOf Tryz.f15) mixed tab_ok hΓ Tryz.func15 (by kernel_rfl) (by kernel_rfl) (by kernel_rfl) (by kernel_rfl) CutsOk_nil (fun x k r h => Eq.trans (b := (zq12 (zq13)).run x k) (by kernel_rfl) h)
end
theorem zq15Γ : ΓOk Tryz.prog (pick1 []) := ΓOk_nil
def zq16 : zq11 := zq13
theorem zq17 : SpecOk Tryz.prog 15 (zq12 zq16) := zq14 zq15Γ
abbrev zq18 := {β : Type} → Int → (List Int × Int) → (Int → (List Int × Int) → Option β) → Option β
def zq19 (c : zq18) : Spec :=
  ⟨[(false, [.ptr 0 0]), (false, [.data (.int .i64)])], [.cells 42 [.data (.prod (.slice (.int .i64)) (.int .i64))]], [(false, [.data (.int .i64)])], [.cells 42 [.data (.prod (.slice (.int .i64)) (.int .i64))]], fun x k => c x.1.2.1.1 x.2.1.1 (fun r0 r1 => k (((r0, ()), ()), ((r1, ()), ())))⟩
section
@[reducible] def made_Dice_Next_X : Ctx := ⟨look tab, pick1 [], false, false, false, false⟩
def zq1a {β : Type} (n : Int) (d : (List Int × Int)) (k : (Int → (List Int × Int) → Option β)) : Option β :=
  cond (decide ((List.length d.1 : Int) ≤ d.2))
  (k 0 d)
  (cond (decide (n < 1))
  (k 0 d)
  (cond (decide (0 ≤ d.2) && decide (d.2 < (List.length d.1 : Int)))
  (let e : Int := List.getD d.1 (Int.toNat d.2) 0;
  cond (!decide (n = 0))
  (cond (decide ((Int.tmod e n) < 0))
  (let x : Int := (IntKind.i64.wrap ((Int.tmod e n) + n));
  k x (d.1, (IntKind.i64.wrap (d.2 + 1))))
  (k (Int.tmod e n) (d.1, (IntKind.i64.wrap (d.2 + 1)))))
  none)
  none))
theorem zq1b (hΓ : ΓOk Tryz.prog made_Dice_Next_X.Γ) : SpecOk Tryz.prog 16 (zq19 (zq1a)) :=
  spec_exec (X := made_Dice_Next_X) (Λ := pick1 []) (rs := [.tmp 4]) (c := bodyOf Tryz.f16) mixed tab_ok hΓ Tryz.func16 (by kernel_rfl) (by kernel_rfl) (by kernel_rfl) (by kernel_rfl) CutsOk_nil (fun x k r h => Eq.trans (b := (zq19 (zq1a)).run x k) (by kernel_rfl) h)
end
theorem zq1cΓ : ΓOk Tryz.prog (pick1 []) := ΓOk_nil
def zq1d : zq18 := zq1a
theorem zq1e : SpecOk Tryz.prog 16 (zq19 zq1d) := zq1b zq1cΓ
abbrev zq1f := {β : Type} → Int → (List Int × Int) → (Bool → (List Int × Int) → Option β) → Option β
def zq1g (c : zq1f) : Spec :=
  ⟨[(false, [.ptr 0 0]), (false, [.data (.int .i64)])], [.cells 42 [.data (.prod (.slice (.int .i64)) (.int .i64))]], [(false, [.data .bool])], [.cells 42 [.data (.prod (.slice (.int .i64)) (.int .i64))]], fun x k => c x.1.2.1.1 x.2.1.1 (fun r0 r1 => k (((r0, ()), ()), ((r1, ()), ())))⟩
section
variable (c_made_Dice_Next : zq18)
@[reducible] def made_Dice_Bool_X : Ctx := ⟨look tab, pick1 [(16, .spec (zq19 c_made_Dice_Next))], false, false, false, false⟩
def zq1h {β : Type} (n : Int) (d : (List Int × Int)) (k : (Bool → (List Int × Int) → Option β)) : Option β :=
  c_made_Dice_Next n d (fun rNext mrNext =>
  let t : Bool := (decide (rNext = (IntKind.i64.wrap (n - 1))));
  k t mrNext)
theorem zq1i (hΓ : ΓOk Tryz.prog (made_Dice_Bool_X c_made_Dice_Next).Γ) : SpecOk Tryz.prog 18 (zq1g (zq1h c_made_Dice_Next)) :=
  spec_exec (X := (made_Dice_Bool_X c_made_Dice_Next)) (Λ := pick1 []) (rs := [.tmp 4]) (c := bodyOf Tryz.f18) mixed tab_ok hΓ Tryz.func18 (by kernel_rfl) (by kernel_rfl) (by kernel_rfl) (by kernel_rfl) CutsOk_nil (fun x k r h => Eq.trans (b := (zq1g (zq1h c_made_Dice_Next)).run x k) (by kernel_rfl) h)
end
theorem zq1jΓ : ΓOk Tryz.prog (pick1 [(16, .spec (zq19 zq1d))]) := (ΓOk_cons zq1e ΓOk_nil)
def zq1k : zq1f := zq1h zq1d
theorem zq1l : SpecOk Tryz.prog 18 (zq1g zq1k) := zq1i zq1d zq1jΓ
def zq1m : Shelf.Ren :=
      {
      f := fun x =>
        match x with
        | 146 => 19
        | 221 => 30
        | 268 => 47
        | 138 => 48
        | 143 => 49
        | 195 => 63
        | 197 => 64
        | 218 => 65
        | 219 => 66
        | 260 => 82
        | 217 => 83
        | 225 => 84
        | 224 => 85
        | 267 => 86
        | 266 => 99
        | 314 => 100
        | n => n,
      t := fun x =>
        match x with
        | 9 => 9
        | 31 => 43
        | 3 => 3
        | 4 => 4
        | 0 => 0
        | 105 => 104
        | 21 => 21
        | 5 => 5
        | 46 => 121
        | 119 => 91
        | 139 => 141
        | 138 => 140
        | 146 => 142
        | 51 => 110
        | n => n,
      g := fun x =>
        match x with
        | 1 => 2
        | 3 => 3
        | 4 => 4
        | n => n }
theorem zq1n : Go.Proofs.Lays.n146 Tryz.prog zq1m :=
  { mixed := by kernel_rfl,
    f138 := Eq.trans Tryz.func48 (congrArg some (by kernel_rfl)),
    f143 := Eq.trans Tryz.func49 (congrArg some (by kernel_rfl)),
    f146 := Eq.trans Tryz.func19 (congrArg some (by kernel_rfl)),
    f195 := Eq.trans Tryz.func63 (congrArg some (by kernel_rfl)),
    f197 := Eq.trans Tryz.func64 (congrArg some (by kernel_rfl)),
    f217 := Eq.trans Tryz.func83 (congrArg some (by kernel_rfl)),
    f218 := Eq.trans Tryz.func65 (congrArg some (by kernel_rfl)),
    f219 := Eq.trans Tryz.func66 (congrArg some (by kernel_rfl)),
    f221 := Eq.trans Tryz.func30 (congrArg some (by kernel_rfl)),
    f224 := Eq.trans Tryz.func85 (congrArg some (by kernel_rfl)),
    f225 := Eq.trans Tryz.func84 (congrArg some (by kernel_rfl)),
    f260 := Eq.trans Tryz.func82 (congrArg some (by kernel_rfl)),
    f266 := Eq.trans Tryz.func99 (congrArg some (by kernel_rfl)),
    f267 := Eq.trans Tryz.func86 (congrArg some (by kernel_rfl)),
    f268 := Eq.trans Tryz.func47 (congrArg some (by kernel_rfl)),
    f314 := Eq.trans Tryz.func100 (congrArg some (by kernel_rfl)),
    t0 := Tryz.underlying0,
    a0 := Tryz.isAgg0,
    z0 := Tryz.sizeOf0,
    v0 := Tryz.zeroValue0,
    t3 := Tryz.underlying3,
    a3 := Tryz.isAgg3,
    z3 := Tryz.sizeOf3,
    v3 := Tryz.zeroValue3,
    t4 := Tryz.underlying4,
    a4 := Tryz.isAgg4,
    z4 := Tryz.sizeOf4,
    v4 := Tryz.zeroValue4,
    t5 := Tryz.underlying5,
    a5 := Tryz.isAgg5,
    z5 := Tryz.sizeOf5,
    v5 := Tryz.zeroValue5,
    t9 := Tryz.underlying9,
    a9 := Tryz.isAgg9,
    z9 := Tryz.sizeOf9,
    v9 := Tryz.zeroValue9,
    t21 := Tryz.underlying21,
    a21 := Tryz.isAgg21,
    z21 := Tryz.sizeOf21,
    v21 := Tryz.zeroValue21,
    t31 := Tryz.underlying43,
    a31 := Tryz.isAgg43,
    z31 := Tryz.sizeOf43,
    v31 := Tryz.zeroValue43,
    t46 := Tryz.underlying121,
    a46 := Tryz.isAgg121,
    z46 := Tryz.sizeOf121,
    v46 := Tryz.zeroValue121,
    t51 := Tryz.underlying110,
    a51 := Tryz.isAgg110,
    z51 := Tryz.sizeOf110,
    v51 := Tryz.zeroValue110,
    t105 := Tryz.underlying104,
    a105 := Tryz.isAgg104,
    z105 := Tryz.sizeOf104,
    v105 := Tryz.zeroValue104,
    t119 := Tryz.underlying91,
    a119 := Tryz.isAgg91,
    z119 := Tryz.sizeOf91,
    t138 := Tryz.underlying140,
    a138 := Tryz.isAgg140,
    z138 := Tryz.sizeOf140,
    v138 := Tryz.zeroValue140,
    t139 := Tryz.underlying141,
    a139 := Tryz.isAgg141,
    z139 := Tryz.sizeOf141,
    v139 := Tryz.zeroValue141,
    t146 := Tryz.underlying142,
    a146 := Tryz.isAgg142,
    z146 := Tryz.sizeOf142,
    v146 := Tryz.zeroValue142,
    g1 := by kernel_rfl,
    g3 := by kernel_rfl,
    g4 := by kernel_rfl }
abbrev zq1o := splitT
def zq1p (c : zq1o) : Spec := splitRS 9 c
def zq1q : zq1o := fun x y k => splitF x y k
theorem zq1r : SpecOk Tryz.prog 19 (zq1p zq1q) :=
  splitR_ok zq1n rfl rfl (by kernel_rfl) (of_decide_eq_true (by kernel_rfl)) (fun w0 h0 => Go.Proofs.cell_of_shapedOpen_int (P := Tryz.prog) (g := 2) (t := 3) (zero := #[.int .i64 0]) h0 (of_decide_eq_true (by kernel_rfl)) (by kernel_rfl) rfl (by kernel_rfl) (by kernel_rfl) Tryz.underlying3) ⟨_, Tryz.func19, by kernel_rfl, by kernel_rfl⟩
def zq1s : Shelf.Ren :=
      {
      f := fun x =>
        match x with
        | 145 => 31
        | 220 => 50
        | 219 => 66
        | 217 => 83
        | 225 => 84
        | 224 => 85
        | 267 => 86
        | 266 => 99
        | 314 => 100
        | n => n,
      t := fun x =>
        match x with
        | 9 => 9
        | 4 => 4
        | 59 => 71
        | 3 => 3
        | 5 => 5
        | 46 => 121
        | 146 => 142
        | 51 => 110
        | n => n,
      g := fun x =>
        match x with
        | 1 => 2
        | n => n }
theorem zq1t : Go.Proofs.Lays.n145 Tryz.prog zq1s :=
  { mixed := by kernel_rfl,
    f145 := Eq.trans Tryz.func31 (congrArg some (by kernel_rfl)),
    f217 := Eq.trans Tryz.func83 (congrArg some (by kernel_rfl)),
    f219 := Eq.trans Tryz.func66 (congrArg some (by kernel_rfl)),
    f220 := Eq.trans Tryz.func50 (congrArg some (by kernel_rfl)),
    f224 := Eq.trans Tryz.func85 (congrArg some (by kernel_rfl)),
    f225 := Eq.trans Tryz.func84 (congrArg some (by kernel_rfl)),
    f266 := Eq.trans Tryz.func99 (congrArg some (by kernel_rfl)),
    f267 := Eq.trans Tryz.func86 (congrArg some (by kernel_rfl)),
    f314 := Eq.trans Tryz.func100 (congrArg some (by kernel_rfl)),
    t3 := Tryz.underlying3,
    a3 := Tryz.isAgg3,
    z3 := Tryz.sizeOf3,
    v3 := Tryz.zeroValue3,
    t4 := Tryz.underlying4,
    a4 := Tryz.isAgg4,
    z4 := Tryz.sizeOf4,
    v4 := Tryz.zeroValue4,
    t5 := Tryz.underlying5,
    a5 := Tryz.isAgg5,
    z5 := Tryz.sizeOf5,
    v5 := Tryz.zeroValue5,
    t9 := Tryz.underlying9,
    a9 := Tryz.isAgg9,
    z9 := Tryz.sizeOf9,
    v9 := Tryz.zeroValue9,
    t46 := Tryz.underlying121,
    a46 := Tryz.isAgg121,
    z46 := Tryz.sizeOf121,
    v46 := Tryz.zeroValue121,
    t51 := Tryz.underlying110,
    a51 := Tryz.isAgg110,
    z51 := Tryz.sizeOf110,
    v51 := Tryz.zeroValue110,
    t59 := Tryz.underlying71,
    a59 := Tryz.isAgg71,
    z59 := Tryz.sizeOf71,
    v59 := Tryz.zeroValue71,
    t146 := Tryz.underlying142,
    a146 := Tryz.isAgg142,
    z146 := Tryz.sizeOf142,
    v146 := Tryz.zeroValue142,
    g1 := by kernel_rfl }
abbrev zq1u := cutT
def zq1v (c : zq1u) : Spec := cutS c
def zq1w : zq1u := fun x y k => cutF x y k
theorem zq1x : SpecOk Tryz.prog 31 (zq1v zq1w) :=
  cut_ok zq1t rfl (of_decide_eq_true (by kernel_rfl)) (fun w0 h0 => Go.Proofs.cell_of_shapedOpen_int (P := Tryz.prog) (g := 2) (t := 3) (zero := #[.int .i64 0]) h0 (of_decide_eq_true (by kernel_rfl)) (by kernel_rfl) rfl (by kernel_rfl) (by kernel_rfl) Tryz.underlying3) ⟨_, Tryz.func31, by kernel_rfl, by kernel_rfl⟩
def zq1y : Shelf.Ren :=
      {
      f := fun x =>
        match x with
        | 157 => 32
        | 229 => 51
        | 199 => 52
        | 261 => 67
        | 311 => 87
        | 312 => 88
        | n => n,
      t := fun x =>
        match x with
        | 9 => 9
        | 31 => 43
        | 3 => 3
        | 5 => 5
        | 4 => 4
        | 119 => 91
        | 0 => 0
        | 40 => 93
        | 152 => 107
        | 21 => 21
        | 154 => 109
        | 51 => 110
        | 141 => 112
        | 196 => 125
        | 193 => 122
        | 198 => 128
        | 49 => 126
        | 194 => 123
        | 201 => 131
        | 226 => 144
        | 46 => 121
        | 227 => 145
        | n => n,
      g := fun x =>
        match x with
        | 0 => 0
        | 6 => 1
        | n => n }
theorem zq1z : Go.Proofs.Lays.n157 Tryz.prog zq1y :=
  { mixed := by kernel_rfl,
    f157 := Eq.trans Tryz.func32 (congrArg some (by kernel_rfl)),
    f199 := Eq.trans Tryz.func52 (congrArg some (by kernel_rfl)),
    f229 := Eq.trans Tryz.func51 (congrArg some (by kernel_rfl)),
    f261 := Eq.trans Tryz.func67 (congrArg some (by kernel_rfl)),
    f311 := Eq.trans Tryz.func87 (congrArg some (by kernel_rfl)),
    f312 := Eq.trans Tryz.func88 (congrArg some (by kernel_rfl)),
    t0 := Tryz.underlying0,
    a0 := Tryz.isAgg0,
    z0 := Tryz.sizeOf0,
    v0 := Tryz.zeroValue0,
    t3 := Tryz.underlying3,
    a3 := Tryz.isAgg3,
    z3 := Tryz.sizeOf3,
    v3 := Tryz.zeroValue3,
    t4 := Tryz.underlying4,
    a4 := Tryz.isAgg4,
    z4 := Tryz.sizeOf4,
    v4 := Tryz.zeroValue4,
    t5 := Tryz.underlying5,
    a5 := Tryz.isAgg5,
    z5 := Tryz.sizeOf5,
    v5 := Tryz.zeroValue5,
    t9 := Tryz.underlying9,
    a9 := Tryz.isAgg9,
    z9 := Tryz.sizeOf9,
    v9 := Tryz.zeroValue9,
    t21 := Tryz.underlying21,
    a21 := Tryz.isAgg21,
    z21 := Tryz.sizeOf21,
    v21 := Tryz.zeroValue21,
    t31 := Tryz.underlying43,
    a31 := Tryz.isAgg43,
    z31 := Tryz.sizeOf43,
    v31 := Tryz.zeroValue43,
    t40 := Tryz.underlying93,
    a40 := Tryz.isAgg93,
    z40 := Tryz.sizeOf93,
    v40 := Tryz.zeroValue93,
    t46 := Tryz.underlying121,
    a46 := Tryz.isAgg121,
    z46 := Tryz.sizeOf121,
    v46 := Tryz.zeroValue121,
    t49 := Tryz.underlying126,
    a49 := Tryz.isAgg126,
    z49 := Tryz.sizeOf126,
    v49 := Tryz.zeroValue126,
    t51 := Tryz.underlying110,
    a51 := Tryz.isAgg110,
    z51 := Tryz.sizeOf110,
    v51 := Tryz.zeroValue110,
    t119 := Tryz.underlying91,
    a119 := Tryz.isAgg91,
    z119 := Tryz.sizeOf91,
    t141 := Tryz.underlying112,
    a141 := Tryz.isAgg112,
    z141 := Tryz.sizeOf112,
    v141 := Tryz.zeroValue112,
    t152 := Tryz.underlying107,
    a152 := Tryz.isAgg107,
    z152 := Tryz.sizeOf107,
    v152 := Tryz.zeroValue107,
    t154 := Tryz.underlying109,
    a154 := Tryz.isAgg109,
    z154 := Tryz.sizeOf109,
    v154 := Tryz.zeroValue109,
    t193 := Tryz.underlying122,
    a193 := Tryz.isAgg122,
    z193 := Tryz.sizeOf122,
    v193 := Tryz.zeroValue122,
    t194 := Tryz.underlying123,
    a194 := Tryz.isAgg123,
    z194 := Tryz.sizeOf123,
    v194 := Tryz.zeroValue123,
    t196 := Tryz.underlying125,
    a196 := Tryz.isAgg125,
    z196 := Tryz.sizeOf125,
    v196 := Tryz.zeroValue125,
    t198 := Tryz.underlying128,
    a198 := Tryz.isAgg128,
    z198 := Tryz.sizeOf128,
    v198 := Tryz.zeroValue128,
    t201 := Tryz.underlying131,
    a201 := Tryz.isAgg131,
    z201 := Tryz.sizeOf131,
    v201 := Tryz.zeroValue131,
    t226 := Tryz.underlying144,
    a226 := Tryz.isAgg144,
    z226 := Tryz.sizeOf144,
    v226 := Tryz.zeroValue144,
    t227 := Tryz.underlying145,
    a227 := Tryz.isAgg145,
    z227 := Tryz.sizeOf145,
    v227 := Tryz.zeroValue145,
    g0 := by kernel_rfl,
    g6 := by kernel_rfl }
abbrev zq20 := fieldsT
def zq21 (c : zq20) : Spec := fieldsRS 9 c
def zq22 : zq20 := fun x k => fieldsF x k
theorem zq23 : SpecOk Tryz.prog 32 (zq21 zq22) :=
  fields_ok zq1z rfl rfl (by kernel_rfl) (by kernel_rfl) (by kernel_rfl) (by kernel_rfl) ⟨_, Tryz.func32, by kernel_rfl, by kernel_rfl⟩
def zq24 : Shelf.Ren :=
      {
      f := fun x =>
        match x with
        | 156 => 35
        | 165 => 56
        | 166 => 22
        | 169 => 24
        | 240 => 36
        | 241 => 79
        | 276 => 57
        | 277 => 95
        | n => n,
      t := fun x =>
        match x with
        | 31 => 43
        | 9 => 9
        | 3 => 3
        | 4 => 4
        | 0 => 0
        | 20 => 20
        | 72 => 55
        | 76 => 59
        | 70 => 52
        | 37 => 53
        | 75 => 58
        | 127 => 78
        | 164 => 100
        | 5 => 5
        | 80 => 62
        | n => n,
      g := fun x => x }
theorem zq25 : Go.Proofs.Lays.n156 Tryz.prog zq24 :=
  { mixed := by kernel_rfl,
    f156 := Eq.trans Tryz.func35 (congrArg some (by kernel_rfl)),
    f165 := Eq.trans Tryz.func56 (congrArg some (by kernel_rfl)),
    f166 := Eq.trans Tryz.func22 (congrArg some (by kernel_rfl)),
    f169 := Eq.trans Tryz.func24 (congrArg some (by kernel_rfl)),
    f240 := Eq.trans Tryz.func36 (congrArg some (by kernel_rfl)),
    f241 := Eq.trans Tryz.func79 (congrArg some (by kernel_rfl)),
    f276 := Eq.trans Tryz.func57 (congrArg some (by kernel_rfl)),
    f277 := Eq.trans Tryz.func95 (congrArg some (by kernel_rfl)),
    t0 := Tryz.underlying0,
    a0 := Tryz.isAgg0,
    z0 := Tryz.sizeOf0,
    v0 := Tryz.zeroValue0,
    t3 := Tryz.underlying3,
    a3 := Tryz.isAgg3,
    z3 := Tryz.sizeOf3,
    v3 := Tryz.zeroValue3,
    t4 := Tryz.underlying4,
    a4 := Tryz.isAgg4,
    z4 := Tryz.sizeOf4,
    v4 := Tryz.zeroValue4,
    t9 := Tryz.underlying9,
    a9 := Tryz.isAgg9,
    z9 := Tryz.sizeOf9,
    v9 := Tryz.zeroValue9,
    t20 := Tryz.underlying20,
    a20 := Tryz.isAgg20,
    z20 := Tryz.sizeOf20,
    v20 := Tryz.zeroValue20,
    t31 := Tryz.underlying43,
    a31 := Tryz.isAgg43,
    z31 := Tryz.sizeOf43,
    v31 := Tryz.zeroValue43,
    t37 := Tryz.underlying53,
    a37 := Tryz.isAgg53,
    z37 := Tryz.sizeOf53,
    v37 := Tryz.zeroValue53,
    t70 := Tryz.underlying52,
    a70 := Tryz.isAgg52,
    z70 := Tryz.sizeOf52,
    v70 := Tryz.zeroValue52,
    t72 := Tryz.underlying55,
    a72 := Tryz.isAgg55,
    z72 := Tryz.sizeOf55,
    v72 := Tryz.zeroValue55,
    t75 := Tryz.underlying58,
    a75 := Tryz.isAgg58,
    z75 := Tryz.sizeOf58,
    v75 := Tryz.zeroValue58,
    t76 := Tryz.underlying59,
    a76 := Tryz.isAgg59,
    z76 := Tryz.sizeOf59,
    v76 := Tryz.zeroValue59,
    t127 := Tryz.underlying78,
    a127 := Tryz.isAgg78,
    z127 := Tryz.sizeOf78,
    v127 := Tryz.zeroValue78,
    t164 := Tryz.underlying100,
    a164 := Tryz.isAgg100,
    z164 := Tryz.sizeOf100,
    v164 := Tryz.zeroValue100 }
def zq26 : BldF := ⟨9, 0, 3⟩
theorem zq27 : BldOk Tryz.prog 35 zq26 :=
  join_ok zq25 { sizeBuilder := by kernel_rfl, liesBuilder := by kernel_rfl, t5 := Tryz.underlying5, a5 := Tryz.isAgg5, z5 := Tryz.sizeOf5, v5 := Tryz.zeroValue5, infoByte := by kernel_rfl, cellsByte := by kernel_rfl, sizeByte := by kernel_rfl, neB5 := by decide } rfl ⟨_, Tryz.func35, by kernel_rfl, by kernel_rfl⟩
abbrev zq28 := {β : Type} → zq2 → (List UInt8) → (Bool → (List UInt8) → Option β) → Option β
def zq29 (c : zq28) : Spec :=
  ⟨[(true, [.data zq3]), (false, [.ptr 0 0])], [.cells 9 [.data .str]], [(false, [.data .bool])], [.cells 9 [.data .str]], fun x k => c x.1.1.1 x.2.1.1 (fun r0 r1 => k (((r0, ()), ()), ((r1, ()), ())))⟩
section
@[reducible] def syntax_forms_f1_X : Ctx := ⟨look tab, pick1 [], false, false, false, false⟩
def zq2a {β : Type} (f : zq2) (t1 : List UInt8) (k : (Bool → (List UInt8) → Option β)) : Option β :=
  k (decide (f.1 = t1)) t1
theorem zq2b (hΓ : ΓOk Tryz.prog syntax_forms_f1_X.Γ) : SpecOk Tryz.prog 38 (zq29 (zq2a)) :=
  spec_exec (X := syntax_forms_f1_X) (Λ := pick1 []) (rs := [.tmp 3]) (c := bodyOf Tryz.f38) mixed tab_ok hΓ Tryz.func38 (by kernel_rfl) (by kernel_rfl) (by kernel_rfl) (by kernel_rfl) CutsOk_nil (fun x k r h => Eq.trans (b := (zq29 (zq2a)).run x k) (by kernel_rfl) h)
end
theorem zq2cΓ : ΓOk Tryz.prog (pick1 []) := ΓOk_nil
def zq2d : zq28 := zq2a
theorem zq2e : SpecOk Tryz.prog 38 (zq29 zq2d) := zq2b zq2cΓ
abbrev zq2f := {β : Type} → zq0 → (List UInt8) → (Bool → Option β) → Option β
def zq2g (c : zq2f) : Spec :=
  ⟨[(true, [.data zq1]), (false, [.data .str])], [], [(false, [.data .bool])], [], fun x k => c x.1.1.1 x.1.2.1.1 (fun r0 => k (((r0, ()), ()), ()))⟩
section
@[reducible] def syntax_word_X : Ctx := ⟨look tab, pick1 [], false, false, false, false⟩
def zq2h {β : Type} (t : zq0) (s : List UInt8) (k : (Bool → Option β)) : Option β :=
  cond (decide (t.1 = 0))
  (k (decide (t.2.1 = s)))
  (k false)
theorem zq2i (hΓ : ΓOk Tryz.prog syntax_word_X.Γ) : SpecOk Tryz.prog 39 (zq2g (zq2h)) :=
  spec_exec (X := syntax_word_X) (Λ := pick1 []) (rs := [.tmp 4]) (c := bodyOf Tryz.f39) mixed tab_ok hΓ Tryz.func39 (by kernel_rfl) (by kernel_rfl) (by kernel_rfl) (by kernel_rfl) CutsOk_nil (fun x k r h => Eq.trans (b := (zq2g (zq2h)).run x k) (by kernel_rfl) h)
end
theorem zq2jΓ : ΓOk Tryz.prog (pick1 []) := ΓOk_nil
def zq2k : zq2f := zq2h
theorem zq2l : SpecOk Tryz.prog 39 (zq2g zq2k) := zq2i zq2jΓ
abbrev zq2m := {β : Type} → (List (List UInt8)) → (List UInt8) → (Int → Option β) → Option β
def zq2n (c : zq2m) : Spec :=
  ⟨[(false, [.data (.slice .str)]), (false, [.data .str])], [], [(false, [.data (.int .i64)])], [], fun x k => c x.1.1.1 x.1.2.1.1 (fun r0 => k (((r0, ()), ()), ()))⟩
noncomputable def slices_Index_string_string_p1_code : Code := codeAt 26 (bodyOf Tryz.f40)
abbrev zq2o (β : Type) := Int → Option β
abbrev zq2p (β : Type) := Unit → Option β
abbrev zq2q := {β : Type} → zq2o β → zq2p β → (List (List UInt8)) → (List UInt8) → Int → Int → Option β
def zq2r : View := ⟨0, [0, 1, 7, 8], [(false, [.data  (.slice .str)]), (false, [.data .str]), (false, [.data (.int .i64)]), (false, [.data (.int .i64)])], []⟩
def zq2s : List  (AExit × View) := [(.ret, ⟨0, [4], [(false, [.data (.int .i64)])], []⟩), (.exit 0, ⟨0, [], [], []⟩)]
@[reducible] def slices_Index_string_string_p1_G (p : zq2q) {β : Type} (d : zq2r.den) (ks : Outs.K β zq2s) : Option β :=
  p (fun a0 => ks.1 (((a0, ()), ()), ())) (fun _ => ks.2.1 ((), ())) d.1.1.1 d.1.2.1.1 d.1.2.2.1.1 d.1.2.2.2.1.1
section
@[reducible] def slices_Index_string_string_X : Ctx := ⟨look tab, pick1 [], false, false, false, false⟩
def zq2t {β : Type} (rec : (List (List UInt8)) → (List UInt8) → Int → Int → Option β) (k1 : zq2o β) (k2 : zq2p β) (s : List (List UInt8)) (v : List UInt8) (t7 t8 : Int) : Option β :=
  cond (decide (t8 < t7))
  (cond (decide (0 ≤ t8) && decide (t8 < (List.length s : Int)))
  (let e : List UInt8 := List.getD s (Int.toNat t8) ([] : List UInt8);
  cond (decide (v = e))
  (k1 t8)
  (rec s v t7 (IntKind.i64.wrap (t8 + 1))))
  none)
  (k2 ())
def zq2u {β : Type} : Nat → zq2o β → zq2p β →  (List (List UInt8)) → (List UInt8) → Int → Int → Option β
  | 0 => fun _ _ _ _ _ _ => none
  | i + 1 => fun k1 k2 s v t7 t8 => zq2t (zq2u i k1 k2) k1 k2 s v t7 t8
theorem zq2v (hΓ : ΓOk Tryz.prog slices_Index_string_string_X.Γ) (i : Nat) : PieceOk Tryz.prog 19 0 slices_Index_string_string_p1_code zq2r zq2s (slices_Index_string_string_p1_G (zq2u i)) := by
  rw [show slices_Index_string_string_p1_code = .loop (loopBody slices_Index_string_string_p1_code) by kernel_rfl]
  exact piece_loop (X := slices_Index_string_string_X) (p := 1) (Λ := pick1 []) (G := fun i => @fun β d ks => slices_Index_string_string_p1_G (zq2u i) d ks) mixed tab_ok hΓ rfl (by kernel_rfl) CutsOk_nil (fun _ _ => rfl) (fun i => @fun β d ks r h => Eq.trans (b := slices_Index_string_string_p1_G (zq2u (i + 1)) d ks) (by kernel_rfl) h) i
def zq2w (p1 : zq2q) {β : Type} (s : List (List UInt8)) (v : List UInt8) (k : (Int → Option β)) : Option β :=
  p1 (fun t4 =>
  k t4) (fun _ =>
  k (-1)) s v (List.length s : Int) 0
theorem zq2x (hΓ : ΓOk Tryz.prog slices_Index_string_string_X.Γ) (p1 : zq2q) (hp1 : PieceOk Tryz.prog 19 0 slices_Index_string_string_p1_code zq2r zq2s (slices_Index_string_string_p1_G p1)) : SpecOk Tryz.prog 40 (zq2n (zq2w p1)) :=
  spec_exec (X := slices_Index_string_string_X) (Λ := pick1 [(26, pieceCut zq2r zq2s (slices_Index_string_string_p1_G p1))]) (rs := [.tmp 4]) (c := bodyOf Tryz.f40) mixed tab_ok hΓ Tryz.func40 (by kernel_rfl) (by kernel_rfl) (by kernel_rfl) (by kernel_rfl) (CutsOk_cons (q := 26) (c' := slices_Index_string_string_p1_code) (by kernel_rfl) rfl hp1 CutsOk_nil) (fun x k r h => Eq.trans (b := (zq2n (zq2w p1)).run x k) (by kernel_rfl) h)
end
theorem zq2yΓ : ΓOk Tryz.prog (pick1 []) := ΓOk_nil
def zq2z (m : Nat) : zq2q := zq2u m
theorem zq30 {β : Type} (i : Nat) (k1 k2 s v t7 t8) : (zq2z (i + 1) k1 k2 s v t7 t8 : Option β) = zq2t (zq2z i k1 k2) k1 k2 s v t7 t8 := rfl
def zq31 : zq2q := zq2z fuel
theorem zq32 : PieceOk Tryz.prog 19 0 slices_Index_string_string_p1_code zq2r zq2s (slices_Index_string_string_p1_G zq31) := zq2v zq2yΓ fuel
def zq33 : zq2m := zq2w zq31
theorem zq34 : SpecOk Tryz.prog 40 (zq2n zq33) := zq2x zq2yΓ zq31 zq32
abbrev zq35 := {β : Type} → (List UInt8) → ((List (List UInt8)) → Option β) → Option β
def zq36 (c : zq35) : Spec :=
  ⟨[(false, [.data .str])], [], [(false, [.rowh 0])], [.row 9 .str], fun x k => c x.1.1.1 (fun r0 => k (((), ()), (r0, ())))⟩
noncomputable def ref06_Words_p2_code : Code := codeAt 122 (bodyOf Tryz.f41)
noncomputable def ref06_Words_p1_code : Code := codeAt 25 (loopBody ref06_Words_p2_code)
abbrev zq37 (β : Type) := (List UInt8) → Int → Int → (List (List UInt8)) → Option β
abbrev zq38 := {β : Type} → zq37 β → (List UInt8) → Int → Int → Bool → (List (List UInt8)) → Option β
def zq39 : View := ⟨0, [0, 3, 4, 5, 21], [(false, [.data .str]),  (false, [.rowh 0]), (false, [.data (.int .i64)]), (false, [.data (.int .i64)]), (false, [.data .bool])], [.row 9 .str]⟩
def zq3a : List  (AExit × View) := [(.normal, ⟨0, [0, 3, 4, 5], [(false, [.data .str]), (false, [.rowh 0]), (false, [.data (.int .i64)]), (false, [.data (.int .i64)])], [.row 9 .str]⟩)]
@[reducible] def ref06_Words_p1_G (p : zq38) {β : Type} (d : zq39.den) (ks : Outs.K β zq3a) : Option β :=
  p (fun a0 a1 a2 a3 => ks.1 (((a0, ()), (), (a1, ()), (a2, ()), ()), (a3, ()))) d.1.1.1 d.1.2.2.1.1 d.1.2.2.2.1.1 d.1.2.2.2.2.1.1 d.2.1
abbrev zq3b (β : Type) := (List (List UInt8)) → Option β
abbrev zq3c := {β : Type} → zq3b β → (List UInt8) → Int → Int → (List (List UInt8)) → Option β
def zq3d : View := ⟨0, [0, 3, 4, 5], [(false, [.data .str]),  (false, [.rowh 0]), (false, [.data (.int .i64)]), (false, [.data (.int .i64)])], [.row 9 .str]⟩
def zq3e : List  (AExit × View) := [(.exit 0, ⟨0, [3], [(false, [.rowh 0])], [.row 9 .str]⟩)]
@[reducible] def ref06_Words_p2_G (p : zq3c) {β : Type} (d : zq3d.den) (ks : Outs.K β zq3e) : Option β :=
  p (fun a0 => ks.1 (((), ()), (a0, ()))) d.1.1.1 d.1.2.2.1.1 d.1.2.2.2.1.1 d.2.1
section
@[reducible] def ref06_Words_X : Ctx := ⟨look tab, pick1 [], false, false, false, false⟩
def zq3f {β : Type} (k1 : zq37 β) (s : List UInt8) (from_ i_ : Int) (t21 : Bool) (out : List (List UInt8)) : Option β :=
  cond t21
  (cond (decide (from_ < i_))
  (cond (decide (0 ≤ from_) && (decide (from_ ≤ i_) && decide (i_ ≤ (List.length s : Int))))
  (let l : List (List UInt8) := ([(List.drop (Int.toNat from_) (List.take (Int.toNat i_) s))] : List (List UInt8));
  cond (decide ((List.length out + List.length l) * 16 ≤ roomMax))
  (let l2 : List (List UInt8) := (out ++ l);
  let from_2 : Int := (IntKind.i64.wrap (i_ + 1));
  k1 s from_2 i_ l2)
  none)
  none)
  (let from_2 : Int := (IntKind.i64.wrap (i_ + 1));
  k1 s from_2 i_ out))
  (k1 s from_ i_ out)
def zq3g {β : Type} (k1 : zq37 β) (s : List UInt8) (from_ i_ : Int) (t21 : Bool) (out : List (List UInt8)) : Option β := zq3f k1 s from_ i_ t21 out
theorem zq3h (hΓ : ΓOk Tryz.prog ref06_Words_X.Γ) : PieceOk Tryz.prog 35 0 ref06_Words_p1_code zq39 zq3a (ref06_Words_p1_G (zq3g)) :=
  piece_exec (X := ref06_Words_X) (p := 25) (Λ := pick1 []) mixed tab_ok hΓ (by kernel_rfl) CutsOk_nil (fun d ks r h => Eq.trans (b := ref06_Words_p1_G (zq3g) d ks) (by kernel_rfl) h)
def zq3i (p1 : zq38) {β : Type} (rec : (List UInt8) → Int → Int → (List (List UInt8)) → Option β) (k1 : zq3b β) (s : List UInt8) (from_ : Int) (i_ : Int) (out : List (List UInt8)) : Option β :=
  cond (decide (i_ ≤ (List.length s : Int)))
  (cond (decide (i_ = (List.length s : Int)))
  (p1 (fun s2 from_2 i_2 out2 =>
  let i_3 : Int := (IntKind.i64.wrap (i_2 + 1));
  rec s2 from_2 i_3 out2) s from_ i_ true out)
  (cond (decide (0 ≤ i_) && decide (i_ < (List.length s : Int)))
  (p1 (fun s2 from_2 i_2 out2 =>
  let i_3 : Int := (IntKind.i64.wrap (i_2 + 1));
  rec s2 from_2 i_3 out2) s from_ i_ (decide (((List.getD s (Int.toNat i_) 0).toNat : Int) = 32)) out)
  none))
  (k1 out)
def zq3j (p1 : zq38) {β : Type} : Nat → zq3b β → (List UInt8) → Int → Int → (List (List UInt8)) → Option β
  | 0 => fun _ _ _ _ _ => none
  | i + 1 => fun k1 s from_ i_ out => zq3i p1 (zq3j p1 i k1) k1 s from_ i_ out
theorem zq3k (hΓ : ΓOk Tryz.prog ref06_Words_X.Γ) (p1 : zq38) (hp1 : PieceOk Tryz.prog 35 0 ref06_Words_p1_code zq39 zq3a (ref06_Words_p1_G p1)) (i : Nat) : PieceOk Tryz.prog 35 0 ref06_Words_p2_code zq3d zq3e (ref06_Words_p2_G (zq3j p1 i)) := by
  rw [show ref06_Words_p2_code = .loop (loopBody ref06_Words_p2_code) by kernel_rfl]
  exact piece_loop (X := ref06_Words_X) (p := 1) (Λ := pick1 [(25, pieceCut zq39 zq3a (ref06_Words_p1_G p1))]) (G := fun i => @fun β d ks => ref06_Words_p2_G (zq3j p1 i) d ks) mixed tab_ok hΓ rfl (by kernel_rfl) (CutsOk_cons (q := 25) (c' := ref06_Words_p1_code) (by kernel_rfl) rfl hp1 CutsOk_nil) (fun _ _ => rfl) (fun i => @fun β d ks r h => Eq.trans (b := ref06_Words_p2_G (zq3j p1 (i + 1)) d ks) (by kernel_rfl) h) i
def zq3l (p2 : zq3c) {β : Type} (s : List UInt8) (k : ((List (List UInt8)) → Option β)) : Option β :=
  p2 (fun out =>
  k out) s 0 0 ([] : List (List UInt8))
theorem zq3m (hΓ : ΓOk Tryz.prog ref06_Words_X.Γ) (p2 : zq3c) (hp2 : PieceOk Tryz.prog 35 0 ref06_Words_p2_code zq3d zq3e (ref06_Words_p2_G p2)) : SpecOk Tryz.prog 41 (zq36 (zq3l p2)) :=
  spec_exec (X := ref06_Words_X) (Λ := pick1 [(122, pieceCut zq3d zq3e (ref06_Words_p2_G p2))]) (rs := [.tmp 2]) (c := bodyOf Tryz.f41) mixed tab_ok hΓ Tryz.func41 (by kernel_rfl) (by kernel_rfl) (by kernel_rfl) (by kernel_rfl) (CutsOk_cons (q := 122) (c' := ref06_Words_p2_code) (by kernel_rfl) rfl hp2 CutsOk_nil) (fun x k r h => Eq.trans (b := (zq36 (zq3l p2)).run x k) (by kernel_rfl) h)
end
theorem zq3nΓ : ΓOk Tryz.prog (pick1 []) := ΓOk_nil
def zq3o : zq38 := zq3g
theorem zq3p : PieceOk Tryz.prog 35 0 ref06_Words_p1_code zq39 zq3a (ref06_Words_p1_G zq3o) := zq3h zq3nΓ
def zq3q (m : Nat) : zq3c := zq3j zq3o m
theorem zq3r {β : Type} (i : Nat) (k1 s from_ i_ out) : (zq3q (i + 1) k1 s from_ i_ out : Option β) = zq3i zq3o (zq3q i k1) k1 s from_ i_ out := rfl
def zq3s : zq3c := zq3q fuel
theorem zq3t : PieceOk Tryz.prog 35 0 ref06_Words_p2_code zq3d zq3e (ref06_Words_p2_G zq3s) := zq3k zq3nΓ zq3o zq3p fuel
def zq3u : zq35 := zq3l zq3s
theorem zq3v : SpecOk Tryz.prog 41 (zq36 zq3u) := zq3m zq3nΓ zq3s zq3t
abbrev zq3w := {β : Type} → (List zq0) → ((List UInt8) → Option β) → Option β
def zq3x (c : zq3w) : Spec :=
  ⟨[(false, [.data (.slice zq1)])], [], [(false, [.data .str])], [], fun x k => c x.1.1.1 (fun r0 => k (((r0, ()), ()), ()))⟩
noncomputable def ref07_kinds_p1_code : Code := codeAt 58 (bodyOf Tryz.f44)
abbrev zq3y (β : Type) := (List UInt8) → Option β
abbrev zq3z (β : Type) := (List UInt8) → Option β
abbrev zq40 := {β : Type} → zq3y β → zq3z β → (List zq0) → (List UInt8) → Int → Option β
def zq41 : View := ⟨0, [0, 3, 4], [(false, [.data  (.slice zq1)]), (false, [.data .str]), (false, [.data (.int .i64)])], []⟩
def zq42 : List  (AExit × View) := [(.ret, ⟨0, [2], [(false, [.data .str])], []⟩), (.exit 0, ⟨0, [3], [(false, [.data .str])], []⟩)]
@[reducible] def ref07_kinds_p1_G (p : zq40) {β : Type} (d : zq41.den) (ks : Outs.K β zq42) : Option β :=
  p (fun a0 => ks.1 (((a0, ()), ()), ())) (fun a0 => ks.2.1 (((a0, ()), ()), ())) d.1.1.1 d.1.2.1.1 d.1.2.2.1.1
section
@[reducible] def ref07_kinds_X : Ctx := ⟨look tab, pick1 [], false, false, false, false⟩
def zq43 {β : Type} (rec : (List zq0) → (List UInt8) → Int → Option β) (k1 : zq3y β) (k2 : zq3z β) (l : List zq0) (s : List UInt8) (i_ : Int) : Option β :=
  cond (decide (i_ < (List.length l : Int)))
  (cond (decide (0 ≤ i_) && decide (i_ < (List.length l : Int)))
  (let e : zq0 := List.getD l (Int.toNat i_) (0, (([] : List UInt8), 0));
  cond (decide (e.1 < 0))
  (k1 ([63] : List UInt8))
  (cond (decide (0 ≤ i_) && decide (i_ < (List.length l : Int)))
  (let e2 : zq0 := List.getD l (Int.toNat i_) (0, (([] : List UInt8), 0));
  cond (decide (5 < e2.1))
  (k1 ([63] : List UInt8))
  (let l2 : List (List UInt8) := ([([119] : List UInt8), ([110] : List UInt8), ([99] : List UInt8), ([100] : List UInt8), ([111] : List UInt8), ([105] : List UInt8)] : List (List UInt8));
  cond (decide (0 ≤ i_) && decide (i_ < (List.length l : Int)))
  (let e3 : zq0 := List.getD l (Int.toNat i_) (0, (([] : List UInt8), 0));
  cond (decide (0 ≤ e3.1) && decide (e3.1 < (List.length l2 : Int)))
  (cond (decide (List.length s + List.length (List.getD l2 (Int.toNat e3.1) ([] : List UInt8)) ≤ 9223372036854775807))
  (let s2 : List UInt8 := (s ++ (List.getD l2 (Int.toNat e3.1) ([] : List UInt8)));
  let i_2 : Int := (IntKind.i64.wrap (i_ + 1));
  rec l s2 i_2)
  none)
  none)
  none))
  none))
  none)
  (k2 s)
def zq44 {β : Type} : Nat → zq3y β → zq3z β →  (List zq0) → (List UInt8) → Int → Option β
  | 0 => fun _ _ _ _ _ => none
  | i + 1 => fun k1 k2 l s i_ => zq43 (zq44 i k1 k2) k1 k2 l s i_
theorem zq45 (hΓ : ΓOk Tryz.prog ref07_kinds_X.Γ) (i : Nat) : PieceOk Tryz.prog 36 0 ref07_kinds_p1_code zq41 zq42 (ref07_kinds_p1_G (zq44 i)) := by
  rw [show ref07_kinds_p1_code = .loop (loopBody ref07_kinds_p1_code) by kernel_rfl]
  exact piece_loop (X := ref07_kinds_X) (p := 1) (Λ := pick1 []) (G := fun i => @fun β d ks => ref07_kinds_p1_G (zq44 i) d ks) mixed tab_ok hΓ rfl (by kernel_rfl) CutsOk_nil (fun _ _ => rfl) (fun i => @fun β d ks r h => Eq.trans (b := ref07_kinds_p1_G (zq44 (i + 1)) d ks) (by kernel_rfl) h) i
def zq46 (p1 : zq40) {β : Type} (l : List zq0) (k : ((List UInt8) → Option β)) : Option β :=
  p1 (fun t2 =>
  k t2) (fun s =>
  k s) l ([] : List UInt8) 0
theorem zq47 (hΓ : ΓOk Tryz.prog ref07_kinds_X.Γ) (p1 : zq40) (hp1 : PieceOk Tryz.prog 36 0 ref07_kinds_p1_code zq41 zq42 (ref07_kinds_p1_G p1)) : SpecOk Tryz.prog 44 (zq3x (zq46 p1)) :=
  spec_exec (X := ref07_kinds_X) (Λ := pick1 [(58, pieceCut zq41 zq42 (ref07_kinds_p1_G p1))]) (rs := [.tmp 2]) (c := bodyOf Tryz.f44) mixed tab_ok hΓ Tryz.func44 (by kernel_rfl) (by kernel_rfl) (by kernel_rfl) (by kernel_rfl) (CutsOk_cons (q := 58) (c' := ref07_kinds_p1_code) (by kernel_rfl) rfl hp1 CutsOk_nil) (fun x k r h => Eq.trans (b := (zq3x (zq46 p1)).run x k) (by kernel_rfl) h)
end
theorem zq48Γ : ΓOk Tryz.prog (pick1 []) := ΓOk_nil
def zq49 (m : Nat) : zq40 := zq44 m
theorem zq4a {β : Type} (i : Nat) (k1 k2 l s i_) : (zq49 (i + 1) k1 k2 l s i_ : Option β) = zq43 (zq49 i k1 k2) k1 k2 l s i_ := rfl
def zq4b : zq40 := zq49 fuel
theorem zq4c : PieceOk Tryz.prog 36 0 ref07_kinds_p1_code zq41 zq42 (ref07_kinds_p1_G zq4b) := zq45 zq48Γ fuel
def zq4d : zq3w := zq46 zq4b
theorem zq4e : SpecOk Tryz.prog 44 (zq3x zq4d) := zq47 zq48Γ zq4b zq4c
abbrev zq4f := {β : Type} → ((List (List UInt8 × List UInt8)) → Option β) → Option β
def zq4g (c : zq4f) : Spec :=
  ⟨[], [], [(false, [.rowh 0])], [.row 87 (.prod .str .str)], fun x k => c  (fun r0 => k (((), ()), (r0, ())))⟩
section
@[reducible] def ref07_forms_X : Ctx := ⟨look tab, pick1 [], false, false, false, false⟩
def zq4h {β : Type} (k : ((List (List UInt8 × List UInt8)) → Option β)) : Option β :=
  let l : List (List UInt8 × List UInt8) := ([(([122, 111, 110, 101] : List UInt8), ([119, 111] : List UInt8)), (([114, 117, 108, 101] : List UInt8), ([110, 110, 119, 119, 119, 99, 111] : List UInt8)), (([113, 117, 105, 101, 116] : List UInt8), ([119, 99, 119, 99] : List UInt8)), (([99, 97, 108, 101, 110, 100, 97, 114] : List UInt8), ([119, 119] : List UInt8)), (([100, 97, 121, 115] : List UInt8), ([100, 43] : List UInt8)), (([115, 99, 104, 101, 100, 117, 108, 101] : List UInt8), ([119] : List UInt8)), (([108, 97, 121, 101, 114] : List UInt8), ([119, 119, 100, 99, 110, 119] : List UInt8)), (([109, 101, 109, 98, 101, 114] : List UInt8), ([119, 43] : List UInt8)), (([111, 110] : List UInt8), ([119, 99, 119, 99] : List UInt8)), (([110, 111, 116] : List UInt8), ([119] : List UInt8)), (([111, 110, 108, 121] : List UInt8), ([119] : List UInt8)), (([108, 101, 97, 118, 101] : List UInt8), ([119, 105, 105] : List UInt8)), (([111, 118, 101, 114, 114, 105, 100, 101] : List UInt8), ([119, 105, 105] : List UInt8)), (([115, 119, 97, 112] : List UInt8), ([119, 119, 105, 105] : List UInt8))] : List (List UInt8 × List UInt8));
  k l
theorem zq4i (hΓ : ΓOk Tryz.prog ref07_forms_X.Γ) : SpecOk Tryz.prog 45 (zq4g (zq4h)) :=
  spec_exec (X := ref07_forms_X) (Λ := pick1 []) (rs := [.tmp 0]) (c := bodyOf Tryz.f45) mixed tab_ok hΓ Tryz.func45 (by kernel_rfl) (by kernel_rfl) (by kernel_rfl) (by kernel_rfl) CutsOk_nil (fun x k r h => Eq.trans (b := (zq4g (zq4h)).run x k) (by kernel_rfl) h)
end
theorem zq4jΓ : ΓOk Tryz.prog (pick1 []) := ΓOk_nil
def zq4k : zq4f := zq4h
theorem zq4l : SpecOk Tryz.prog 45 (zq4g zq4k) := zq4i zq4jΓ
abbrev zq4m := {β : Type} → (List UInt8) → (List UInt8) → (Bool → Option β) → Option β
def zq4n (c : zq4m) : Spec :=
  ⟨[(false, [.data .str]), (false, [.data .str])], [], [(false, [.data .bool])], [], fun x k => c x.1.1.1 x.1.2.1.1 (fun r0 => k (((r0, ()), ()), ()))⟩
noncomputable def ref07_many_p1_code : Code := codeAt 26 (bodyOf Tryz.f46)
abbrev zq4o (β : Type) := Bool → Option β
abbrev zq4p (β : Type) := (List UInt8) → Option β
abbrev zq4q := {β : Type} → zq4o β → zq4p β → (List UInt8) → (List UInt8) → Int → Option β
def zq4r : View := ⟨0, [0, 1, 5], [(false, [.data .str]),  (false, [.data .str]), (false, [.data (.int .i64)])], []⟩
def zq4s : List  (AExit × View) := [(.ret, ⟨0, [4], [(false, [.data .bool])], []⟩), (.exit 0, ⟨0, [0], [(false, [.data .str])], []⟩)]
@[reducible] def ref07_many_p1_G (p : zq4q) {β : Type} (d : zq4r.den) (ks : Outs.K β zq4s) : Option β :=
  p (fun a0 => ks.1 (((a0, ()), ()), ())) (fun a0 => ks.2.1 (((a0, ()), ()), ())) d.1.1.1 d.1.2.1.1 d.1.2.2.1.1
section
@[reducible] def ref07_many_X : Ctx := ⟨look tab, pick1 [], false, false, false, false⟩
def zq4t {β : Type} (rec : (List UInt8) → (List UInt8) → Int → Option β) (k1 : zq4o β) (k2 : zq4p β) (s b : List UInt8) (i_ : Int) : Option β :=
  cond (decide (i_ < (List.length s : Int)))
  (cond (decide (0 ≤ i_) && (decide (i_ ≤ (IntKind.i64.wrap (i_ + 1))) && decide ((IntKind.i64.wrap (i_ + 1)) ≤ (List.length s : Int))))
  (cond (!decide ((List.drop (Int.toNat i_) (List.take (Int.toNat (IntKind.i64.wrap (i_ + 1))) s)) = b))
  (k1 false)
  (let i_2 : Int := (IntKind.i64.wrap (i_ + 1));
  rec s b i_2))
  none)
  (k2 s)
def zq4u {β : Type} : Nat → zq4o β → zq4p β →  (List UInt8) → (List UInt8) → Int → Option β
  | 0 => fun _ _ _ _ _ => none
  | i + 1 => fun k1 k2 s b i_ => zq4t (zq4u i k1 k2) k1 k2 s b i_
theorem zq4v (hΓ : ΓOk Tryz.prog ref07_many_X.Γ) (i : Nat) : PieceOk Tryz.prog 21 0 ref07_many_p1_code zq4r zq4s (ref07_many_p1_G (zq4u i)) := by
  rw [show ref07_many_p1_code = .loop (loopBody ref07_many_p1_code) by kernel_rfl]
  exact piece_loop (X := ref07_many_X) (p := 1) (Λ := pick1 []) (G := fun i => @fun β d ks => ref07_many_p1_G (zq4u i) d ks) mixed tab_ok hΓ rfl (by kernel_rfl) CutsOk_nil (fun _ _ => rfl) (fun i => @fun β d ks r h => Eq.trans (b := ref07_many_p1_G (zq4u (i + 1)) d ks) (by kernel_rfl) h) i
def zq4w (p1 : zq4q) {β : Type} (s : List UInt8) (b : List UInt8) (k : (Bool → Option β)) : Option β :=
  p1 (fun t4 =>
  k t4) (fun s2 =>
  let t : Bool := (!decide (s2 = ([] : List UInt8)));
  k t) s b 0
theorem zq4x (hΓ : ΓOk Tryz.prog ref07_many_X.Γ) (p1 : zq4q) (hp1 : PieceOk Tryz.prog 21 0 ref07_many_p1_code zq4r zq4s (ref07_many_p1_G p1)) : SpecOk Tryz.prog 46 (zq4n (zq4w p1)) :=
  spec_exec (X := ref07_many_X) (Λ := pick1 [(26, pieceCut zq4r zq4s (ref07_many_p1_G p1))]) (rs := [.tmp 4]) (c := bodyOf Tryz.f46) mixed tab_ok hΓ Tryz.func46 (by kernel_rfl) (by kernel_rfl) (by kernel_rfl) (by kernel_rfl) (CutsOk_cons (q := 26) (c' := ref07_many_p1_code) (by kernel_rfl) rfl hp1 CutsOk_nil) (fun x k r h => Eq.trans (b := (zq4n (zq4w p1)).run x k) (by kernel_rfl) h)
end
theorem zq4yΓ : ΓOk Tryz.prog (pick1 []) := ΓOk_nil
def zq4z (m : Nat) : zq4q := zq4u m
theorem zq50 {β : Type} (i : Nat) (k1 k2 s b i_) : (zq4z (i + 1) k1 k2 s b i_ : Option β) = zq4t (zq4z i k1 k2) k1 k2 s b i_ := rfl
def zq51 : zq4q := zq4z fuel
theorem zq52 : PieceOk Tryz.prog 21 0 ref07_many_p1_code zq4r zq4s (ref07_many_p1_G zq51) := zq4v zq4yΓ fuel
def zq53 : zq4m := zq4w zq51
theorem zq54 : SpecOk Tryz.prog 46 (zq4n zq53) := zq4x zq4yΓ zq51 zq52
abbrev zq55 := {β : Type} → (List UInt8) → (Int → Option β) → Option β
def zq56 (c : zq55) : Spec :=
  ⟨[(false, [.data .str])], [], [(false, [.data (.int .i64)])], [], fun x k => c x.1.1.1 (fun r0 => k (((r0, ()), ()), ()))⟩
noncomputable def ref06_number_p1_code : Code := codeAt 58 (bodyOf Tryz.f62)
abbrev zq57 (β : Type) := Int → Option β
abbrev zq58 := {β : Type} → zq57 β → (List UInt8) → Int → Int → Option β
def zq59 : View := ⟨0, [0, 3, 4], [(false, [.data .str]),  (false, [.data (.int .i64)]), (false, [.data (.int .i64)])], []⟩
def zq5a : List  (AExit × View) := [(.exit 0, ⟨0, [3], [(false, [.data (.int .i64)])], []⟩)]
@[reducible] def ref06_number_p1_G (p : zq58) {β : Type} (d : zq59.den) (ks : Outs.K β zq5a) : Option β :=
  p (fun a0 => ks.1 (((a0, ()), ()), ())) d.1.1.1 d.1.2.1.1 d.1.2.2.1.1
section
@[reducible] def ref06_number_X : Ctx := ⟨look tab, pick1 [], false, false, false, false⟩
def zq5b {β : Type} (rec : (List UInt8) → Int → Int → Option β) (k1 : zq57 β) (s : List UInt8) (n i_ : Int) : Option β :=
  cond (decide (i_ < (List.length s : Int)))
  (cond (decide (0 ≤ i_) && decide (i_ < (List.length s : Int)))
  (let n2 : Int := (IntKind.i64.wrap ((IntKind.i64.wrap (10 * n)) + (IntKind.i64.wrap (IntKind.u8.wrap (((List.getD s (Int.toNat i_) 0).toNat : Int) - 48)))));
  let i_2 : Int := (IntKind.i64.wrap (i_ + 1));
  rec s n2 i_2)
  none)
  (k1 n)
def zq5c {β : Type} : Nat → zq57 β →  (List UInt8) → Int → Int → Option β
  | 0 => fun _ _ _ _ => none
  | i + 1 => fun k1 s n i_ => zq5b (zq5c i k1) k1 s n i_
theorem zq5d (hΓ : ΓOk Tryz.prog ref06_number_X.Γ) (i : Nat) : PieceOk Tryz.prog 20 0 ref06_number_p1_code zq59 zq5a (ref06_number_p1_G (zq5c i)) := by
  rw [show ref06_number_p1_code = .loop (loopBody ref06_number_p1_code) by kernel_rfl]
  exact piece_loop (X := ref06_number_X) (p := 1) (Λ := pick1 []) (G := fun i => @fun β d ks => ref06_number_p1_G (zq5c i) d ks) mixed tab_ok hΓ rfl (by kernel_rfl) CutsOk_nil (fun _ _ => rfl) (fun i => @fun β d ks r h => Eq.trans (b := ref06_number_p1_G (zq5c (i + 1)) d ks) (by kernel_rfl) h) i
def zq5e (p1 : zq58) {β : Type} (s : List UInt8) (k : (Int → Option β)) : Option β :=
  p1 (fun n =>
  k n) s 0 0
theorem zq5f (hΓ : ΓOk Tryz.prog ref06_number_X.Γ) (p1 : zq58) (hp1 : PieceOk Tryz.prog 20 0 ref06_number_p1_code zq59 zq5a (ref06_number_p1_G p1)) : SpecOk Tryz.prog 62 (zq56 (zq5e p1)) :=
  spec_exec (X := ref06_number_X) (Λ := pick1 [(58, pieceCut zq59 zq5a (ref06_number_p1_G p1))]) (rs := [.tmp 2]) (c := bodyOf Tryz.f62) mixed tab_ok hΓ Tryz.func62 (by kernel_rfl) (by kernel_rfl) (by kernel_rfl) (by kernel_rfl) (CutsOk_cons (q := 58) (c' := ref06_number_p1_code) (by kernel_rfl) rfl hp1 CutsOk_nil) (fun x k r h => Eq.trans (b := (zq56 (zq5e p1)).run x k) (by kernel_rfl) h)
end
theorem zq5gΓ : ΓOk Tryz.prog (pick1 []) := ΓOk_nil
def zq5h (m : Nat) : zq58 := zq5c m
theorem zq5i {β : Type} (i : Nat) (k1 s n i_) : (zq5h (i + 1) k1 s n i_ : Option β) = zq5b (zq5h i k1) k1 s n i_ := rfl
def zq5j : zq58 := zq5h fuel
theorem zq5k : PieceOk Tryz.prog 20 0 ref06_number_p1_code zq59 zq5a (ref06_number_p1_G zq5j) := zq5d zq5gΓ fuel
def zq5l : zq55 := zq5e zq5j
theorem zq5m : SpecOk Tryz.prog 62 (zq56 zq5l) := zq5f zq5gΓ zq5j zq5k
abbrev zq5n := {β : Type} → Int → (Bool → Option β) → Option β
def zq5o (c : zq5n) : Spec :=
  ⟨[(false, [.data (.int .u8)])], [], [(false, [.data .bool])], [], fun x k => c x.1.1.1 (fun r0 => k (((r0, ()), ()), ()))⟩
section
@[reducible] def lexer_small_X : Ctx := ⟨look tab, pick1 [], false, false, false, false⟩
def zq5p {β : Type} (c : Int) (k : (Bool → Option β)) : Option β :=
  cond (decide (97 ≤ c))
  (let t : Bool := (decide (c ≤ 122));
  k t)
  (k false)
theorem zq5q (hΓ : ΓOk Tryz.prog lexer_small_X.Γ) : SpecOk Tryz.prog 68 (zq5o (zq5p)) :=
  spec_exec (X := lexer_small_X) (Λ := pick1 []) (rs := [.tmp 2]) (c := bodyOf Tryz.f68) mixed tab_ok hΓ Tryz.func68 (by kernel_rfl) (by kernel_rfl) (by kernel_rfl) (by kernel_rfl) CutsOk_nil (fun x k r h => Eq.trans (b := (zq5o (zq5p)).run x k) (by kernel_rfl) h)
end
theorem zq5rΓ : ΓOk Tryz.prog (pick1 []) := ΓOk_nil
def zq5s : zq5n := zq5p
theorem zq5t : SpecOk Tryz.prog 68 (zq5o zq5s) := zq5q zq5rΓ
def zq5u : Shelf.Ren :=
      {
      f := fun x =>
        match x with
        | 144 => 70
        | 143 => 49
        | 219 => 66
        | 217 => 83
        | 225 => 84
        | 224 => 85
        | 267 => 86
        | 266 => 99
        | 314 => 100
        | n => n,
      t := fun x =>
        match x with
        | 9 => 9
        | 4 => 4
        | 3 => 3
        | 5 => 5
        | 46 => 121
        | 146 => 142
        | 51 => 110
        | n => n,
      g := fun x =>
        match x with
        | 1 => 2
        | n => n }
theorem zq5v : Go.Proofs.Lays.n144 Tryz.prog zq5u :=
  { mixed := by kernel_rfl,
    f143 := Eq.trans Tryz.func49 (congrArg some (by kernel_rfl)),
    f144 := Eq.trans Tryz.func70 (congrArg some (by kernel_rfl)),
    f217 := Eq.trans Tryz.func83 (congrArg some (by kernel_rfl)),
    f219 := Eq.trans Tryz.func66 (congrArg some (by kernel_rfl)),
    f224 := Eq.trans Tryz.func85 (congrArg some (by kernel_rfl)),
    f225 := Eq.trans Tryz.func84 (congrArg some (by kernel_rfl)),
    f266 := Eq.trans Tryz.func99 (congrArg some (by kernel_rfl)),
    f267 := Eq.trans Tryz.func86 (congrArg some (by kernel_rfl)),
    f314 := Eq.trans Tryz.func100 (congrArg some (by kernel_rfl)),
    t3 := Tryz.underlying3,
    a3 := Tryz.isAgg3,
    z3 := Tryz.sizeOf3,
    v3 := Tryz.zeroValue3,
    t4 := Tryz.underlying4,
    a4 := Tryz.isAgg4,
    z4 := Tryz.sizeOf4,
    v4 := Tryz.zeroValue4,
    t5 := Tryz.underlying5,
    a5 := Tryz.isAgg5,
    z5 := Tryz.sizeOf5,
    v5 := Tryz.zeroValue5,
    t9 := Tryz.underlying9,
    a9 := Tryz.isAgg9,
    z9 := Tryz.sizeOf9,
    v9 := Tryz.zeroValue9,
    t46 := Tryz.underlying121,
    a46 := Tryz.isAgg121,
    z46 := Tryz.sizeOf121,
    v46 := Tryz.zeroValue121,
    t51 := Tryz.underlying110,
    a51 := Tryz.isAgg110,
    z51 := Tryz.sizeOf110,
    v51 := Tryz.zeroValue110,
    t146 := Tryz.underlying142,
    a146 := Tryz.isAgg142,
    z146 := Tryz.sizeOf142,
    v146 := Tryz.zeroValue142,
    g1 := by kernel_rfl }
abbrev zq5w := containsT
def zq5x (c : zq5w) : Spec := containsS c
def zq5y : zq5w := fun x y k => containsF x y k
theorem zq5z : SpecOk Tryz.prog 70 (zq5x zq5y) :=
  contains_ok zq5v rfl (of_decide_eq_true (by kernel_rfl)) (fun w0 h0 => Go.Proofs.cell_of_shapedOpen_int (P := Tryz.prog) (g := 2) (t := 3) (zero := #[.int .i64 0]) h0 (of_decide_eq_true (by kernel_rfl)) (by kernel_rfl) rfl (by kernel_rfl) (by kernel_rfl) Tryz.underlying3) ⟨_, Tryz.func70, by kernel_rfl, by kernel_rfl⟩
abbrev zq60 := {β : Type} → Int → (Bool → Option β) → Option β
def zq61 (c : zq60) : Spec :=
  ⟨[(false, [.data (.int .u8)])], [], [(false, [.data .bool])], [], fun x k => c x.1.1.1 (fun r0 => k (((r0, ()), ()), ()))⟩
section
@[reducible] def lexer_digit_X : Ctx := ⟨look tab, pick1 [], false, false, false, false⟩
def zq62 {β : Type} (c : Int) (k : (Bool → Option β)) : Option β :=
  cond (decide (48 ≤ c))
  (let t : Bool := (decide (c ≤ 57));
  k t)
  (k false)
theorem zq63 (hΓ : ΓOk Tryz.prog lexer_digit_X.Γ) : SpecOk Tryz.prog 75 (zq61 (zq62)) :=
  spec_exec (X := lexer_digit_X) (Λ := pick1 []) (rs := [.tmp 2]) (c := bodyOf Tryz.f75) mixed tab_ok hΓ Tryz.func75 (by kernel_rfl) (by kernel_rfl) (by kernel_rfl) (by kernel_rfl) CutsOk_nil (fun x k r h => Eq.trans (b := (zq61 (zq62)).run x k) (by kernel_rfl) h)
end
theorem zq64Γ : ΓOk Tryz.prog (pick1 []) := ΓOk_nil
def zq65 : zq60 := zq62
theorem zq66 : SpecOk Tryz.prog 75 (zq61 zq65) := zq63 zq64Γ
def zq67 : Shelf.Ren :=
      {
      f := fun x =>
        match x with
        | 171 => 76
        | 243 => 92
        | 246 => 105
        | 283 => 116
        | 284 => 117
        | 285 => 118
        | 286 => 119
        | 129 => 128
        | 317 => 127
        | 318 => 129
        | 319 => 130
        | 320 => 131
        | 337 => 137
        | 338 => 138
        | n => n,
      t := fun x =>
        match x with
        | 3 => 3
        | 9 => 9
        | 2 => 2
        | 4 => 4
        | 171 => 156
        | 0 => 0
        | 53 => 157
        | 37 => 53
        | 5 => 5
        | 173 => 160
        | 212 => 171
        | 51 => 110
        | 20 => 20
        | 213 => 172
        | 46 => 121
        | 232 => 182
        | 233 => 183
        | n => n,
      g := fun x =>
        match x with
        | 17 => 7
        | 18 => 8
        | 19 => 9
        | n => n }
theorem zq68 : Go.Proofs.LaysM.n171 Tryz.prog zq67 :=
  { mixed := by kernel_rfl,
    f129 := Eq.trans Tryz.func128 (congrArg some (by kernel_rfl)),
    f171 := Eq.trans Tryz.func76 (congrArg some (by kernel_rfl)),
    f243 := Eq.trans Tryz.func92 (congrArg some (by kernel_rfl)),
    f246 := Eq.trans Tryz.func105 (congrArg some (by kernel_rfl)),
    f283 := Eq.trans Tryz.func116 (congrArg some (by kernel_rfl)),
    f284 := Eq.trans Tryz.func117 (congrArg some (by kernel_rfl)),
    f285 := Eq.trans Tryz.func118 (congrArg some (by kernel_rfl)),
    f286 := Eq.trans Tryz.func119 (congrArg some (by kernel_rfl)),
    f317 := Eq.trans Tryz.func127 (congrArg some (by kernel_rfl)),
    f318 := Eq.trans Tryz.func129 (congrArg some (by kernel_rfl)),
    f319 := Eq.trans Tryz.func130 (congrArg some (by kernel_rfl)),
    f320 := Eq.trans Tryz.func131 (congrArg some (by kernel_rfl)),
    f337 := Eq.trans Tryz.func137 (congrArg some (by kernel_rfl)),
    f338 := Eq.trans Tryz.func138 (congrArg some (by kernel_rfl)),
    t0 := Tryz.underlying0,
    a0 := Tryz.isAgg0,
    z0 := Tryz.sizeOf0,
    v0 := Tryz.zeroValue0,
    t2 := Tryz.underlying2,
    a2 := Tryz.isAgg2,
    z2 := Tryz.sizeOf2,
    v2 := Tryz.zeroValue2,
    t3 := Tryz.underlying3,
    a3 := Tryz.isAgg3,
    z3 := Tryz.sizeOf3,
    v3 := Tryz.zeroValue3,
    t4 := Tryz.underlying4,
    a4 := Tryz.isAgg4,
    z4 := Tryz.sizeOf4,
    v4 := Tryz.zeroValue4,
    t5 := Tryz.underlying5,
    a5 := Tryz.isAgg5,
    z5 := Tryz.sizeOf5,
    v5 := Tryz.zeroValue5,
    t9 := Tryz.underlying9,
    a9 := Tryz.isAgg9,
    z9 := Tryz.sizeOf9,
    v9 := Tryz.zeroValue9,
    t20 := Tryz.underlying20,
    a20 := Tryz.isAgg20,
    z20 := Tryz.sizeOf20,
    v20 := Tryz.zeroValue20,
    t37 := Tryz.underlying53,
    a37 := Tryz.isAgg53,
    z37 := Tryz.sizeOf53,
    v37 := Tryz.zeroValue53,
    t46 := Tryz.underlying121,
    a46 := Tryz.isAgg121,
    z46 := Tryz.sizeOf121,
    v46 := Tryz.zeroValue121,
    t51 := Tryz.underlying110,
    a51 := Tryz.isAgg110,
    z51 := Tryz.sizeOf110,
    v51 := Tryz.zeroValue110,
    t53 := Tryz.underlying157,
    a53 := Tryz.isAgg157,
    z53 := Tryz.sizeOf157,
    v53 := Tryz.zeroValue157,
    t171 := Tryz.underlying156,
    a171 := Tryz.isAgg156,
    z171 := Tryz.sizeOf156,
    v171 := Tryz.zeroValue156,
    t173 := Tryz.underlying160,
    a173 := Tryz.isAgg160,
    z173 := Tryz.sizeOf160,
    v173 := Tryz.zeroValue160,
    t212 := Tryz.underlying171,
    a212 := Tryz.isAgg171,
    z212 := Tryz.sizeOf171,
    v212 := Tryz.zeroValue171,
    t213 := Tryz.underlying172,
    a213 := Tryz.isAgg172,
    z213 := Tryz.sizeOf172,
    t232 := Tryz.underlying182,
    a232 := Tryz.isAgg182,
    z232 := Tryz.sizeOf182,
    v232 := Tryz.zeroValue182,
    t233 := Tryz.underlying183,
    a233 := Tryz.isAgg183,
    z233 := Tryz.sizeOf183,
    v233 := Tryz.zeroValue183,
    g17 := by kernel_rfl,
    g18 := by kernel_rfl,
    g19 := by kernel_rfl,
    i0 := by kernel_rfl,
    i2 := by kernel_rfl,
    i3 := by kernel_rfl,
    i4 := by kernel_rfl,
    i5 := by kernel_rfl,
    i9 := by kernel_rfl,
    i20 := by kernel_rfl,
    i37 := by kernel_rfl,
    i46 := by kernel_rfl,
    i51 := by kernel_rfl,
    i53 := by kernel_rfl,
    i171 := by kernel_rfl,
    i173 := by kernel_rfl,
    i212 := by kernel_rfl,
    i232 := by kernel_rfl,
    i233 := by kernel_rfl,
    m17 := by kernel_rfl,
    m18 := by kernel_rfl,
    m19 := by kernel_rfl }
abbrev zq69 := itoaT
def zq6a (c : zq69) : Spec := itoaS c
def zq6b : zq69 := fun x k => itoaF x k
theorem zq6c : SpecOk Tryz.prog 76 (zq6a zq6b) :=
  itoa_ok zq68 rfl (g := 7) (by kernel_rfl) ⟨_, Tryz.func76, by kernel_rfl, by kernel_rfl⟩
abbrev zq6d := {β : Type} → Int → (Bool → Option β) → Option β
def zq6e (c : zq6d) : Spec :=
  ⟨[(false, [.data (.int .u8)])], [], [(false, [.data .bool])], [], fun x k => c x.1.1.1 (fun r0 => k (((r0, ()), ()), ()))⟩
section
@[reducible] def ref06_digit_X : Ctx := ⟨look tab, pick1 [], false, false, false, false⟩
def zq6f {β : Type} (b : Int) (k : (Bool → Option β)) : Option β :=
  cond (decide (48 ≤ b))
  (let t : Bool := (decide (b ≤ 57));
  k t)
  (k false)
theorem zq6g (hΓ : ΓOk Tryz.prog ref06_digit_X.Γ) : SpecOk Tryz.prog 80 (zq6e (zq6f)) :=
  spec_exec (X := ref06_digit_X) (Λ := pick1 []) (rs := [.tmp 2]) (c := bodyOf Tryz.f80) mixed tab_ok hΓ Tryz.func80 (by kernel_rfl) (by kernel_rfl) (by kernel_rfl) (by kernel_rfl) CutsOk_nil (fun x k r h => Eq.trans (b := (zq6e (zq6f)).run x k) (by kernel_rfl) h)
end
theorem zq6hΓ : ΓOk Tryz.prog (pick1 []) := ΓOk_nil
def zq6i : zq6d := zq6f
theorem zq6j : SpecOk Tryz.prog 80 (zq6e zq6i) := zq6g zq6hΓ
def zq6k : Shelf.Ren :=
      {
      f := fun x =>
        match x with
        | 172 => 91
        | 244 => 103
        | 245 => 104
        | 247 => 111
        | 279 => 112
        | 280 => 113
        | 281 => 114
        | 282 => 115
        | 287 => 124
        | 316 => 125
        | 171 => 76
        | 205 => 126
        | 321 => 135
        | 322 => 136
        | 243 => 92
        | 246 => 105
        | 283 => 116
        | 284 => 117
        | 285 => 118
        | 286 => 119
        | 129 => 128
        | 317 => 127
        | 318 => 129
        | 319 => 130
        | 320 => 131
        | 337 => 137
        | 338 => 138
        | n => n,
      t := fun x =>
        match x with
        | 9 => 9
        | 3 => 3
        | 75 => 58
        | 76 => 59
        | 4 => 4
        | 5 => 5
        | 167 => 150
        | 37 => 53
        | 0 => 0
        | 85 => 151
        | 2 => 2
        | 168 => 153
        | 53 => 157
        | 175 => 165
        | 46 => 121
        | 210 => 168
        | 127 => 78
        | 145 => 180
        | 143 => 178
        | 21 => 21
        | 171 => 156
        | 173 => 160
        | 212 => 171
        | 51 => 110
        | 20 => 20
        | 213 => 172
        | 232 => 182
        | 233 => 183
        | 80 => 62
        | n => n,
      g := fun x =>
        match x with
        | 15 => 5
        | 16 => 6
        | 17 => 7
        | 18 => 8
        | 19 => 9
        | n => n }
theorem zq6l : Go.Proofs.LaysC.n172 Tryz.prog zq6k :=
  { mixed := by kernel_rfl,
    f129 := Eq.trans Tryz.func128 (congrArg some (by kernel_rfl)),
    f171 := Eq.trans Tryz.func76 (congrArg some (by kernel_rfl)),
    f172 := Eq.trans Tryz.func91 (congrArg some (by kernel_rfl)),
    f205 := Eq.trans Tryz.func126 (congrArg some (by kernel_rfl)),
    f243 := Eq.trans Tryz.func92 (congrArg some (by kernel_rfl)),
    f244 := Eq.trans Tryz.func103 (congrArg some (by kernel_rfl)),
    f245 := Eq.trans Tryz.func104 (congrArg some (by kernel_rfl)),
    f246 := Eq.trans Tryz.func105 (congrArg some (by kernel_rfl)),
    f247 := Eq.trans Tryz.func111 (congrArg some (by kernel_rfl)),
    f279 := Eq.trans Tryz.func112 (congrArg some (by kernel_rfl)),
    f280 := Eq.trans Tryz.func113 (congrArg some (by kernel_rfl)),
    f281 := Eq.trans Tryz.func114 (congrArg some (by kernel_rfl)),
    f282 := Eq.trans Tryz.func115 (congrArg some (by kernel_rfl)),
    f283 := Eq.trans Tryz.func116 (congrArg some (by kernel_rfl)),
    f284 := Eq.trans Tryz.func117 (congrArg some (by kernel_rfl)),
    f285 := Eq.trans Tryz.func118 (congrArg some (by kernel_rfl)),
    f286 := Eq.trans Tryz.func119 (congrArg some (by kernel_rfl)),
    f287 := Eq.trans Tryz.func124 (congrArg some (by kernel_rfl)),
    f316 := Eq.trans Tryz.func125 (congrArg some (by kernel_rfl)),
    f317 := Eq.trans Tryz.func127 (congrArg some (by kernel_rfl)),
    f318 := Eq.trans Tryz.func129 (congrArg some (by kernel_rfl)),
    f319 := Eq.trans Tryz.func130 (congrArg some (by kernel_rfl)),
    f320 := Eq.trans Tryz.func131 (congrArg some (by kernel_rfl)),
    f321 := Eq.trans Tryz.func135 (congrArg some (by kernel_rfl)),
    f322 := Eq.trans Tryz.func136 (congrArg some (by kernel_rfl)),
    f337 := Eq.trans Tryz.func137 (congrArg some (by kernel_rfl)),
    f338 := Eq.trans Tryz.func138 (congrArg some (by kernel_rfl)),
    t0 := Tryz.underlying0,
    a0 := Tryz.isAgg0,
    z0 := Tryz.sizeOf0,
    v0 := Tryz.zeroValue0,
    t2 := Tryz.underlying2,
    a2 := Tryz.isAgg2,
    z2 := Tryz.sizeOf2,
    v2 := Tryz.zeroValue2,
    t3 := Tryz.underlying3,
    a3 := Tryz.isAgg3,
    z3 := Tryz.sizeOf3,
    v3 := Tryz.zeroValue3,
    t4 := Tryz.underlying4,
    a4 := Tryz.isAgg4,
    z4 := Tryz.sizeOf4,
    v4 := Tryz.zeroValue4,
    t5 := Tryz.underlying5,
    a5 := Tryz.isAgg5,
    z5 := Tryz.sizeOf5,
    v5 := Tryz.zeroValue5,
    t9 := Tryz.underlying9,
    a9 := Tryz.isAgg9,
    z9 := Tryz.sizeOf9,
    v9 := Tryz.zeroValue9,
    t20 := Tryz.underlying20,
    a20 := Tryz.isAgg20,
    z20 := Tryz.sizeOf20,
    v20 := Tryz.zeroValue20,
    t21 := Tryz.underlying21,
    a21 := Tryz.isAgg21,
    z21 := Tryz.sizeOf21,
    v21 := Tryz.zeroValue21,
    t37 := Tryz.underlying53,
    a37 := Tryz.isAgg53,
    z37 := Tryz.sizeOf53,
    v37 := Tryz.zeroValue53,
    t46 := Tryz.underlying121,
    a46 := Tryz.isAgg121,
    z46 := Tryz.sizeOf121,
    v46 := Tryz.zeroValue121,
    t51 := Tryz.underlying110,
    a51 := Tryz.isAgg110,
    z51 := Tryz.sizeOf110,
    v51 := Tryz.zeroValue110,
    t53 := Tryz.underlying157,
    a53 := Tryz.isAgg157,
    z53 := Tryz.sizeOf157,
    v53 := Tryz.zeroValue157,
    t75 := Tryz.underlying58,
    a75 := Tryz.isAgg58,
    z75 := Tryz.sizeOf58,
    v75 := Tryz.zeroValue58,
    t76 := Tryz.underlying59,
    a76 := Tryz.isAgg59,
    z76 := Tryz.sizeOf59,
    v76 := Tryz.zeroValue59,
    t85 := Tryz.underlying151,
    a85 := Tryz.isAgg151,
    z85 := Tryz.sizeOf151,
    v85 := Tryz.zeroValue151,
    t127 := Tryz.underlying78,
    a127 := Tryz.isAgg78,
    z127 := Tryz.sizeOf78,
    v127 := Tryz.zeroValue78,
    t143 := Tryz.underlying178,
    a143 := Tryz.isAgg178,
    z143 := Tryz.sizeOf178,
    v143 := Tryz.zeroValue178,
    t145 := Tryz.underlying180,
    a145 := Tryz.isAgg180,
    z145 := Tryz.sizeOf180,
    v145 := Tryz.zeroValue180,
    t167 := Tryz.underlying150,
    a167 := Tryz.isAgg150,
    z167 := Tryz.sizeOf150,
    v167 := Tryz.zeroValue150,
    t168 := Tryz.underlying153,
    a168 := Tryz.isAgg153,
    z168 := Tryz.sizeOf153,
    v168 := Tryz.zeroValue153,
    t171 := Tryz.underlying156,
    a171 := Tryz.isAgg156,
    z171 := Tryz.sizeOf156,
    v171 := Tryz.zeroValue156,
    t173 := Tryz.underlying160,
    a173 := Tryz.isAgg160,
    z173 := Tryz.sizeOf160,
    v173 := Tryz.zeroValue160,
    t175 := Tryz.underlying165,
    a175 := Tryz.isAgg165,
    z175 := Tryz.sizeOf165,
    v175 := Tryz.zeroValue165,
    t210 := Tryz.underlying168,
    a210 := Tryz.isAgg168,
    z210 := Tryz.sizeOf168,
    v210 := Tryz.zeroValue168,
    t212 := Tryz.underlying171,
    a212 := Tryz.isAgg171,
    z212 := Tryz.sizeOf171,
    v212 := Tryz.zeroValue171,
    t213 := Tryz.underlying172,
    a213 := Tryz.isAgg172,
    z213 := Tryz.sizeOf172,
    t232 := Tryz.underlying182,
    a232 := Tryz.isAgg182,
    z232 := Tryz.sizeOf182,
    v232 := Tryz.zeroValue182,
    t233 := Tryz.underlying183,
    a233 := Tryz.isAgg183,
    z233 := Tryz.sizeOf183,
    v233 := Tryz.zeroValue183,
    g15 := by kernel_rfl,
    g16 := by kernel_rfl,
    g17 := by kernel_rfl,
    g18 := by kernel_rfl,
    g19 := by kernel_rfl,
    t80 := Tryz.underlying62,
    a80 := Tryz.isAgg62,
    z80 := Tryz.sizeOf62,
    v80 := Tryz.zeroValue62,
    i0 := by kernel_rfl,
    i2 := by kernel_rfl,
    i3 := by kernel_rfl,
    i4 := by kernel_rfl,
    i5 := by kernel_rfl,
    i9 := by kernel_rfl,
    i20 := by kernel_rfl,
    i21 := by kernel_rfl,
    i37 := by kernel_rfl,
    i46 := by kernel_rfl,
    i51 := by kernel_rfl,
    i53 := by kernel_rfl,
    i75 := by kernel_rfl,
    i76 := by kernel_rfl,
    i80 := by kernel_rfl,
    i85 := by kernel_rfl,
    i127 := by kernel_rfl,
    i143 := by kernel_rfl,
    i145 := by kernel_rfl,
    i167 := by kernel_rfl,
    i168 := by kernel_rfl,
    i171 := by kernel_rfl,
    i173 := by kernel_rfl,
    i175 := by kernel_rfl,
    i210 := by kernel_rfl,
    i212 := by kernel_rfl,
    i232 := by kernel_rfl,
    i233 := by kernel_rfl,
    m15 := by kernel_rfl,
    m16 := by kernel_rfl,
    m17 := by kernel_rfl,
    m18 := by kernel_rfl,
    m19 := by kernel_rfl,
    c0 := by kernel_rfl,
    c2 := by kernel_rfl,
    c3 := by kernel_rfl,
    c4 := by kernel_rfl,
    c5 := by kernel_rfl,
    c9 := by kernel_rfl,
    c20 := by kernel_rfl,
    c21 := by kernel_rfl,
    c37 := by kernel_rfl,
    c46 := by kernel_rfl,
    c51 := by kernel_rfl,
    c53 := by kernel_rfl,
    c75 := by kernel_rfl,
    c76 := by kernel_rfl,
    c80 := by kernel_rfl,
    c85 := by kernel_rfl,
    c127 := by kernel_rfl,
    c143 := by kernel_rfl,
    c145 := by kernel_rfl,
    c167 := by kernel_rfl,
    c168 := by kernel_rfl,
    c171 := by kernel_rfl,
    c173 := by kernel_rfl,
    c175 := by kernel_rfl,
    c210 := by kernel_rfl,
    c212 := by kernel_rfl,
    c213 := by kernel_rfl,
    c232 := by kernel_rfl,
    c233 := by kernel_rfl }
abbrev zq6m := atoiT
def zq6n (c : zq6m) : Spec := atoiS c
def zq6o : zq6m := fun x k => atoiF x k
theorem zq6p : SpecOk Tryz.prog 91 (zq6n zq6o) :=
  atoi_ok zq6l rfl (by kernel_rfl) (by kernel_rfl) ⟨_, Tryz.func91, by kernel_rfl, by kernel_rfl⟩
abbrev zq6q := {β : Type} → Int → (Int → Option β) → Option β
def zq6r (c : zq6q) : Spec :=
  ⟨[(false, [.data (.int .i64)])], [], [(false, [.data (.int .i64)])], [], fun x k => c x.1.1.1 (fun r0 => k (((r0, ()), ()), ()))⟩
section
@[reducible] def ref01_year_X : Ctx := ⟨look tab, pick1 [], false, false, false, false⟩
def zq6s {β : Type} (y : Int) (k : (Int → Option β)) : Option β :=
  cond (!decide (4 = 0))
  (cond (!decide (100 = 0))
  (cond (!decide (400 = 0))
  (let t : Int := (IntKind.i64.wrap ((IntKind.i64.wrap ((IntKind.i64.wrap ((IntKind.i64.wrap ((IntKind.i64.wrap (y - 1970)) * 365)) + (IntKind.i64.wrap (Int.tdiv (IntKind.i64.wrap (y - 1969)) 4)))) - (IntKind.i64.wrap (Int.tdiv (IntKind.i64.wrap (y - 1901)) 100)))) + (IntKind.i64.wrap (Int.tdiv (IntKind.i64.wrap (y - 1601)) 400))));
  k t)
  none)
  none)
  none
theorem zq6t (hΓ : ΓOk Tryz.prog ref01_year_X.Γ) : SpecOk Tryz.prog 97 (zq6r (zq6s)) :=
  spec_exec (X := ref01_year_X) (Λ := pick1 []) (rs := [.tmp 2]) (c := bodyOf Tryz.f97) mixed tab_ok hΓ Tryz.func97 (by kernel_rfl) (by kernel_rfl) (by kernel_rfl) (by kernel_rfl) CutsOk_nil (fun x k r h => Eq.trans (b := (zq6r (zq6s)).run x k) (by kernel_rfl) h)
end
theorem zq6uΓ : ΓOk Tryz.prog (pick1 []) := ΓOk_nil
def zq6v : zq6q := zq6s
theorem zq6w : SpecOk Tryz.prog 97 (zq6r zq6v) := zq6t zq6uΓ
def zq6x : Shelf.Ren :=
      {
      f := fun x =>
        match x with
        | 105 => 106
        | 212 => 120
        | 99 => 121
        | 165 => 56
        | 166 => 22
        | 170 => 23
        | 169 => 24
        | 263 => 132
        | 264 => 133
        | 206 => 134
        | 240 => 36
        | 241 => 79
        | 276 => 57
        | 277 => 95
        | n => n,
      t := fun x =>
        match x with
        | 9 => 9
        | 3 => 3
        | 4 => 4
        | 20 => 20
        | 0 => 0
        | 46 => 121
        | 109 => 162
        | 5 => 5
        | 72 => 55
        | 76 => 59
        | 51 => 110
        | 146 => 142
        | 53 => 157
        | 148 => 175
        | 70 => 52
        | 37 => 53
        | 75 => 58
        | 127 => 78
        | 164 => 100
        | 80 => 62
        | n => n,
      g := fun x => x }
theorem zq6y : Go.Proofs.Lays.n105 Tryz.prog zq6x :=
  { mixed := by kernel_rfl,
    f99 := Eq.trans Tryz.func121 (congrArg some (by kernel_rfl)),
    f105 := Eq.trans Tryz.func106 (congrArg some (by kernel_rfl)),
    f165 := Eq.trans Tryz.func56 (congrArg some (by kernel_rfl)),
    f166 := Eq.trans Tryz.func22 (congrArg some (by kernel_rfl)),
    f169 := Eq.trans Tryz.func24 (congrArg some (by kernel_rfl)),
    f170 := Eq.trans Tryz.func23 (congrArg some (by kernel_rfl)),
    f206 := Eq.trans Tryz.func134 (congrArg some (by kernel_rfl)),
    f212 := Eq.trans Tryz.func120 (congrArg some (by kernel_rfl)),
    f240 := Eq.trans Tryz.func36 (congrArg some (by kernel_rfl)),
    f241 := Eq.trans Tryz.func79 (congrArg some (by kernel_rfl)),
    f263 := Eq.trans Tryz.func132 (congrArg some (by kernel_rfl)),
    f264 := Eq.trans Tryz.func133 (congrArg some (by kernel_rfl)),
    f276 := Eq.trans Tryz.func57 (congrArg some (by kernel_rfl)),
    f277 := Eq.trans Tryz.func95 (congrArg some (by kernel_rfl)),
    t0 := Tryz.underlying0,
    a0 := Tryz.isAgg0,
    z0 := Tryz.sizeOf0,
    v0 := Tryz.zeroValue0,
    t3 := Tryz.underlying3,
    a3 := Tryz.isAgg3,
    z3 := Tryz.sizeOf3,
    v3 := Tryz.zeroValue3,
    t4 := Tryz.underlying4,
    a4 := Tryz.isAgg4,
    z4 := Tryz.sizeOf4,
    v4 := Tryz.zeroValue4,
    t5 := Tryz.underlying5,
    a5 := Tryz.isAgg5,
    z5 := Tryz.sizeOf5,
    v5 := Tryz.zeroValue5,
    t9 := Tryz.underlying9,
    a9 := Tryz.isAgg9,
    z9 := Tryz.sizeOf9,
    v9 := Tryz.zeroValue9,
    t20 := Tryz.underlying20,
    a20 := Tryz.isAgg20,
    z20 := Tryz.sizeOf20,
    v20 := Tryz.zeroValue20,
    t37 := Tryz.underlying53,
    a37 := Tryz.isAgg53,
    z37 := Tryz.sizeOf53,
    v37 := Tryz.zeroValue53,
    t46 := Tryz.underlying121,
    a46 := Tryz.isAgg121,
    z46 := Tryz.sizeOf121,
    v46 := Tryz.zeroValue121,
    t51 := Tryz.underlying110,
    a51 := Tryz.isAgg110,
    z51 := Tryz.sizeOf110,
    v51 := Tryz.zeroValue110,
    t53 := Tryz.underlying157,
    a53 := Tryz.isAgg157,
    z53 := Tryz.sizeOf157,
    v53 := Tryz.zeroValue157,
    t70 := Tryz.underlying52,
    a70 := Tryz.isAgg52,
    z70 := Tryz.sizeOf52,
    v70 := Tryz.zeroValue52,
    t72 := Tryz.underlying55,
    a72 := Tryz.isAgg55,
    z72 := Tryz.sizeOf55,
    v72 := Tryz.zeroValue55,
    t75 := Tryz.underlying58,
    a75 := Tryz.isAgg58,
    z75 := Tryz.sizeOf58,
    v75 := Tryz.zeroValue58,
    t76 := Tryz.underlying59,
    a76 := Tryz.isAgg59,
    z76 := Tryz.sizeOf59,
    v76 := Tryz.zeroValue59,
    t109 := Tryz.underlying162,
    a109 := Tryz.isAgg162,
    z109 := Tryz.sizeOf162,
    v109 := Tryz.zeroValue162,
    t127 := Tryz.underlying78,
    a127 := Tryz.isAgg78,
    z127 := Tryz.sizeOf78,
    v127 := Tryz.zeroValue78,
    t146 := Tryz.underlying142,
    a146 := Tryz.isAgg142,
    z146 := Tryz.sizeOf142,
    v146 := Tryz.zeroValue142,
    t148 := Tryz.underlying175,
    a148 := Tryz.isAgg175,
    z148 := Tryz.sizeOf175,
    v148 := Tryz.zeroValue175,
    t164 := Tryz.underlying100,
    a164 := Tryz.isAgg100,
    z164 := Tryz.sizeOf100,
    v164 := Tryz.zeroValue100 }
abbrev zq6z := repeatT
def zq70 (c : zq6z) : Spec := repeatS c
def zq71 : zq6z := fun x y k => repeatF x y k
theorem zq72 : SpecOk Tryz.prog 106 (zq70 zq71) :=
  repeat_ok zq6y { sizeBuilder := by kernel_rfl, liesBuilder := by kernel_rfl, t5 := Tryz.underlying5, a5 := Tryz.isAgg5, z5 := Tryz.sizeOf5, v5 := Tryz.zeroValue5, infoByte := by kernel_rfl, cellsByte := by kernel_rfl, sizeByte := by kernel_rfl, neB5 := by decide } rfl ⟨_, Tryz.func106, by kernel_rfl, by kernel_rfl⟩
abbrev zq73 := {β : Type} → Int → (Bool → Option β) → Option β
def zq74 (c : zq73) : Spec :=
  ⟨[(false, [.data (.int .i64)])], [], [(false, [.data .bool])], [], fun x k => c x.1.1.1 (fun r0 => k (((r0, ()), ()), ()))⟩
section
@[reducible] def ref01_Leap_X : Ctx := ⟨look tab, pick1 [], false, false, false, false⟩
def zq75 {β : Type} (year : Int) (k : (Bool → Option β)) : Option β :=
  cond (!decide (4 = 0))
  (cond (decide ((Int.tmod year 4) = 0))
  (cond (!decide (100 = 0))
  (cond (!decide ((Int.tmod year 100) = 0))
  (k true)
  (cond (!decide (400 = 0))
  (let t : Bool := (decide ((Int.tmod year 400) = 0));
  k t)
  none))
  none)
  (k false))
  none
theorem zq76 (hΓ : ΓOk Tryz.prog ref01_Leap_X.Γ) : SpecOk Tryz.prog 110 (zq74 (zq75)) :=
  spec_exec (X := ref01_Leap_X) (Λ := pick1 []) (rs := [.tmp 2]) (c := bodyOf Tryz.f110) mixed tab_ok hΓ Tryz.func110 (by kernel_rfl) (by kernel_rfl) (by kernel_rfl) (by kernel_rfl) CutsOk_nil (fun x k r h => Eq.trans (b := (zq74 (zq75)).run x k) (by kernel_rfl) h)
end
theorem zq77Γ : ΓOk Tryz.prog (pick1 []) := ΓOk_nil
def zq78 : zq73 := zq75
theorem zq79 : SpecOk Tryz.prog 110 (zq74 zq78) := zq76 zq77Γ
abbrev zq7a := {β : Type} → Int → Int → (Int → Option β) → Option β
def zq7b (c : zq7a) : Spec :=
  ⟨[(false, [.data (.int .i64)]), (false, [.data (.int .i64)])], [], [(false, [.data (.int .i64)])], [], fun x k => c x.1.1.1 x.1.2.1.1 (fun r0 => k (((r0, ()), ()), ()))⟩
section
@[reducible] def civil_floor_X : Ctx := ⟨look tab, pick1 [], false, false, false, false⟩
def zq7c {β : Type} (a b : Int) (k : (Int → Option β)) : Option β :=
  cond (!decide (b = 0))
  (let q : Int := (IntKind.i64.wrap (Int.tdiv a b));
  cond (!decide (b = 0))
  (cond (decide ((Int.tmod a b) < 0))
  (let q2 : Int := (IntKind.i64.wrap (q - 1));
  k q2)
  (k q))
  none)
  none
theorem zq7d (hΓ : ΓOk Tryz.prog civil_floor_X.Γ) : SpecOk Tryz.prog 122 (zq7b (zq7c)) :=
  spec_exec (X := civil_floor_X) (Λ := pick1 []) (rs := [.tmp 4]) (c := bodyOf Tryz.f122) mixed tab_ok hΓ Tryz.func122 (by kernel_rfl) (by kernel_rfl) (by kernel_rfl) (by kernel_rfl) CutsOk_nil (fun x k r h => Eq.trans (b := (zq7b (zq7c)).run x k) (by kernel_rfl) h)
end
theorem zq7eΓ : ΓOk Tryz.prog (pick1 []) := ΓOk_nil
def zq7f : zq7a := zq7c
theorem zq7g : SpecOk Tryz.prog 122 (zq7b zq7f) := zq7d zq7eΓ
abbrev zq7h := {β : Type} → Int → (Bool → Option β) → Option β
def zq7i (c : zq7h) : Spec :=
  ⟨[(false, [.data (.int .i64)])], [], [(false, [.data .bool])], [], fun x k => c x.1.1.1 (fun r0 => k (((r0, ()), ()), ()))⟩
section
@[reducible] def civil_Leap_X : Ctx := ⟨look tab, pick1 [], false, false, false, false⟩
def zq7j {β : Type} (year : Int) (k : (Bool → Option β)) : Option β :=
  cond (!decide (4 = 0))
  (cond (decide ((Int.tmod year 4) = 0))
  (cond (!decide (100 = 0))
  (cond (!decide ((Int.tmod year 100) = 0))
  (k true)
  (cond (!decide (400 = 0))
  (let t : Bool := (decide ((Int.tmod year 400) = 0));
  k t)
  none))
  none)
  (k false))
  none
theorem zq7k (hΓ : ΓOk Tryz.prog civil_Leap_X.Γ) : SpecOk Tryz.prog 123 (zq7i (zq7j)) :=
  spec_exec (X := civil_Leap_X) (Λ := pick1 []) (rs := [.tmp 2]) (c := bodyOf Tryz.f123) mixed tab_ok hΓ Tryz.func123 (by kernel_rfl) (by kernel_rfl) (by kernel_rfl) (by kernel_rfl) CutsOk_nil (fun x k r h => Eq.trans (b := (zq7i (zq7j)).run x k) (by kernel_rfl) h)
end
theorem zq7lΓ : ΓOk Tryz.prog (pick1 []) := ΓOk_nil
def zq7m : zq7h := zq7j
theorem zq7n : SpecOk Tryz.prog 123 (zq7i zq7m) := zq7k zq7lΓ
abbrev zq7o := {β : Type} → (List zq0) → ((List zq0) → Bool → Option β) → Option β
def zq7p (c : zq7o) : Spec :=
  ⟨[(false, [.data (.slice zq1)])], [], [(false, [.data (.slice zq1)]), (false, [.data .bool])], [], fun x k => c x.1.1.1 (fun r0 r1 => k (((r0, ()), (r1, ()), ()), ()))⟩
noncomputable def syntax_options_p1_code : Code := codeAt 122 (bodyOf Tryz.f26)
abbrev zq7q (β : Type) := (List zq0) → (List zq0) → Option β
abbrev zq7r := {β : Type} → zq7q β → (List zq0) → (List zq0) → Int → Int → (List (List UInt8)) → Option β
def zq7s : View := ⟨0, [0, 4, 13, 14, 15], [(false, [.data  (.slice zq1)]), (false, [.data (.slice zq1)]), (false, [.rowh 0]), (false, [.data (.int .i64)]), (false, [.data (.int .i64)])], [.row 9 .str]⟩
def zq7t : List  (AExit × View) := [(.exit 0, ⟨0, [0, 4], [(false, [.data (.slice zq1)]), (false, [.data (.slice zq1)])], []⟩)]
@[reducible] def syntax_options_p1_G (p : zq7r) {β : Type} (d : zq7s.den) (ks : Outs.K β zq7t) : Option β :=
  p (fun a0 a1 => ks.1 (((a0, ()), (a1, ()), ()), ())) d.1.1.1 d.1.2.1.1 d.1.2.2.2.1.1 d.1.2.2.2.2.1.1 d.2.1
section
variable (c_syntax_word : zq2f)
@[reducible] def syntax_options_X : Ctx := ⟨look tab, pick1 [(39, .spec (zq2g c_syntax_word))], false, false, false, false⟩
def zq7u {β : Type} (rec : (List zq0) → (List zq0) → Int → Int → (List (List UInt8)) → Option β) (k1 : zq7q β) (l rest : List zq0) (t14 t15 : Int) (t13 : List (List UInt8)) : Option β :=
  cond (decide (t15 < t14))
  (cond (decide (0 ≤ t15) && decide (t15 < (List.length t13 : Int)))
  (let s : List UInt8 := (List.getD t13 (Int.toNat t15) ([] : List UInt8));
  cond (decide (2 ≤ (List.length rest : Int)))
  (cond (decide (0 ≤ 0) && decide (0 < (List.length rest : Int)))
  (let e : zq0 := List.getD rest (Int.toNat 0) (0, (([] : List UInt8), 0));
  c_syntax_word e s (fun rword =>
  cond rword
  (cond (decide (0 ≤ 1) && decide (1 < (List.length rest : Int)))
  (let e2 : zq0 := List.getD rest (Int.toNat 1) (0, (([] : List UInt8), 0));
  cond (decide (e2.1 = 1))
  (cond (decide (0 ≤ 2) && (decide (2 ≤ (List.length rest : Int)) && decide ((List.length rest : Int) ≤ (List.length rest : Int))))
  (let rest2 : List zq0 := (List.drop (Int.toNat 2) (List.take (Int.toNat (List.length rest : Int)) rest));
  rec l rest2 t14 (IntKind.i64.wrap (t15 + 1)) t13)
  none)
  (rec l rest t14 (IntKind.i64.wrap (t15 + 1)) t13))
  none)
  (rec l rest t14 (IntKind.i64.wrap (t15 + 1)) t13)))
  none)
  (rec l rest t14 (IntKind.i64.wrap (t15 + 1)) t13))
  none)
  (k1 l rest)
def zq7v {β : Type} : Nat → zq7q β →  (List zq0) → (List zq0) → Int → Int → (List (List UInt8)) → Option β
  | 0 => fun _ _ _ _ _ _ => none
  | i + 1 => fun k1 l rest t14 t15 t13 => zq7u c_syntax_word (zq7v i k1) k1 l rest t14 t15 t13
theorem zq7w (hΓ : ΓOk Tryz.prog (syntax_options_X c_syntax_word).Γ) (i : Nat) : PieceOk Tryz.prog 55 0 syntax_options_p1_code zq7s zq7t (syntax_options_p1_G (zq7v c_syntax_word i)) := by
  rw [show syntax_options_p1_code = .loop (loopBody syntax_options_p1_code) by kernel_rfl]
  exact piece_loop (X := (syntax_options_X c_syntax_word)) (p := 1) (Λ := pick1 []) (G := fun i => @fun β d ks => syntax_options_p1_G (zq7v c_syntax_word i) d ks) mixed tab_ok hΓ rfl (by kernel_rfl) CutsOk_nil (fun _ _ => rfl) (fun i => @fun β d ks r h => Eq.trans (b := syntax_options_p1_G (zq7v c_syntax_word (i + 1)) d ks) (by kernel_rfl) h) i
def zq7x (p1 : zq7r) {β : Type} (l : List zq0) (k : ((List zq0) → Bool → Option β)) : Option β :=
  cond (decide ((List.length l : Int) < 3))
  (k l false)
  (cond (decide (0 ≤ 3) && (decide (3 ≤ (List.length l : Int)) && decide ((List.length l : Int) ≤ (List.length l : Int))))
  (let rest : List zq0 := (List.drop (Int.toNat 3) (List.take (Int.toNat (List.length l : Int)) l));
  let l2 : List (List UInt8) := ([([119, 101, 101, 107] : List UInt8), ([114, 101, 115, 116] : List UInt8)] : List (List UInt8));
  p1 (fun l3 rest2 =>
  cond (decide (0 < (List.length rest2 : Int)))
  (cond (decide (0 ≤ 0) && decide (0 < (List.length rest2 : Int)))
  (let e : zq0 := List.getD rest2 (Int.toNat 0) (0, (([] : List UInt8), 0));
  c_syntax_word e ([99, 111, 110, 115, 101, 110, 116] : List UInt8) (fun rword =>
  cond rword
  (cond (decide (0 ≤ 1) && (decide (1 ≤ (List.length rest2 : Int)) && decide ((List.length rest2 : Int) ≤ (List.length rest2 : Int))))
  (let rest3 : List zq0 := (List.drop (Int.toNat 1) (List.take (Int.toNat (List.length rest2 : Int)) rest2));
  cond (decide (0 ≤ 0) && (decide (0 ≤ 3) && decide (3 ≤ (List.length l3 : Int))))
  (let t : List zq0 := (List.drop (Int.toNat 0) (List.take (Int.toNat 3) l3));
  let t2 : Bool := (decide ((List.length rest3 : Int) = 0));
  k t t2)
  none)
  none)
  (cond (decide (0 ≤ 0) && (decide (0 ≤ 3) && decide (3 ≤ (List.length l3 : Int))))
  (let t : List zq0 := (List.drop (Int.toNat 0) (List.take (Int.toNat 3) l3));
  let t2 : Bool := (decide ((List.length rest2 : Int) = 0));
  k t t2)
  none)))
  none)
  (cond (decide (0 ≤ 0) && (decide (0 ≤ 3) && decide (3 ≤ (List.length l3 : Int))))
  (let t : List zq0 := (List.drop (Int.toNat 0) (List.take (Int.toNat 3) l3));
  let t2 : Bool := (decide ((List.length rest2 : Int) = 0));
  k t t2)
  none)) l rest (List.length l2 : Int) 0 l2)
  none)
theorem zq7y (hΓ : ΓOk Tryz.prog (syntax_options_X c_syntax_word).Γ) (p1 : zq7r) (hp1 : PieceOk Tryz.prog 55 0 syntax_options_p1_code zq7s zq7t (syntax_options_p1_G p1)) : SpecOk Tryz.prog 26 (zq7p (zq7x c_syntax_word p1)) :=
  spec_exec (X := (syntax_options_X c_syntax_word)) (Λ := pick1 [(122, pieceCut zq7s zq7t (syntax_options_p1_G p1))]) (rs := [.tmp 2, .tmp 3]) (c := bodyOf Tryz.f26) mixed tab_ok hΓ Tryz.func26 (by kernel_rfl) (by kernel_rfl) (by kernel_rfl) (by kernel_rfl) (CutsOk_cons (q := 122) (c' := syntax_options_p1_code) (by kernel_rfl) rfl hp1 CutsOk_nil) (fun x k r h => Eq.trans (b := (zq7p (zq7x c_syntax_word p1)).run x k) (by kernel_rfl) h)
end
theorem zq7zΓ : ΓOk Tryz.prog (pick1 [(39, .spec (zq2g zq2k))]) := (ΓOk_cons zq2l ΓOk_nil)
def zq80 (m : Nat) : zq7r := zq7v zq2k m
theorem zq81 {β : Type} (i : Nat) (k1 l rest t14 t15 t13) : (zq80 (i + 1) k1 l rest t14 t15 t13 : Option β) = zq7u zq2k (zq80 i k1) k1 l rest t14 t15 t13 := rfl
def zq82 : zq7r := zq80 fuel
theorem zq83 : PieceOk Tryz.prog 55 0 syntax_options_p1_code zq7s zq7t (syntax_options_p1_G zq82) := zq7w zq2k zq7zΓ fuel
def zq84 : zq7o := zq7x zq2k zq82
theorem zq85 : SpecOk Tryz.prog 26 (zq7p zq84) := zq7y zq2k zq7zΓ zq82 zq83
abbrev zq86 := {β : Type} → (List UInt8) → (List UInt8) → (Int → Bool → Option β) → Option β
def zq87 (c : zq86) : Spec :=
  ⟨[(false, [.data .str]), (false, [.data .str])], [], [(false, [.data (.int .i64)]), (false, [.data .bool])], [], fun x k => c x.1.1.1 x.1.2.1.1 (fun r0 r1 => k (((r0, ()), (r1, ()), ()), ()))⟩
section
variable (c_slices_Index_string_string : zq2m) (c_strings_Fields : zq20)
@[reducible] def syntax_index_X : Ctx := ⟨look tab, pick1 [(40, .spec (zq2n c_slices_Index_string_string)), (32, .spec (zq21 c_strings_Fields))], false, false, false, false⟩
def zq88 {β : Type} (words word : List UInt8) (k : (Int → Bool → Option β)) : Option β :=
  c_strings_Fields words (fun lrFields =>
  c_slices_Index_string_string lrFields word (fun rIndexstringstring =>
  let t : Int := (IntKind.i64.wrap (rIndexstringstring + 1));
  let t2 : Bool := (decide (0 ≤ rIndexstringstring));
  k t t2))
theorem zq89 (hΓ : ΓOk Tryz.prog (syntax_index_X c_slices_Index_string_string c_strings_Fields).Γ) : SpecOk Tryz.prog 27 (zq87 (zq88 c_slices_Index_string_string c_strings_Fields)) :=
  spec_exec (X := (syntax_index_X c_slices_Index_string_string c_strings_Fields)) (Λ := pick1 []) (rs := [.tmp 4, .tmp 5]) (c := bodyOf Tryz.f27) mixed tab_ok hΓ Tryz.func27 (by kernel_rfl) (by kernel_rfl) (by kernel_rfl) (by kernel_rfl) CutsOk_nil (fun x k r h => Eq.trans (b := (zq87 (zq88 c_slices_Index_string_string c_strings_Fields)).run x k) (by kernel_rfl) h)
end
theorem zq8aΓ : ΓOk Tryz.prog (pick1 [(40, .spec (zq2n zq33)), (32, .spec (zq21 zq22))]) := (ΓOk_cons zq34 (ΓOk_cons zq23 ΓOk_nil))
def zq8b : zq86 := zq88 zq33 zq22
theorem zq8c : SpecOk Tryz.prog 27 (zq87 zq8b) := zq89 zq33 zq22 zq8aΓ
abbrev zq8d := {β : Type} → (List zq0) → (Bool → Option β) → Option β
def zq8e (c : zq8d) : Spec :=
  ⟨[(false, [.data (.slice zq1)])], [], [(false, [.data .bool])], [], fun x k => c x.1.1.1 (fun r0 => k (((r0, ()), ()), ()))⟩
noncomputable def ref07_person_p1_code : Code := codeAt 122 (bodyOf Tryz.f43)
abbrev zq8f (β : Type) := (List zq0) → Option β
abbrev zq8g := {β : Type} → zq8f β → (List zq0) → (List UInt8) → (List UInt8) → Int → Option β
def zq8h : View := ⟨0, [0, 16, 17], [(false, [.data  (.slice zq1)]), (true, [.data .str, .data .str]), (false, [.data (.int .i64)])], []⟩
def zq8i : List  (AExit × View) := [(.exit 0, ⟨0, [0], [(false, [.data (.slice zq1)])], []⟩)]
@[reducible] def ref07_person_p1_G (p : zq8g) {β : Type} (d : zq8h.den) (ks : Outs.K β zq8i) : Option β :=
  p (fun a0 => ks.1 (((a0, ()), ()), ())) d.1.1.1 d.1.2.1.1 d.1.2.1.2.1 d.1.2.2.1.1
section
variable (c_ref07_kinds : zq3w)
@[reducible] def ref07_person_X : Ctx := ⟨look tab, pick1 [(44, .spec (zq3x c_ref07_kinds))], false, false, false, false⟩
def zq8j {β : Type} (rec : (List zq0) → (List UInt8) → (List UInt8) → Int → Option β) (k1 : zq8f β) (l : List zq0) (t16 t162 : List UInt8) (t17 : Int) : Option β :=
  cond (decide (t17 < 2))
  (cond (decide (0 ≤ t17) && decide (t17 < (List.length ([t16, t162] : List (List UInt8)) : Int)))
  (let e : List UInt8 := List.getD ([t16, t162] : List (List UInt8)) (Int.toNat t17) ([] : List UInt8);
  cond (decide (2 ≤ (List.length l : Int)))
  (cond (decide (0 ≤ 0) && (decide (0 ≤ 2) && decide (2 ≤ (List.length l : Int))))
  (c_ref07_kinds (List.drop (Int.toNat 0) (List.take (Int.toNat 2) l)) (fun rkinds =>
  cond (decide (rkinds = ([119, 110] : List UInt8)))
  (cond (decide (0 ≤ 0) && decide (0 < (List.length l : Int)))
  (let e2 : zq0 := List.getD l (Int.toNat 0) (0, (([] : List UInt8), 0));
  cond (decide (e2.2.1 = e))
  (cond (decide (0 ≤ 2) && (decide (2 ≤ (List.length l : Int)) && decide ((List.length l : Int) ≤ (List.length l : Int))))
  (let l2 : List zq0 := (List.drop (Int.toNat 2) (List.take (Int.toNat (List.length l : Int)) l));
  rec l2 t16 t162 (IntKind.i64.wrap (t17 + 1)))
  none)
  (rec l t16 t162 (IntKind.i64.wrap (t17 + 1))))
  none)
  (rec l t16 t162 (IntKind.i64.wrap (t17 + 1)))))
  none)
  (rec l t16 t162 (IntKind.i64.wrap (t17 + 1))))
  none)
  (k1 l)
def zq8k {β : Type} : Nat → zq8f β →  (List zq0) → (List UInt8) → (List UInt8) → Int → Option β
  | 0 => fun _ _ _ _ _ => none
  | i + 1 => fun k1 l t16 t162 t17 => zq8j c_ref07_kinds (zq8k i k1) k1 l t16 t162 t17
theorem zq8l (hΓ : ΓOk Tryz.prog (ref07_person_X c_ref07_kinds).Γ) (i : Nat) : PieceOk Tryz.prog 60 0 ref07_person_p1_code zq8h zq8i (ref07_person_p1_G (zq8k c_ref07_kinds i)) := by
  rw [show ref07_person_p1_code = .loop (loopBody ref07_person_p1_code) by kernel_rfl]
  exact piece_loop (X := (ref07_person_X c_ref07_kinds)) (p := 1) (Λ := pick1 []) (G := fun i => @fun β d ks => ref07_person_p1_G (zq8k c_ref07_kinds i) d ks) mixed tab_ok hΓ rfl (by kernel_rfl) CutsOk_nil (fun _ _ => rfl) (fun i => @fun β d ks r h => Eq.trans (b := ref07_person_p1_G (zq8k c_ref07_kinds (i + 1)) d ks) (by kernel_rfl) h) i
def zq8m (p1 : zq8g) {β : Type} (l : List zq0) (k : (Bool → Option β)) : Option β :=
  cond (decide ((List.length l : Int) < 2))
  (k false)
  (cond (decide (0 ≤ 0) && (decide (0 ≤ 2) && decide (2 ≤ (List.length l : Int))))
  (c_ref07_kinds (List.drop (Int.toNat 0) (List.take (Int.toNat 2) l)) (fun rkinds =>
  cond (!decide (rkinds = ([119, 119] : List UInt8)))
  (k false)
  (cond (decide (0 ≤ 2) && (decide (2 ≤ (List.length l : Int)) && decide ((List.length l : Int) ≤ (List.length l : Int))))
  (let l2 : List zq0 := (List.drop (Int.toNat 2) (List.take (Int.toNat (List.length l : Int)) l));
  p1 (fun l3 =>
  cond (decide ((List.length l3 : Int) = 0))
  (k true)
  (cond (decide ((List.length l3 : Int) = 1))
  (c_ref07_kinds l3 (fun rkinds2 =>
  cond (decide (rkinds2 = ([119] : List UInt8)))
  (cond (decide (0 ≤ 0) && decide (0 < (List.length l3 : Int)))
  (let e : zq0 := List.getD l3 (Int.toNat 0) (0, (([] : List UInt8), 0));
  let t : Bool := (decide (e.2.1 = ([99, 111, 110, 115, 101, 110, 116] : List UInt8)));
  k t)
  none)
  (k false)))
  (k false))) l2 ([119, 101, 101, 107] : List UInt8) ([114, 101, 115, 116] : List UInt8) 0)
  none)))
  none)
theorem zq8n (hΓ : ΓOk Tryz.prog (ref07_person_X c_ref07_kinds).Γ) (p1 : zq8g) (hp1 : PieceOk Tryz.prog 60 0 ref07_person_p1_code zq8h zq8i (ref07_person_p1_G p1)) : SpecOk Tryz.prog 43 (zq8e (zq8m c_ref07_kinds p1)) :=
  spec_exec (X := (ref07_person_X c_ref07_kinds)) (Λ := pick1 [(122, pieceCut zq8h zq8i (ref07_person_p1_G p1))]) (rs := [.tmp 2]) (c := bodyOf Tryz.f43) mixed tab_ok hΓ Tryz.func43 (by kernel_rfl) (by kernel_rfl) (by kernel_rfl) (by kernel_rfl) (CutsOk_cons (q := 122) (c' := ref07_person_p1_code) (by kernel_rfl) rfl hp1 CutsOk_nil) (fun x k r h => Eq.trans (b := (zq8e (zq8m c_ref07_kinds p1)).run x k) (by kernel_rfl) h)
end
theorem zq8oΓ : ΓOk Tryz.prog (pick1 [(44, .spec (zq3x zq4d))]) := (ΓOk_cons zq4e ΓOk_nil)
def zq8p (m : Nat) : zq8g := zq8k zq4d m
theorem zq8q {β : Type} (i : Nat) (k1 l t16 t162 t17) : (zq8p (i + 1) k1 l t16 t162 t17 : Option β) = zq8j zq4d (zq8p i k1) k1 l t16 t162 t17 := rfl
def zq8r : zq8g := zq8p fuel
theorem zq8s : PieceOk Tryz.prog 60 0 ref07_person_p1_code zq8h zq8i (ref07_person_p1_G zq8r) := zq8l zq4d zq8oΓ fuel
def zq8t : zq8d := zq8m zq4d zq8r
theorem zq8u : SpecOk Tryz.prog 43 (zq8e zq8t) := zq8n zq4d zq8oΓ zq8r zq8s
abbrev zq8v := {β : Type} → (List UInt8) → (Bool → Option β) → Option β
def zq8w (c : zq8v) : Spec :=
  ⟨[(false, [.data .str])], [], [(false, [.data .bool])], [], fun x k => c x.1.1.1 (fun r0 => k (((r0, ()), ()), ()))⟩
noncomputable def lexer_Name_p1_code : Code := codeAt 58 (bodyOf Tryz.f54)
abbrev zq8x (β : Type) := Bool → Option β
abbrev zq8y (β : Type) := Unit → Option β
abbrev zq8z := {β : Type} → zq8x β → zq8y β → (List UInt8) → Int → Int → Option β
def zq90 : View := ⟨0, [0, 19, 20], [(false, [.data .str]),  (false, [.data (.int .i64)]), (false, [.data (.int .i64)])], []⟩
def zq91 : List  (AExit × View) := [(.ret, ⟨0, [2], [(false, [.data .bool])], []⟩), (.exit 0, ⟨0, [], [], []⟩)]
@[reducible] def lexer_Name_p1_G (p : zq8z) {β : Type} (d : zq90.den) (ks : Outs.K β zq91) : Option β :=
  p (fun a0 => ks.1 (((a0, ()), ()), ())) (fun _ => ks.2.1 ((), ())) d.1.1.1 d.1.2.1.1 d.1.2.2.1.1
section
variable (c_lexer_digit : zq60) (c_lexer_small : zq5n)
@[reducible] def lexer_Name_X : Ctx := ⟨look tab, pick1 [(75, .spec (zq61 c_lexer_digit)), (68, .spec (zq5o c_lexer_small))], false, false, false, false⟩
def zq92 {β : Type} (rec : (List UInt8) → Int → Int → Option β) (k1 : zq8x β) (k2 : zq8y β) (s : List UInt8) (t19 t20 : Int) : Option β :=
  cond (decide (t20 < t19))
  (cond (decide (0 ≤ t20) && decide (t20 < (List.length s : Int)))
  (let c : Int := ((List.getD s (Int.toNat t20) 0).toNat : Int);
  c_lexer_small c (fun rsmall =>
  cond (!rsmall)
  (c_lexer_digit c (fun rdigit =>
  cond (!rdigit)
  (cond (!decide (c = 95))
  (cond (!decide (c = 45))
  (k1 false)
  (rec s t19 (IntKind.i64.wrap (t20 + 1))))
  (rec s t19 (IntKind.i64.wrap (t20 + 1))))
  (rec s t19 (IntKind.i64.wrap (t20 + 1)))))
  (rec s t19 (IntKind.i64.wrap (t20 + 1)))))
  none)
  (k2 ())
def zq93 {β : Type} : Nat → zq8x β → zq8y β →  (List UInt8) → Int → Int → Option β
  | 0 => fun _ _ _ _ _ => none
  | i + 1 => fun k1 k2 s t19 t20 => zq92 c_lexer_digit c_lexer_small (zq93 i k1 k2) k1 k2 s t19 t20
theorem zq94 (hΓ : ΓOk Tryz.prog (lexer_Name_X c_lexer_digit c_lexer_small).Γ) (i : Nat) : PieceOk Tryz.prog 43 0 lexer_Name_p1_code zq90 zq91 (lexer_Name_p1_G (zq93 c_lexer_digit c_lexer_small i)) := by
  rw [show lexer_Name_p1_code = .loop (loopBody lexer_Name_p1_code) by kernel_rfl]
  exact piece_loop (X := (lexer_Name_X c_lexer_digit c_lexer_small)) (p := 1) (Λ := pick1 []) (G := fun i => @fun β d ks => lexer_Name_p1_G (zq93 c_lexer_digit c_lexer_small i) d ks) mixed tab_ok hΓ rfl (by kernel_rfl) CutsOk_nil (fun _ _ => rfl) (fun i => @fun β d ks r h => Eq.trans (b := lexer_Name_p1_G (zq93 c_lexer_digit c_lexer_small (i + 1)) d ks) (by kernel_rfl) h) i
def zq95 (p1 : zq8z) {β : Type} (s : List UInt8) (k : (Bool → Option β)) : Option β :=
  cond (decide (s = ([] : List UInt8)))
  (k false)
  (cond (decide (24 < (List.length s : Int)))
  (k false)
  (cond (decide (0 ≤ 0) && decide (0 < (List.length s : Int)))
  (c_lexer_small ((List.getD s (Int.toNat 0) 0).toNat : Int) (fun rsmall =>
  cond (!rsmall)
  (k false)
  (p1 (fun t2 =>
  k t2) (fun _ =>
  k true) s (List.length s : Int) 0)))
  none))
theorem zq96 (hΓ : ΓOk Tryz.prog (lexer_Name_X c_lexer_digit c_lexer_small).Γ) (p1 : zq8z) (hp1 : PieceOk Tryz.prog 43 0 lexer_Name_p1_code zq90 zq91 (lexer_Name_p1_G p1)) : SpecOk Tryz.prog 54 (zq8w (zq95 c_lexer_small p1)) :=
  spec_exec (X := (lexer_Name_X c_lexer_digit c_lexer_small)) (Λ := pick1 [(58, pieceCut zq90 zq91 (lexer_Name_p1_G p1))]) (rs := [.tmp 2]) (c := bodyOf Tryz.f54) mixed tab_ok hΓ Tryz.func54 (by kernel_rfl) (by kernel_rfl) (by kernel_rfl) (by kernel_rfl) (CutsOk_cons (q := 58) (c' := lexer_Name_p1_code) (by kernel_rfl) rfl hp1 CutsOk_nil) (fun x k r h => Eq.trans (b := (zq8w (zq95 c_lexer_small p1)).run x k) (by kernel_rfl) h)
end
theorem zq97Γ : ΓOk Tryz.prog (pick1 [(75, .spec (zq61 zq65)), (68, .spec (zq5o zq5s))]) := (ΓOk_cons zq66 (ΓOk_cons zq5t ΓOk_nil))
def zq98 (m : Nat) : zq8z := zq93 zq65 zq5s m
theorem zq99 {β : Type} (i : Nat) (k1 k2 s t19 t20) : (zq98 (i + 1) k1 k2 s t19 t20 : Option β) = zq92 zq65 zq5s (zq98 i k1 k2) k1 k2 s t19 t20 := rfl
def zq9a : zq8z := zq98 fuel
theorem zq9b : PieceOk Tryz.prog 43 0 lexer_Name_p1_code zq90 zq91 (lexer_Name_p1_G zq9a) := zq94 zq65 zq5s zq97Γ fuel
def zq9c : zq8v := zq95 zq5s zq9a
theorem zq9d : SpecOk Tryz.prog 54 (zq8w zq9c) := zq96 zq65 zq5s zq97Γ zq9a zq9b
abbrev zq9e := {β : Type} → (List UInt8) → (Bool → Option β) → Option β
def zq9f (c : zq9e) : Spec :=
  ⟨[(false, [.data .str])], [], [(false, [.data .bool])], [], fun x k => c x.1.1.1 (fun r0 => k (((r0, ()), ()), ()))⟩
noncomputable def ref06_Name_p1_code : Code := codeAt 58 (bodyOf Tryz.f58)
abbrev zq9g (β : Type) := Bool → Option β
abbrev zq9h (β : Type) := Unit → Option β
abbrev zq9i := {β : Type} → zq9g β → zq9h β → (List UInt8) → Int → Option β
def zq9j : View := ⟨0, [0, 3], [(false, [.data .str]),  (false, [.data (.int .i64)])], []⟩
def zq9k : List  (AExit × View) := [(.ret, ⟨0, [2], [(false, [.data .bool])], []⟩), (.exit 0, ⟨0, [], [], []⟩)]
@[reducible] def ref06_Name_p1_G (p : zq9i) {β : Type} (d : zq9j.den) (ks : Outs.K β zq9k) : Option β :=
  p (fun a0 => ks.1 (((a0, ()), ()), ())) (fun _ => ks.2.1 ((), ())) d.1.1.1 d.1.2.1.1
section
variable (c_ref06_digit : zq6d)
@[reducible] def ref06_Name_X : Ctx := ⟨look tab, pick1 [(80, .spec (zq6e c_ref06_digit))], false, false, false, false⟩
def zq9l {β : Type} (rec : (List UInt8) → Int → Option β) (k1 : zq9g β) (k2 : zq9h β) (s : List UInt8) (i_ : Int) : Option β :=
  cond (decide (i_ < (List.length s : Int)))
  (cond (decide (0 ≤ i_) && decide (i_ < (List.length s : Int)))
  (cond (decide (((List.getD s (Int.toNat i_) 0).toNat : Int) < 97))
  (cond (decide (0 ≤ i_) && decide (i_ < (List.length s : Int)))
  (c_ref06_digit ((List.getD s (Int.toNat i_) 0).toNat : Int) (fun rdigit =>
  cond (!rdigit)
  (cond (decide (0 ≤ i_) && decide (i_ < (List.length s : Int)))
  (cond (!decide (((List.getD s (Int.toNat i_) 0).toNat : Int) = 95))
  (cond (decide (0 ≤ i_) && decide (i_ < (List.length s : Int)))
  (cond (!decide (((List.getD s (Int.toNat i_) 0).toNat : Int) = 45))
  (k1 false)
  (let i_2 : Int := (IntKind.i64.wrap (i_ + 1));
  rec s i_2))
  none)
  (let i_2 : Int := (IntKind.i64.wrap (i_ + 1));
  rec s i_2))
  none)
  (let i_2 : Int := (IntKind.i64.wrap (i_ + 1));
  rec s i_2)))
  none)
  (cond (decide (0 ≤ i_) && decide (i_ < (List.length s : Int)))
  (cond (decide (122 < ((List.getD s (Int.toNat i_) 0).toNat : Int)))
  (cond (decide (0 ≤ i_) && decide (i_ < (List.length s : Int)))
  (c_ref06_digit ((List.getD s (Int.toNat i_) 0).toNat : Int) (fun rdigit =>
  cond (!rdigit)
  (cond (decide (0 ≤ i_) && decide (i_ < (List.length s : Int)))
  (cond (!decide (((List.getD s (Int.toNat i_) 0).toNat : Int) = 95))
  (cond (decide (0 ≤ i_) && decide (i_ < (List.length s : Int)))
  (cond (!decide (((List.getD s (Int.toNat i_) 0).toNat : Int) = 45))
  (k1 false)
  (let i_2 : Int := (IntKind.i64.wrap (i_ + 1));
  rec s i_2))
  none)
  (let i_2 : Int := (IntKind.i64.wrap (i_ + 1));
  rec s i_2))
  none)
  (let i_2 : Int := (IntKind.i64.wrap (i_ + 1));
  rec s i_2)))
  none)
  (let i_2 : Int := (IntKind.i64.wrap (i_ + 1));
  rec s i_2))
  none))
  none)
  (k2 ())
def zq9m {β : Type} : Nat → zq9g β → zq9h β →  (List UInt8) → Int → Option β
  | 0 => fun _ _ _ _ => none
  | i + 1 => fun k1 k2 s i_ => zq9l c_ref06_digit (zq9m i k1 k2) k1 k2 s i_
theorem zq9n (hΓ : ΓOk Tryz.prog (ref06_Name_X c_ref06_digit).Γ) (i : Nat) : PieceOk Tryz.prog 57 0 ref06_Name_p1_code zq9j zq9k (ref06_Name_p1_G (zq9m c_ref06_digit i)) := by
  rw [show ref06_Name_p1_code = .loop (loopBody ref06_Name_p1_code) by kernel_rfl]
  exact piece_loop (X := (ref06_Name_X c_ref06_digit)) (p := 1) (Λ := pick1 []) (G := fun i => @fun β d ks => ref06_Name_p1_G (zq9m c_ref06_digit i) d ks) mixed tab_ok hΓ rfl (by kernel_rfl) CutsOk_nil (fun _ _ => rfl) (fun i => @fun β d ks r h => Eq.trans (b := ref06_Name_p1_G (zq9m c_ref06_digit (i + 1)) d ks) (by kernel_rfl) h) i
def zq9o (p1 : zq9i) {β : Type} (s : List UInt8) (k : (Bool → Option β)) : Option β :=
  cond (decide ((List.length s : Int) < 1))
  (k false)
  (cond (decide (24 < (List.length s : Int)))
  (k false)
  (cond (decide (0 ≤ 0) && decide (0 < (List.length s : Int)))
  (cond (decide (((List.getD s (Int.toNat 0) 0).toNat : Int) < 97))
  (k false)
  (cond (decide (0 ≤ 0) && decide (0 < (List.length s : Int)))
  (cond (decide (122 < ((List.getD s (Int.toNat 0) 0).toNat : Int)))
  (k false)
  (p1 (fun t2 =>
  k t2) (fun _ =>
  k true) s 0))
  none))
  none))
theorem zq9p (hΓ : ΓOk Tryz.prog (ref06_Name_X c_ref06_digit).Γ) (p1 : zq9i) (hp1 : PieceOk Tryz.prog 57 0 ref06_Name_p1_code zq9j zq9k (ref06_Name_p1_G p1)) : SpecOk Tryz.prog 58 (zq9f (zq9o p1)) :=
  spec_exec (X := (ref06_Name_X c_ref06_digit)) (Λ := pick1 [(58, pieceCut zq9j zq9k (ref06_Name_p1_G p1))]) (rs := [.tmp 2]) (c := bodyOf Tryz.f58) mixed tab_ok hΓ Tryz.func58 (by kernel_rfl) (by kernel_rfl) (by kernel_rfl) (by kernel_rfl) (CutsOk_cons (q := 58) (c' := ref06_Name_p1_code) (by kernel_rfl) rfl hp1 CutsOk_nil) (fun x k r h => Eq.trans (b := (zq9f (zq9o p1)).run x k) (by kernel_rfl) h)
end
theorem zq9qΓ : ΓOk Tryz.prog (pick1 [(80, .spec (zq6e zq6i))]) := (ΓOk_cons zq6j ΓOk_nil)
def zq9r (m : Nat) : zq9i := zq9m zq6i m
theorem zq9s {β : Type} (i : Nat) (k1 k2 s i_) : (zq9r (i + 1) k1 k2 s i_ : Option β) = zq9l zq6i (zq9r i k1 k2) k1 k2 s i_ := rfl
def zq9t : zq9i := zq9r fuel
theorem zq9u : PieceOk Tryz.prog 57 0 ref06_Name_p1_code zq9j zq9k (ref06_Name_p1_G zq9t) := zq9n zq6i zq9qΓ fuel
def zq9v : zq9e := zq9o zq9t
theorem zq9w : SpecOk Tryz.prog 58 (zq9f zq9v) := zq9p zq6i zq9qΓ zq9t zq9u
abbrev zq9x := {β : Type} → (List UInt8) → ((List UInt8) → Option β) → Option β
def zq9y (c : zq9x) : Spec :=
  ⟨[(false, [.data .str])], [], [(false, [.data .str])], [], fun x k => c x.1.1.1 (fun r0 => k (((r0, ()), ()), ()))⟩
noncomputable def ref06_form_p1_code : Code := codeAt 58 (bodyOf Tryz.f59)
abbrev zq9z (β : Type) := (List UInt8) → Option β
abbrev zqa0 := {β : Type} → zq9z β → (List UInt8) → (List UInt8) → Int → Option β
def zqa1 : View := ⟨0, [0, 3, 4], [(false, [.data .str]),  (false, [.data .str]), (false, [.data (.int .i64)])], []⟩
def zqa2 : List  (AExit × View) := [(.exit 0, ⟨0, [3], [(false, [.data .str])], []⟩)]
@[reducible] def ref06_form_p1_G (p : zqa0) {β : Type} (d : zqa1.den) (ks : Outs.K β zqa2) : Option β :=
  p (fun a0 => ks.1 (((a0, ()), ()), ())) d.1.1.1 d.1.2.1.1 d.1.2.2.1.1
section
variable (c_ref06_digit : zq6d)
@[reducible] def ref06_form_X : Ctx := ⟨look tab, pick1 [(80, .spec (zq6e c_ref06_digit))], false, false, false, false⟩
def zqa3 {β : Type} (rec : (List UInt8) → (List UInt8) → Int → Option β) (k1 : zq9z β) (s out : List UInt8) (i_ : Int) : Option β :=
  cond (decide (i_ < (List.length s : Int)))
  (cond (decide (0 ≤ i_) && decide (i_ < (List.length s : Int)))
  (c_ref06_digit ((List.getD s (Int.toNat i_) 0).toNat : Int) (fun rdigit =>
  cond rdigit
  (cond (decide (List.length out + List.length ([100] : List UInt8) ≤ 9223372036854775807))
  (let out2 : List UInt8 := (out ++ ([100] : List UInt8));
  let i_2 : Int := (IntKind.i64.wrap (i_ + 1));
  rec s out2 i_2)
  none)
  (cond (decide (0 ≤ i_) && (decide (i_ ≤ (IntKind.i64.wrap (i_ + 1))) && decide ((IntKind.i64.wrap (i_ + 1)) ≤ (List.length s : Int))))
  (cond (decide (List.length out + List.length (List.drop (Int.toNat i_) (List.take (Int.toNat (IntKind.i64.wrap (i_ + 1))) s)) ≤ 9223372036854775807))
  (let out2 : List UInt8 := (out ++ (List.drop (Int.toNat i_) (List.take (Int.toNat (IntKind.i64.wrap (i_ + 1))) s)));
  let i_2 : Int := (IntKind.i64.wrap (i_ + 1));
  rec s out2 i_2)
  none)
  none)))
  none)
  (k1 out)
def zqa4 {β : Type} : Nat → zq9z β →  (List UInt8) → (List UInt8) → Int → Option β
  | 0 => fun _ _ _ _ => none
  | i + 1 => fun k1 s out i_ => zqa3 c_ref06_digit (zqa4 i k1) k1 s out i_
theorem zqa5 (hΓ : ΓOk Tryz.prog (ref06_form_X c_ref06_digit).Γ) (i : Nat) : PieceOk Tryz.prog 25 0 ref06_form_p1_code zqa1 zqa2 (ref06_form_p1_G (zqa4 c_ref06_digit i)) := by
  rw [show ref06_form_p1_code = .loop (loopBody ref06_form_p1_code) by kernel_rfl]
  exact piece_loop (X := (ref06_form_X c_ref06_digit)) (p := 1) (Λ := pick1 []) (G := fun i => @fun β d ks => ref06_form_p1_G (zqa4 c_ref06_digit i) d ks) mixed tab_ok hΓ rfl (by kernel_rfl) CutsOk_nil (fun _ _ => rfl) (fun i => @fun β d ks r h => Eq.trans (b := ref06_form_p1_G (zqa4 c_ref06_digit (i + 1)) d ks) (by kernel_rfl) h) i
def zqa6 (p1 : zqa0) {β : Type} (s : List UInt8) (k : ((List UInt8) → Option β)) : Option β :=
  p1 (fun out =>
  k out) s ([] : List UInt8) 0
theorem zqa7 (hΓ : ΓOk Tryz.prog (ref06_form_X c_ref06_digit).Γ) (p1 : zqa0) (hp1 : PieceOk Tryz.prog 25 0 ref06_form_p1_code zqa1 zqa2 (ref06_form_p1_G p1)) : SpecOk Tryz.prog 59 (zq9y (zqa6 p1)) :=
  spec_exec (X := (ref06_form_X c_ref06_digit)) (Λ := pick1 [(58, pieceCut zqa1 zqa2 (ref06_form_p1_G p1))]) (rs := [.tmp 2]) (c := bodyOf Tryz.f59) mixed tab_ok hΓ Tryz.func59 (by kernel_rfl) (by kernel_rfl) (by kernel_rfl) (by kernel_rfl) (CutsOk_cons (q := 58) (c' := ref06_form_p1_code) (by kernel_rfl) rfl hp1 CutsOk_nil) (fun x k r h => Eq.trans (b := (zq9y (zqa6 p1)).run x k) (by kernel_rfl) h)
end
theorem zqa8Γ : ΓOk Tryz.prog (pick1 [(80, .spec (zq6e zq6i))]) := (ΓOk_cons zq6j ΓOk_nil)
def zqa9 (m : Nat) : zqa0 := zqa4 zq6i m
theorem zqaa {β : Type} (i : Nat) (k1 s out i_) : (zqa9 (i + 1) k1 s out i_ : Option β) = zqa3 zq6i (zqa9 i k1) k1 s out i_ := rfl
def zqab : zqa0 := zqa9 fuel
theorem zqac : PieceOk Tryz.prog 25 0 ref06_form_p1_code zqa1 zqa2 (ref06_form_p1_G zqab) := zqa5 zq6i zqa8Γ fuel
def zqad : zq9x := zqa6 zqab
theorem zqae : SpecOk Tryz.prog 59 (zq9y zqad) := zqa7 zq6i zqa8Γ zqab zqac
abbrev zqaf := {β : Type} → (List UInt8) → (Int → Option β) → Option β
def zqag (c : zqaf) : Spec :=
  ⟨[(false, [.data .str])], [], [(false, [.data (.int .i64)])], [], fun x k => c x.1.1.1 (fun r0 => k (((r0, ()), ()), ()))⟩
noncomputable def ref06_clock_p1_code : Code := codeAt 15 (bodyOf Tryz.f60)
abbrev zqah (β : Type) := Int → Option β
abbrev zqai := {β : Type} → zqah β → Int → Int → Int → Option β
def zqaj : View := ⟨0, [3, 4, 5], [(false, [.data  (.int .i64)]), (false, [.data (.int .i64)]), (false, [.data (.int .i64)])], []⟩
def zqak : List  (AExit × View) := [(.ret, ⟨0, [2], [(false, [.data (.int .i64)])], []⟩)]
@[reducible] def ref06_clock_p1_G (p : zqai) {β : Type} (d : zqaj.den) (ks : Outs.K β zqak) : Option β :=
  p (fun a0 => ks.1 (((a0, ()), ()), ())) d.1.1.1 d.1.2.1.1 d.1.2.2.1.1
section
variable (c_ref06_number : zq55)
@[reducible] def ref06_clock_X : Ctx := ⟨look tab, pick1 [(62, .spec (zq56 c_ref06_number))], false, false, false, false⟩
def zqal {β : Type} (k1 : zqah β) (h m x : Int) : Option β :=
  cond (decide (59 < m))
  (k1 (-1))
  (cond (decide (59 < x))
  (k1 (-1))
  (let t : Int := (IntKind.i64.wrap ((IntKind.i64.wrap ((IntKind.i64.wrap (h * 3600)) + (IntKind.i64.wrap (m * 60)))) + x));
  k1 t))
def zqam {β : Type} (k1 : zqah β) (h m x : Int) : Option β := zqal k1 h m x
theorem zqan (hΓ : ΓOk Tryz.prog (ref06_clock_X c_ref06_number).Γ) : PieceOk Tryz.prog 31 0 ref06_clock_p1_code zqaj zqak (ref06_clock_p1_G (zqam)) :=
  piece_exec (X := (ref06_clock_X c_ref06_number)) (p := 15) (Λ := pick1 []) mixed tab_ok hΓ (by kernel_rfl) CutsOk_nil (fun d ks r h => Eq.trans (b := ref06_clock_p1_G (zqam) d ks) (by kernel_rfl) h)
def zqao (p1 : zqai) {β : Type} (s : List UInt8) (k : (Int → Option β)) : Option β :=
  cond (decide (0 ≤ 0) && (decide (0 ≤ 2) && decide (2 ≤ (List.length s : Int))))
  (c_ref06_number (List.drop (Int.toNat 0) (List.take (Int.toNat 2) s)) (fun rnumber =>
  cond (decide (0 ≤ 3) && (decide (3 ≤ 5) && decide (5 ≤ (List.length s : Int))))
  (c_ref06_number (List.drop (Int.toNat 3) (List.take (Int.toNat 5) s)) (fun rnumber2 =>
  cond (decide ((List.length s : Int) = 8))
  (cond (decide (0 ≤ 6) && (decide (6 ≤ 8) && decide (8 ≤ (List.length s : Int))))
  (c_ref06_number (List.drop (Int.toNat 6) (List.take (Int.toNat 8) s)) (fun rnumber3 =>
  p1 (fun t2 =>
  k t2) rnumber rnumber2 rnumber3))
  none)
  (p1 (fun t2 =>
  k t2) rnumber rnumber2 0)))
  none))
  none
theorem zqap (hΓ : ΓOk Tryz.prog (ref06_clock_X c_ref06_number).Γ) (p1 : zqai) (hp1 : PieceOk Tryz.prog 31 0 ref06_clock_p1_code zqaj zqak (ref06_clock_p1_G p1)) : SpecOk Tryz.prog 60 (zqag (zqao c_ref06_number p1)) :=
  spec_exec (X := (ref06_clock_X c_ref06_number)) (Λ := pick1 [(15, pieceCut zqaj zqak (ref06_clock_p1_G p1))]) (rs := [.tmp 2]) (c := bodyOf Tryz.f60) mixed tab_ok hΓ Tryz.func60 (by kernel_rfl) (by kernel_rfl) (by kernel_rfl) (by kernel_rfl) (CutsOk_cons (q := 15) (c' := ref06_clock_p1_code) (by kernel_rfl) rfl hp1 CutsOk_nil) (fun x k r h => Eq.trans (b := (zqag (zqao c_ref06_number p1)).run x k) (by kernel_rfl) h)
end
theorem zqaqΓ : ΓOk Tryz.prog (pick1 [(62, .spec (zq56 zq5l))]) := (ΓOk_cons zq5m ΓOk_nil)
def zqar : zqai := zqam
theorem zqas : PieceOk Tryz.prog 31 0 ref06_clock_p1_code zqaj zqak (ref06_clock_p1_G zqar) := zqan zq5l zqaqΓ
def zqat : zqaf := zqao zq5l zqar
theorem zqau : SpecOk Tryz.prog 60 (zqag zqat) := zqap zq5l zqaqΓ zqar zqas
abbrev zqav := {β : Type} → (List UInt8) → (Int → Bool → Option β) → Option β
def zqaw (c : zqav) : Spec :=
  ⟨[(false, [.data .str])], [], [(false, [.data (.int .i64)]), (false, [.data .bool])], [], fun x k => c x.1.1.1 (fun r0 r1 => k (((r0, ()), (r1, ()), ()), ()))⟩
noncomputable def lexer_number_p1_code : Code := codeAt 26 (bodyOf Tryz.f74)
abbrev zqax (β : Type) := Int → Bool → Option β
abbrev zqay (β : Type) := (List UInt8) → Option β
abbrev zqaz := {β : Type} → zqax β → zqay β → (List UInt8) → Int → Int → Option β
def zqb0 : View := ⟨0, [0, 8, 9], [(false, [.data .str]),  (false, [.data (.int .i64)]), (false, [.data (.int .i64)])], []⟩
def zqb1 : List  (AExit × View) := [(.ret, ⟨0, [2, 3], [(false, [.data (.int .i64)]), (false, [.data .bool])], []⟩), (.exit 0, ⟨0, [0], [(false, [.data .str])], []⟩)]
@[reducible] def lexer_number_p1_G (p : zqaz) {β : Type} (d : zqb0.den) (ks : Outs.K β zqb1) : Option β :=
  p (fun a0 a1 => ks.1 (((a0, ()), (a1, ()), ()), ())) (fun a0 => ks.2.1 (((a0, ()), ()), ())) d.1.1.1 d.1.2.1.1 d.1.2.2.1.1
section
variable (c_lexer_digit : zq60) (c_strconv_Atoi : zq6m)
@[reducible] def lexer_number_X : Ctx := ⟨look tab, pick1 [(75, .spec (zq61 c_lexer_digit)), (91, .spec (zq6n c_strconv_Atoi))], false, false, false, false⟩
def zqb2 {β : Type} (rec : (List UInt8) → Int → Int → Option β) (k1 : zqax β) (k2 : zqay β) (s : List UInt8) (t8 t9 : Int) : Option β :=
  cond (decide (t9 < t8))
  (cond (decide (0 ≤ t9) && decide (t9 < (List.length s : Int)))
  (c_lexer_digit ((List.getD s (Int.toNat t9) 0).toNat : Int) (fun rdigit =>
  cond (!rdigit)
  (k1 0 false)
  (rec s t8 (IntKind.i64.wrap (t9 + 1)))))
  none)
  (k2 s)
def zqb3 {β : Type} : Nat → zqax β → zqay β →  (List UInt8) → Int → Int → Option β
  | 0 => fun _ _ _ _ _ => none
  | i + 1 => fun k1 k2 s t8 t9 => zqb2 c_lexer_digit (zqb3 i k1 k2) k1 k2 s t8 t9
theorem zqb4 (hΓ : ΓOk Tryz.prog (lexer_number_X c_lexer_digit c_strconv_Atoi).Γ) (i : Nat) : PieceOk Tryz.prog 31 0 lexer_number_p1_code zqb0 zqb1 (lexer_number_p1_G (zqb3 c_lexer_digit i)) := by
  rw [show lexer_number_p1_code = .loop (loopBody lexer_number_p1_code) by kernel_rfl]
  exact piece_loop (X := (lexer_number_X c_lexer_digit c_strconv_Atoi)) (p := 1) (Λ := pick1 []) (G := fun i => @fun β d ks => lexer_number_p1_G (zqb3 c_lexer_digit i) d ks) mixed tab_ok hΓ rfl (by kernel_rfl) CutsOk_nil (fun _ _ => rfl) (fun i => @fun β d ks r h => Eq.trans (b := lexer_number_p1_G (zqb3 c_lexer_digit (i + 1)) d ks) (by kernel_rfl) h) i
def zqb5 (p1 : zqaz) {β : Type} (s : List UInt8) (k : (Int → Bool → Option β)) : Option β :=
  p1 (fun t2 t3 =>
  k t2 t3) (fun s2 =>
  c_strconv_Atoi s2 (fun rAtoi rAtoi2 =>
  cond rAtoi2
  (let t : Bool := (decide ((List.length s2 : Int) ≤ 9));
  k rAtoi t)
  (k rAtoi false))) s (List.length s : Int) 0
theorem zqb6 (hΓ : ΓOk Tryz.prog (lexer_number_X c_lexer_digit c_strconv_Atoi).Γ) (p1 : zqaz) (hp1 : PieceOk Tryz.prog 31 0 lexer_number_p1_code zqb0 zqb1 (lexer_number_p1_G p1)) : SpecOk Tryz.prog 74 (zqaw (zqb5 c_strconv_Atoi p1)) :=
  spec_exec (X := (lexer_number_X c_lexer_digit c_strconv_Atoi)) (Λ := pick1 [(26, pieceCut zqb0 zqb1 (lexer_number_p1_G p1))]) (rs := [.tmp 2, .tmp 3]) (c := bodyOf Tryz.f74) mixed tab_ok hΓ Tryz.func74 (by kernel_rfl) (by kernel_rfl) (by kernel_rfl) (by kernel_rfl) (CutsOk_cons (q := 26) (c' := lexer_number_p1_code) (by kernel_rfl) rfl hp1 CutsOk_nil) (fun x k r h => Eq.trans (b := (zqaw (zqb5 c_strconv_Atoi p1)).run x k) (by kernel_rfl) h)
end
theorem zqb7Γ : ΓOk Tryz.prog (pick1 [(75, .spec (zq61 zq65)), (91, .spec (zq6n zq6o))]) := (ΓOk_cons zq66 (ΓOk_cons zq6p ΓOk_nil))
def zqb8 (m : Nat) : zqaz := zqb3 zq65 m
theorem zqb9 {β : Type} (i : Nat) (k1 k2 s t8 t9) : (zqb8 (i + 1) k1 k2 s t8 t9 : Option β) = zqb2 zq65 (zqb8 i k1 k2) k1 k2 s t8 t9 := rfl
def zqba : zqaz := zqb8 fuel
theorem zqbb : PieceOk Tryz.prog 31 0 lexer_number_p1_code zqb0 zqb1 (lexer_number_p1_G zqba) := zqb4 zq65 zq6o zqb7Γ fuel
def zqbc : zqav := zqb5 zq6o zqba
theorem zqbd : SpecOk Tryz.prog 74 (zqaw zqbc) := zqb6 zq65 zq6o zqb7Γ zqba zqbb
abbrev zqbe := {β : Type} → (List UInt8) → (Int → Bool → Option β) → Option β
def zqbf (c : zqbe) : Spec :=
  ⟨[(false, [.data .str])], [], [(false, [.data (.int .i64)]), (false, [.data .bool])], [], fun x k => c x.1.1.1 (fun r0 r1 => k (((r0, ()), (r1, ()), ()), ()))⟩
section
variable (c_lexer_number : zqav)
@[reducible] def lexer_two_X : Ctx := ⟨look tab, pick1 [(74, .spec (zqaw c_lexer_number))], false, false, false, false⟩
def zqbg {β : Type} (s : List UInt8) (k : (Int → Bool → Option β)) : Option β :=
  c_lexer_number s (fun rnumber rnumber2 =>
  cond rnumber2
  (let t : Bool := (decide ((List.length s : Int) = 2));
  k rnumber t)
  (k rnumber false))
theorem zqbh (hΓ : ΓOk Tryz.prog (lexer_two_X c_lexer_number).Γ) : SpecOk Tryz.prog 89 (zqbf (zqbg c_lexer_number)) :=
  spec_exec (X := (lexer_two_X c_lexer_number)) (Λ := pick1 []) (rs := [.tmp 2, .tmp 3]) (c := bodyOf Tryz.f89) mixed tab_ok hΓ Tryz.func89 (by kernel_rfl) (by kernel_rfl) (by kernel_rfl) (by kernel_rfl) CutsOk_nil (fun x k r h => Eq.trans (b := (zqbf (zqbg c_lexer_number)).run x k) (by kernel_rfl) h)
end
theorem zqbiΓ : ΓOk Tryz.prog (pick1 [(74, .spec (zqaw zqbc))]) := (ΓOk_cons zqbd ΓOk_nil)
def zqbj : zqbe := zqbg zqbc
theorem zqbk : SpecOk Tryz.prog 89 (zqbf zqbj) := zqbh zqbc zqbiΓ
abbrev zqbl := {β : Type} → Int → Int → ((List UInt8) → Option β) → Option β
def zqbm (c : zqbl) : Spec :=
  ⟨[(false, [.data (.int .i64)]), (false, [.data (.int .i64)])], [], [(false, [.data .str])], [], fun x k => c x.1.1.1 x.1.2.1.1 (fun r0 => k (((r0, ()), ()), ()))⟩
section
variable (c_strconv_Itoa : zq69) (c_strings_Repeat : zq6z)
@[reducible] def lexer_digits_X : Ctx := ⟨look tab, pick1 [(76, .spec (zq6a c_strconv_Itoa)), (106, .spec (zq70 c_strings_Repeat))], false, false, false, false⟩
def zqbn {β : Type} (x n : Int) (k : ((List UInt8) → Option β)) : Option β :=
  c_strconv_Itoa x (fun rItoa =>
  c_strings_Repeat ([48] : List UInt8) (if (IntKind.i64.wrap (n - (List.length rItoa : Int))) > 0 then (IntKind.i64.wrap (n - (List.length rItoa : Int))) else 0) (fun rRepeat =>
  cond (decide (List.length rRepeat + List.length rItoa ≤ 9223372036854775807))
  (k (rRepeat ++ rItoa))
  none))
theorem zqbo (hΓ : ΓOk Tryz.prog (lexer_digits_X c_strconv_Itoa c_strings_Repeat).Γ) : SpecOk Tryz.prog 93 (zqbm (zqbn c_strconv_Itoa c_strings_Repeat)) :=
  spec_exec (X := (lexer_digits_X c_strconv_Itoa c_strings_Repeat)) (Λ := pick1 []) (rs := [.tmp 4]) (c := bodyOf Tryz.f93) mixed tab_ok hΓ Tryz.func93 (by kernel_rfl) (by kernel_rfl) (by kernel_rfl) (by kernel_rfl) CutsOk_nil (fun x k r h => Eq.trans (b := (zqbm (zqbn c_strconv_Itoa c_strings_Repeat)).run x k) (by kernel_rfl) h)
end
theorem zqbpΓ : ΓOk Tryz.prog (pick1 [(76, .spec (zq6a zq6b)), (106, .spec (zq70 zq71))]) := (ΓOk_cons zq6c (ΓOk_cons zq72 ΓOk_nil))
def zqbq : zqbl := zqbn zq6b zq71
theorem zqbr : SpecOk Tryz.prog 93 (zqbm zqbq) := zqbo zq6b zq71 zqbpΓ
abbrev zqbs := {β : Type} → Int → Int → (Int → Option β) → Option β
def zqbt (c : zqbs) : Spec :=
  ⟨[(false, [.data (.int .i64)]), (false, [.data (.int .i64)])], [], [(false, [.data (.int .i64)])], [], fun x k => c x.1.1.1 x.1.2.1.1 (fun r0 => k (((r0, ()), ()), ()))⟩
noncomputable def ref01_Days_p1_code : Code := codeAt 215 (bodyOf Tryz.f98)
noncomputable def ref01_Days_p2_code : Code := codeAt 53 (bodyOf Tryz.f98)
abbrev zqbu (β : Type) := Int → Option β
abbrev zqbv (β : Type) := Unit → Option β
abbrev zqbw := {β : Type} → zqbu β → zqbv β → Int → Int → Bool → Option β
def zqbx : View := ⟨0, [0, 5, 14], [(false, [.data  (.int .i64)]), (false, [.data (.int .i64)]), (false, [.data .bool])], []⟩
def zqby : List  (AExit × View) := [(.ret, ⟨0, [4], [(false, [.data (.int .i64)])], []⟩), (.normal, ⟨0, [], [], []⟩)]
@[reducible] def ref01_Days_p1_G (p : zqbw) {β : Type} (d : zqbx.den) (ks : Outs.K β zqby) : Option β :=
  p (fun a0 => ks.1 (((a0, ()), ()), ())) (fun _ => ks.2.1 ((), ())) d.1.1.1 d.1.2.1.1 d.1.2.2.1.1
abbrev zqbz (β : Type) := Int → Option β
abbrev zqc0 (β : Type) := Unit → Option β
abbrev zqc1 := {β : Type} → zqbz β → zqc0 β → Int → Int → Bool → Option β
def zqc2 : View := ⟨0, [0, 5, 6], [(false, [.data  (.int .i64)]), (false, [.data (.int .i64)]), (false, [.data .bool])], []⟩
def zqc3 : List  (AExit × View) := [(.ret, ⟨0, [4], [(false, [.data (.int .i64)])], []⟩), (.normal, ⟨0, [], [], []⟩)]
@[reducible] def ref01_Days_p2_G (p : zqc1) {β : Type} (d : zqc2.den) (ks : Outs.K β zqc3) : Option β :=
  p (fun a0 => ks.1 (((a0, ()), ()), ())) (fun _ => ks.2.1 ((), ())) d.1.1.1 d.1.2.1.1 d.1.2.2.1.1
section
variable (c_ref01_Leap : zq73)
@[reducible] def ref01_Days_X : Ctx := ⟨look tab, pick1 [(110, .spec (zq74 c_ref01_Leap))], false, false, false, false⟩
def zqc4 {β : Type} (k1 : zqbu β) (k2 : zqbv β) (year t5 : Int) (t14 : Bool) : Option β :=
  cond t14
  (k1 30)
  (let t : Bool := (decide (t5 = 2));
  cond t
  (c_ref01_Leap year (fun rLeap =>
  cond rLeap
  (k1 29)
  (k1 28)))
  (k2 ()))
def zqc5 {β : Type} (k1 : zqbu β) (k2 : zqbv β) (year t5 : Int) (t14 : Bool) : Option β := zqc4 c_ref01_Leap k1 k2 year t5 t14
theorem zqc6 (hΓ : ΓOk Tryz.prog (ref01_Days_X c_ref01_Leap).Γ) : PieceOk Tryz.prog 23 0 ref01_Days_p1_code zqbx zqby (ref01_Days_p1_G (zqc5 c_ref01_Leap)) :=
  piece_exec (X := (ref01_Days_X c_ref01_Leap)) (p := 215) (Λ := pick1 []) mixed tab_ok hΓ (by kernel_rfl) CutsOk_nil (fun d ks r h => Eq.trans (b := ref01_Days_p1_G (zqc5 c_ref01_Leap) d ks) (by kernel_rfl) h)
def zqc7 (p1 : zqbw) {β : Type} (k1 : zqbz β) (k2 : zqc0 β) (year : Int) (t5 : Int) (t6 : Bool) : Option β :=
  cond t6
  (k1 31)
  (let t : Bool := (decide (t5 = 4));
  cond t
  (p1 (fun t4 =>
  k1 t4) (fun _ =>
  k2 ()) year t5 t)
  (let t2 : Bool := (decide (t5 = 6));
  cond t2
  (p1 (fun t4 =>
  k1 t4) (fun _ =>
  k2 ()) year t5 t2)
  (let t3 : Bool := (decide (t5 = 9));
  cond t3
  (p1 (fun t4 =>
  k1 t4) (fun _ =>
  k2 ()) year t5 t3)
  (let t4 : Bool := (decide (t5 = 11));
  p1 (fun t42 =>
  k1 t42) (fun _ =>
  k2 ()) year t5 t4))))
def zqc8 (p1 : zqbw) {β : Type} (k1 : zqbz β) (k2 : zqc0 β) (year : Int) (t5 : Int) (t6 : Bool) : Option β := zqc7 p1 k1 k2 year t5 t6
theorem zqc9 (hΓ : ΓOk Tryz.prog (ref01_Days_X c_ref01_Leap).Γ) (p1 : zqbw) (hp1 : PieceOk Tryz.prog 23 0 ref01_Days_p1_code zqbx zqby (ref01_Days_p1_G p1)) : PieceOk Tryz.prog 23 0 ref01_Days_p2_code zqc2 zqc3 (ref01_Days_p2_G (zqc8 p1)) :=
  piece_exec (X := (ref01_Days_X c_ref01_Leap)) (p := 53) (Λ := pick1 [(215, pieceCut zqbx zqby (ref01_Days_p1_G p1))]) mixed tab_ok hΓ (by kernel_rfl) (CutsOk_cons (q := 215) (c' := ref01_Days_p1_code) (by kernel_rfl) rfl hp1 CutsOk_nil) (fun d ks r h => Eq.trans (b := ref01_Days_p2_G (zqc8 p1) d ks) (by kernel_rfl) h)
def zqca (p2 : zqc1) {β : Type} (year : Int) (month : Int) (k : (Int → Option β)) : Option β :=
  let t : Bool := (decide (month = 1));
  cond t
  (p2 (fun t4 =>
  k t4) (fun _ =>
  k 0) year month t)
  (let t2 : Bool := (decide (month = 3));
  cond t2
  (p2 (fun t4 =>
  k t4) (fun _ =>
  k 0) year month t2)
  (let t3 : Bool := (decide (month = 5));
  cond t3
  (p2 (fun t4 =>
  k t4) (fun _ =>
  k 0) year month t3)
  (let t4 : Bool := (decide (month = 7));
  cond t4
  (p2 (fun t42 =>
  k t42) (fun _ =>
  k 0) year month t4)
  (let t5 : Bool := (decide (month = 8));
  cond t5
  (p2 (fun t42 =>
  k t42) (fun _ =>
  k 0) year month t5)
  (let t6 : Bool := (decide (month = 10));
  cond t6
  (p2 (fun t42 =>
  k t42) (fun _ =>
  k 0) year month t6)
  (let t7 : Bool := (decide (month = 12));
  p2 (fun t42 =>
  k t42) (fun _ =>
  k 0) year month t7))))))
theorem zqcb (hΓ : ΓOk Tryz.prog (ref01_Days_X c_ref01_Leap).Γ) (p2 : zqc1) (hp2 : PieceOk Tryz.prog 23 0 ref01_Days_p2_code zqc2 zqc3 (ref01_Days_p2_G p2)) : SpecOk Tryz.prog 98 (zqbt (zqca p2)) :=
  spec_exec (X := (ref01_Days_X c_ref01_Leap)) (Λ := pick1 [(53, pieceCut zqc2 zqc3 (ref01_Days_p2_G p2))]) (rs := [.tmp 4]) (c := bodyOf Tryz.f98) mixed tab_ok hΓ Tryz.func98 (by kernel_rfl) (by kernel_rfl) (by kernel_rfl) (by kernel_rfl) (CutsOk_cons (q := 53) (c' := ref01_Days_p2_code) (by kernel_rfl) rfl hp2 CutsOk_nil) (fun x k r h => Eq.trans (b := (zqbt (zqca p2)).run x k) (by kernel_rfl) h)
end
theorem zqccΓ : ΓOk Tryz.prog (pick1 [(110, .spec (zq74 zq78))]) := (ΓOk_cons zq79 ΓOk_nil)
def zqcd : zqbw := zqc5 zq78
theorem zqce : PieceOk Tryz.prog 23 0 ref01_Days_p1_code zqbx zqby (ref01_Days_p1_G zqcd) := zqc6 zq78 zqccΓ
def zqcf : zqc1 := zqc8 zqcd
theorem zqcg : PieceOk Tryz.prog 23 0 ref01_Days_p2_code zqc2 zqc3 (ref01_Days_p2_G zqcf) := zqc9 zq78 zqccΓ zqcd zqce
def zqch : zqbs := zqca zqcf
theorem zqci : SpecOk Tryz.prog 98 (zqbt zqch) := zqcb zq78 zqccΓ zqcf zqcg
abbrev zqcj := {β : Type} → Int → (Int → Option β) → Option β
def zqck (c : zqcj) : Spec :=
  ⟨[(false, [.data (.int .i64)])], [], [(false, [.data (.int .i64)])], [], fun x k => c x.1.1.1 (fun r0 => k (((r0, ()), ()), ()))⟩
section
variable (c_civil_floor : zq7a)
@[reducible] def civil_count_X : Ctx := ⟨look tab, pick1 [(122, .spec (zq7b c_civil_floor))], false, false, false, false⟩
def zqcl {β : Type} (year : Int) (k : (Int → Option β)) : Option β :=
  let y : Int := (IntKind.i64.wrap (year - 1));
  c_civil_floor y 4 (fun rfloor =>
  c_civil_floor y 100 (fun rfloor2 =>
  c_civil_floor y 400 (fun rfloor3 =>
  let t : Int := (IntKind.i64.wrap ((IntKind.i64.wrap ((IntKind.i64.wrap ((IntKind.i64.wrap ((IntKind.i64.wrap (365 * (IntKind.i64.wrap (year - 1970)))) + rfloor)) - rfloor2)) + rfloor3)) - 477));
  k t)))
theorem zqcm (hΓ : ΓOk Tryz.prog (civil_count_X c_civil_floor).Γ) : SpecOk Tryz.prog 107 (zqck (zqcl c_civil_floor)) :=
  spec_exec (X := (civil_count_X c_civil_floor)) (Λ := pick1 []) (rs := [.tmp 2]) (c := bodyOf Tryz.f107) mixed tab_ok hΓ Tryz.func107 (by kernel_rfl) (by kernel_rfl) (by kernel_rfl) (by kernel_rfl) CutsOk_nil (fun x k r h => Eq.trans (b := (zqck (zqcl c_civil_floor)).run x k) (by kernel_rfl) h)
end
theorem zqcnΓ : ΓOk Tryz.prog (pick1 [(122, .spec (zq7b zq7f))]) := (ΓOk_cons zq7g ΓOk_nil)
def zqco : zqcj := zqcl zq7f
theorem zqcp : SpecOk Tryz.prog 107 (zqck zqco) := zqcm zq7f zqcnΓ
abbrev zqcq := {β : Type} → Int → (Int → Option β) → Option β
def zqcr (c : zqcq) : Spec :=
  ⟨[(false, [.data (.int .i64)])], [], [(false, [.data (.int .i64)])], [], fun x k => c x.1.1.1 (fun r0 => k (((r0, ()), ()), ()))⟩
noncomputable def civil_year_p1_code : Code := codeAt 28 (bodyOf Tryz.f108)
abbrev zqcs (β : Type) := Int → Option β
abbrev zqct := {β : Type} → zqcs β → Int → Int → Option β
def zqcu : View := ⟨0, [0, 3], [(false, [.data  (.int .i64)]), (false, [.data (.int .i64)])], []⟩
def zqcv : List  (AExit × View) := [(.exit 0, ⟨0, [3], [(false, [.data (.int .i64)])], []⟩)]
@[reducible] def civil_year_p1_G (p : zqct) {β : Type} (d : zqcu.den) (ks : Outs.K β zqcv) : Option β :=
  p (fun a0 => ks.1 (((a0, ()), ()), ())) d.1.1.1 d.1.2.1.1
section
variable (c_civil_count : zqcj) (c_civil_floor : zq7a)
@[reducible] def civil_year_X : Ctx := ⟨look tab, pick1 [(107, .spec (zqck c_civil_count)), (122, .spec (zq7b c_civil_floor))], false, false, false, false⟩
def zqcw {β : Type} (rec : Int → Int → Option β) (k1 : zqcs β) (day y : Int) : Option β :=
  c_civil_count (IntKind.i64.wrap (y + 1)) (fun rcount =>
  cond (decide (rcount ≤ day))
  (let y2 : Int := (IntKind.i64.wrap (y + 1));
  rec day y2)
  (k1 y))
def zqcx {β : Type} : Nat → zqcs β → Int → Int → Option β
  | 0 => fun _ _ _ => none
  | i + 1 => fun k1 day y => zqcw c_civil_count (zqcx i k1) k1 day y
theorem zqcy (hΓ : ΓOk Tryz.prog (civil_year_X c_civil_count c_civil_floor).Γ) (i : Nat) : PieceOk Tryz.prog 15 0 civil_year_p1_code zqcu zqcv (civil_year_p1_G (zqcx c_civil_count i)) := by
  rw [show civil_year_p1_code = .loop (loopBody civil_year_p1_code) by kernel_rfl]
  exact piece_loop (X := (civil_year_X c_civil_count c_civil_floor)) (p := 1) (Λ := pick1 []) (G := fun i => @fun β d ks => civil_year_p1_G (zqcx c_civil_count i) d ks) mixed tab_ok hΓ rfl (by kernel_rfl) CutsOk_nil (fun _ _ => rfl) (fun i => @fun β d ks r h => Eq.trans (b := civil_year_p1_G (zqcx c_civil_count (i + 1)) d ks) (by kernel_rfl) h) i
def zqcz (p1 : zqct) {β : Type} (day : Int) (k : (Int → Option β)) : Option β :=
  c_civil_floor day 366 (fun rfloor =>
  let y : Int := (IntKind.i64.wrap (1970 + rfloor));
  p1 (fun y2 =>
  k y2) day y)
theorem zqd0 (hΓ : ΓOk Tryz.prog (civil_year_X c_civil_count c_civil_floor).Γ) (p1 : zqct) (hp1 : PieceOk Tryz.prog 15 0 civil_year_p1_code zqcu zqcv (civil_year_p1_G p1)) : SpecOk Tryz.prog 108 (zqcr (zqcz c_civil_floor p1)) :=
  spec_exec (X := (civil_year_X c_civil_count c_civil_floor)) (Λ := pick1 [(28, pieceCut zqcu zqcv (civil_year_p1_G p1))]) (rs := [.tmp 2]) (c := bodyOf Tryz.f108) mixed tab_ok hΓ Tryz.func108 (by kernel_rfl) (by kernel_rfl) (by kernel_rfl) (by kernel_rfl) (CutsOk_cons (q := 28) (c' := civil_year_p1_code) (by kernel_rfl) rfl hp1 CutsOk_nil) (fun x k r h => Eq.trans (b := (zqcr (zqcz c_civil_floor p1)).run x k) (by kernel_rfl) h)
end
theorem zqd1Γ : ΓOk Tryz.prog (pick1 [(107, .spec (zqck zqco)), (122, .spec (zq7b zq7f))]) := (ΓOk_cons zqcp (ΓOk_cons zq7g ΓOk_nil))
def zqd2 (m : Nat) : zqct := zqcx zqco m
theorem zqd3 {β : Type} (i : Nat) (k1 day y) : (zqd2 (i + 1) k1 day y : Option β) = zqcw zqco (zqd2 i k1) k1 day y := rfl
def zqd4 : zqct := zqd2 fuel
theorem zqd5 : PieceOk Tryz.prog 15 0 civil_year_p1_code zqcu zqcv (civil_year_p1_G zqd4) := zqcy zqco zq7f zqd1Γ fuel
def zqd6 : zqcq := zqcz zq7f zqd4
theorem zqd7 : SpecOk Tryz.prog 108 (zqcr zqd6) := zqd0 zqco zq7f zqd1Γ zqd4 zqd5
abbrev zqd8 := {β : Type} → Int → Int → (Int → Option β) → Option β
def zqd9 (c : zqd8) : Spec :=
  ⟨[(false, [.data (.int .i64)]), (false, [.data (.int .i64)])], [], [(false, [.data (.int .i64)])], [], fun x k => c x.1.1.1 x.1.2.1.1 (fun r0 => k (((r0, ()), ()), ()))⟩
section
variable (c_civil_Leap : zq7h)
@[reducible] def civil_Days_X : Ctx := ⟨look tab, pick1 [(123, .spec (zq7i c_civil_Leap))], false, false, false, false⟩
def zqda {β : Type} (year month : Int) (k : (Int → Option β)) : Option β :=
  cond (decide (month < 1))
  (k 0)
  (cond (decide (12 < month))
  (k 0)
  (cond (decide (month = 2))
  (c_civil_Leap year (fun rLeap =>
  cond rLeap
  (k 29)
  (cond (decide ((IntKind.i64.wrap (month - 1)) = 0))
  (k 31)
  (cond (decide ((IntKind.i64.wrap (month - 1)) = 1))
  (k 28)
  (cond (decide ((IntKind.i64.wrap (month - 1)) = 2))
  (k 31)
  (cond (decide ((IntKind.i64.wrap (month - 1)) = 3))
  (k 30)
  (cond (decide ((IntKind.i64.wrap (month - 1)) = 4))
  (k 31)
  (cond (decide ((IntKind.i64.wrap (month - 1)) = 5))
  (k 30)
  (cond (decide ((IntKind.i64.wrap (month - 1)) = 6))
  (k 31)
  (cond (decide ((IntKind.i64.wrap (month - 1)) = 7))
  (k 31)
  (cond (decide ((IntKind.i64.wrap (month - 1)) = 8))
  (k 30)
  (cond (decide ((IntKind.i64.wrap (month - 1)) = 9))
  (k 31)
  (cond (decide ((IntKind.i64.wrap (month - 1)) = 10))
  (k 30)
  (cond (decide ((IntKind.i64.wrap (month - 1)) = 11))
  (k 31)
  (none)))))))))))))))
  (cond (decide ((IntKind.i64.wrap (month - 1)) = 0))
  (k 31)
  (cond (decide ((IntKind.i64.wrap (month - 1)) = 1))
  (k 28)
  (cond (decide ((IntKind.i64.wrap (month - 1)) = 2))
  (k 31)
  (cond (decide ((IntKind.i64.wrap (month - 1)) = 3))
  (k 30)
  (cond (decide ((IntKind.i64.wrap (month - 1)) = 4))
  (k 31)
  (cond (decide ((IntKind.i64.wrap (month - 1)) = 5))
  (k 30)
  (cond (decide ((IntKind.i64.wrap (month - 1)) = 6))
  (k 31)
  (cond (decide ((IntKind.i64.wrap (month - 1)) = 7))
  (k 31)
  (cond (decide ((IntKind.i64.wrap (month - 1)) = 8))
  (k 30)
  (cond (decide ((IntKind.i64.wrap (month - 1)) = 9))
  (k 31)
  (cond (decide ((IntKind.i64.wrap (month - 1)) = 10))
  (k 30)
  (cond (decide ((IntKind.i64.wrap (month - 1)) = 11))
  (k 31)
  (none)))))))))))))))
theorem zqdb (hΓ : ΓOk Tryz.prog (civil_Days_X c_civil_Leap).Γ) : SpecOk Tryz.prog 109 (zqd9 (zqda c_civil_Leap)) :=
  spec_exec (X := (civil_Days_X c_civil_Leap)) (Λ := pick1 []) (rs := [.tmp 4]) (c := bodyOf Tryz.f109) mixed tab_ok hΓ Tryz.func109 (by kernel_rfl) (by kernel_rfl) (by kernel_rfl) (by kernel_rfl) CutsOk_nil (fun x k r h => Eq.trans (b := (zqd9 (zqda c_civil_Leap)).run x k) (by kernel_rfl) h)
end
theorem zqdcΓ : ΓOk Tryz.prog (pick1 [(123, .spec (zq7i zq7m))]) := (ΓOk_cons zq7n ΓOk_nil)
def zqdd : zqd8 := zqda zq7m
theorem zqde : SpecOk Tryz.prog 109 (zqd9 zqdd) := zqdb zq7m zqdcΓ
abbrev zqdf := {β : Type} → (List zq2) → (List UInt8) → (Int → (List UInt8) → Option β) → Option β
def zqdg (c : zqdf) : Spec :=
  ⟨[(false, [.data (.slice zq3)]), (false, [.fn 38 [0]])], [.cells 9 [.data .str]], [(false, [.data (.int .i64)])], [.cells 9 [.data .str]], fun x k => c x.1.1.1 x.2.1.1 (fun r0 r1 => k (((r0, ()), ()), ((r1, ()), ())))⟩
noncomputable def slices_IndexFunc_syntax_form_syntax_form_vsyntax_forms_f1_p1_code : Code := codeAt 26 (bodyOf Tryz.f37)
abbrev zqdh (β : Type) := Int → (List UInt8) → Option β
abbrev zqdi (β : Type) := (List UInt8) → Option β
abbrev zqdj := {β : Type} → zqdh β → zqdi β → (List zq2) → Int → Int → (List UInt8) → Option β
def zqdk : View := ⟨1, [0, 1, 7, 8], [(false, [.data  (.slice zq3)]), (false, [.fn 38 [0]]), (false, [.data (.int .i64)]), (false, [.data (.int .i64)])], [.cells 9 [.data .str]]⟩
def zqdl : List  (AExit × View) := [(.ret, ⟨1, [4], [(false, [.data (.int .i64)])], [.cells 9 [.data .str]]⟩), (.exit 0, ⟨1, [], [], [.cells 9 [.data .str]]⟩)]
@[reducible] def slices_IndexFunc_syntax_form_syntax_form_vsyntax_forms_f1_p1_G (p : zqdj) {β : Type} (d : zqdk.den) (ks : Outs.K β zqdl) : Option β :=
  p (fun a0 a1 => ks.1 (((a0, ()), ()), ((a1, ()), ()))) (fun a0 => ks.2.1 ((), ((a0, ()), ()))) d.1.1.1 d.1.2.2.1.1 d.1.2.2.2.1.1 d.2.1.1
section
variable (c_syntax_forms_f1 : zq28)
@[reducible] def slices_IndexFunc_syntax_form_syntax_form_vsyntax_forms_f1_X : Ctx := ⟨look tab, pick1 [(38, .spec (zq29 c_syntax_forms_f1))], false, false, false, false⟩
def zqdm {β : Type} (rec : (List zq2) → Int → Int → (List UInt8) → Option β) (k1 : zqdh β) (k2 : zqdi β) (s : List zq2) (t7 t8 : Int) (b0_ : List UInt8) : Option β :=
  cond (decide (t8 < t7))
  (cond (decide (0 ≤ t8) && decide (t8 < (List.length s : Int)))
  (let e : zq2 := List.getD s (Int.toNat t8) (([] : List UInt8), (([] : List Int), false));
  c_syntax_forms_f1 e b0_ (fun rforms1 mrforms1 =>
  cond rforms1
  (k1 t8 mrforms1)
  (rec s t7 (IntKind.i64.wrap (t8 + 1)) mrforms1)))
  none)
  (k2 b0_)
def zqdn {β : Type} : Nat → zqdh β → zqdi β →  (List zq2) → Int → Int → (List UInt8) → Option β
  | 0 => fun _ _ _ _ _ _ => none
  | i + 1 => fun k1 k2 s t7 t8 b0_ => zqdm c_syntax_forms_f1 (zqdn i k1 k2) k1 k2 s t7 t8 b0_
theorem zqdo (hΓ : ΓOk Tryz.prog (slices_IndexFunc_syntax_form_syntax_form_vsyntax_forms_f1_X c_syntax_forms_f1).Γ) (i : Nat) : PieceOk Tryz.prog 19 1 slices_IndexFunc_syntax_form_syntax_form_vsyntax_forms_f1_p1_code zqdk zqdl (slices_IndexFunc_syntax_form_syntax_form_vsyntax_forms_f1_p1_G (zqdn c_syntax_forms_f1 i)) := by
  rw [show slices_IndexFunc_syntax_form_syntax_form_vsyntax_forms_f1_p1_code = .loop (loopBody slices_IndexFunc_syntax_form_syntax_form_vsyntax_forms_f1_p1_code) by kernel_rfl]
  exact piece_loop (X := (slices_IndexFunc_syntax_form_syntax_form_vsyntax_forms_f1_X c_syntax_forms_f1)) (p := 1) (Λ := pick1 []) (G := fun i => @fun β d ks => slices_IndexFunc_syntax_form_syntax_form_vsyntax_forms_f1_p1_G (zqdn c_syntax_forms_f1 i) d ks) mixed tab_ok hΓ rfl (by kernel_rfl) CutsOk_nil (fun _ _ => rfl) (fun i => @fun β d ks r h => Eq.trans (b := slices_IndexFunc_syntax_form_syntax_form_vsyntax_forms_f1_p1_G (zqdn c_syntax_forms_f1 (i + 1)) d ks) (by kernel_rfl) h) i
def zqdp (p1 : zqdj) {β : Type} (s : List zq2) (b0_ : List UInt8) (k : (Int → (List UInt8) → Option β)) : Option β :=
  p1 (fun t4 b0_2 =>
  k t4 b0_2) (fun b0_2 =>
  k (-1) b0_2) s (List.length s : Int) 0 b0_
theorem zqdq (hΓ : ΓOk Tryz.prog (slices_IndexFunc_syntax_form_syntax_form_vsyntax_forms_f1_X c_syntax_forms_f1).Γ) (p1 : zqdj) (hp1 : PieceOk Tryz.prog 19 1 slices_IndexFunc_syntax_form_syntax_form_vsyntax_forms_f1_p1_code zqdk zqdl (slices_IndexFunc_syntax_form_syntax_form_vsyntax_forms_f1_p1_G p1)) : SpecOk Tryz.prog 37 (zqdg (zqdp p1)) :=
  spec_exec (X := (slices_IndexFunc_syntax_form_syntax_form_vsyntax_forms_f1_X c_syntax_forms_f1)) (Λ := pick1 [(26, pieceCut zqdk zqdl (slices_IndexFunc_syntax_form_syntax_form_vsyntax_forms_f1_p1_G p1))]) (rs := [.tmp 4]) (c := bodyOf Tryz.f37) mixed tab_ok hΓ Tryz.func37 (by kernel_rfl) (by kernel_rfl) (by kernel_rfl) (by kernel_rfl) (CutsOk_cons (q := 26) (c' := slices_IndexFunc_syntax_form_syntax_form_vsyntax_forms_f1_p1_code) (by kernel_rfl) rfl hp1 CutsOk_nil) (fun x k r h => Eq.trans (b := (zqdg (zqdp p1)).run x k) (by kernel_rfl) h)
end
theorem zqdrΓ : ΓOk Tryz.prog (pick1 [(38, .spec (zq29 zq2d))]) := (ΓOk_cons zq2e ΓOk_nil)
def zqds (m : Nat) : zqdj := zqdn zq2d m
theorem zqdt {β : Type} (i : Nat) (k1 k2 s t7 t8 b0_) : (zqds (i + 1) k1 k2 s t7 t8 b0_ : Option β) = zqdm zq2d (zqds i k1 k2) k1 k2 s t7 t8 b0_ := rfl
def zqdu : zqdj := zqds fuel
theorem zqdv : PieceOk Tryz.prog 19 1 slices_IndexFunc_syntax_form_syntax_form_vsyntax_forms_f1_p1_code zqdk zqdl (slices_IndexFunc_syntax_form_syntax_form_vsyntax_forms_f1_p1_G zqdu) := zqdo zq2d zqdrΓ fuel
def zqdw : zqdf := zqdp zqdu
theorem zqdx : SpecOk Tryz.prog 37 (zqdg zqdw) := zqdq zq2d zqdrΓ zqdu zqdv
abbrev zqdy := {β : Type} → (List UInt8) → (Int → Bool → Option β) → Option β
def zqdz (c : zqdy) : Spec :=
  ⟨[(false, [.data .str])], [], [(false, [.data (.int .i64)]), (false, [.data .bool])], [], fun x k => c x.1.1.1 (fun r0 r1 => k (((r0, ()), (r1, ()), ()), ()))⟩
section
variable (c_syntax_index : zq86)
@[reducible] def syntax_Month_X : Ctx := ⟨look tab, pick1 [(27, .spec (zq87 c_syntax_index))], false, false, false, false⟩
def zqe0 {β : Type} (word : List UInt8) (k : (Int → Bool → Option β)) : Option β :=
  c_syntax_index ([106, 97, 110, 32, 102, 101, 98, 32, 109, 97, 114, 32, 97, 112, 114, 32, 109, 97, 121, 32, 106, 117, 110, 32, 106, 117, 108, 32, 97, 117, 103, 32, 115, 101, 112, 32, 111, 99, 116, 32, 110, 111, 118, 32, 100, 101, 99] : List UInt8) word (fun rindex rindex2 =>
  k rindex rindex2)
theorem zqe1 (hΓ : ΓOk Tryz.prog (syntax_Month_X c_syntax_index).Γ) : SpecOk Tryz.prog 13 (zqdz (zqe0 c_syntax_index)) :=
  spec_exec (X := (syntax_Month_X c_syntax_index)) (Λ := pick1 []) (rs := [.tmp 2, .tmp 3]) (c := bodyOf Tryz.f13) mixed tab_ok hΓ Tryz.func13 (by kernel_rfl) (by kernel_rfl) (by kernel_rfl) (by kernel_rfl) CutsOk_nil (fun x k r h => Eq.trans (b := (zqdz (zqe0 c_syntax_index)).run x k) (by kernel_rfl) h)
end
theorem zqe2Γ : ΓOk Tryz.prog (pick1 [(27, .spec (zq87 zq8b))]) := (ΓOk_cons zq8c ΓOk_nil)
def zqe3 : zqdy := zqe0 zq8b
theorem zqe4 : SpecOk Tryz.prog 13 (zqdz zqe3) := zqe1 zq8b zqe2Γ
abbrev zqe5 := {β : Type} → (List UInt8) → (Int → Bool → Option β) → Option β
def zqe6 (c : zqe5) : Spec :=
  ⟨[(false, [.data .str])], [], [(false, [.data (.int .i64)]), (false, [.data .bool])], [], fun x k => c x.1.1.1 (fun r0 r1 => k (((r0, ()), (r1, ()), ()), ()))⟩
section
variable (c_syntax_index : zq86)
@[reducible] def syntax_Weekday_X : Ctx := ⟨look tab, pick1 [(27, .spec (zq87 c_syntax_index))], false, false, false, false⟩
def zqe7 {β : Type} (word : List UInt8) (k : (Int → Bool → Option β)) : Option β :=
  c_syntax_index ([109, 111, 110, 32, 116, 117, 101, 32, 119, 101, 100, 32, 116, 104, 117, 32, 102, 114, 105, 32, 115, 97, 116, 32, 115, 117, 110] : List UInt8) word (fun rindex rindex2 =>
  let t : Int := (if (IntKind.i64.wrap (rindex - 1)) > 0 then (IntKind.i64.wrap (rindex - 1)) else 0);
  k t rindex2)
theorem zqe8 (hΓ : ΓOk Tryz.prog (syntax_Weekday_X c_syntax_index).Γ) : SpecOk Tryz.prog 14 (zqe6 (zqe7 c_syntax_index)) :=
  spec_exec (X := (syntax_Weekday_X c_syntax_index)) (Λ := pick1 []) (rs := [.tmp 2, .tmp 3]) (c := bodyOf Tryz.f14) mixed tab_ok hΓ Tryz.func14 (by kernel_rfl) (by kernel_rfl) (by kernel_rfl) (by kernel_rfl) CutsOk_nil (fun x k r h => Eq.trans (b := (zqe6 (zqe7 c_syntax_index)).run x k) (by kernel_rfl) h)
end
theorem zqe9Γ : ΓOk Tryz.prog (pick1 [(27, .spec (zq87 zq8b))]) := (ΓOk_cons zq8c ΓOk_nil)
def zqea : zqe5 := zqe7 zq8b
theorem zqeb : SpecOk Tryz.prog 14 (zqe6 zqea) := zqe8 zq8b zqe9Γ
abbrev zqec := {β : Type} → (List UInt8) → (zq2 → Bool → Option β) → Option β
def zqed (c : zqec) : Spec :=
  ⟨[(false, [.data .str])], [], [(true, [.data zq3]), (false, [.data .bool])], [], fun x k => c x.1.1.1 (fun r0 r1 => k (((r0, ()), (r1, ()), ()), ()))⟩
section
variable (c_slices_IndexFunc_syntax_form_syntax_form_vsyntax_forms_f1 : zqdf)
@[reducible] def syntax_forms_X : Ctx := ⟨look tab, pick1 [(37, .spec (zqdg c_slices_IndexFunc_syntax_form_syntax_form_vsyntax_forms_f1))], false, false, false, false⟩
def zqee {β : Type} (word : List UInt8) (k : (zq2 → Bool → Option β)) : Option β :=
  let l : List Int := ([0, 4] : List Int);
  let l2 : List Int := ([1, 1, 0, 0, 0, 2, 4] : List Int);
  let l3 : List Int := ([0, 0] : List Int);
  let l4 : List Int := ([0, 2, 0, 2] : List Int);
  let l5 : List Int := ([0, 0] : List Int);
  let l6 : List Int := ([3] : List Int);
  let l7 : List Int := ([0] : List Int);
  let l8 : List Int := ([0, 0, 3, 2, 1, 0] : List Int);
  let l9 : List Int := ([0] : List Int);
  let l10 : List Int := ([0, 2, 0, 2] : List Int);
  let l11 : List Int := ([0] : List Int);
  let l12 : List Int := ([0] : List Int);
  let l13 : List Int := ([0, 5, 5] : List Int);
  let l14 : List Int := ([0, 5, 5] : List Int);
  let l15 : List Int := ([0, 0, 5, 5] : List Int);
  let l16 : List zq2 := ([(([122, 111, 110, 101] : List UInt8), (l, false)), (([114, 117, 108, 101] : List UInt8), (l2, false)), (([112, 101, 114, 115, 111, 110] : List UInt8), (l3, false)), (([113, 117, 105, 101, 116] : List UInt8), (l4, false)), (([99, 97, 108, 101, 110, 100, 97, 114] : List UInt8), (l5, false)), (([100, 97, 121, 115] : List UInt8), (l6, true)), (([115, 99, 104, 101, 100, 117, 108, 101] : List UInt8), (l7, false)), (([108, 97, 121, 101, 114] : List UInt8), (l8, false)), (([109, 101, 109, 98, 101, 114] : List UInt8), (l9, true)), (([111, 110] : List UInt8), (l10, false)), (([110, 111, 116] : List UInt8), (l11, false)), (([111, 110, 108, 121] : List UInt8), (l12, false)), (([108, 101, 97, 118, 101] : List UInt8), (l13, false)), (([111, 118, 101, 114, 114, 105, 100, 101] : List UInt8), (l14, false)), (([115, 119, 97, 112] : List UInt8), (l15, false))] : List zq2);
  c_slices_IndexFunc_syntax_form_syntax_form_vsyntax_forms_f1 l16 word (fun rform mrform =>
  cond (decide (rform < 0))
  (k (([] : List UInt8), (([] : List Int), false)) false)
  (cond (decide (0 ≤ rform) && decide (rform < (List.length l16 : Int)))
  (k ((List.getD l16 (Int.toNat rform) (([] : List UInt8), (([] : List Int), false))).1, ((List.getD l16 (Int.toNat rform) (([] : List UInt8), (([] : List Int), false))).2)) true)
  none))
theorem zqef (hΓ : ΓOk Tryz.prog (syntax_forms_X c_slices_IndexFunc_syntax_form_syntax_form_vsyntax_forms_f1).Γ) : SpecOk Tryz.prog 25 (zqed (zqee c_slices_IndexFunc_syntax_form_syntax_form_vsyntax_forms_f1)) :=
  spec_exec (X := (syntax_forms_X c_slices_IndexFunc_syntax_form_syntax_form_vsyntax_forms_f1)) (Λ := pick1 []) (rs := [.cell 2 64, .tmp 3]) (c := bodyOf Tryz.f25) mixed tab_ok hΓ Tryz.func25 (by kernel_rfl) (by kernel_rfl) (by kernel_rfl) (by kernel_rfl) CutsOk_nil (fun x k r h => Eq.trans (b := (zqed (zqee c_slices_IndexFunc_syntax_form_syntax_form_vsyntax_forms_f1)).run x k) (by kernel_rfl) h)
end
theorem zqegΓ : ΓOk Tryz.prog (pick1 [(37, .spec (zqdg zqdw))]) := (ΓOk_cons zqdx ΓOk_nil)
def zqeh : zqec := zqee zqdw
theorem zqei : SpecOk Tryz.prog 25 (zqed zqeh) := zqef zqdw zqegΓ
abbrev zqej := {β : Type} → (List zq0) → (Bool → Option β) → Option β
def zqek (c : zqej) : Spec :=
  ⟨[(false, [.data (.slice zq1)])], [], [(false, [.data .bool])], [], fun x k => c x.1.1.1 (fun r0 => k (((r0, ()), ()), ()))⟩
noncomputable def ref07_Form_p1_code : Code := codeAt 506 (bodyOf Tryz.f29)
abbrev zqel (β : Type) := Bool → Option β
abbrev zqem (β : Type) := Unit → Option β
abbrev zqen := {β : Type} → zqel β → zqem β → (List zq0) → (List UInt8) → Int → (List (List UInt8 × List UInt8)) → Option β
def zqeo : View := ⟨0, [0, 3, 4, 5], [(false, [.data  (.slice zq1)]), (false, [.data .str]), (false, [.rowh 0]), (false, [.data (.int .i64)])], [.row 87 (.prod .str .str)]⟩
def zqep : List  (AExit × View) := [(.ret, ⟨0, [2], [(false, [.data .bool])], []⟩), (.exit 0, ⟨0, [], [], []⟩)]
@[reducible] def ref07_Form_p1_G (p : zqen) {β : Type} (d : zqeo.den) (ks : Outs.K β zqep) : Option β :=
  p (fun a0 => ks.1 (((a0, ()), ()), ())) (fun _ => ks.2.1 ((), ())) d.1.1.1 d.1.2.1.1 d.1.2.2.2.1.1 d.2.1
section
variable (c_ref07_forms : zq4f) (c_ref07_kinds : zq3w) (c_ref07_many : zq4m) (c_ref07_person : zq8d)
@[reducible] def ref07_Form_X : Ctx := ⟨look tab, pick1 [(45, .spec (zq4g c_ref07_forms)), (44, .spec (zq3x c_ref07_kinds)), (46, .spec (zq4n c_ref07_many)), (43, .spec (zq8e c_ref07_person))], false, false, false, false⟩
def zqeq {β : Type} (rec : (List zq0) → (List UInt8) → Int → (List (List UInt8 × List UInt8)) → Option β) (k1 : zqel β) (k2 : zqem β) (l : List zq0) (k_ : List UInt8) (i_ : Int) (f : List (List UInt8 × List UInt8)) : Option β :=
  cond (decide (i_ < (List.length f : Int)))
  (cond (decide (0 ≤ i_) && decide (i_ < (List.length f : Int)))
  (cond (decide (0 ≤ 0) && decide (0 < (List.length l : Int)))
  (let e : zq0 := List.getD l (Int.toNat 0) (0, (([] : List UInt8), 0));
  cond (decide (((List.getD f (Int.toNat i_) (([] : List UInt8), ([] : List UInt8))).1) = e.2.1))
  (cond (decide (0 ≤ i_) && decide (i_ < (List.length f : Int)))
  (cond (decide (k_ = ((List.getD f (Int.toNat i_) (([] : List UInt8), ([] : List UInt8))).2)))
  (k1 true)
  (cond (decide (0 ≤ i_) && decide (i_ < (List.length f : Int)))
  (cond (decide ((List.length ((List.getD f (Int.toNat i_) (([] : List UInt8), ([] : List UInt8))).2) : Int) = 2))
  (cond (decide (0 ≤ i_) && decide (i_ < (List.length f : Int)))
  (cond (decide (0 ≤ 1) && decide (1 < (List.length ((List.getD f (Int.toNat i_) (([] : List UInt8), ([] : List UInt8))).2) : Int)))
  (cond (decide (((List.getD ((List.getD f (Int.toNat i_) (([] : List UInt8), ([] : List UInt8))).2) (Int.toNat 1) 0).toNat : Int) = 43))
  (cond (decide (0 ≤ i_) && decide (i_ < (List.length f : Int)))
  (cond (decide (0 ≤ 0) && (decide (0 ≤ 1) && decide (1 ≤ (List.length ((List.getD f (Int.toNat i_) (([] : List UInt8), ([] : List UInt8))).2) : Int))))
  (c_ref07_many k_ (List.drop (Int.toNat 0) (List.take (Int.toNat 1) ((List.getD f (Int.toNat i_) (([] : List UInt8), ([] : List UInt8))).2))) (fun rmany =>
  k1 rmany))
  none)
  none)
  (k1 false))
  none)
  none)
  (k1 false))
  none))
  none)
  (let i_2 : Int := (IntKind.i64.wrap (i_ + 1));
  rec l k_ i_2 f))
  none)
  none)
  (k2 ())
def zqer {β : Type} : Nat → zqel β → zqem β →  (List zq0) → (List UInt8) → Int → (List (List UInt8 × List UInt8)) → Option β
  | 0 => fun _ _ _ _ _ _ => none
  | i + 1 => fun k1 k2 l k_ i_ f => zqeq c_ref07_many (zqer i k1 k2) k1 k2 l k_ i_ f
theorem zqes (hΓ : ΓOk Tryz.prog (ref07_Form_X c_ref07_forms c_ref07_kinds c_ref07_many c_ref07_person).Γ) (i : Nat) : PieceOk Tryz.prog 79 0 ref07_Form_p1_code zqeo zqep (ref07_Form_p1_G (zqer c_ref07_many i)) := by
  rw [show ref07_Form_p1_code = .loop (loopBody ref07_Form_p1_code) by kernel_rfl]
  exact piece_loop (X := (ref07_Form_X c_ref07_forms c_ref07_kinds c_ref07_many c_ref07_person)) (p := 1) (Λ := pick1 []) (G := fun i => @fun β d ks => ref07_Form_p1_G (zqer c_ref07_many i) d ks) mixed tab_ok hΓ rfl (by kernel_rfl) CutsOk_nil (fun _ _ => rfl) (fun i => @fun β d ks r h => Eq.trans (b := ref07_Form_p1_G (zqer c_ref07_many (i + 1)) d ks) (by kernel_rfl) h) i
def zqet (p1 : zqen) {β : Type} (l : List zq0) (k : (Bool → Option β)) : Option β :=
  cond (decide ((List.length l : Int) = 0))
  (k false)
  (cond (decide (0 ≤ 0) && decide (0 < (List.length l : Int)))
  (let e : zq0 := List.getD l (Int.toNat 0) (0, (([] : List UInt8), 0));
  cond (!decide (e.1 = 0))
  (k false)
  (cond (decide (0 ≤ 0) && decide (0 < (List.length l : Int)))
  (let e2 : zq0 := List.getD l (Int.toNat 0) (0, (([] : List UInt8), 0));
  cond (decide (e2.2.1 = ([112, 101, 114, 115, 111, 110] : List UInt8)))
  (cond (decide (0 ≤ 1) && (decide (1 ≤ (List.length l : Int)) && decide ((List.length l : Int) ≤ (List.length l : Int))))
  (c_ref07_person (List.drop (Int.toNat 1) (List.take (Int.toNat (List.length l : Int)) l)) (fun rperson =>
  k rperson))
  none)
  (cond (decide (0 ≤ 1) && (decide (1 ≤ (List.length l : Int)) && decide ((List.length l : Int) ≤ (List.length l : Int))))
  (c_ref07_kinds (List.drop (Int.toNat 1) (List.take (Int.toNat (List.length l : Int)) l)) (fun rkinds =>
  c_ref07_forms  (fun lrforms =>
  p1 (fun t2 =>
  k t2) (fun _ =>
  k false) l rkinds 0 lrforms)))
  none))
  none))
  none)
theorem zqeu (hΓ : ΓOk Tryz.prog (ref07_Form_X c_ref07_forms c_ref07_kinds c_ref07_many c_ref07_person).Γ) (p1 : zqen) (hp1 : PieceOk Tryz.prog 79 0 ref07_Form_p1_code zqeo zqep (ref07_Form_p1_G p1)) : SpecOk Tryz.prog 29 (zqek (zqet c_ref07_forms c_ref07_kinds c_ref07_person p1)) :=
  spec_exec (X := (ref07_Form_X c_ref07_forms c_ref07_kinds c_ref07_many c_ref07_person)) (Λ := pick1 [(506, pieceCut zqeo zqep (ref07_Form_p1_G p1))]) (rs := [.tmp 2]) (c := bodyOf Tryz.f29) mixed tab_ok hΓ Tryz.func29 (by kernel_rfl) (by kernel_rfl) (by kernel_rfl) (by kernel_rfl) (CutsOk_cons (q := 506) (c' := ref07_Form_p1_code) (by kernel_rfl) rfl hp1 CutsOk_nil) (fun x k r h => Eq.trans (b := (zqek (zqet c_ref07_forms c_ref07_kinds c_ref07_person p1)).run x k) (by kernel_rfl) h)
end
theorem zqevΓ : ΓOk Tryz.prog (pick1 [(45, .spec (zq4g zq4k)), (44, .spec (zq3x zq4d)), (46, .spec (zq4n zq53)), (43, .spec (zq8e zq8t))]) := (ΓOk_cons zq4l (ΓOk_cons zq4e (ΓOk_cons zq54 (ΓOk_cons zq8u ΓOk_nil))))
def zqew (m : Nat) : zqen := zqer zq53 m
theorem zqex {β : Type} (i : Nat) (k1 k2 l k_ i_ f) : (zqew (i + 1) k1 k2 l k_ i_ f : Option β) = zqeq zq53 (zqew i k1 k2) k1 k2 l k_ i_ f := rfl
def zqey : zqen := zqew fuel
theorem zqez : PieceOk Tryz.prog 79 0 ref07_Form_p1_code zqeo zqep (ref07_Form_p1_G zqey) := zqes zq4k zq4d zq53 zq8t zqevΓ fuel
def zqf0 : zqej := zqet zq4k zq4d zq8t zqey
theorem zqf1 : SpecOk Tryz.prog 29 (zqek zqf0) := zqeu zq4k zq4d zq53 zq8t zqevΓ zqey zqez
abbrev zqf2 := {β : Type} → (List UInt8) → (Int → Bool → Option β) → Option β
def zqf3 (c : zqf2) : Spec :=
  ⟨[(false, [.data .str])], [], [(false, [.data (.int .i64)]), (false, [.data .bool])], [], fun x k => c x.1.1.1 (fun r0 r1 => k (((r0, ()), (r1, ()), ()), ()))⟩
noncomputable def lexer_clock_p1_code : Code := codeAt 250 (bodyOf Tryz.f73)
abbrev zqf4 (β : Type) := Int → Bool → Option β
abbrev zqf5 (β : Type) := Int → Option β
abbrev zqf6 := {β : Type} → zqf4 β → zqf5 β → Int → Int → Int → (List (List UInt8)) → Option β
def zqf7 : View := ⟨0, [5, 23, 24, 25], [(false, [.data  (.int .i64)]), (false, [.rowh 0]), (false, [.data (.int .i64)]), (false, [.data (.int .i64)])], [.row 9 .str]⟩
def zqf8 : List  (AExit × View) := [(.ret, ⟨0, [2, 3], [(false, [.data (.int .i64)]), (false, [.data .bool])], []⟩), (.exit 0, ⟨0, [5], [(false, [.data (.int .i64)])], []⟩)]
@[reducible] def lexer_clock_p1_G (p : zqf6) {β : Type} (d : zqf7.den) (ks : Outs.K β zqf8) : Option β :=
  p (fun a0 a1 => ks.1 (((a0, ()), (a1, ()), ()), ())) (fun a0 => ks.2.1 (((a0, ()), ()), ())) d.1.1.1 d.1.2.2.1.1 d.1.2.2.2.1.1 d.2.1
section
variable (c_lexer_two : zqbe) (c_strings_Split : zq1o)
@[reducible] def lexer_clock_X : Ctx := ⟨look tab, pick1 [(89, .spec (zqbf c_lexer_two)), (19, .spec (zq1p c_strings_Split))], false, true, false, false⟩
def zqf9 {β : Type} (rec : Int → Int → Int → (List (List UInt8)) → Option β) (k1 : zqf4 β) (k2 : zqf5 β) (n t24 t25 : Int) (t23 : List (List UInt8)) : Option β :=
  cond (decide (t25 < t24))
  (cond (decide (0 ≤ t25) && decide (t25 < (List.length t23 : Int)))
  (let x : List UInt8 := (List.getD t23 (Int.toNat t25) ([] : List UInt8));
  c_lexer_two x (fun rtwo rtwo2 =>
  cond (!rtwo2)
  (k1 0 false)
  (cond (decide (0 < t25))
  (cond (decide (59 < rtwo))
  (k1 0 false)
  (let n2 : Int := (IntKind.i64.wrap ((IntKind.i64.wrap (60 * n)) + rtwo));
  rec n2 t24 (IntKind.i64.wrap (t25 + 1)) t23))
  (let n2 : Int := (IntKind.i64.wrap ((IntKind.i64.wrap (60 * n)) + rtwo));
  rec n2 t24 (IntKind.i64.wrap (t25 + 1)) t23))))
  none)
  (k2 n)
def zqfa {β : Type} : Nat → zqf4 β → zqf5 β → Int → Int → Int →  (List (List UInt8)) → Option β
  | 0 => fun _ _ _ _ _ _ => none
  | i + 1 => fun k1 k2 n t24 t25 t23 => zqf9 c_lexer_two (zqfa i k1 k2) k1 k2 n t24 t25 t23
theorem zqfb (hΓ : ΓOk Tryz.prog (lexer_clock_X c_lexer_two c_strings_Split).Γ) (i : Nat) : PieceOk Tryz.prog 53 0 lexer_clock_p1_code zqf7 zqf8 (lexer_clock_p1_G (zqfa c_lexer_two i)) := by
  rw [show lexer_clock_p1_code = .loop (loopBody lexer_clock_p1_code) by kernel_rfl]
  exact piece_loop (X := (lexer_clock_X c_lexer_two c_strings_Split)) (p := 1) (Λ := pick1 []) (G := fun i => @fun β d ks => lexer_clock_p1_G (zqfa c_lexer_two i) d ks) mixed tab_ok hΓ rfl (by kernel_rfl) CutsOk_nil (fun _ _ => rfl) (fun i => @fun β d ks r h => Eq.trans (b := lexer_clock_p1_G (zqfa c_lexer_two (i + 1)) d ks) (by kernel_rfl) h) i
def zqfc (p1 : zqf6) {β : Type} (s : List UInt8) (k : (Int → Bool → Option β)) : Option β :=
  c_strings_Split s ([58] : List UInt8) (fun lrSplit =>
  cond (decide ((List.length lrSplit : Int) < 2))
  (k 0 false)
  (cond (decide (3 < (List.length lrSplit : Int)))
  (k 0 false)
  (let l : List (List UInt8) := ([([48, 48] : List UInt8)] : List (List UInt8));
  cond (decide ((List.length lrSplit + List.length l) * 16 ≤ roomMax))
  (let l2 : List (List UInt8) := (lrSplit ++ l);
  cond (decide (0 ≤ 3) && decide (3 ≤ (List.length l2 : Int)))
  (let l3 : List (List UInt8) := (List.take (Int.toNat 3) l2);
  p1 (fun t2 t3 =>
  k t2 t3) (fun n =>
  let t : Bool := (decide (n ≤ 86400));
  k n t) 0 (List.length l3 : Int) 0 l3)
  none)
  none)))
theorem zqfd (hΓ : ΓOk Tryz.prog (lexer_clock_X c_lexer_two c_strings_Split).Γ) (p1 : zqf6) (hp1 : PieceOk Tryz.prog 53 0 lexer_clock_p1_code zqf7 zqf8 (lexer_clock_p1_G p1)) : SpecOk Tryz.prog 73 (zqf3 (zqfc c_strings_Split p1)) :=
  spec_exec (X := (lexer_clock_X c_lexer_two c_strings_Split)) (Λ := pick1 [(250, pieceCut zqf7 zqf8 (lexer_clock_p1_G p1))]) (rs := [.tmp 2, .tmp 3]) (c := bodyOf Tryz.f73) mixed tab_ok hΓ Tryz.func73 (by kernel_rfl) (by kernel_rfl) (by kernel_rfl) (by kernel_rfl) (CutsOk_cons (q := 250) (c' := lexer_clock_p1_code) (by kernel_rfl) rfl hp1 CutsOk_nil) (fun x k r h => Eq.trans (b := (zqf3 (zqfc c_strings_Split p1)).run x k) (by kernel_rfl) h)
end
theorem zqfeΓ : ΓOk Tryz.prog (pick1 [(89, .spec (zqbf zqbj)), (19, .spec (zq1p zq1q))]) := (ΓOk_cons zqbk (ΓOk_cons zq1r ΓOk_nil))
def zqff (m : Nat) : zqf6 := zqfa zqbj m
theorem zqfg {β : Type} (i : Nat) (k1 k2 n t24 t25 t23) : (zqff (i + 1) k1 k2 n t24 t25 t23 : Option β) = zqf9 zqbj (zqff i k1 k2) k1 k2 n t24 t25 t23 := rfl
def zqfh : zqf6 := zqff fuel
theorem zqfi : PieceOk Tryz.prog 53 0 lexer_clock_p1_code zqf7 zqf8 (lexer_clock_p1_G zqfh) := zqfb zqbj zq1q zqfeΓ fuel
def zqfj : zqf2 := zqfc zq1q zqfh
theorem zqfk : SpecOk Tryz.prog 73 (zqf3 zqfj) := zqfd zqbj zq1q zqfeΓ zqfh zqfi
abbrev zqfl := {β : Type} → Int → Bool → ((List UInt8) → Option β) → Option β
def zqfm (c : zqfl) : Spec :=
  ⟨[(false, [.data (.int .i64)]), (false, [.data .bool])], [], [(false, [.data .str])], [], fun x k => c x.1.1.1 x.1.2.1.1 (fun r0 => k (((r0, ()), ()), ()))⟩
section
variable (c_lexer_digits : zqbl)
@[reducible] def lexer_hours_X : Ctx := ⟨look tab, pick1 [(93, .spec (zqbm c_lexer_digits))], false, false, false, false⟩
def zqfn {β : Type} (n : Int) (seconds : Bool) (k : ((List UInt8) → Option β)) : Option β :=
  cond (!decide (3600 = 0))
  (c_lexer_digits (IntKind.i64.wrap (Int.tdiv n 3600)) 2 (fun rdigits =>
  cond (decide (List.length rdigits + List.length ([58] : List UInt8) ≤ 9223372036854775807))
  (cond (!decide (60 = 0))
  (cond (!decide (60 = 0))
  (c_lexer_digits (Int.tmod (IntKind.i64.wrap (Int.tdiv n 60)) 60) 2 (fun rdigits2 =>
  cond (decide (List.length (rdigits ++ ([58] : List UInt8)) + List.length rdigits2 ≤ 9223372036854775807))
  (let s : List UInt8 := ((rdigits ++ ([58] : List UInt8)) ++ rdigits2);
  cond seconds
  (cond (!decide (60 = 0))
  (c_lexer_digits (Int.tmod n 60) 2 (fun rdigits3 =>
  cond (decide (List.length ([58] : List UInt8) + List.length rdigits3 ≤ 9223372036854775807))
  (cond (decide (List.length s + List.length (([58] : List UInt8) ++ rdigits3) ≤ 9223372036854775807))
  (let s2 : List UInt8 := (s ++ (([58] : List UInt8) ++ rdigits3));
  k s2)
  none)
  none))
  none)
  (k s))
  none))
  none)
  none)
  none))
  none
theorem zqfo (hΓ : ΓOk Tryz.prog (lexer_hours_X c_lexer_digits).Γ) : SpecOk Tryz.prog 77 (zqfm (zqfn c_lexer_digits)) :=
  spec_exec (X := (lexer_hours_X c_lexer_digits)) (Λ := pick1 []) (rs := [.tmp 4]) (c := bodyOf Tryz.f77) mixed tab_ok hΓ Tryz.func77 (by kernel_rfl) (by kernel_rfl) (by kernel_rfl) (by kernel_rfl) CutsOk_nil (fun x k r h => Eq.trans (b := (zqfm (zqfn c_lexer_digits)).run x k) (by kernel_rfl) h)
end
theorem zqfpΓ : ΓOk Tryz.prog (pick1 [(93, .spec (zqbm zqbq))]) := (ΓOk_cons zqbr ΓOk_nil)
def zqfq : zqfl := zqfn zqbq
theorem zqfr : SpecOk Tryz.prog 77 (zqfm zqfq) := zqfo zqbq zqfpΓ
abbrev zqfs := {β : Type} → Int → ((Int × (Int × Int)) → Int → Option β) → Option β
def zqft (c : zqfs) : Spec :=
  ⟨[(false, [.data (.int .i64)])], [], [(true, [.data (.prod (.int .i64) (.prod (.int .i64) (.int .i64)))]), (false, [.data (.int .i64)])], [], fun x k => c x.1.1.1 (fun r0 r1 => k (((r0, ()), (r1, ()), ()), ()))⟩
noncomputable def civil_DateOf_p1_code : Code := codeAt 124 (bodyOf Tryz.f94)
abbrev zqfu (β : Type) := Int → Int → Int → Int → Int → Int → Int → Option β
abbrev zqfv := {β : Type} → zqfu β → Int → Int → Int → Int → Int → Int → Int → Option β
def zqfw : View := ⟨0, [2, 4, 5], [(false, [.ptr 0 0]),  (false, [.ptr 1 0]), (false, [.data (.int .i64)])], [.cells 120 [.data (.int .i64), .data (.int .i64), .data (.int .i64)], .cells 120 [.data (.int .i64), .data (.int .i64), .data (.int .i64)]]⟩
def zqfx : List  (AExit × View) := [(.exit 0, ⟨0, [2, 4, 5], [(false, [.ptr 0 0]), (false, [.ptr 1 0]), (false, [.data (.int .i64)])], [.cells 120 [.data (.int .i64), .data (.int .i64), .data (.int .i64)], .cells 120 [.data (.int .i64), .data (.int .i64), .data (.int .i64)]]⟩)]
@[reducible] def civil_DateOf_p1_G (p : zqfv) {β : Type} (d : zqfw.den) (ks : Outs.K β zqfx) : Option β :=
  p (fun a0 a1 a2 a3 a4 a5 a6 => ks.1 (((), (), (a0, ()), ()), ((a1, a2, a3, ()), (a4, a5, a6, ()), ()))) d.1.2.2.1.1 d.2.1.1 d.2.1.2.1 d.2.1.2.2.1 d.2.2.1.1 d.2.2.1.2.1 d.2.2.1.2.2.1
section
variable (c_civil_Days : zqd8) (c_civil_count : zqcj) (c_civil_year : zqcq)
@[reducible] def civil_DateOf_X : Ctx := ⟨look tab, pick1 [(109, .spec (zqd9 c_civil_Days)), (107, .spec (zqck c_civil_count)), (108, .spec (zqcr c_civil_year))], false, false, false, false⟩
def zqfy {β : Type} (rec : Int → Int → Int → Int → Int → Int → Int → Option β) (k1 : zqfu β) (rest t2 t22 t23 d d2 d3 : Int) : Option β :=
  c_civil_Days d d2 (fun rDays =>
  cond (decide (rDays ≤ rest))
  (c_civil_Days d d2 (fun rDays2 =>
  let rest2 : Int := (IntKind.i64.wrap (rest - rDays2));
  rec rest2 t2 t22 t23 d (IntKind.i64.wrap (d2 + 1)) d3))
  (k1 rest t2 t22 t23 d d2 d3))
def zqfz {β : Type} : Nat → zqfu β → Int → Int → Int → Int → Int → Int → Int → Option β
  | 0 => fun _ _ _ _ _ _ _ _ => none
  | i + 1 => fun k1 rest t2 t22 t23 d d2 d3 => zqfy c_civil_Days (zqfz i k1) k1 rest t2 t22 t23 d d2 d3
theorem zqg0 (hΓ : ΓOk Tryz.prog (civil_DateOf_X c_civil_Days c_civil_count c_civil_year).Γ) (i : Nat) : PieceOk Tryz.prog 45 0 civil_DateOf_p1_code zqfw zqfx (civil_DateOf_p1_G (zqfz c_civil_Days i)) := by
  rw [show civil_DateOf_p1_code = .loop (loopBody civil_DateOf_p1_code) by kernel_rfl]
  exact piece_loop (X := (civil_DateOf_X c_civil_Days c_civil_count c_civil_year)) (p := 1) (Λ := pick1 []) (G := fun i => @fun β d ks => civil_DateOf_p1_G (zqfz c_civil_Days i) d ks) mixed tab_ok hΓ rfl (by kernel_rfl) CutsOk_nil (fun _ _ => rfl) (fun i => @fun β d ks r h => Eq.trans (b := civil_DateOf_p1_G (zqfz c_civil_Days (i + 1)) d ks) (by kernel_rfl) h) i
def zqg1 (p1 : zqfv) {β : Type} (day : Int) (k : ((Int × (Int × Int)) → Int → Option β)) : Option β :=
  c_civil_count 1970 (fun rcount =>
  cond (decide (day < rcount))
  (k (0, (0, 0)) 1)
  (c_civil_count 2241 (fun rcount2 =>
  cond (decide (rcount2 ≤ day))
  (k (0, (0, 0)) 1)
  (c_civil_year day (fun ryear =>
  c_civil_count ryear (fun rcount3 =>
  let rest : Int := (IntKind.i64.wrap (day - rcount3));
  p1 (fun rest2 t2 t22 t23 d d2 d3 =>
  k (d, (d2, (IntKind.i64.wrap (rest2 + 1)))) 0) rest 0 0 0 ryear 1 0))))))
theorem zqg2 (hΓ : ΓOk Tryz.prog (civil_DateOf_X c_civil_Days c_civil_count c_civil_year).Γ) (p1 : zqfv) (hp1 : PieceOk Tryz.prog 45 0 civil_DateOf_p1_code zqfw zqfx (civil_DateOf_p1_G p1)) : SpecOk Tryz.prog 94 (zqft (zqg1 c_civil_count c_civil_year p1)) :=
  spec_exec (X := (civil_DateOf_X c_civil_Days c_civil_count c_civil_year)) (Λ := pick1 [(124, pieceCut zqfw zqfx (civil_DateOf_p1_G p1))]) (rs := [.cell 2 120, .tmp 3]) (c := bodyOf Tryz.f94) mixed tab_ok hΓ Tryz.func94 (by kernel_rfl) (by kernel_rfl) (by kernel_rfl) (by kernel_rfl) (CutsOk_cons (q := 124) (c' := civil_DateOf_p1_code) (by kernel_rfl) rfl hp1 CutsOk_nil) (fun x k r h => Eq.trans (b := (zqft (zqg1 c_civil_count c_civil_year p1)).run x k) (by kernel_rfl) h)
end
theorem zqg3Γ : ΓOk Tryz.prog (pick1 [(109, .spec (zqd9 zqdd)), (107, .spec (zqck zqco)), (108, .spec (zqcr zqd6))]) := (ΓOk_cons zqde (ΓOk_cons zqcp (ΓOk_cons zqd7 ΓOk_nil)))
def zqg4 (m : Nat) : zqfv := zqfz zqdd m
theorem zqg5 {β : Type} (i : Nat) (k1 rest t2 t22 t23 d d2 d3) : (zqg4 (i + 1) k1 rest t2 t22 t23 d d2 d3 : Option β) = zqfy zqdd (zqg4 i k1) k1 rest t2 t22 t23 d d2 d3 := rfl
def zqg6 : zqfv := zqg4 fuel
theorem zqg7 : PieceOk Tryz.prog 45 0 civil_DateOf_p1_code zqfw zqfx (civil_DateOf_p1_G zqg6) := zqg0 zqdd zqco zqd6 zqg3Γ fuel
def zqg8 : zqfs := zqg1 zqco zqd6 zqg6
theorem zqg9 : SpecOk Tryz.prog 94 (zqft zqg8) := zqg2 zqdd zqco zqd6 zqg3Γ zqg6 zqg7
abbrev zqga := {β : Type} → (Int × (Int × Int)) → (Bool → Option β) → Option β
def zqgb (c : zqga) : Spec :=
  ⟨[(true, [.data (.prod (.int .i64) (.prod (.int .i64) (.int .i64)))])], [], [(false, [.data .bool])], [], fun x k => c x.1.1.1 (fun r0 => k (((r0, ()), ()), ()))⟩
section
variable (c_ref01_Days : zqbs)
@[reducible] def ref01_Valid_X : Ctx := ⟨look tab, pick1 [(98, .spec (zqbt c_ref01_Days))], false, false, false, false⟩
def zqgc {β : Type} (d : (Int × (Int × Int))) (k : (Bool → Option β)) : Option β :=
  cond (decide (1970 ≤ d.1))
  (cond (decide (d.1 ≤ 2240))
  (cond (decide (1 ≤ d.2.1))
  (cond (decide (d.2.1 ≤ 12))
  (cond (decide (1 ≤ d.2.2))
  (c_ref01_Days d.1 d.2.1 (fun rDays =>
  k (decide (d.2.2 ≤ rDays))))
  (k false))
  (k false))
  (k false))
  (k false))
  (k false)
theorem zqgd (hΓ : ΓOk Tryz.prog (ref01_Valid_X c_ref01_Days).Γ) : SpecOk Tryz.prog 96 (zqgb (zqgc c_ref01_Days)) :=
  spec_exec (X := (ref01_Valid_X c_ref01_Days)) (Λ := pick1 []) (rs := [.tmp 2]) (c := bodyOf Tryz.f96) mixed tab_ok hΓ Tryz.func96 (by kernel_rfl) (by kernel_rfl) (by kernel_rfl) (by kernel_rfl) CutsOk_nil (fun x k r h => Eq.trans (b := (zqgb (zqgc c_ref01_Days)).run x k) (by kernel_rfl) h)
end
theorem zqgeΓ : ΓOk Tryz.prog (pick1 [(98, .spec (zqbt zqch))]) := (ΓOk_cons zqci ΓOk_nil)
def zqgf : zqga := zqgc zqch
theorem zqgg : SpecOk Tryz.prog 96 (zqgb zqgf) := zqgd zqch zqgeΓ
abbrev zqgh := {β : Type} → (Int × (Int × Int)) → (Bool → Option β) → Option β
def zqgi (c : zqgh) : Spec :=
  ⟨[(true, [.data (.prod (.int .i64) (.prod (.int .i64) (.int .i64)))])], [], [(false, [.data .bool])], [], fun x k => c x.1.1.1 (fun r0 => k (((r0, ()), ()), ()))⟩
section
variable (c_civil_Days : zqd8)
@[reducible] def civil_Valid_X : Ctx := ⟨look tab, pick1 [(109, .spec (zqd9 c_civil_Days))], false, false, false, false⟩
def zqgj {β : Type} (d : (Int × (Int × Int))) (k : (Bool → Option β)) : Option β :=
  cond (decide (1970 ≤ d.1))
  (cond (decide (d.1 ≤ 2240))
  (cond (decide (1 ≤ d.2.2))
  (c_civil_Days d.1 d.2.1 (fun rDays =>
  k (decide (d.2.2 ≤ rDays))))
  (k false))
  (k false))
  (k false)
theorem zqgk (hΓ : ΓOk Tryz.prog (civil_Valid_X c_civil_Days).Γ) : SpecOk Tryz.prog 101 (zqgi (zqgj c_civil_Days)) :=
  spec_exec (X := (civil_Valid_X c_civil_Days)) (Λ := pick1 []) (rs := [.tmp 2]) (c := bodyOf Tryz.f101) mixed tab_ok hΓ Tryz.func101 (by kernel_rfl) (by kernel_rfl) (by kernel_rfl) (by kernel_rfl) CutsOk_nil (fun x k r h => Eq.trans (b := (zqgi (zqgj c_civil_Days)).run x k) (by kernel_rfl) h)
end
theorem zqglΓ : ΓOk Tryz.prog (pick1 [(109, .spec (zqd9 zqdd))]) := (ΓOk_cons zqde ΓOk_nil)
def zqgm : zqgh := zqgj zqdd
theorem zqgn : SpecOk Tryz.prog 101 (zqgi zqgm) := zqgk zqdd zqglΓ
abbrev zqgo := {β : Type} → (Int × (Int × Int)) → (Int → Option β) → Option β
def zqgp (c : zqgo) : Spec :=
  ⟨[(true, [.data (.prod (.int .i64) (.prod (.int .i64) (.int .i64)))])], [], [(false, [.data (.int .i64)])], [], fun x k => c x.1.1.1 (fun r0 => k (((r0, ()), ()), ()))⟩
noncomputable def civil_number_p1_code : Code := codeAt 58 (bodyOf Tryz.f102)
abbrev zqgq (β : Type) := Int → Option β
abbrev zqgr := {β : Type} → zqgq β → Int → Int → Int → Int → Int → Option β
def zqgs : View := ⟨0, [1, 3, 4], [(false, [.ptr 0 0]),  (false, [.data (.int .i64)]), (false, [.data (.int .i64)])], [.cells 120 [.data (.int .i64), .data (.int .i64), .data (.int .i64)]]⟩
def zqgt : List  (AExit × View) := [(.exit 0, ⟨0, [3], [(false, [.data (.int .i64)])], []⟩)]
@[reducible] def civil_number_p1_G (p : zqgr) {β : Type} (d : zqgs.den) (ks : Outs.K β zqgt) : Option β :=
  p (fun a0 => ks.1 (((a0, ()), ()), ())) d.1.2.1.1 d.1.2.2.1.1 d.2.1.1 d.2.1.2.1 d.2.1.2.2.1
section
variable (c_civil_Days : zqd8) (c_civil_count : zqcj)
@[reducible] def civil_number_X : Ctx := ⟨look tab, pick1 [(109, .spec (zqd9 c_civil_Days)), (107, .spec (zqck c_civil_count))], false, false, false, false⟩
def zqgu {β : Type} (rec : Int → Int → Int → Int → Int → Option β) (k1 : zqgq β) (n m d d2 d3 : Int) : Option β :=
  cond (decide (m < d2))
  (c_civil_Days d m (fun rDays =>
  let n2 : Int := (IntKind.i64.wrap (n + rDays));
  let m2 : Int := (IntKind.i64.wrap (m + 1));
  rec n2 m2 d d2 d3))
  (k1 n)
def zqgv {β : Type} : Nat → zqgq β → Int → Int → Int → Int → Int → Option β
  | 0 => fun _ _ _ _ _ _ => none
  | i + 1 => fun k1 n m d d2 d3 => zqgu c_civil_Days (zqgv i k1) k1 n m d d2 d3
theorem zqgw (hΓ : ΓOk Tryz.prog (civil_number_X c_civil_Days c_civil_count).Γ) (i : Nat) : PieceOk Tryz.prog 25 0 civil_number_p1_code zqgs zqgt (civil_number_p1_G (zqgv c_civil_Days i)) := by
  rw [show civil_number_p1_code = .loop (loopBody civil_number_p1_code) by kernel_rfl]
  exact piece_loop (X := (civil_number_X c_civil_Days c_civil_count)) (p := 1) (Λ := pick1 []) (G := fun i => @fun β d ks => civil_number_p1_G (zqgv c_civil_Days i) d ks) mixed tab_ok hΓ rfl (by kernel_rfl) CutsOk_nil (fun _ _ => rfl) (fun i => @fun β d ks r h => Eq.trans (b := civil_number_p1_G (zqgv c_civil_Days (i + 1)) d ks) (by kernel_rfl) h) i
def zqgx (p1 : zqgr) {β : Type} (d : (Int × (Int × Int))) (k : (Int → Option β)) : Option β :=
  c_civil_count d.1 (fun rcount =>
  let n : Int := (IntKind.i64.wrap ((IntKind.i64.wrap (rcount + d.2.2)) - 1));
  p1 (fun n2 =>
  k n2) n 1 d.1 d.2.1 d.2.2)
theorem zqgy (hΓ : ΓOk Tryz.prog (civil_number_X c_civil_Days c_civil_count).Γ) (p1 : zqgr) (hp1 : PieceOk Tryz.prog 25 0 civil_number_p1_code zqgs zqgt (civil_number_p1_G p1)) : SpecOk Tryz.prog 102 (zqgp (zqgx c_civil_count p1)) :=
  spec_exec (X := (civil_number_X c_civil_Days c_civil_count)) (Λ := pick1 [(58, pieceCut zqgs zqgt (civil_number_p1_G p1))]) (rs := [.tmp 2]) (c := bodyOf Tryz.f102) mixed tab_ok hΓ Tryz.func102 (by kernel_rfl) (by kernel_rfl) (by kernel_rfl) (by kernel_rfl) (CutsOk_cons (q := 58) (c' := civil_number_p1_code) (by kernel_rfl) rfl hp1 CutsOk_nil) (fun x k r h => Eq.trans (b := (zqgp (zqgx c_civil_count p1)).run x k) (by kernel_rfl) h)
end
theorem zqgzΓ : ΓOk Tryz.prog (pick1 [(109, .spec (zqd9 zqdd)), (107, .spec (zqck zqco))]) := (ΓOk_cons zqde (ΓOk_cons zqcp ΓOk_nil))
def zqh0 (m : Nat) : zqgr := zqgv zqdd m
theorem zqh1 {β : Type} (i : Nat) (k1 n m d d2 d3) : (zqh0 (i + 1) k1 n m d d2 d3 : Option β) = zqgu zqdd (zqh0 i k1) k1 n m d d2 d3 := rfl
def zqh2 : zqgr := zqh0 fuel
theorem zqh3 : PieceOk Tryz.prog 25 0 civil_number_p1_code zqgs zqgt (civil_number_p1_G zqh2) := zqgw zqdd zqco zqgzΓ fuel
def zqh4 : zqgo := zqgx zqco zqh2
theorem zqh5 : SpecOk Tryz.prog 102 (zqgp zqh4) := zqgy zqdd zqco zqgzΓ zqh2 zqh3
abbrev zqh6 := {β : Type} → (List zq0) → (Bool → Option β) → Option β
def zqh7 (c : zqh6) : Spec :=
  ⟨[(false, [.data (.slice zq1)])], [], [(false, [.data .bool])], [], fun x k => c x.1.1.1 (fun r0 => k (((r0, ()), ()), ()))⟩
noncomputable def syntax_Form_p1_code : Code := codeAt 1018 (bodyOf Tryz.f12)
noncomputable def syntax_Form_p2_code : Code := codeAt 127 (bodyOf Tryz.f12)
noncomputable def syntax_Form_p3_code : Code := codeAt 63 (bodyOf Tryz.f12)
abbrev zqh8 (β : Type) := Bool → Option β
abbrev zqh9 (β : Type) := Unit → Option β
abbrev zqha := {β : Type} → zqh8 β → zqh9 β → (List zq0) → Int → Int → (List UInt8) → (List Int) → Bool → Option β
def zqhb : View := ⟨0, [3, 59, 60, 61], [(false, [.ptr 0 0]),  (false, [.data (.slice zq1)]), (false, [.data (.int .i64)]), (false, [.data (.int .i64)])], [.cells 64 [.data .str, .data (.slice (.int .i64)), .data .bool]]⟩
def zqhc : List  (AExit × View) := [(.ret, ⟨0, [2], [(false, [.data .bool])], []⟩), (.exit 0, ⟨0, [], [], []⟩)]
@[reducible] def syntax_Form_p1_G (p : zqha) {β : Type} (d : zqhb.den) (ks : Outs.K β zqhc) : Option β :=
  p (fun a0 => ks.1 (((a0, ()), ()), ())) (fun _ => ks.2.1 ((), ())) d.1.2.1.1 d.1.2.2.1.1 d.1.2.2.2.1.1 d.2.1.1 d.2.1.2.1 d.2.1.2.2.1
abbrev zqhd (β : Type) := Bool → Option β
abbrev zqhe := {β : Type} → zqhd β → (List zq0) → (List UInt8) → (List Int) → Bool → Option β
def zqhf : View := ⟨0, [0, 3], [(false, [.data  (.slice zq1)]), (false, [.ptr 0 0])], [.cells 64 [.data .str, .data (.slice (.int .i64)), .data .bool]]⟩
def zqhg : List  (AExit × View) := [(.ret, ⟨0, [2], [(false, [.data .bool])], []⟩)]
@[reducible] def syntax_Form_p2_G (p : zqhe) {β : Type} (d : zqhf.den) (ks : Outs.K β zqhg) : Option β :=
  p (fun a0 => ks.1 (((a0, ()), ()), ())) d.1.1.1 d.2.1.1 d.2.1.2.1 d.2.1.2.2.1
abbrev zqhh (β : Type) := Bool → Option β
abbrev zqhi := {β : Type} → zqhh β → (List zq0) → (List UInt8) → (List Int) → Bool → Option β
def zqhj : View := ⟨0, [0, 3], [(false, [.data  (.slice zq1)]), (false, [.ptr 0 0])], [.cells 64 [.data .str, .data (.slice (.int .i64)), .data .bool]]⟩
def zqhk : List  (AExit × View) := [(.ret, ⟨0, [2], [(false, [.data .bool])], []⟩)]
@[reducible] def syntax_Form_p3_G (p : zqhi) {β : Type} (d : zqhj.den) (ks : Outs.K β zqhk) : Option β :=
  p (fun a0 => ks.1 (((a0, ()), ()), ())) d.1.1.1 d.2.1.1 d.2.1.2.1 d.2.1.2.2.1
section
variable (c_syntax_forms : zqec) (c_syntax_options : zq7o)
@[reducible] def syntax_Form_X : Ctx := ⟨look tab, pick1 [(25, .spec (zqed c_syntax_forms)), (26, .spec (zq7p c_syntax_options))], false, false, false, false⟩
def zqhl {β : Type} (rec : (List zq0) → Int → Int → (List UInt8) → (List Int) → Bool → Option β) (k1 : zqh8 β) (k2 : zqh9 β) (t59 : List zq0) (t60 t61 : Int) (f : List UInt8) (f2 : List Int) (f3 : Bool) : Option β :=
  cond (decide (t61 < t60))
  (cond (decide (0 ≤ t61) && decide (t61 < (List.length t59 : Int)))
  (let e : zq0 := List.getD t59 (Int.toNat t61) (0, (([] : List UInt8), 0));
  cond (decide (0 ≤ (if (IntKind.i64.wrap ((List.length f2 : Int) - 1)) < t61 then (IntKind.i64.wrap ((List.length f2 : Int) - 1)) else t61)) && decide ((if (IntKind.i64.wrap ((List.length f2 : Int) - 1)) < t61 then (IntKind.i64.wrap ((List.length f2 : Int) - 1)) else t61) < (List.length f2 : Int)))
  (let e2 : Int := List.getD f2 (Int.toNat (if (IntKind.i64.wrap ((List.length f2 : Int) - 1)) < t61 then (IntKind.i64.wrap ((List.length f2 : Int) - 1)) else t61)) 0;
  cond (!decide (e.1 = e2))
  (k1 false)
  (rec t59 t60 (IntKind.i64.wrap (t61 + 1)) f f2 f3))
  none)
  none)
  (k2 ())
def zqhm {β : Type} : Nat → zqh8 β → zqh9 β →  (List zq0) → Int → Int → (List UInt8) → (List Int) → Bool → Option β
  | 0 => fun _ _ _ _ _ _ _ _ => none
  | i + 1 => fun k1 k2 t59 t60 t61 f f2 f3 => zqhl (zqhm i k1 k2) k1 k2 t59 t60 t61 f f2 f3
theorem zqhn (hΓ : ΓOk Tryz.prog (syntax_Form_X c_syntax_forms c_syntax_options).Γ) (i : Nat) : PieceOk Tryz.prog 80 0 syntax_Form_p1_code zqhb zqhc (syntax_Form_p1_G (zqhm i)) := by
  rw [show syntax_Form_p1_code = .loop (loopBody syntax_Form_p1_code) by kernel_rfl]
  exact piece_loop (X := (syntax_Form_X c_syntax_forms c_syntax_options)) (p := 1) (Λ := pick1 []) (G := fun i => @fun β d ks => syntax_Form_p1_G (zqhm i) d ks) mixed tab_ok hΓ rfl (by kernel_rfl) CutsOk_nil (fun _ _ => rfl) (fun i => @fun β d ks r h => Eq.trans (b := syntax_Form_p1_G (zqhm (i + 1)) d ks) (by kernel_rfl) h) i
def zqho (p1 : zqha) {β : Type} (k1 : zqhd β) (l : List zq0) (f : List UInt8) (f2 : List Int) (f3 : Bool) : Option β :=
  cond (decide (0 ≤ 1) && (decide (1 ≤ (List.length l : Int)) && decide ((List.length l : Int) ≤ (List.length l : Int))))
  (p1 (fun t2 =>
  k1 t2) (fun _ =>
  k1 true) (List.drop (Int.toNat 1) (List.take (Int.toNat (List.length l : Int)) l)) (List.length (List.drop (Int.toNat 1) (List.take (Int.toNat (List.length l : Int)) l)) : Int) 0 f f2 f3)
  none
def zqhp (p1 : zqha) {β : Type} (k1 : zqhd β) (l : List zq0) (f : List UInt8) (f2 : List Int) (f3 : Bool) : Option β := zqho p1 k1 l f f2 f3
theorem zqhq (hΓ : ΓOk Tryz.prog (syntax_Form_X c_syntax_forms c_syntax_options).Γ) (p1 : zqha) (hp1 : PieceOk Tryz.prog 80 0 syntax_Form_p1_code zqhb zqhc (syntax_Form_p1_G p1)) : PieceOk Tryz.prog 80 0 syntax_Form_p2_code zqhf zqhg (syntax_Form_p2_G (zqhp p1)) :=
  piece_exec (X := (syntax_Form_X c_syntax_forms c_syntax_options)) (p := 127) (Λ := pick1 [(1018, pieceCut zqhb zqhc (syntax_Form_p1_G p1))]) mixed tab_ok hΓ (by kernel_rfl) (CutsOk_cons (q := 1018) (c' := syntax_Form_p1_code) (by kernel_rfl) rfl hp1 CutsOk_nil) (fun d ks r h => Eq.trans (b := syntax_Form_p2_G (zqhp p1) d ks) (by kernel_rfl) h)
def zqhr (p2 : zqhe) {β : Type} (k1 : zqhh β) (l : List zq0) (f : List UInt8) (f2 : List Int) (f3 : Bool) : Option β :=
  cond (decide ((IntKind.i64.wrap ((List.length l : Int) - 1)) < (List.length f2 : Int)))
  (k1 false)
  (cond (decide ((List.length f2 : Int) < (IntKind.i64.wrap ((List.length l : Int) - 1))))
  (cond (!f3)
  (k1 false)
  (p2 (fun t2 =>
  k1 t2) l f f2 f3))
  (p2 (fun t2 =>
  k1 t2) l f f2 f3))
def zqhs (p2 : zqhe) {β : Type} (k1 : zqhh β) (l : List zq0) (f : List UInt8) (f2 : List Int) (f3 : Bool) : Option β := zqhr p2 k1 l f f2 f3
theorem zqht (hΓ : ΓOk Tryz.prog (syntax_Form_X c_syntax_forms c_syntax_options).Γ) (p2 : zqhe) (hp2 : PieceOk Tryz.prog 80 0 syntax_Form_p2_code zqhf zqhg (syntax_Form_p2_G p2)) : PieceOk Tryz.prog 80 0 syntax_Form_p3_code zqhj zqhk (syntax_Form_p3_G (zqhs p2)) :=
  piece_exec (X := (syntax_Form_X c_syntax_forms c_syntax_options)) (p := 63) (Λ := pick1 [(127, pieceCut zqhf zqhg (syntax_Form_p2_G p2))]) mixed tab_ok hΓ (by kernel_rfl) (CutsOk_cons (q := 127) (c' := syntax_Form_p2_code) (by kernel_rfl) rfl hp2 CutsOk_nil) (fun d ks r h => Eq.trans (b := syntax_Form_p3_G (zqhs p2) d ks) (by kernel_rfl) h)
def zqhu (p3 : zqhi) {β : Type} (l : List zq0) (k : (Bool → Option β)) : Option β :=
  cond (decide ((List.length l : Int) = 0))
  (k false)
  (cond (decide (0 ≤ 0) && decide (0 < (List.length l : Int)))
  (let e : zq0 := List.getD l (Int.toNat 0) (0, (([] : List UInt8), 0));
  cond (!decide (e.1 = 0))
  (k false)
  (cond (decide (0 ≤ 0) && decide (0 < (List.length l : Int)))
  (let e2 : zq0 := List.getD l (Int.toNat 0) (0, (([] : List UInt8), 0));
  c_syntax_forms e2.2.1 (fun rforms rforms2 =>
  cond (!rforms2)
  (k false)
  (cond (decide (rforms.1 = ([112, 101, 114, 115, 111, 110] : List UInt8)))
  (c_syntax_options l (fun roptions roptions2 =>
  cond (!roptions2)
  (k false)
  (p3 (fun t2 =>
  k t2) roptions rforms.1 rforms.2.1 rforms.2.2)))
  (p3 (fun t2 =>
  k t2) l rforms.1 rforms.2.1 rforms.2.2))))
  none))
  none)
theorem zqhv (hΓ : ΓOk Tryz.prog (syntax_Form_X c_syntax_forms c_syntax_options).Γ) (p3 : zqhi) (hp3 : PieceOk Tryz.prog 80 0 syntax_Form_p3_code zqhj zqhk (syntax_Form_p3_G p3)) : SpecOk Tryz.prog 12 (zqh7 (zqhu c_syntax_forms c_syntax_options p3)) :=
  spec_exec (X := (syntax_Form_X c_syntax_forms c_syntax_options)) (Λ := pick1 [(63, pieceCut zqhj zqhk (syntax_Form_p3_G p3))]) (rs := [.tmp 2]) (c := bodyOf Tryz.f12) mixed tab_ok hΓ Tryz.func12 (by kernel_rfl) (by kernel_rfl) (by kernel_rfl) (by kernel_rfl) (CutsOk_cons (q := 63) (c' := syntax_Form_p3_code) (by kernel_rfl) rfl hp3 CutsOk_nil) (fun x k r h => Eq.trans (b := (zqh7 (zqhu c_syntax_forms c_syntax_options p3)).run x k) (by kernel_rfl) h)
end
theorem zqhwΓ : ΓOk Tryz.prog (pick1 [(25, .spec (zqed zqeh)), (26, .spec (zq7p zq84))]) := (ΓOk_cons zqei (ΓOk_cons zq85 ΓOk_nil))
def zqhx (m : Nat) : zqha := zqhm m
theorem zqhy {β : Type} (i : Nat) (k1 k2 t59 t60 t61 f f2 f3) : (zqhx (i + 1) k1 k2 t59 t60 t61 f f2 f3 : Option β) = zqhl (zqhx i k1 k2) k1 k2 t59 t60 t61 f f2 f3 := rfl
def zqhz : zqha := zqhx fuel
theorem zqi0 : PieceOk Tryz.prog 80 0 syntax_Form_p1_code zqhb zqhc (syntax_Form_p1_G zqhz) := zqhn zqeh zq84 zqhwΓ fuel
def zqi1 : zqhe := zqhp zqhz
theorem zqi2 : PieceOk Tryz.prog 80 0 syntax_Form_p2_code zqhf zqhg (syntax_Form_p2_G zqi1) := zqhq zqeh zq84 zqhwΓ zqhz zqi0
def zqi3 : zqhi := zqhs zqi1
theorem zqi4 : PieceOk Tryz.prog 80 0 syntax_Form_p3_code zqhj zqhk (syntax_Form_p3_G zqi3) := zqht zqeh zq84 zqhwΓ zqi1 zqi2
def zqi5 : zqh6 := zqhu zqeh zq84 zqi3
theorem zqi6 : SpecOk Tryz.prog 12 (zqh7 zqi5) := zqhv zqeh zq84 zqhwΓ zqi3 zqi4
abbrev zqi7 := {β : Type} → (List UInt8) → (Int → Bool → Option β) → Option β
def zqi8 (c : zqi7) : Spec :=
  ⟨[(false, [.data .str])], [], [(false, [.data (.int .i64)]), (false, [.data .bool])], [], fun x k => c x.1.1.1 (fun r0 r1 => k (((r0, ()), (r1, ()), ()), ()))⟩
noncomputable def lexer_offset_p1_code : Code := codeAt 15 (bodyOf Tryz.f69)
abbrev zqi9 (β : Type) := Int → Bool → Option β
abbrev zqia := {β : Type} → zqi9 β → (List UInt8) → Int → Bool → Option β
def zqib : View := ⟨0, [0, 4, 5], [(false, [.data .str]),  (false, [.data (.int .i64)]), (false, [.data .bool])], []⟩
def zqic : List  (AExit × View) := [(.ret, ⟨0, [2, 3], [(false, [.data (.int .i64)]), (false, [.data .bool])], []⟩)]
@[reducible] def lexer_offset_p1_G (p : zqia) {β : Type} (d : zqib.den) (ks : Outs.K β zqic) : Option β :=
  p (fun a0 a1 => ks.1 (((a0, ()), (a1, ()), ()), ())) d.1.1.1 d.1.2.1.1 d.1.2.2.1.1
section
variable (c_lexer_clock : zqf2)
@[reducible] def lexer_offset_X : Ctx := ⟨look tab, pick1 [(73, .spec (zqf3 c_lexer_clock))], false, false, false, false⟩
def zqid {β : Type} (k1 : zqi9 β) (s : List UInt8) (n : Int) (ok : Bool) : Option β :=
  cond ok
  (cond (decide ((List.length s : Int) = 6))
  (cond (decide ((-64800) ≤ n))
  (let t : Bool := (decide (n ≤ 64800));
  k1 n t)
  (k1 n false))
  (k1 n false))
  (k1 n false)
def zqie {β : Type} (k1 : zqi9 β) (s : List UInt8) (n : Int) (ok : Bool) : Option β := zqid k1 s n ok
theorem zqif (hΓ : ΓOk Tryz.prog (lexer_offset_X c_lexer_clock).Γ) : PieceOk Tryz.prog 32 0 lexer_offset_p1_code zqib zqic (lexer_offset_p1_G (zqie)) :=
  piece_exec (X := (lexer_offset_X c_lexer_clock)) (p := 15) (Λ := pick1 []) mixed tab_ok hΓ (by kernel_rfl) CutsOk_nil (fun d ks r h => Eq.trans (b := lexer_offset_p1_G (zqie) d ks) (by kernel_rfl) h)
def zqig (p1 : zqia) {β : Type} (s : List UInt8) (k : (Int → Bool → Option β)) : Option β :=
  cond (decide (0 ≤ 1) && (decide (1 ≤ (List.length s : Int)) && decide ((List.length s : Int) ≤ (List.length s : Int))))
  (c_lexer_clock (List.drop (Int.toNat 1) (List.take (Int.toNat (List.length s : Int)) s)) (fun rclock rclock2 =>
  cond (decide (0 ≤ 0) && decide (0 < (List.length s : Int)))
  (cond (decide (((List.getD s (Int.toNat 0) 0).toNat : Int) = 45))
  (let n : Int := (IntKind.i64.wrap (0 - rclock));
  p1 (fun t2 t3 =>
  k t2 t3) s n rclock2)
  (p1 (fun t2 t3 =>
  k t2 t3) s rclock rclock2))
  none))
  none
theorem zqih (hΓ : ΓOk Tryz.prog (lexer_offset_X c_lexer_clock).Γ) (p1 : zqia) (hp1 : PieceOk Tryz.prog 32 0 lexer_offset_p1_code zqib zqic (lexer_offset_p1_G p1)) : SpecOk Tryz.prog 69 (zqi8 (zqig c_lexer_clock p1)) :=
  spec_exec (X := (lexer_offset_X c_lexer_clock)) (Λ := pick1 [(15, pieceCut zqib zqic (lexer_offset_p1_G p1))]) (rs := [.tmp 2, .tmp 3]) (c := bodyOf Tryz.f69) mixed tab_ok hΓ Tryz.func69 (by kernel_rfl) (by kernel_rfl) (by kernel_rfl) (by kernel_rfl) (CutsOk_cons (q := 15) (c' := lexer_offset_p1_code) (by kernel_rfl) rfl hp1 CutsOk_nil) (fun x k r h => Eq.trans (b := (zqi8 (zqig c_lexer_clock p1)).run x k) (by kernel_rfl) h)
end
theorem zqiiΓ : ΓOk Tryz.prog (pick1 [(73, .spec (zqf3 zqfj))]) := (ΓOk_cons zqfk ΓOk_nil)
def zqij : zqia := zqie
theorem zqik : PieceOk Tryz.prog 32 0 lexer_offset_p1_code zqib zqic (lexer_offset_p1_G zqij) := zqif zqfj zqiiΓ
def zqil : zqi7 := zqig zqfj zqij
theorem zqim : SpecOk Tryz.prog 69 (zqi8 zqil) := zqih zqfj zqiiΓ zqij zqik
abbrev zqin := {β : Type} → Int → ((List UInt8) → Bool → Option β) → Option β
def zqio (c : zqin) : Spec :=
  ⟨[(false, [.data (.int .i64)])], [], [(false, [.data .str]), (false, [.data .bool])], [], fun x k => c x.1.1.1 (fun r0 r1 => k (((r0, ()), (r1, ()), ()), ()))⟩
section
variable (c_civil_DateOf : zqfs) (c_lexer_digits : zqbl)
@[reducible] def lexer_dated_X : Ctx := ⟨look tab, pick1 [(94, .spec (zqft c_civil_DateOf)), (93, .spec (zqbm c_lexer_digits))], false, false, false, false⟩
def zqip {β : Type} (day : Int) (k : ((List UInt8) → Bool → Option β)) : Option β :=
  c_civil_DateOf day (fun rDateOf rDateOf2 =>
  c_lexer_digits rDateOf.1 4 (fun rdigits =>
  cond (decide (List.length rdigits + List.length ([45] : List UInt8) ≤ 9223372036854775807))
  (c_lexer_digits rDateOf.2.1 2 (fun rdigits2 =>
  cond (decide (List.length (rdigits ++ ([45] : List UInt8)) + List.length rdigits2 ≤ 9223372036854775807))
  (cond (decide (List.length ((rdigits ++ ([45] : List UInt8)) ++ rdigits2) + List.length ([45] : List UInt8) ≤ 9223372036854775807))
  (c_lexer_digits rDateOf.2.2 2 (fun rdigits3 =>
  cond (decide (List.length (((rdigits ++ ([45] : List UInt8)) ++ rdigits2) ++ ([45] : List UInt8)) + List.length rdigits3 ≤ 9223372036854775807))
  (let t : List UInt8 := ((((rdigits ++ ([45] : List UInt8)) ++ rdigits2) ++ ([45] : List UInt8)) ++ rdigits3);
  let t2 : Bool := (decide (rDateOf2 = 0));
  k t t2)
  none))
  none)
  none))
  none))
theorem zqiq (hΓ : ΓOk Tryz.prog (lexer_dated_X c_civil_DateOf c_lexer_digits).Γ) : SpecOk Tryz.prog 78 (zqio (zqip c_civil_DateOf c_lexer_digits)) :=
  spec_exec (X := (lexer_dated_X c_civil_DateOf c_lexer_digits)) (Λ := pick1 []) (rs := [.tmp 2, .tmp 3]) (c := bodyOf Tryz.f78) mixed tab_ok hΓ Tryz.func78 (by kernel_rfl) (by kernel_rfl) (by kernel_rfl) (by kernel_rfl) CutsOk_nil (fun x k r h => Eq.trans (b := (zqio (zqip c_civil_DateOf c_lexer_digits)).run x k) (by kernel_rfl) h)
end
theorem zqirΓ : ΓOk Tryz.prog (pick1 [(94, .spec (zqft zqg8)), (93, .spec (zqbm zqbq))]) := (ΓOk_cons zqg9 (ΓOk_cons zqbr ΓOk_nil))
def zqis : zqin := zqip zqg8 zqbq
theorem zqit : SpecOk Tryz.prog 78 (zqio zqis) := zqiq zqg8 zqbq zqirΓ
abbrev zqiu := {β : Type} → (Int × (Int × Int)) → (Int → Int → Option β) → Option β
def zqiv (c : zqiu) : Spec :=
  ⟨[(true, [.data (.prod (.int .i64) (.prod (.int .i64) (.int .i64)))])], [], [(false, [.data (.int .i64)]), (false, [.data (.int .i64)])], [], fun x k => c x.1.1.1 (fun r0 r1 => k (((r0, ()), (r1, ()), ()), ()))⟩
noncomputable def ref01_Day_p1_code : Code := codeAt 122 (bodyOf Tryz.f81)
abbrev zqiw (β : Type) := Int → Int → Int → Int → Option β
abbrev zqix := {β : Type} → zqiw β → Int → Int → Int → Int → Int → Option β
def zqiy : View := ⟨0, [1, 4, 5], [(false, [.ptr 0 0]),  (false, [.data (.int .i64)]), (false, [.data (.int .i64)])], [.cells 120 [.data (.int .i64), .data (.int .i64), .data (.int .i64)]]⟩
def zqiz : List  (AExit × View) := [(.exit 0, ⟨0, [1, 4], [(false, [.ptr 0 0]), (false, [.data (.int .i64)])], [.cells 120 [.data (.int .i64), .data (.int .i64), .data (.int .i64)]]⟩)]
@[reducible] def ref01_Day_p1_G (p : zqix) {β : Type} (d : zqiy.den) (ks : Outs.K β zqiz) : Option β :=
  p (fun a0 a1 a2 a3 => ks.1 (((), (a0, ()), ()), ((a1, a2, a3, ()), ()))) d.1.2.1.1 d.1.2.2.1.1 d.2.1.1 d.2.1.2.1 d.2.1.2.2.1
section
variable (c_ref01_Days : zqbs) (c_ref01_Valid : zqga) (c_ref01_year : zq6q)
@[reducible] def ref01_Day_X : Ctx := ⟨look tab, pick1 [(98, .spec (zqbt c_ref01_Days)), (96, .spec (zqgb c_ref01_Valid)), (97, .spec (zq6r c_ref01_year))], false, false, false, false⟩
def zqj0 {β : Type} (rec : Int → Int → Int → Int → Int → Option β) (k1 : zqiw β) (n m d d2 d3 : Int) : Option β :=
  cond (decide (m < d2))
  (c_ref01_Days d m (fun rDays =>
  let n2 : Int := (IntKind.i64.wrap (n + rDays));
  let m2 : Int := (IntKind.i64.wrap (m + 1));
  rec n2 m2 d d2 d3))
  (k1 n d d2 d3)
def zqj1 {β : Type} : Nat → zqiw β → Int → Int → Int → Int → Int → Option β
  | 0 => fun _ _ _ _ _ _ => none
  | i + 1 => fun k1 n m d d2 d3 => zqj0 c_ref01_Days (zqj1 i k1) k1 n m d d2 d3
theorem zqj2 (hΓ : ΓOk Tryz.prog (ref01_Day_X c_ref01_Days c_ref01_Valid c_ref01_year).Γ) (i : Nat) : PieceOk Tryz.prog 29 0 ref01_Day_p1_code zqiy zqiz (ref01_Day_p1_G (zqj1 c_ref01_Days i)) := by
  rw [show ref01_Day_p1_code = .loop (loopBody ref01_Day_p1_code) by kernel_rfl]
  exact piece_loop (X := (ref01_Day_X c_ref01_Days c_ref01_Valid c_ref01_year)) (p := 1) (Λ := pick1 []) (G := fun i => @fun β d ks => ref01_Day_p1_G (zqj1 c_ref01_Days i) d ks) mixed tab_ok hΓ rfl (by kernel_rfl) CutsOk_nil (fun _ _ => rfl) (fun i => @fun β d ks r h => Eq.trans (b := ref01_Day_p1_G (zqj1 c_ref01_Days (i + 1)) d ks) (by kernel_rfl) h) i
def zqj3 (p1 : zqix) {β : Type} (d : (Int × (Int × Int))) (k : (Int → Int → Option β)) : Option β :=
  c_ref01_Valid d (fun rValid =>
  cond (!rValid)
  (k 0 1)
  (c_ref01_year d.1 (fun ryear =>
  p1 (fun n d2 d3 d4 =>
  let t : Int := (IntKind.i64.wrap ((IntKind.i64.wrap (n + d4)) - 1));
  k t 0) ryear 1 d.1 d.2.1 d.2.2)))
theorem zqj4 (hΓ : ΓOk Tryz.prog (ref01_Day_X c_ref01_Days c_ref01_Valid c_ref01_year).Γ) (p1 : zqix) (hp1 : PieceOk Tryz.prog 29 0 ref01_Day_p1_code zqiy zqiz (ref01_Day_p1_G p1)) : SpecOk Tryz.prog 81 (zqiv (zqj3 c_ref01_Valid c_ref01_year p1)) :=
  spec_exec (X := (ref01_Day_X c_ref01_Days c_ref01_Valid c_ref01_year)) (Λ := pick1 [(122, pieceCut zqiy zqiz (ref01_Day_p1_G p1))]) (rs := [.tmp 2, .tmp 3]) (c := bodyOf Tryz.f81) mixed tab_ok hΓ Tryz.func81 (by kernel_rfl) (by kernel_rfl) (by kernel_rfl) (by kernel_rfl) (CutsOk_cons (q := 122) (c' := ref01_Day_p1_code) (by kernel_rfl) rfl hp1 CutsOk_nil) (fun x k r h => Eq.trans (b := (zqiv (zqj3 c_ref01_Valid c_ref01_year p1)).run x k) (by kernel_rfl) h)
end
theorem zqj5Γ : ΓOk Tryz.prog (pick1 [(98, .spec (zqbt zqch)), (96, .spec (zqgb zqgf)), (97, .spec (zq6r zq6v))]) := (ΓOk_cons zqci (ΓOk_cons zqgg (ΓOk_cons zq6w ΓOk_nil)))
def zqj6 (m : Nat) : zqix := zqj1 zqch m
theorem zqj7 {β : Type} (i : Nat) (k1 n m d d2 d3) : (zqj6 (i + 1) k1 n m d d2 d3 : Option β) = zqj0 zqch (zqj6 i k1) k1 n m d d2 d3 := rfl
def zqj8 : zqix := zqj6 fuel
theorem zqj9 : PieceOk Tryz.prog 29 0 ref01_Day_p1_code zqiy zqiz (ref01_Day_p1_G zqj8) := zqj2 zqch zqgf zq6v zqj5Γ fuel
def zqja : zqiu := zqj3 zqgf zq6v zqj8
theorem zqjb : SpecOk Tryz.prog 81 (zqiv zqja) := zqj4 zqch zqgf zq6v zqj5Γ zqj8 zqj9
abbrev zqjc := {β : Type} → (Int × (Int × Int)) → (Int → Int → Option β) → Option β
def zqjd (c : zqjc) : Spec :=
  ⟨[(true, [.data (.prod (.int .i64) (.prod (.int .i64) (.int .i64)))])], [], [(false, [.data (.int .i64)]), (false, [.data (.int .i64)])], [], fun x k => c x.1.1.1 (fun r0 r1 => k (((r0, ()), (r1, ()), ()), ()))⟩
section
variable (c_civil_Valid : zqgh) (c_civil_number : zqgo)
@[reducible] def civil_Day_X : Ctx := ⟨look tab, pick1 [(101, .spec (zqgi c_civil_Valid)), (102, .spec (zqgp c_civil_number))], false, false, false, false⟩
def zqje {β : Type} (d : (Int × (Int × Int))) (k : (Int → Int → Option β)) : Option β :=
  c_civil_Valid d (fun rValid =>
  cond (!rValid)
  (k 0 1)
  (c_civil_number d (fun rnumber =>
  k rnumber 0)))
theorem zqjf (hΓ : ΓOk Tryz.prog (civil_Day_X c_civil_Valid c_civil_number).Γ) : SpecOk Tryz.prog 90 (zqjd (zqje c_civil_Valid c_civil_number)) :=
  spec_exec (X := (civil_Day_X c_civil_Valid c_civil_number)) (Λ := pick1 []) (rs := [.tmp 2, .tmp 3]) (c := bodyOf Tryz.f90) mixed tab_ok hΓ Tryz.func90 (by kernel_rfl) (by kernel_rfl) (by kernel_rfl) (by kernel_rfl) CutsOk_nil (fun x k r h => Eq.trans (b := (zqjd (zqje c_civil_Valid c_civil_number)).run x k) (by kernel_rfl) h)
end
theorem zqjgΓ : ΓOk Tryz.prog (pick1 [(101, .spec (zqgi zqgm)), (102, .spec (zqgp zqh4))]) := (ΓOk_cons zqgn (ΓOk_cons zqh5 ΓOk_nil))
def zqjh : zqjc := zqje zqgm zqh4
theorem zqji : SpecOk Tryz.prog 90 (zqjd zqjh) := zqjf zqgm zqh4 zqjgΓ
abbrev zqjj := {β : Type} → zq0 → ((List UInt8) → Bool → Option β) → Option β
def zqjk (c : zqjj) : Spec :=
  ⟨[(true, [.data zq1])], [], [(false, [.data .str]), (false, [.data .bool])], [], fun x k => c x.1.1.1 (fun r0 r1 => k (((r0, ()), (r1, ()), ()), ()))⟩
noncomputable def lexer_text_p1_code : Code := codeAt 861 (bodyOf Tryz.f55)
noncomputable def lexer_text_p2_code : Code := codeAt 27643 (bodyOf Tryz.f55)
abbrev zqjl (β : Type) := (List UInt8) → Bool → Option β
abbrev zqjm := {β : Type} → zqjl β → Bool → Int → (List UInt8) → Int → Option β
def zqjn : View := ⟨0, [1, 4], [(false, [.ptr 0 0]),  (false, [.data .bool])], [.cells 51 [.data (.int .i64), .data .str, .data (.int .i64)]]⟩
def zqjo : List  (AExit × View) := [(.ret, ⟨0, [2, 3], [(false, [.data .str]), (false, [.data .bool])], []⟩)]
@[reducible] def lexer_text_p1_G (p : zqjm) {β : Type} (d : zqjn.den) (ks : Outs.K β zqjo) : Option β :=
  p (fun a0 a1 => ks.1 (((a0, ()), (a1, ()), ()), ())) d.1.2.1.1 d.2.1.1 d.2.1.2.1 d.2.1.2.2.1
abbrev zqjp (β : Type) := (List UInt8) → Bool → Option β
abbrev zqjq := {β : Type} → zqjp β → Int → (List UInt8) → Option β
def zqjr : View := ⟨0, [5, 6], [(false, [.data  (.int .i64)]), (false, [.data .str])], []⟩
def zqjs : List  (AExit × View) := [(.ret, ⟨0, [2, 3], [(false, [.data .str]), (false, [.data .bool])], []⟩)]
@[reducible] def lexer_text_p2_G (p : zqjq) {β : Type} (d : zqjr.den) (ks : Outs.K β zqjs) : Option β :=
  p (fun a0 a1 => ks.1 (((a0, ()), (a1, ()), ()), ())) d.1.1.1 d.1.2.1.1
section
variable (c_lexer_dated : zqin) (c_lexer_hours : zqfl) (c_strconv_Itoa : zq69)
@[reducible] def lexer_text_X : Ctx := ⟨look tab, pick1 [(78, .spec (zqio c_lexer_dated)), (77, .spec (zqfm c_lexer_hours)), (76, .spec (zq6a c_strconv_Itoa))], false, false, false, false⟩
def zqjt {β : Type} (k1 : zqjl β) (ok : Bool) (t : Int) (t2 : List UInt8) (t3 : Int) : Option β :=
  cond (!decide (60 = 0))
  (c_lexer_hours t3 (!decide ((Int.tmod t3 60) = 0)) (fun rhours =>
  k1 rhours ok))
  none
def zqju {β : Type} (k1 : zqjl β) (ok : Bool) (t : Int) (t2 : List UInt8) (t3 : Int) : Option β := zqjt c_lexer_hours k1 ok t t2 t3
theorem zqjv (hΓ : ΓOk Tryz.prog (lexer_text_X c_lexer_dated c_lexer_hours c_strconv_Itoa).Γ) : PieceOk Tryz.prog 95 0 lexer_text_p1_code zqjn zqjo (lexer_text_p1_G (zqju c_lexer_hours)) :=
  piece_exec (X := (lexer_text_X c_lexer_dated c_lexer_hours c_strconv_Itoa)) (p := 861) (Λ := pick1 []) mixed tab_ok hΓ (by kernel_rfl) CutsOk_nil (fun d ks r h => Eq.trans (b := lexer_text_p1_G (zqju c_lexer_hours) d ks) (by kernel_rfl) h)
def zqjw {β : Type} (k1 : zqjp β) (n : Int) (sign : List UInt8) : Option β :=
  c_lexer_hours n false (fun rhours =>
  cond (decide (List.length sign + List.length rhours ≤ 9223372036854775807))
  (cond (decide (0 ≤ n))
  (cond (decide (n ≤ 64800))
  (cond (!decide (60 = 0))
  (let t : Bool := (decide ((Int.tmod n 60) = 0));
  k1 (sign ++ rhours) t)
  none)
  (k1 (sign ++ rhours) false))
  (k1 (sign ++ rhours) false))
  none)
def zqjx {β : Type} (k1 : zqjp β) (n : Int) (sign : List UInt8) : Option β := zqjw c_lexer_hours k1 n sign
theorem zqjy (hΓ : ΓOk Tryz.prog (lexer_text_X c_lexer_dated c_lexer_hours c_strconv_Itoa).Γ) : PieceOk Tryz.prog 95 0 lexer_text_p2_code zqjr zqjs (lexer_text_p2_G (zqjx c_lexer_hours)) :=
  piece_exec (X := (lexer_text_X c_lexer_dated c_lexer_hours c_strconv_Itoa)) (p := 27643) (Λ := pick1 []) mixed tab_ok hΓ (by kernel_rfl) CutsOk_nil (fun d ks r h => Eq.trans (b := lexer_text_p2_G (zqjx c_lexer_hours) d ks) (by kernel_rfl) h)
def zqjz (p1 : zqjm) (p2 : zqjq) {β : Type} (t : zq0) (k : ((List UInt8) → Bool → Option β)) : Option β :=
  let t2 : Bool := (decide (t.1 = 1));
  cond t2
  (c_strconv_Itoa t.2.2 (fun rItoa =>
  cond (decide (0 ≤ t.2.2))
  (let t3 : Bool := (decide (t.2.2 ≤ 999999999));
  k rItoa t3)
  (k rItoa false)))
  (let t3 : Bool := (decide (t.1 = 2));
  cond t3
  (cond (decide (0 ≤ t.2.2))
  (let ok : Bool := (decide (t.2.2 ≤ 86400));
  p1 (fun t22 t32 =>
  k t22 t32) ok t.1 t.2.1 t.2.2)
  (p1 (fun t22 t32 =>
  k t22 t32) false t.1 t.2.1 t.2.2))
  (let t4 : Bool := (decide (t.1 = 3));
  cond t4
  (c_lexer_dated t.2.2 (fun rdated rdated2 =>
  k rdated rdated2))
  (let t5 : Bool := (decide (t.1 = 4));
  cond t5
  (cond (decide (t.2.2 < 0))
  (let n : Int := (IntKind.i64.wrap (0 - t.2.2));
  p2 (fun t22 t32 =>
  k t22 t32) n ([45] : List UInt8))
  (p2 (fun t22 t32 =>
  k t22 t32) t.2.2 ([43] : List UInt8)))
  (let t6 : Bool := (decide (t.1 = 5));
  cond t6
  (cond (!decide (86400 = 0))
  (c_lexer_dated (IntKind.i64.wrap (Int.tdiv t.2.2 86400)) (fun rdated rdated2 =>
  cond (decide (List.length rdated + List.length ([84] : List UInt8) ≤ 9223372036854775807))
  (cond (!decide (86400 = 0))
  (c_lexer_hours (Int.tmod t.2.2 86400) true (fun rhours =>
  cond (decide (List.length (rdated ++ ([84] : List UInt8)) + List.length rhours ≤ 9223372036854775807))
  (cond (decide (List.length ((rdated ++ ([84] : List UInt8)) ++ rhours) + List.length ([90] : List UInt8) ≤ 9223372036854775807))
  (cond rdated2
  (let t7 : List UInt8 := (((rdated ++ ([84] : List UInt8)) ++ rhours) ++ ([90] : List UInt8));
  let t8 : Bool := (decide (0 ≤ t.2.2));
  k t7 t8)
  (let t7 : List UInt8 := (((rdated ++ ([84] : List UInt8)) ++ rhours) ++ ([90] : List UInt8));
  k t7 false))
  none)
  none))
  none)
  none))
  none)
  (k ([] : List UInt8) false)))))
theorem zqk0 (hΓ : ΓOk Tryz.prog (lexer_text_X c_lexer_dated c_lexer_hours c_strconv_Itoa).Γ) (p1 : zqjm) (p2 : zqjq) (hp1 : PieceOk Tryz.prog 95 0 lexer_text_p1_code zqjn zqjo (lexer_text_p1_G p1)) (hp2 : PieceOk Tryz.prog 95 0 lexer_text_p2_code zqjr zqjs (lexer_text_p2_G p2)) : SpecOk Tryz.prog 55 (zqjk (zqjz c_lexer_dated c_lexer_hours c_strconv_Itoa p1 p2)) :=
  spec_exec (X := (lexer_text_X c_lexer_dated c_lexer_hours c_strconv_Itoa)) (Λ := pick1 [(861, pieceCut zqjn zqjo (lexer_text_p1_G p1)), (27643, pieceCut zqjr zqjs (lexer_text_p2_G p2))]) (rs := [.tmp 2, .tmp 3]) (c := bodyOf Tryz.f55) mixed tab_ok hΓ Tryz.func55 (by kernel_rfl) (by kernel_rfl) (by kernel_rfl) (by kernel_rfl) (CutsOk_cons (q := 861) (c' := lexer_text_p1_code) (by kernel_rfl) rfl hp1 (CutsOk_cons (q := 27643) (c' := lexer_text_p2_code) (by kernel_rfl) rfl hp2 CutsOk_nil)) (fun x k r h => Eq.trans (b := (zqjk (zqjz c_lexer_dated c_lexer_hours c_strconv_Itoa p1 p2)).run x k) (by kernel_rfl) h)
end
theorem zqk1Γ : ΓOk Tryz.prog (pick1 [(78, .spec (zqio zqis)), (77, .spec (zqfm zqfq)), (76, .spec (zq6a zq6b))]) := (ΓOk_cons zqit (ΓOk_cons zqfr (ΓOk_cons zq6c ΓOk_nil)))
def zqk2 : zqjm := zqju zqfq
theorem zqk3 : PieceOk Tryz.prog 95 0 lexer_text_p1_code zqjn zqjo (lexer_text_p1_G zqk2) := zqjv zqis zqfq zq6b zqk1Γ
def zqk4 : zqjq := zqjx zqfq
theorem zqk5 : PieceOk Tryz.prog 95 0 lexer_text_p2_code zqjr zqjs (lexer_text_p2_G zqk4) := zqjy zqis zqfq zq6b zqk1Γ
def zqk6 : zqjj := zqjz zqis zqfq zq6b zqk2 zqk4
theorem zqk7 : SpecOk Tryz.prog 55 (zqjk zqk6) := zqk0 zqis zqfq zq6b zqk1Γ zqk2 zqk4 zqk3 zqk5
abbrev zqk8 := {β : Type} → (List UInt8) → (Int → Option β) → Option β
def zqk9 (c : zqk8) : Spec :=
  ⟨[(false, [.data .str])], [], [(false, [.data (.int .i64)])], [], fun x k => c x.1.1.1 (fun r0 => k (((r0, ()), ()), ()))⟩
section
variable (c_ref01_Day : zqiu) (c_ref06_number : zq55)
@[reducible] def ref06_date_X : Ctx := ⟨look tab, pick1 [(81, .spec (zqiv c_ref01_Day)), (62, .spec (zq56 c_ref06_number))], false, false, false, false⟩
def zqka {β : Type} (s : List UInt8) (k : (Int → Option β)) : Option β :=
  cond (decide (0 ≤ 0) && (decide (0 ≤ 4) && decide (4 ≤ (List.length s : Int))))
  (c_ref06_number (List.drop (Int.toNat 0) (List.take (Int.toNat 4) s)) (fun rnumber =>
  cond (decide (0 ≤ 5) && (decide (5 ≤ 7) && decide (7 ≤ (List.length s : Int))))
  (c_ref06_number (List.drop (Int.toNat 5) (List.take (Int.toNat 7) s)) (fun rnumber2 =>
  cond (decide (0 ≤ 8) && (decide (8 ≤ 10) && decide (10 ≤ (List.length s : Int))))
  (c_ref06_number (List.drop (Int.toNat 8) (List.take (Int.toNat 10) s)) (fun rnumber3 =>
  c_ref01_Day (rnumber, (rnumber2, rnumber3)) (fun rDay rDay2 =>
  cond (!decide (rDay2 = 0))
  (k (-1))
  (k rDay))))
  none))
  none))
  none
theorem zqkb (hΓ : ΓOk Tryz.prog (ref06_date_X c_ref01_Day c_ref06_number).Γ) : SpecOk Tryz.prog 61 (zqk9 (zqka c_ref01_Day c_ref06_number)) :=
  spec_exec (X := (ref06_date_X c_ref01_Day c_ref06_number)) (Λ := pick1 []) (rs := [.tmp 2]) (c := bodyOf Tryz.f61) mixed tab_ok hΓ Tryz.func61 (by kernel_rfl) (by kernel_rfl) (by kernel_rfl) (by kernel_rfl) CutsOk_nil (fun x k r h => Eq.trans (b := (zqk9 (zqka c_ref01_Day c_ref06_number)).run x k) (by kernel_rfl) h)
end
theorem zqkcΓ : ΓOk Tryz.prog (pick1 [(81, .spec (zqiv zqja)), (62, .spec (zq56 zq5l))]) := (ΓOk_cons zqjb (ΓOk_cons zq5m ΓOk_nil))
def zqkd : zqk8 := zqka zqja zq5l
theorem zqke : SpecOk Tryz.prog 61 (zqk9 zqkd) := zqkb zqja zq5l zqkcΓ
abbrev zqkf := {β : Type} → (List UInt8) → (Int → Bool → Option β) → Option β
def zqkg (c : zqkf) : Spec :=
  ⟨[(false, [.data .str])], [], [(false, [.data (.int .i64)]), (false, [.data .bool])], [], fun x k => c x.1.1.1 (fun r0 r1 => k (((r0, ()), (r1, ()), ()), ()))⟩
section
variable (c_civil_Day : zqjc) (c_lexer_number : zqav) (c_lexer_two : zqbe)
@[reducible] def lexer_date_X : Ctx := ⟨look tab, pick1 [(90, .spec (zqjd c_civil_Day)), (74, .spec (zqaw c_lexer_number)), (89, .spec (zqbf c_lexer_two))], false, false, false, false⟩
def zqkh {β : Type} (s : List UInt8) (k : (Int → Bool → Option β)) : Option β :=
  cond (!decide ((List.length s : Int) = 10))
  (k 0 false)
  (cond (decide (0 ≤ 4) && decide (4 < (List.length s : Int)))
  (cond (!decide (((List.getD s (Int.toNat 4) 0).toNat : Int) = 45))
  (k 0 false)
  (cond (decide (0 ≤ 7) && decide (7 < (List.length s : Int)))
  (cond (!decide (((List.getD s (Int.toNat 7) 0).toNat : Int) = 45))
  (k 0 false)
  (cond (decide (0 ≤ 0) && (decide (0 ≤ 4) && decide (4 ≤ (List.length s : Int))))
  (c_lexer_number (List.drop (Int.toNat 0) (List.take (Int.toNat 4) s)) (fun rnumber rnumber2 =>
  cond (decide (0 ≤ 5) && (decide (5 ≤ 7) && decide (7 ≤ (List.length s : Int))))
  (c_lexer_two (List.drop (Int.toNat 5) (List.take (Int.toNat 7) s)) (fun rtwo rtwo2 =>
  cond (decide (0 ≤ 8) && (decide (8 ≤ (List.length s : Int)) && decide ((List.length s : Int) ≤ (List.length s : Int))))
  (c_lexer_two (List.drop (Int.toNat 8) (List.take (Int.toNat (List.length s : Int)) s)) (fun rtwo3 rtwo4 =>
  c_civil_Day (rnumber, (rtwo, rtwo3)) (fun rDay rDay2 =>
  cond rnumber2
  (cond rtwo2
  (cond rtwo4
  (let t : Bool := (decide (rDay2 = 0));
  k rDay t)
  (k rDay false))
  (k rDay false))
  (k rDay false))))
  none))
  none))
  none))
  none))
  none)
theorem zqki (hΓ : ΓOk Tryz.prog (lexer_date_X c_civil_Day c_lexer_number c_lexer_two).Γ) : SpecOk Tryz.prog 72 (zqkg (zqkh c_civil_Day c_lexer_number c_lexer_two)) :=
  spec_exec (X := (lexer_date_X c_civil_Day c_lexer_number c_lexer_two)) (Λ := pick1 []) (rs := [.tmp 2, .tmp 3]) (c := bodyOf Tryz.f72) mixed tab_ok hΓ Tryz.func72 (by kernel_rfl) (by kernel_rfl) (by kernel_rfl) (by kernel_rfl) CutsOk_nil (fun x k r h => Eq.trans (b := (zqkg (zqkh c_civil_Day c_lexer_number c_lexer_two)).run x k) (by kernel_rfl) h)
end
theorem zqkjΓ : ΓOk Tryz.prog (pick1 [(90, .spec (zqjd zqjh)), (74, .spec (zqaw zqbc)), (89, .spec (zqbf zqbj))]) := (ΓOk_cons zqji (ΓOk_cons zqbd (ΓOk_cons zqbk ΓOk_nil)))
def zqkk : zqkf := zqkh zqjh zqbc zqbj
theorem zqkl : SpecOk Tryz.prog 72 (zqkg zqkk) := zqki zqjh zqbc zqbj zqkjΓ
abbrev zqkm := {β : Type} → zq0 → ((List UInt8) → Int → Option β) → Option β
def zqkn (c : zqkm) : Spec :=
  ⟨[(true, [.data zq1])], [], [(false, [.data .str]), (false, [.data (.int .i64)])], [], fun x k => c x.1.1.1 (fun r0 r1 => k (((r0, ()), (r1, ()), ()), ()))⟩
section
variable (c_lexer_Name : zq8v) (c_lexer_text : zqjj)
@[reducible] def lexer_Text_X : Ctx := ⟨look tab, pick1 [(54, .spec (zq8w c_lexer_Name)), (55, .spec (zqjk c_lexer_text))], false, false, false, false⟩
def zqko {β : Type} (t : zq0) (k : ((List UInt8) → Int → Option β)) : Option β :=
  cond (decide (t.1 = 0))
  (c_lexer_Name t.2.1 (fun rName =>
  cond (!rName)
  (k ([] : List UInt8) 8)
  (cond (!decide (t.2.2 = 0))
  (k ([] : List UInt8) 8)
  (k t.2.1 0))))
  (c_lexer_text t (fun rtext rtext2 =>
  cond (!rtext2)
  (k ([] : List UInt8) 8)
  (cond (!decide (t.2.1 = ([] : List UInt8)))
  (k ([] : List UInt8) 8)
  (k rtext 0))))
theorem zqkp (hΓ : ΓOk Tryz.prog (lexer_Text_X c_lexer_Name c_lexer_text).Γ) : SpecOk Tryz.prog 34 (zqkn (zqko c_lexer_Name c_lexer_text)) :=
  spec_exec (X := (lexer_Text_X c_lexer_Name c_lexer_text)) (Λ := pick1 []) (rs := [.tmp 2, .tmp 3]) (c := bodyOf Tryz.f34) mixed tab_ok hΓ Tryz.func34 (by kernel_rfl) (by kernel_rfl) (by kernel_rfl) (by kernel_rfl) CutsOk_nil (fun x k r h => Eq.trans (b := (zqkn (zqko c_lexer_Name c_lexer_text)).run x k) (by kernel_rfl) h)
end
theorem zqkqΓ : ΓOk Tryz.prog (pick1 [(54, .spec (zq8w zq9c)), (55, .spec (zqjk zqk6))]) := (ΓOk_cons zq9d (ΓOk_cons zqk7 ΓOk_nil))
def zqkr : zqkm := zqko zq9c zqk6
theorem zqks : SpecOk Tryz.prog 34 (zqkn zqkr) := zqkp zq9c zqk6 zqkqΓ
abbrev zqkt := {β : Type} → (List UInt8) → (zq0 → Int → Option β) → Option β
def zqku (c : zqkt) : Spec :=
  ⟨[(false, [.data .str])], [], [(true, [.data zq1]), (false, [.data (.int .i64)])], [], fun x k => c x.1.1.1 (fun r0 r1 => k (((r0, ()), (r1, ()), ()), ()))⟩
noncomputable def ref06_Token_p1_code : Code := codeAt 60927 (bodyOf Tryz.f42)
noncomputable def ref06_Token_p2_code : Code := codeAt 3807 (bodyOf Tryz.f42)
noncomputable def ref06_Token_p3_code : Code := codeAt 237 (bodyOf Tryz.f42)
abbrev zqkv (β : Type) := Int → Int → (List UInt8) → Int → Option β
abbrev zqkw (β : Type) := Int → (List UInt8) → Int → Option β
abbrev zqkx := {β : Type} → zqkv β → zqkw β → (List UInt8) → Bool → Int → (List UInt8) → Int → Option β
def zqky : View := ⟨0, [0, 2, 80], [(false, [.data .str]),  (false, [.ptr 0 0]), (false, [.data .bool])], [.cells 51 [.data (.int .i64), .data .str, .data (.int .i64)]]⟩
def zqkz : List  (AExit × View) := [(.ret, ⟨0, [2, 3], [(false, [.ptr 0 0]), (false, [.data (.int .i64)])], [.cells 51 [.data (.int .i64), .data .str, .data (.int .i64)]]⟩), (.normal, ⟨0, [2], [(false, [.ptr 0 0])], [.cells 51 [.data (.int .i64), .data .str, .data (.int .i64)]]⟩)]
@[reducible] def ref06_Token_p1_G (p : zqkx) {β : Type} (d : zqky.den) (ks : Outs.K β zqkz) : Option β :=
  p (fun a0 a1 a2 a3 => ks.1 (((), (a0, ()), ()), ((a1, a2, a3, ()), ()))) (fun a0 a1 a2 => ks.2.1 (((), ()), ((a0, a1, a2, ()), ()))) d.1.1.1 d.1.2.2.1.1 d.2.1.1 d.2.1.2.1 d.2.1.2.2.1
abbrev zql0 (β : Type) := Int → (List UInt8) → Int → Option β
abbrev zql1 (β : Type) := Int → Int → (List UInt8) → Int → Option β
abbrev zql2 (β : Type) := Int → (List UInt8) → Int → Option β
abbrev zql3 := {β : Type} → zql0 β → zql1 β → zql2 β → (List UInt8) → (List UInt8) → Bool → Int → (List UInt8) → Int → Option β
def zql4 : View := ⟨0, [0, 2, 16, 38], [(false, [.data .str]),  (false, [.ptr 0 0]), (false, [.data .str]), (false, [.data .bool])], [.cells 51 [.data (.int .i64), .data .str, .data (.int .i64)]]⟩
def zql5 : List  (AExit × View) := [(.exit 0, ⟨0, [2], [(false, [.ptr 0 0])], [.cells 51 [.data (.int .i64), .data .str, .data (.int .i64)]]⟩), (.ret, ⟨0, [2, 3], [(false, [.ptr 0 0]), (false, [.data (.int .i64)])], [.cells 51 [.data (.int .i64), .data .str, .data (.int .i64)]]⟩), (.normal, ⟨0, [2], [(false, [.ptr 0 0])], [.cells 51 [.data (.int .i64), .data .str, .data (.int .i64)]]⟩)]
@[reducible] def ref06_Token_p2_G (p : zql3) {β : Type} (d : zql4.den) (ks : Outs.K β zql5) : Option β :=
  p (fun a0 a1 a2 => ks.1 (((), ()), ((a0, a1, a2, ()), ()))) (fun a0 a1 a2 a3 => ks.2.1 (((), (a0, ()), ()), ((a1, a2, a3, ()), ()))) (fun a0 a1 a2 => ks.2.2.1 (((), ()), ((a0, a1, a2, ()), ()))) d.1.1.1 d.1.2.2.1.1 d.1.2.2.2.1.1 d.2.1.1 d.2.1.2.1 d.2.1.2.2.1
abbrev zql6 (β : Type) := Int → Int → (List UInt8) → Int → Option β
abbrev zql7 (β : Type) := Int → (List UInt8) → Int → Option β
abbrev zql8 (β : Type) := Int → (List UInt8) → Int → Option β
abbrev zql9 := {β : Type} → zql6 β → zql7 β → zql8 β → (List UInt8) → (List UInt8) → Bool → Int → (List UInt8) → Int → Option β
def zqla : View := ⟨0, [0, 2, 16, 17], [(false, [.data .str]),  (false, [.ptr 0 0]), (false, [.data .str]), (false, [.data .bool])], [.cells 51 [.data (.int .i64), .data .str, .data (.int .i64)]]⟩
def zqlb : List  (AExit × View) := [(.ret, ⟨0, [2, 3], [(false, [.ptr 0 0]), (false, [.data (.int .i64)])], [.cells 51 [.data (.int .i64), .data .str, .data (.int .i64)]]⟩), (.normal, ⟨0, [2], [(false, [.ptr 0 0])], [.cells 51 [.data (.int .i64), .data .str, .data (.int .i64)]]⟩), (.exit 0, ⟨0, [2], [(false, [.ptr 0 0])], [.cells 51 [.data (.int .i64), .data .str, .data (.int .i64)]]⟩)]
@[reducible] def ref06_Token_p3_G (p : zql9) {β : Type} (d : zqla.den) (ks : Outs.K β zqlb) : Option β :=
  p (fun a0 a1 a2 a3 => ks.1 (((), (a0, ()), ()), ((a1, a2, a3, ()), ()))) (fun a0 a1 a2 => ks.2.1 (((), ()), ((a0, a1, a2, ()), ()))) (fun a0 a1 a2 => ks.2.2.1 (((), ()), ((a0, a1, a2, ()), ()))) d.1.1.1 d.1.2.2.1.1 d.1.2.2.2.1.1 d.2.1.1 d.2.1.2.1 d.2.1.2.2.1
section
variable (c_ref06_Name : zq9e) (c_ref06_clock : zqaf) (c_ref06_date : zqk8) (c_ref06_form : zq9x) (c_ref06_number : zq55)
@[reducible] def ref06_Token_X : Ctx := ⟨look tab, pick1 [(58, .spec (zq9f c_ref06_Name)), (60, .spec (zqag c_ref06_clock)), (61, .spec (zqk9 c_ref06_date)), (59, .spec (zq9y c_ref06_form)), (62, .spec (zq56 c_ref06_number))], false, false, false, false⟩
def zqlc {β : Type} (k1 : zqkv β) (k2 : zqkw β) (word : List UInt8) (t80 : Bool) (t2 : Int) (t22 : List UInt8) (t23 : Int) : Option β :=
  cond t80
  (cond (decide (0 ≤ 0) && decide (0 < (List.length word : Int)))
  (cond (!decide (((List.getD word (Int.toNat 0) 0).toNat : Int) = 48))
  (c_ref06_number word (fun rnumber =>
  k1 0 1 ([] : List UInt8) rnumber))
  (cond (decide ((List.length word : Int) = 1))
  (c_ref06_number word (fun rnumber =>
  k1 0 1 ([] : List UInt8) rnumber))
  (k2 t2 t22 t23)))
  none)
  (k2 t2 t22 t23)
def zqld {β : Type} (k1 : zqkv β) (k2 : zqkw β) (word : List UInt8) (t80 : Bool) (t2 : Int) (t22 : List UInt8) (t23 : Int) : Option β := zqlc c_ref06_number k1 k2 word t80 t2 t22 t23
theorem zqle (hΓ : ΓOk Tryz.prog (ref06_Token_X c_ref06_Name c_ref06_clock c_ref06_date c_ref06_form c_ref06_number).Γ) : PieceOk Tryz.prog 102 0 ref06_Token_p1_code zqky zqkz (ref06_Token_p1_G (zqld c_ref06_number)) :=
  piece_exec (X := (ref06_Token_X c_ref06_Name c_ref06_clock c_ref06_date c_ref06_form c_ref06_number)) (p := 60927) (Λ := pick1 []) mixed tab_ok hΓ (by kernel_rfl) CutsOk_nil (fun d ks r h => Eq.trans (b := ref06_Token_p1_G (zqld c_ref06_number) d ks) (by kernel_rfl) h)
def zqlf (p1 : zqkx) {β : Type} (k1 : zql0 β) (k2 : zql1 β) (k3 : zql2 β) (word : List UInt8) (t16 : List UInt8) (t38 : Bool) (t2 : Int) (t22 : List UInt8) (t23 : Int) : Option β :=
  cond t38
  (cond (decide (0 ≤ 1) && (decide (1 ≤ (List.length word : Int)) && decide ((List.length word : Int) ≤ (List.length word : Int))))
  (c_ref06_clock (List.drop (Int.toNat 1) (List.take (Int.toNat (List.length word : Int)) word)) (fun rclock =>
  cond (decide (rclock < 0))
  (k1 t2 t22 t23)
  (cond (decide (64800 < rclock))
  (k1 t2 t22 t23)
  (cond (decide (0 ≤ 0) && decide (0 < (List.length word : Int)))
  (cond (decide (((List.getD word (Int.toNat 0) 0).toNat : Int) = 45))
  (let n : Int := (IntKind.i64.wrap (0 - rclock));
  k2 0 4 ([] : List UInt8) n)
  (k2 0 4 ([] : List UInt8) rclock))
  none))))
  none)
  (let t : Bool := (decide (t16 = ([100, 100, 100, 100, 45, 100, 100, 45, 100, 100, 84, 100, 100, 58, 100, 100, 58, 100, 100, 90] : List UInt8)));
  cond t
  (cond (decide (0 ≤ 0) && (decide (0 ≤ 10) && decide (10 ≤ (List.length word : Int))))
  (c_ref06_date (List.drop (Int.toNat 0) (List.take (Int.toNat 10) word)) (fun rdate =>
  cond (decide (0 ≤ 11) && (decide (11 ≤ 19) && decide (19 ≤ (List.length word : Int))))
  (c_ref06_clock (List.drop (Int.toNat 11) (List.take (Int.toNat 19) word)) (fun rclock =>
  cond (decide (0 ≤ rdate))
  (cond (decide (0 ≤ rclock))
  (cond (decide (rclock < 86400))
  (k2 0 5 ([] : List UInt8) (IntKind.i64.wrap ((IntKind.i64.wrap (rdate * 86400)) + rclock)))
  (k3 t2 t22 t23))
  (k3 t2 t22 t23))
  (k3 t2 t22 t23)))
  none))
  none)
  (let t3 : Bool := (decide (t16 = ([100] : List UInt8)));
  cond t3
  (p1 (fun t32 t24 t25 t26 =>
  k2 t32 t24 t25 t26) (fun t24 t25 t26 =>
  k3 t24 t25 t26) word t3 t2 t22 t23)
  (let t4 : Bool := (decide (t16 = ([100, 100] : List UInt8)));
  cond t4
  (p1 (fun t32 t24 t25 t26 =>
  k2 t32 t24 t25 t26) (fun t24 t25 t26 =>
  k3 t24 t25 t26) word t4 t2 t22 t23)
  (let t5 : Bool := (decide (t16 = ([100, 100, 100] : List UInt8)));
  cond t5
  (p1 (fun t32 t24 t25 t26 =>
  k2 t32 t24 t25 t26) (fun t24 t25 t26 =>
  k3 t24 t25 t26) word t5 t2 t22 t23)
  (let t6 : Bool := (decide (t16 = ([100, 100, 100, 100] : List UInt8)));
  cond t6
  (p1 (fun t32 t24 t25 t26 =>
  k2 t32 t24 t25 t26) (fun t24 t25 t26 =>
  k3 t24 t25 t26) word t6 t2 t22 t23)
  (let t7 : Bool := (decide (t16 = ([100, 100, 100, 100, 100] : List UInt8)));
  cond t7
  (p1 (fun t32 t24 t25 t26 =>
  k2 t32 t24 t25 t26) (fun t24 t25 t26 =>
  k3 t24 t25 t26) word t7 t2 t22 t23)
  (let t8 : Bool := (decide (t16 = ([100, 100, 100, 100, 100, 100] : List UInt8)));
  cond t8
  (p1 (fun t32 t24 t25 t26 =>
  k2 t32 t24 t25 t26) (fun t24 t25 t26 =>
  k3 t24 t25 t26) word t8 t2 t22 t23)
  (let t9 : Bool := (decide (t16 = ([100, 100, 100, 100, 100, 100, 100] : List UInt8)));
  cond t9
  (p1 (fun t32 t24 t25 t26 =>
  k2 t32 t24 t25 t26) (fun t24 t25 t26 =>
  k3 t24 t25 t26) word t9 t2 t22 t23)
  (let t10 : Bool := (decide (t16 = ([100, 100, 100, 100, 100, 100, 100, 100] : List UInt8)));
  cond t10
  (p1 (fun t32 t24 t25 t26 =>
  k2 t32 t24 t25 t26) (fun t24 t25 t26 =>
  k3 t24 t25 t26) word t10 t2 t22 t23)
  (let t11 : Bool := (decide (t16 = ([100, 100, 100, 100, 100, 100, 100, 100, 100] : List UInt8)));
  p1 (fun t32 t24 t25 t26 =>
  k2 t32 t24 t25 t26) (fun t24 t25 t26 =>
  k3 t24 t25 t26) word t11 t2 t22 t23))))))))))
def zqlg (p1 : zqkx) {β : Type} (k1 : zql0 β) (k2 : zql1 β) (k3 : zql2 β) (word : List UInt8) (t16 : List UInt8) (t38 : Bool) (t2 : Int) (t22 : List UInt8) (t23 : Int) : Option β := zqlf c_ref06_clock c_ref06_date p1 k1 k2 k3 word t16 t38 t2 t22 t23
theorem zqlh (hΓ : ΓOk Tryz.prog (ref06_Token_X c_ref06_Name c_ref06_clock c_ref06_date c_ref06_form c_ref06_number).Γ) (p1 : zqkx) (hp1 : PieceOk Tryz.prog 102 0 ref06_Token_p1_code zqky zqkz (ref06_Token_p1_G p1)) : PieceOk Tryz.prog 102 0 ref06_Token_p2_code zql4 zql5 (ref06_Token_p2_G (zqlg c_ref06_clock c_ref06_date p1)) :=
  piece_exec (X := (ref06_Token_X c_ref06_Name c_ref06_clock c_ref06_date c_ref06_form c_ref06_number)) (p := 3807) (Λ := pick1 [(60927, pieceCut zqky zqkz (ref06_Token_p1_G p1))]) mixed tab_ok hΓ (by kernel_rfl) (CutsOk_cons (q := 60927) (c' := ref06_Token_p1_code) (by kernel_rfl) rfl hp1 CutsOk_nil) (fun d ks r h => Eq.trans (b := ref06_Token_p2_G (zqlg c_ref06_clock c_ref06_date p1) d ks) (by kernel_rfl) h)
def zqli (p2 : zql3) {β : Type} (k1 : zql6 β) (k2 : zql7 β) (k3 : zql8 β) (word : List UInt8) (t16 : List UInt8) (t17 : Bool) (t2 : Int) (t22 : List UInt8) (t23 : Int) : Option β :=
  cond t17
  (c_ref06_clock word (fun rclock =>
  cond (decide (0 ≤ rclock))
  (cond (decide (rclock ≤ 86400))
  (k1 0 2 ([] : List UInt8) rclock)
  (k2 t2 t22 t23))
  (k2 t2 t22 t23)))
  (let t : Bool := (decide (t16 = ([100, 100, 100, 100, 45, 100, 100, 45, 100, 100] : List UInt8)));
  cond t
  (c_ref06_date word (fun rdate =>
  cond (decide (0 ≤ rdate))
  (k1 0 3 ([] : List UInt8) rdate)
  (k2 t2 t22 t23)))
  (let t3 : Bool := (decide (t16 = ([43, 100, 100, 58, 100, 100] : List UInt8)));
  cond t3
  (p2 (fun t24 t25 t26 =>
  k3 t24 t25 t26) (fun t32 t24 t25 t26 =>
  k1 t32 t24 t25 t26) (fun t24 t25 t26 =>
  k2 t24 t25 t26) word t16 t3 t2 t22 t23)
  (let t4 : Bool := (decide (t16 = ([45, 100, 100, 58, 100, 100] : List UInt8)));
  p2 (fun t24 t25 t26 =>
  k3 t24 t25 t26) (fun t32 t24 t25 t26 =>
  k1 t32 t24 t25 t26) (fun t24 t25 t26 =>
  k2 t24 t25 t26) word t16 t4 t2 t22 t23)))
def zqlj (p2 : zql3) {β : Type} (k1 : zql6 β) (k2 : zql7 β) (k3 : zql8 β) (word : List UInt8) (t16 : List UInt8) (t17 : Bool) (t2 : Int) (t22 : List UInt8) (t23 : Int) : Option β := zqli c_ref06_clock c_ref06_date p2 k1 k2 k3 word t16 t17 t2 t22 t23
theorem zqlk (hΓ : ΓOk Tryz.prog (ref06_Token_X c_ref06_Name c_ref06_clock c_ref06_date c_ref06_form c_ref06_number).Γ) (p2 : zql3) (hp2 : PieceOk Tryz.prog 102 0 ref06_Token_p2_code zql4 zql5 (ref06_Token_p2_G p2)) : PieceOk Tryz.prog 102 0 ref06_Token_p3_code zqla zqlb (ref06_Token_p3_G (zqlj c_ref06_clock c_ref06_date p2)) :=
  piece_exec (X := (ref06_Token_X c_ref06_Name c_ref06_clock c_ref06_date c_ref06_form c_ref06_number)) (p := 237) (Λ := pick1 [(3807, pieceCut zql4 zql5 (ref06_Token_p2_G p2))]) mixed tab_ok hΓ (by kernel_rfl) (CutsOk_cons (q := 3807) (c' := ref06_Token_p2_code) (by kernel_rfl) rfl hp2 CutsOk_nil) (fun d ks r h => Eq.trans (b := ref06_Token_p3_G (zqlj c_ref06_clock c_ref06_date p2) d ks) (by kernel_rfl) h)
def zqll (p3 : zql9) {β : Type} (word : List UInt8) (k : (zq0 → Int → Option β)) : Option β :=
  c_ref06_Name word (fun rName =>
  cond rName
  (k (0, (word, 0)) 0)
  (c_ref06_form word (fun rform =>
  let t : Bool := (decide (rform = ([100, 100, 58, 100, 100] : List UInt8)));
  cond t
  (p3 (fun t3 t2 t22 t23 =>
  k (t2, (t22, t23)) t3) (fun t2 t22 t23 =>
  k (0, (([] : List UInt8), 0)) 2) (fun t2 t22 t23 =>
  k (0, (([] : List UInt8), 0)) 2) word rform t 0 ([] : List UInt8) 0)
  (let t2 : Bool := (decide (rform = ([100, 100, 58, 100, 100, 58, 100, 100] : List UInt8)));
  p3 (fun t3 t22 t23 t24 =>
  k (t22, (t23, t24)) t3) (fun t22 t23 t24 =>
  k (0, (([] : List UInt8), 0)) 2) (fun t22 t23 t24 =>
  k (0, (([] : List UInt8), 0)) 2) word rform t2 0 ([] : List UInt8) 0))))
theorem zqlm (hΓ : ΓOk Tryz.prog (ref06_Token_X c_ref06_Name c_ref06_clock c_ref06_date c_ref06_form c_ref06_number).Γ) (p3 : zql9) (hp3 : PieceOk Tryz.prog 102 0 ref06_Token_p3_code zqla zqlb (ref06_Token_p3_G p3)) : SpecOk Tryz.prog 42 (zqku (zqll c_ref06_Name c_ref06_form p3)) :=
  spec_exec (X := (ref06_Token_X c_ref06_Name c_ref06_clock c_ref06_date c_ref06_form c_ref06_number)) (Λ := pick1 [(237, pieceCut zqla zqlb (ref06_Token_p3_G p3))]) (rs := [.cell 2 51, .tmp 3]) (c := bodyOf Tryz.f42) mixed tab_ok hΓ Tryz.func42 (by kernel_rfl) (by kernel_rfl) (by kernel_rfl) (by kernel_rfl) (CutsOk_cons (q := 237) (c' := ref06_Token_p3_code) (by kernel_rfl) rfl hp3 CutsOk_nil) (fun x k r h => Eq.trans (b := (zqku (zqll c_ref06_Name c_ref06_form p3)).run x k) (by kernel_rfl) h)
end
theorem zqlnΓ : ΓOk Tryz.prog (pick1 [(58, .spec (zq9f zq9v)), (60, .spec (zqag zqat)), (61, .spec (zqk9 zqkd)), (59, .spec (zq9y zqad)), (62, .spec (zq56 zq5l))]) := (ΓOk_cons zq9w (ΓOk_cons zqau (ΓOk_cons zqke (ΓOk_cons zqae (ΓOk_cons zq5m ΓOk_nil)))))
def zqlo : zqkx := zqld zq5l
theorem zqlp : PieceOk Tryz.prog 102 0 ref06_Token_p1_code zqky zqkz (ref06_Token_p1_G zqlo) := zqle zq9v zqat zqkd zqad zq5l zqlnΓ
def zqlq : zql3 := zqlg zqat zqkd zqlo
theorem zqlr : PieceOk Tryz.prog 102 0 ref06_Token_p2_code zql4 zql5 (ref06_Token_p2_G zqlq) := zqlh zq9v zqat zqkd zqad zq5l zqlnΓ zqlo zqlp
def zqls : zql9 := zqlj zqat zqkd zqlq
theorem zqlt : PieceOk Tryz.prog 102 0 ref06_Token_p3_code zqla zqlb (ref06_Token_p3_G zqls) := zqlk zq9v zqat zqkd zqad zq5l zqlnΓ zqlq zqlr
def zqlu : zqkt := zqll zq9v zqad zqls
theorem zqlv : SpecOk Tryz.prog 42 (zqku zqlu) := zqlm zq9v zqat zqkd zqad zq5l zqlnΓ zqls zqlt
end
end Go.Lift
