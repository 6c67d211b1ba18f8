/- Part7: Fn0. -/
import Derived.Test.YtecdnhcojfdgmaaGreatDoorProg
import Derived.Test.YtecdnhcojfdgmaaGreatDoorPart6
set_option linter.unusedVariables false
set_option linter.unusedSimpArgs false
namespace Go.Lift
open Go.Proofs
noncomputable section
set_option maxRecDepth 100000
set_option linter.unusedVariables false
abbrev zq0 := (Int × (List UInt8 × Int))
abbrev zq1 : Ty := (.prod (.int .i64) (.prod .str (.int .i64)))
abbrev zq2 := (List UInt8 × (List Int × Bool))
abbrev zq3 : Ty := (.prod .str (.prod (.slice (.int .i64)) .bool))
def tab : List  (Nat × TI) := [
  (3, ⟨false, 1, 8, [.int .i64 0], [], none, none, (some (.int .i64)), (some .i64), false, false, none, none⟩),
  (4, ⟨false, 1, 1, [.bool false], [], none, none, (some .bool), none, true, false, none, none⟩),
  (5, ⟨false, 1, 1, [.int .u8 0], [], none, none, (some (.int .u8)), (some .u8), false, false, none, none⟩),
  (9, ⟨false, 1, 16, [.str ([] : List UInt8)], [], none, none, (some .str), none, false, true, none, none⟩),
  (22, ⟨false, 1, 24, [.nils], [], (some 3), none, (some (.slice (.int .i64))), none, false, false, none, none⟩),
  (28, ⟨false, 1, 24, [.nils], [], (some 35), none, (some (.slice (.prod (.int .i64) (.slice zq1)))), none, false, false, none, none⟩),
  (33, ⟨false, 1, 24, [.nils], [], (some 51), none, (some (.slice zq1)), none, false, false, none, none⟩),
  (35, ⟨true, 2, 32, [.int .i64 0, .nils], [(0, 1, false), (1, 1, false)], none, none, (some (.prod (.int .i64) (.slice zq1))), none, false, false, none, none⟩),
  (42, ⟨true, 2, 32, [.nils, .int .i64 0], [(0, 1, false), (1, 1, false)], none, none, (some (.prod (.slice (.int .i64)) (.int .i64))), none, false, false, none, none⟩),
  (43, ⟨false, 1, 24, [.nils], [], (some 9), none, (some (.slice .str)), none, false, false, none, none⟩),
  (51, ⟨true, 3, 32, [.int .i64 0, .str ([] : List UInt8), .int .i64 0], [(0, 1, false), (1, 1, false), (2, 1, false)], none, none, (some zq1), none, false, false, (some [.i, .s, .i]), none⟩),
  (55, ⟨true, 2, 32, [.nilp, .nils], [(0, 1, false), (1, 1, false)], none, none, none, none, false, false, none, none⟩),
  (58, ⟨false, 1, 16, [.err true], [], none, none, (some .err), none, false, false, none, none⟩),
  (64, ⟨true, 3, 48, [.str ([] : List UInt8), .nils, .bool false], [(0, 1, false), (1, 1, false), (2, 1, false)], none, none, (some zq3), none, false, false, none, none⟩),
  (79, ⟨false, 1, 24, [.nils], [], (some 64), none, (some (.slice zq3)), none, false, false, none, none⟩),
  (85, ⟨false, 1, 24, [.nils], [], (some 87), none, (some (.slice (.prod .str .str))), none, false, false, none, none⟩),
  (87, ⟨true, 2, 32, [.str ([] : List UInt8), .str ([] : List UInt8)], [], (some 9), (some 2), (some (.prod .str .str)), none, false, false, (some [.s, .s]), none⟩),
  (120, ⟨true, 3, 24, [.int .i64 0, .int .i64 0, .int .i64 0], [(0, 1, false), (1, 1, false), (2, 1, false)], none, none, (some (.prod (.int .i64) (.prod (.int .i64) (.int .i64)))), none, false, false, (some [.i, .i, .i]), none⟩),
  (164, ⟨true, 12, 96, [.int .i64 0, .int .i64 0, .int .i64 0, .int .i64 0, .int .i64 0, .int .i64 0, .int .i64 0, .int .i64 0, .int .i64 0, .int .i64 0, .int .i64 0, .int .i64 0], [], (some 3), (some 12), (some (.prod (.int .i64) (.prod (.int .i64) (.prod (.int .i64) (.prod (.int .i64) (.prod (.int .i64) (.prod (.int .i64) (.prod (.int .i64) (.prod (.int .i64) (.prod (.int .i64) (.prod (.int .i64) (.prod (.int .i64) (.int .i64))))))))))))), none, false, false, (some [.i, .i, .i, .i, .i, .i, .i, .i, .i, .i, .i, .i]), none⟩)]
theorem tab_ok : TOk Tryz.prog (look tab) := TOk_of (by kernel_rfl)
theorem mixed : Tryz.prog.follows .mixedOrders = true := by kernel_rfl
abbrev zq4 := {β : Type} → (List Int) → (Bool → Option β) → Option β
def zq5 (c : zq4) : Spec :=
  ⟨[(false, [.data (.slice (.int .i64))])], [], [(false, [.data .bool])], [], fun x k => c x.1.1.1 (fun r0 => k (((r0, ()), ()), ()))⟩
section
@[reducible] def made_Light_X : Ctx := ⟨look tab, pick1 [], false, false, false, false⟩
def zq6 {β : Type} (l : List Int) (k : (Bool → Option β)) : Option β :=
  let t : Bool := (decide ((List.length l : Int) ≤ 500));
  k t
theorem zq7 (hΓ : ΓOk Tryz.prog made_Light_X.Γ) : SpecOk Tryz.prog 5 (zq5 (zq6)) :=
  spec_exec (X := made_Light_X) (Λ := pick1 []) (rs := [.tmp 2]) (c := bodyOf Tryz.f5) mixed tab_ok hΓ Tryz.func5 (by kernel_rfl) (by kernel_rfl) (by kernel_rfl) (by kernel_rfl) CutsOk_nil (fun x k r h => Eq.trans (b := (zq5 (zq6)).run x k) (by kernel_rfl) h)
end
theorem zq8Γ : ΓOk Tryz.prog (pick1 []) := ΓOk_nil
def zq9 : zq4 := zq6
theorem zqa : SpecOk Tryz.prog 5 (zq5 zq9) := zq7 zq8Γ
abbrev zqb := {β : Type} → (List Int) → ((List Int × Int) → Option β) → Option β
def zqc (c : zqb) : Spec :=
  ⟨[(false, [.data (.slice (.int .i64))])], [], [(false, [.ptr 0 0])], [.cells 42 [.data (.prod (.slice (.int .i64)) (.int .i64))]], fun x k => c x.1.1.1 (fun r0 => k (((), ()), ((r0, ()), ())))⟩
section
@[reducible] def made_Roll_X : Ctx := ⟨look tab, pick1 [], false, false, false, false⟩
def zqd {β : Type} (l : List Int) (k : ((List Int × Int) → Option β)) : Option β :=
  k (l, 0)
theorem zqe (hΓ : ΓOk Tryz.prog made_Roll_X.Γ) : SpecOk Tryz.prog 7 (zqc (zqd)) :=
  spec_exec (X := made_Roll_X) (Λ := pick1 []) (rs := [.tmp 2]) (c := bodyOf Tryz.f7) mixed tab_ok hΓ Tryz.func7 (by kernel_rfl) (by kernel_rfl) (by kernel_rfl) (by kernel_rfl) CutsOk_nil (fun x k r h => Eq.trans (b := (zqc (zqd)).run x k) (by kernel_rfl) h)
end
theorem zqfΓ : ΓOk Tryz.prog (pick1 []) := ΓOk_nil
def zqg : zqb := zqd
theorem zqh : SpecOk Tryz.prog 7 (zqc zqg) := zqe zqfΓ
abbrev zqi := {β : Type} → (List zq0) → (List zq0) → (Bool → Option β) → Option β
def zqj (c : zqi) : Spec :=
  ⟨[(false, [.data (.slice zq1)]), (false, [.data (.slice zq1)])], [], [(false, [.data .bool])], [], fun x k => c x.1.1.1 x.1.2.1.1 (fun r0 => k (((r0, ()), ()), ()))⟩
noncomputable def law07_tokens_p1_code : Code := codeAt 58 (bodyOf Tryz.f10)
abbrev zqk (β : Type) := Bool → Option β
abbrev zql (β : Type) := Unit → Option β
abbrev zqm := {β : Type} → zqk β → zql β → (List zq0) → (List zq0) → Int → Int → Option β
def zqn : View := ⟨0, [0, 1, 12, 13], [(false, [.data  (.slice zq1)]), (false, [.data (.slice zq1)]), (false, [.data (.int .i64)]), (false, [.data (.int .i64)])], []⟩
def zqo : List  (AExit × View) := [(.ret, ⟨0, [4], [(false, [.data .bool])], []⟩), (.exit 0, ⟨0, [], [], []⟩)]
@[reducible] def law07_tokens_p1_G (p : zqm) {β : Type} (d : zqn.den) (ks : Outs.K β zqo) : Option β :=
  p (fun a0 => ks.1 (((a0, ()), ()), ())) (fun _ => ks.2.1 ((), ())) d.1.1.1 d.1.2.1.1 d.1.2.2.1.1 d.1.2.2.2.1.1
section
@[reducible] def law07_tokens_X : Ctx := ⟨look tab, pick1 [], false, false, false, false⟩
def zqp {β : Type} (rec : (List zq0) → (List zq0) → Int → Int → Option β) (k1 : zqk β) (k2 : zql β) (a b : List zq0) (t12 t13 : Int) : Option β :=
  cond (decide (t13 < t12))
  (cond (decide (0 ≤ t13) && decide (t13 < (List.length a : Int)))
  (let e : zq0 := List.getD a (Int.toNat t13) (0, (([] : List UInt8), 0));
  cond (decide (0 ≤ t13) && decide (t13 < (List.length b : Int)))
  (let e2 : zq0 := List.getD b (Int.toNat t13) (0, (([] : List UInt8), 0));
  cond (!(decide (e.1 = e2.1) && (decide (e.2.1 = e2.2.1) && (decide (e.2.2 = e2.2.2) && true))))
  (k1 false)
  (rec a b t12 (IntKind.i64.wrap (t13 + 1))))
  none)
  none)
  (k2 ())
def zqq {β : Type} : Nat → zqk β → zql β →  (List zq0) → (List zq0) → Int → Int → Option β
  | 0 => fun _ _ _ _ _ _ => none
  | i + 1 => fun k1 k2 a b t12 t13 => zqp (zqq i k1 k2) k1 k2 a b t12 t13
theorem zqr (hΓ : ΓOk Tryz.prog law07_tokens_X.Γ) (i : Nat) : PieceOk Tryz.prog 26 0 law07_tokens_p1_code zqn zqo (law07_tokens_p1_G (zqq i)) := by
  rw [show law07_tokens_p1_code = .loop (loopBody law07_tokens_p1_code) by kernel_rfl]
  exact piece_loop (X := law07_tokens_X) (p := 1) (Λ := pick1 []) (G := fun i => @fun β d ks => law07_tokens_p1_G (zqq i) d ks) mixed tab_ok hΓ rfl (by kernel_rfl) CutsOk_nil (fun _ _ => rfl) (fun i => @fun β d ks r h => Eq.trans (b := law07_tokens_p1_G (zqq (i + 1)) d ks) (by kernel_rfl) h) i
def zqs (p1 : zqm) {β : Type} (a : List zq0) (b : List zq0) (k : (Bool → Option β)) : Option β :=
  cond (!decide ((List.length a : Int) = (List.length b : Int)))
  (k false)
  (p1 (fun t4 =>
  k t4) (fun _ =>
  k true) a b (List.length a : Int) 0)
theorem zqt (hΓ : ΓOk Tryz.prog law07_tokens_X.Γ) (p1 : zqm) (hp1 : PieceOk Tryz.prog 26 0 law07_tokens_p1_code zqn zqo (law07_tokens_p1_G p1)) : SpecOk Tryz.prog 10 (zqj (zqs p1)) :=
  spec_exec (X := law07_tokens_X) (Λ := pick1 [(58, pieceCut zqn zqo (law07_tokens_p1_G p1))]) (rs := [.tmp 4]) (c := bodyOf Tryz.f10) mixed tab_ok hΓ Tryz.func10 (by kernel_rfl) (by kernel_rfl) (by kernel_rfl) (by kernel_rfl) (CutsOk_cons (q := 58) (c' := law07_tokens_p1_code) (by kernel_rfl) rfl hp1 CutsOk_nil) (fun x k r h => Eq.trans (b := (zqj (zqs p1)).run x k) (by kernel_rfl) h)
end
theorem zquΓ : ΓOk Tryz.prog (pick1 []) := ΓOk_nil
def zqv (m : Nat) : zqm := zqq m
theorem zqw {β : Type} (i : Nat) (k1 k2 a b t12 t13) : (zqv (i + 1) k1 k2 a b t12 t13 : Option β) = zqp (zqv i k1 k2) k1 k2 a b t12 t13 := rfl
def zqx : zqm := zqv fuel
theorem zqy : PieceOk Tryz.prog 26 0 law07_tokens_p1_code zqn zqo (law07_tokens_p1_G zqx) := zqr zquΓ fuel
def zqz : zqi := zqs zqx
theorem zq10 : SpecOk Tryz.prog 10 (zqj zqz) := zqt zquΓ zqx zqy
abbrev zq11 := {β : Type} → ((List (List UInt8)) → Option β) → Option β
def zq12 (c : zq11) : Spec :=
  ⟨[], [], [(false, [.rowh 0])], [.row 9 .str], fun x k => c  (fun r0 => k (((), ()), (r0, ())))⟩
section
@[reducible] def law07_lines_X : Ctx := ⟨look tab, pick1 [], false, false, false, false⟩
def zq13 {β : Type} (k : ((List (List UInt8)) → Option β)) : Option β :=
  let l : List (List UInt8) := ([([122, 111, 110, 101, 32, 97, 32, 43, 48, 49, 58, 48, 48] : List UInt8), ([122, 111, 110, 101, 32, 97, 32, 48, 49, 58, 48, 48] : List UInt8), ([114, 117, 108, 101, 32, 50, 48, 50, 48, 32, 50, 48, 51, 48, 32, 109, 97, 114, 32, 108, 97, 115, 116, 32, 115, 117, 110, 32, 48, 50, 58, 48, 48, 32, 43, 48, 50, 58, 48, 48] : List UInt8), ([114, 117, 108, 101, 32, 50, 48, 50, 48, 32, 109, 97, 114, 32, 108, 97, 115, 116, 32, 115, 117, 110, 32, 48, 50, 58, 48, 48, 32, 43, 48, 50, 58, 48, 48] : List UInt8), ([112, 101, 114, 115, 111, 110, 32, 112, 32, 97] : List UInt8), ([112, 101, 114, 115, 111, 110, 32, 112, 32, 97, 32, 119, 101, 101, 107, 32, 52, 48] : List UInt8), ([112, 101, 114, 115, 111, 110, 32, 112, 32, 97, 32, 114, 101, 115, 116, 32, 49, 49] : List UInt8), ([112, 101, 114, 115, 111, 110, 32, 112, 32, 97, 32, 119, 101, 101, 107, 32, 52, 48, 32, 114, 101, 115, 116, 32, 49, 49, 32, 99, 111, 110, 115, 101, 110, 116] : List UInt8), ([112, 101, 114, 115, 111, 110, 32, 112, 32, 97, 32, 114, 101, 115, 116, 32, 49, 49, 32, 119, 101, 101, 107, 32, 52, 48] : List UInt8), ([112, 101, 114, 115, 111, 110, 32, 112, 32, 97, 32, 99, 111, 110, 115, 101, 110, 116, 32, 99, 111, 110, 115, 101, 110, 116] : List UInt8), ([112, 101, 114, 115, 111, 110, 32, 112, 32, 97, 32, 119, 101, 101, 107] : List UInt8), ([112, 101, 114, 115, 111, 110, 32, 112] : List UInt8), ([113, 117, 105, 101, 116, 32, 109, 111, 110, 32, 50, 50, 58, 48, 48, 32, 109, 111, 110, 32, 50, 52, 58, 48, 48] : List UInt8), ([113, 117, 105, 101, 116, 32, 109, 111, 110, 32, 50, 50, 58, 48, 48] : List UInt8), ([99, 97, 108, 101, 110, 100, 97, 114, 32, 99, 32, 97] : List UInt8), ([100, 97, 121, 115, 32, 50, 48, 50, 54, 45, 48, 49, 45, 48, 49] : List UInt8), ([100, 97, 121, 115, 32, 50, 48, 50, 54, 45, 48, 49, 45, 48, 49, 32, 50, 48, 50, 54, 45, 48, 49, 45, 48, 50] : List UInt8), ([100, 97, 121, 115] : List UInt8), ([100, 97, 121, 115, 32, 50, 48, 50, 54, 45, 48, 49, 45, 48, 49, 32, 120] : List UInt8), ([115, 99, 104, 101, 100, 117, 108, 101, 32, 115] : List UInt8), ([115, 99, 104, 101, 100, 117, 108, 101] : List UInt8), ([108, 97, 121, 101, 114, 32, 108, 32, 97, 32, 50, 48, 50, 54, 45, 48, 49, 45, 48, 53, 32, 48, 57, 58, 48, 48, 32, 49, 32, 119, 101, 101, 107, 115] : List UInt8), ([108, 97, 121, 101, 114, 32, 108, 32, 97, 32, 50, 48, 50, 54, 45, 48, 49, 45, 48, 53, 32, 49, 32, 119, 101, 101, 107, 115] : List UInt8), ([109, 101, 109, 98, 101, 114, 32, 112, 32, 113, 32, 114] : List UInt8), ([109, 101, 109, 98, 101, 114] : List UInt8), ([111, 110, 32, 109, 111, 110, 32, 48, 57, 58, 48, 48, 32, 102, 114, 105, 32, 49, 55, 58, 48, 48] : List UInt8), ([110, 111, 116, 32, 99] : List UInt8), ([111, 110, 108, 121, 32, 99] : List UInt8), ([111, 110, 108, 121, 32, 99, 32, 100] : List UInt8), ([108, 101, 97, 118, 101, 32, 112, 32, 50, 48, 50, 54, 45, 48, 49, 45, 48, 49, 84, 48, 48, 58, 48, 48, 58, 48, 48, 90, 32, 50, 48, 50, 54, 45, 48, 49, 45, 48, 50, 84, 48, 48, 58, 48, 48, 58, 48, 48, 90] : List UInt8), ([111, 118, 101, 114, 114, 105, 100, 101, 32, 110, 111, 98, 111, 100, 121, 32, 50, 48, 50, 54, 45, 48, 49, 45, 48, 49, 84, 48, 48, 58, 48, 48, 58, 48, 48, 90, 32, 50, 48, 50, 54, 45, 48, 49, 45, 48, 50, 84, 48, 48, 58, 48, 48, 58, 48, 48, 90] : List UInt8), ([115, 119, 97, 112, 32, 112, 32, 113, 32, 50, 48, 50, 54, 45, 48, 49, 45, 48, 49, 84, 48, 48, 58, 48, 48, 58, 48, 48, 90, 32, 50, 48, 50, 54, 45, 48, 49, 45, 48, 50, 84, 48, 48, 58, 48, 48, 58, 48, 48, 90] : List UInt8), ([115, 119, 97, 112, 32, 112, 32, 50, 48, 50, 54, 45, 48, 49, 45, 48, 49, 84, 48, 48, 58, 48, 48, 58, 48, 48, 90, 32, 50, 48, 50, 54, 45, 48, 49, 45, 48, 50, 84, 48, 48, 58, 48, 48, 58, 48, 48, 90] : List UInt8), ([] : List UInt8), ([32, 32, 32] : List UInt8), ([35, 32, 111, 110, 108, 121, 32, 116, 104, 105, 115] : List UInt8), ([122, 111, 110, 101, 32, 97, 32, 43, 48, 49, 58, 48, 48, 32, 35, 32, 119, 105, 116, 104, 32, 116, 104, 105, 115] : List UInt8), ([117, 110, 107, 110, 111, 119, 110, 32, 97] : List UInt8), ([49, 32, 97] : List UInt8), ([122, 111, 110, 101] : List UInt8)] : List (List UInt8));
  k l
theorem zq14 (hΓ : ΓOk Tryz.prog law07_lines_X.Γ) : SpecOk Tryz.prog 15 (zq12 (zq13)) :=
  spec_exec (X := law07_lines_X) (Λ := pick1 []) (rs := [.tmp 0]) (c := bodyOf Tryz.f15) mixed tab_ok hΓ Tryz.func15 (by kernel_rfl) (by kernel_rfl) (by kernel_rfl) (by kernel_rfl) CutsOk_nil (fun x k r h => Eq.trans (b := (zq12 (zq13)).run x k) (by kernel_rfl) h)
end
theorem zq15Γ : ΓOk Tryz.prog (pick1 []) := ΓOk_nil
def zq16 : zq11 := zq13
theorem zq17 : SpecOk Tryz.prog 15 (zq12 zq16) := zq14 zq15Γ
abbrev zq18 := {β : Type} → Int → (List Int × Int) → (Int → (List Int × Int) → Option β) → Option β
def zq19 (c : zq18) : Spec :=
  ⟨[(false, [.ptr 0 0]), (false, [.data (.int .i64)])], [.cells 42 [.data (.prod (.slice (.int .i64)) (.int .i64))]], [(false, [.data (.int .i64)])], [.cells 42 [.data (.prod (.slice (.int .i64)) (.int .i64))]], fun x k => c x.1.2.1.1 x.2.1.1 (fun r0 r1 => k (((r0, ()), ()), ((r1, ()), ())))⟩
section
@[reducible] def made_Dice_Next_X : Ctx := ⟨look tab, pick1 [], false, false, false, false⟩
def zq1a {β : Type} (n : Int) (d : (List Int × Int)) (k : (Int → (List Int × Int) → Option β)) : Option β :=
  cond (decide ((List.length d.1 : Int) ≤ d.2))
  (k 0 d)
  (cond (decide (n < 1))
  (k 0 d)
  (cond (decide (0 ≤ d.2) && decide (d.2 < (List.length d.1 : Int)))
  (let e : Int := List.getD d.1 (Int.toNat d.2) 0;
  cond (!decide (n = 0))
  (cond (decide ((Int.tmod e n) < 0))
  (let x : Int := (IntKind.i64.wrap ((Int.tmod e n) + n));
  k x (d.1, (IntKind.i64.wrap (d.2 + 1))))
  (k (Int.tmod e n) (d.1, (IntKind.i64.wrap (d.2 + 1)))))
  none)
  none))
theorem zq1b (hΓ : ΓOk Tryz.prog made_Dice_Next_X.Γ) : SpecOk Tryz.prog 16 (zq19 (zq1a)) :=
  spec_exec (X := made_Dice_Next_X) (Λ := pick1 []) (rs := [.tmp 4]) (c := bodyOf Tryz.f16) mixed tab_ok hΓ Tryz.func16 (by kernel_rfl) (by kernel_rfl) (by kernel_rfl) (by kernel_rfl) CutsOk_nil (fun x k r h => Eq.trans (b := (zq19 (zq1a)).run x k) (by kernel_rfl) h)
end
theorem zq1cΓ : ΓOk Tryz.prog (pick1 []) := ΓOk_nil
def zq1d : zq18 := zq1a
theorem zq1e : SpecOk Tryz.prog 16 (zq19 zq1d) := zq1b zq1cΓ
abbrev zq1f := {β : Type} → Int → (List Int × Int) → (Bool → (List Int × Int) → Option β) → Option β
def zq1g (c : zq1f) : Spec :=
  ⟨[(false, [.ptr 0 0]), (false, [.data (.int .i64)])], [.cells 42 [.data (.prod (.slice (.int .i64)) (.int .i64))]], [(false, [.data .bool])], [.cells 42 [.data (.prod (.slice (.int .i64)) (.int .i64))]], fun x k => c x.1.2.1.1 x.2.1.1 (fun r0 r1 => k (((r0, ()), ()), ((r1, ()), ())))⟩
section
variable (c_made_Dice_Next : zq18)
@[reducible] def made_Dice_Bool_X : Ctx := ⟨look tab, pick1 [(16, .spec (zq19 c_made_Dice_Next))], false, false, false, false⟩
def zq1h {β : Type} (n : Int) (d : (List Int × Int)) (k : (Bool → (List Int × Int) → Option β)) : Option β :=
  c_made_Dice_Next n d (fun rNext mrNext =>
  let t : Bool := (decide (rNext = (IntKind.i64.wrap (n - 1))));
  k t mrNext)
theorem zq1i (hΓ : ΓOk Tryz.prog (made_Dice_Bool_X c_made_Dice_Next).Γ) : SpecOk Tryz.prog 18 (zq1g (zq1h c_made_Dice_Next)) :=
  spec_exec (X := (made_Dice_Bool_X c_made_Dice_Next)) (Λ := pick1 []) (rs := [.tmp 4]) (c := bodyOf Tryz.f18) mixed tab_ok hΓ Tryz.func18 (by kernel_rfl) (by kernel_rfl) (by kernel_rfl) (by kernel_rfl) CutsOk_nil (fun x k r h => Eq.trans (b := (zq1g (zq1h c_made_Dice_Next)).run x k) (by kernel_rfl) h)
end
theorem zq1jΓ : ΓOk Tryz.prog (pick1 [(16, .spec (zq19 zq1d))]) := (ΓOk_cons zq1e ΓOk_nil)
def zq1k : zq1f := zq1h zq1d
theorem zq1l : SpecOk Tryz.prog 18 (zq1g zq1k) := zq1i zq1d zq1jΓ
def zq1m : Shelf.Ren :=
      {
      f := fun x =>
        match x with
        | 146 => 19
        | 221 => 30
        | 268 => 47
        | 138 => 48
        | 143 => 49
        | 195 => 63
        | 197 => 64
        | 218 => 65
        | 219 => 66
        | 260 => 82
        | 217 => 83
        | 225 => 84
        | 224 => 85
        | 267 => 86
        | 266 => 99
        | 314 => 100
        | n => n,
      t := fun x =>
        match x with
        | 9 => 9
        | 31 => 43
        | 3 => 3
        | 4 => 4
        | 0 => 0
        | 105 => 104
        | 21 => 21
        | 5 => 5
        | 46 => 121
        | 119 => 91
        | 139 => 141
        | 138 => 140
        | 146 => 142
        | 51 => 110
        | n => n,
      g := fun x =>
        match x with
        | 1 => 2
        | 3 => 3
        | 4 => 4
        | n => n }
theorem zq1n : Go.Proofs.Lays.n146 Tryz.prog zq1m :=
  { mixed := by kernel_rfl,
    f138 := Eq.trans Tryz.func48 (congrArg some (by kernel_rfl)),
    f143 := Eq.trans Tryz.func49 (congrArg some (by kernel_rfl)),
    f146 := Eq.trans Tryz.func19 (congrArg some (by kernel_rfl)),
    f195 := Eq.trans Tryz.func63 (congrArg some (by kernel_rfl)),
    f197 := Eq.trans Tryz.func64 (congrArg some (by kernel_rfl)),
    f217 := Eq.trans Tryz.func83 (congrArg some (by kernel_rfl)),
    f218 := Eq.trans Tryz.func65 (congrArg some (by kernel_rfl)),
    f219 := Eq.trans Tryz.func66 (congrArg some (by kernel_rfl)),
    f221 := Eq.trans Tryz.func30 (congrArg some (by kernel_rfl)),
    f224 := Eq.trans Tryz.func85 (congrArg some (by kernel_rfl)),
    f225 := Eq.trans Tryz.func84 (congrArg some (by kernel_rfl)),
    f260 := Eq.trans Tryz.func82 (congrArg some (by kernel_rfl)),
    f266 := Eq.trans Tryz.func99 (congrArg some (by kernel_rfl)),
    f267 := Eq.trans Tryz.func86 (congrArg some (by kernel_rfl)),
    f268 := Eq.trans Tryz.func47 (congrArg some (by kernel_rfl)),
    f314 := Eq.trans Tryz.func100 (congrArg some (by kernel_rfl)),
    t0 := Tryz.underlying0,
    a0 := Tryz.isAgg0,
    z0 := Tryz.sizeOf0,
    v0 := Tryz.zeroValue0,
    t3 := Tryz.underlying3,
    a3 := Tryz.isAgg3,
    z3 := Tryz.sizeOf3,
    v3 := Tryz.zeroValue3,
    t4 := Tryz.underlying4,
    a4 := Tryz.isAgg4,
    z4 := Tryz.sizeOf4,
    v4 := Tryz.zeroValue4,
    t5 := Tryz.underlying5,
    a5 := Tryz.isAgg5,
    z5 := Tryz.sizeOf5,
    v5 := Tryz.zeroValue5,
    t9 := Tryz.underlying9,
    a9 := Tryz.isAgg9,
    z9 := Tryz.sizeOf9,
    v9 := Tryz.zeroValue9,
    t21 := Tryz.underlying21,
    a21 := Tryz.isAgg21,
    z21 := Tryz.sizeOf21,
    v21 := Tryz.zeroValue21,
    t31 := Tryz.underlying43,
    a31 := Tryz.isAgg43,
    z31 := Tryz.sizeOf43,
    v31 := Tryz.zeroValue43,
    t46 := Tryz.underlying121,
    a46 := Tryz.isAgg121,
    z46 := Tryz.sizeOf121,
    v46 := Tryz.zeroValue121,
    t51 := Tryz.underlying110,
    a51 := Tryz.isAgg110,
    z51 := Tryz.sizeOf110,
    v51 := Tryz.zeroValue110,
    t105 := Tryz.underlying104,
    a105 := Tryz.isAgg104,
    z105 := Tryz.sizeOf104,
    v105 := Tryz.zeroValue104,
    t119 := Tryz.underlying91,
    a119 := Tryz.isAgg91,
    z119 := Tryz.sizeOf91,
    t138 := Tryz.underlying140,
    a138 := Tryz.isAgg140,
    z138 := Tryz.sizeOf140,
    v138 := Tryz.zeroValue140,
    t139 := Tryz.underlying141,
    a139 := Tryz.isAgg141,
    z139 := Tryz.sizeOf141,
    v139 := Tryz.zeroValue141,
    t146 := Tryz.underlying142,
    a146 := Tryz.isAgg142,
    z146 := Tryz.sizeOf142,
    v146 := Tryz.zeroValue142,
    g1 := by kernel_rfl,
    g3 := by kernel_rfl,
    g4 := by kernel_rfl }
abbrev zq1o := splitT
def zq1p (c : zq1o) : Spec := splitRS 9 c
def zq1q : zq1o := fun x y k => splitF x y k
theorem zq1r : SpecOk Tryz.prog 19 (zq1p zq1q) :=
  splitR_ok zq1n rfl rfl (by kernel_rfl) (of_decide_eq_true (by kernel_rfl)) (fun w0 h0 => Go.Proofs.cell_of_shapedOpen_int (P := Tryz.prog) (g := 2) (t := 3) (zero := #[.int .i64 0]) h0 (of_decide_eq_true (by kernel_rfl)) (by kernel_rfl) rfl (by kernel_rfl) (by kernel_rfl) Tryz.underlying3) ⟨_, Tryz.func19, by kernel_rfl, by kernel_rfl⟩
def zq1s : Shelf.Ren :=
      {
      f := fun x =>
        match x with
        | 166 => 22
        | 240 => 36
        | 276 => 57
        | n => n,
      t := fun x =>
        match x with
        | 70 => 52
        | 9 => 9
        | 0 => 0
        | 72 => 55
        | 37 => 53
        | 127 => 78
        | 3 => 3
        | 5 => 5
        | 80 => 62
        | 4 => 4
        | 164 => 100
        | 20 => 20
        | 75 => 58
        | n => n,
      g := fun x => x }
theorem zq1t : Go.Proofs.Lays.n166 Tryz.prog zq1s :=
  { mixed := by kernel_rfl,
    f166 := Eq.trans Tryz.func22 (congrArg some (by kernel_rfl)),
    f240 := Eq.trans Tryz.func36 (congrArg some (by kernel_rfl)),
    f276 := Eq.trans Tryz.func57 (congrArg some (by kernel_rfl)),
    t0 := Tryz.underlying0,
    a0 := Tryz.isAgg0,
    z0 := Tryz.sizeOf0,
    v0 := Tryz.zeroValue0,
    t3 := Tryz.underlying3,
    a3 := Tryz.isAgg3,
    z3 := Tryz.sizeOf3,
    v3 := Tryz.zeroValue3,
    t4 := Tryz.underlying4,
    a4 := Tryz.isAgg4,
    z4 := Tryz.sizeOf4,
    v4 := Tryz.zeroValue4,
    t9 := Tryz.underlying9,
    a9 := Tryz.isAgg9,
    z9 := Tryz.sizeOf9,
    v9 := Tryz.zeroValue9,
    t20 := Tryz.underlying20,
    a20 := Tryz.isAgg20,
    z20 := Tryz.sizeOf20,
    v20 := Tryz.zeroValue20,
    t37 := Tryz.underlying53,
    a37 := Tryz.isAgg53,
    z37 := Tryz.sizeOf53,
    v37 := Tryz.zeroValue53,
    t70 := Tryz.underlying52,
    a70 := Tryz.isAgg52,
    z70 := Tryz.sizeOf52,
    v70 := Tryz.zeroValue52,
    t72 := Tryz.underlying55,
    a72 := Tryz.isAgg55,
    z72 := Tryz.sizeOf55,
    v72 := Tryz.zeroValue55,
    t75 := Tryz.underlying58,
    a75 := Tryz.isAgg58,
    z75 := Tryz.sizeOf58,
    v75 := Tryz.zeroValue58,
    t164 := Tryz.underlying100,
    a164 := Tryz.isAgg100,
    z164 := Tryz.sizeOf100,
    v164 := Tryz.zeroValue100 }
def zq1u : BldF := ⟨55, 5, 0⟩
theorem zq1v : BldOk Tryz.prog 22 zq1u :=
  bldWrite_ok zq1t { sizeBuilder := by kernel_rfl, liesBuilder := by kernel_rfl, t5 := Tryz.underlying5, a5 := Tryz.isAgg5, z5 := Tryz.sizeOf5, v5 := Tryz.zeroValue5, infoByte := by kernel_rfl, cellsByte := by kernel_rfl, sizeByte := by kernel_rfl, neB5 := by decide } rfl rfl rfl ⟨_, Tryz.func22, by kernel_rfl, by kernel_rfl⟩
def zq1w : Shelf.Ren :=
      {
      f := fun x =>
        match x with
        | 170 => 23
        | n => n,
      t := fun x =>
        match x with
        | 70 => 52
        | 3 => 3
        | 0 => 0
        | 72 => 55
        | 37 => 53
        | 5 => 5
        | n => n,
      g := fun x => x }
theorem zq1x : Go.Proofs.Lays.n170 Tryz.prog zq1w :=
  { mixed := by kernel_rfl,
    f170 := Eq.trans Tryz.func23 (congrArg some (by kernel_rfl)),
    t0 := Tryz.underlying0,
    a0 := Tryz.isAgg0,
    z0 := Tryz.sizeOf0,
    v0 := Tryz.zeroValue0,
    t3 := Tryz.underlying3,
    a3 := Tryz.isAgg3,
    z3 := Tryz.sizeOf3,
    v3 := Tryz.zeroValue3,
    t37 := Tryz.underlying53,
    a37 := Tryz.isAgg53,
    z37 := Tryz.sizeOf53,
    v37 := Tryz.zeroValue53,
    t70 := Tryz.underlying52,
    a70 := Tryz.isAgg52,
    z70 := Tryz.sizeOf52,
    v70 := Tryz.zeroValue52,
    t72 := Tryz.underlying55,
    a72 := Tryz.isAgg55,
    z72 := Tryz.sizeOf55,
    v72 := Tryz.zeroValue55 }
def zq1y : BldF := ⟨55, 5, 2⟩
theorem zq1z : BldOk Tryz.prog 23 zq1y :=
  bldLen_ok zq1x rfl rfl rfl ⟨_, Tryz.func23, by kernel_rfl, by kernel_rfl⟩
def zq20 : Shelf.Ren :=
      {
      f := fun x =>
        match x with
        | 169 => 24
        | n => n,
      t := fun x =>
        match x with
        | 70 => 52
        | 9 => 9
        | 0 => 0
        | 72 => 55
        | 37 => 53
        | 127 => 78
        | 3 => 3
        | 5 => 5
        | n => n,
      g := fun x => x }
theorem zq21 : Go.Proofs.Lays.n169 Tryz.prog zq20 :=
  { mixed := by kernel_rfl,
    f169 := Eq.trans Tryz.func24 (congrArg some (by kernel_rfl)),
    t0 := Tryz.underlying0,
    a0 := Tryz.isAgg0,
    z0 := Tryz.sizeOf0,
    v0 := Tryz.zeroValue0,
    t3 := Tryz.underlying3,
    a3 := Tryz.isAgg3,
    z3 := Tryz.sizeOf3,
    v3 := Tryz.zeroValue3,
    t9 := Tryz.underlying9,
    a9 := Tryz.isAgg9,
    z9 := Tryz.sizeOf9,
    v9 := Tryz.zeroValue9,
    t37 := Tryz.underlying53,
    a37 := Tryz.isAgg53,
    z37 := Tryz.sizeOf53,
    v37 := Tryz.zeroValue53,
    t70 := Tryz.underlying52,
    a70 := Tryz.isAgg52,
    z70 := Tryz.sizeOf52,
    v70 := Tryz.zeroValue52,
    t72 := Tryz.underlying55,
    a72 := Tryz.isAgg55,
    z72 := Tryz.sizeOf55,
    v72 := Tryz.zeroValue55,
    t127 := Tryz.underlying78,
    a127 := Tryz.isAgg78,
    z127 := Tryz.sizeOf78,
    v127 := Tryz.zeroValue78 }
def zq22 : BldF := ⟨55, 5, 1⟩
theorem zq23 : BldOk Tryz.prog 24 zq22 :=
  bldString_ok zq21 { sizeBuilder := by kernel_rfl, liesBuilder := by kernel_rfl, t5 := Tryz.underlying5, a5 := Tryz.isAgg5, z5 := Tryz.sizeOf5, v5 := Tryz.zeroValue5, infoByte := by kernel_rfl, cellsByte := by kernel_rfl, sizeByte := by kernel_rfl, neB5 := by decide } rfl rfl rfl ⟨_, Tryz.func24, by kernel_rfl, by kernel_rfl⟩
def zq24 : Shelf.Ren :=
      {
      f := fun x =>
        match x with
        | 145 => 31
        | 220 => 50
        | 219 => 66
        | 217 => 83
        | 225 => 84
        | 224 => 85
        | 267 => 86
        | 266 => 99
        | 314 => 100
        | n => n,
      t := fun x =>
        match x with
        | 9 => 9
        | 4 => 4
        | 59 => 71
        | 3 => 3
        | 5 => 5
        | 46 => 121
        | 146 => 142
        | 51 => 110
        | n => n,
      g := fun x =>
        match x with
        | 1 => 2
        | n => n }
theorem zq25 : Go.Proofs.Lays.n145 Tryz.prog zq24 :=
  { mixed := by kernel_rfl,
    f145 := Eq.trans Tryz.func31 (congrArg some (by kernel_rfl)),
    f217 := Eq.trans Tryz.func83 (congrArg some (by kernel_rfl)),
    f219 := Eq.trans Tryz.func66 (congrArg some (by kernel_rfl)),
    f220 := Eq.trans Tryz.func50 (congrArg some (by kernel_rfl)),
    f224 := Eq.trans Tryz.func85 (congrArg some (by kernel_rfl)),
    f225 := Eq.trans Tryz.func84 (congrArg some (by kernel_rfl)),
    f266 := Eq.trans Tryz.func99 (congrArg some (by kernel_rfl)),
    f267 := Eq.trans Tryz.func86 (congrArg some (by kernel_rfl)),
    f314 := Eq.trans Tryz.func100 (congrArg some (by kernel_rfl)),
    t3 := Tryz.underlying3,
    a3 := Tryz.isAgg3,
    z3 := Tryz.sizeOf3,
    v3 := Tryz.zeroValue3,
    t4 := Tryz.underlying4,
    a4 := Tryz.isAgg4,
    z4 := Tryz.sizeOf4,
    v4 := Tryz.zeroValue4,
    t5 := Tryz.underlying5,
    a5 := Tryz.isAgg5,
    z5 := Tryz.sizeOf5,
    v5 := Tryz.zeroValue5,
    t9 := Tryz.underlying9,
    a9 := Tryz.isAgg9,
    z9 := Tryz.sizeOf9,
    v9 := Tryz.zeroValue9,
    t46 := Tryz.underlying121,
    a46 := Tryz.isAgg121,
    z46 := Tryz.sizeOf121,
    v46 := Tryz.zeroValue121,
    t51 := Tryz.underlying110,
    a51 := Tryz.isAgg110,
    z51 := Tryz.sizeOf110,
    v51 := Tryz.zeroValue110,
    t59 := Tryz.underlying71,
    a59 := Tryz.isAgg71,
    z59 := Tryz.sizeOf71,
    v59 := Tryz.zeroValue71,
    t146 := Tryz.underlying142,
    a146 := Tryz.isAgg142,
    z146 := Tryz.sizeOf142,
    v146 := Tryz.zeroValue142,
    g1 := by kernel_rfl }
abbrev zq26 := cutT
def zq27 (c : zq26) : Spec := cutS c
def zq28 : zq26 := fun x y k => cutF x y k
theorem zq29 : SpecOk Tryz.prog 31 (zq27 zq28) :=
  cut_ok zq25 rfl (of_decide_eq_true (by kernel_rfl)) (fun w0 h0 => Go.Proofs.cell_of_shapedOpen_int (P := Tryz.prog) (g := 2) (t := 3) (zero := #[.int .i64 0]) h0 (of_decide_eq_true (by kernel_rfl)) (by kernel_rfl) rfl (by kernel_rfl) (by kernel_rfl) Tryz.underlying3) ⟨_, Tryz.func31, by kernel_rfl, by kernel_rfl⟩
def zq2a : Shelf.Ren :=
      {
      f := fun x =>
        match x with
        | 157 => 32
        | 229 => 51
        | 199 => 52
        | 261 => 67
        | 311 => 87
        | 312 => 88
        | n => n,
      t := fun x =>
        match x with
        | 9 => 9
        | 31 => 43
        | 3 => 3
        | 5 => 5
        | 4 => 4
        | 119 => 91
        | 0 => 0
        | 40 => 93
        | 152 => 107
        | 21 => 21
        | 154 => 109
        | 51 => 110
        | 141 => 112
        | 196 => 125
        | 193 => 122
        | 198 => 128
        | 49 => 126
        | 194 => 123
        | 201 => 131
        | 226 => 144
        | 46 => 121
        | 227 => 145
        | n => n,
      g := fun x =>
        match x with
        | 0 => 0
        | 6 => 1
        | n => n }
theorem zq2b : Go.Proofs.Lays.n157 Tryz.prog zq2a :=
  { mixed := by kernel_rfl,
    f157 := Eq.trans Tryz.func32 (congrArg some (by kernel_rfl)),
    f199 := Eq.trans Tryz.func52 (congrArg some (by kernel_rfl)),
    f229 := Eq.trans Tryz.func51 (congrArg some (by kernel_rfl)),
    f261 := Eq.trans Tryz.func67 (congrArg some (by kernel_rfl)),
    f311 := Eq.trans Tryz.func87 (congrArg some (by kernel_rfl)),
    f312 := Eq.trans Tryz.func88 (congrArg some (by kernel_rfl)),
    t0 := Tryz.underlying0,
    a0 := Tryz.isAgg0,
    z0 := Tryz.sizeOf0,
    v0 := Tryz.zeroValue0,
    t3 := Tryz.underlying3,
    a3 := Tryz.isAgg3,
    z3 := Tryz.sizeOf3,
    v3 := Tryz.zeroValue3,
    t4 := Tryz.underlying4,
    a4 := Tryz.isAgg4,
    z4 := Tryz.sizeOf4,
    v4 := Tryz.zeroValue4,
    t5 := Tryz.underlying5,
    a5 := Tryz.isAgg5,
    z5 := Tryz.sizeOf5,
    v5 := Tryz.zeroValue5,
    t9 := Tryz.underlying9,
    a9 := Tryz.isAgg9,
    z9 := Tryz.sizeOf9,
    v9 := Tryz.zeroValue9,
    t21 := Tryz.underlying21,
    a21 := Tryz.isAgg21,
    z21 := Tryz.sizeOf21,
    v21 := Tryz.zeroValue21,
    t31 := Tryz.underlying43,
    a31 := Tryz.isAgg43,
    z31 := Tryz.sizeOf43,
    v31 := Tryz.zeroValue43,
    t40 := Tryz.underlying93,
    a40 := Tryz.isAgg93,
    z40 := Tryz.sizeOf93,
    v40 := Tryz.zeroValue93,
    t46 := Tryz.underlying121,
    a46 := Tryz.isAgg121,
    z46 := Tryz.sizeOf121,
    v46 := Tryz.zeroValue121,
    t49 := Tryz.underlying126,
    a49 := Tryz.isAgg126,
    z49 := Tryz.sizeOf126,
    v49 := Tryz.zeroValue126,
    t51 := Tryz.underlying110,
    a51 := Tryz.isAgg110,
    z51 := Tryz.sizeOf110,
    v51 := Tryz.zeroValue110,
    t119 := Tryz.underlying91,
    a119 := Tryz.isAgg91,
    z119 := Tryz.sizeOf91,
    t141 := Tryz.underlying112,
    a141 := Tryz.isAgg112,
    z141 := Tryz.sizeOf112,
    v141 := Tryz.zeroValue112,
    t152 := Tryz.underlying107,
    a152 := Tryz.isAgg107,
    z152 := Tryz.sizeOf107,
    v152 := Tryz.zeroValue107,
    t154 := Tryz.underlying109,
    a154 := Tryz.isAgg109,
    z154 := Tryz.sizeOf109,
    v154 := Tryz.zeroValue109,
    t193 := Tryz.underlying122,
    a193 := Tryz.isAgg122,
    z193 := Tryz.sizeOf122,
    v193 := Tryz.zeroValue122,
    t194 := Tryz.underlying123,
    a194 := Tryz.isAgg123,
    z194 := Tryz.sizeOf123,
    v194 := Tryz.zeroValue123,
    t196 := Tryz.underlying125,
    a196 := Tryz.isAgg125,
    z196 := Tryz.sizeOf125,
    v196 := Tryz.zeroValue125,
    t198 := Tryz.underlying128,
    a198 := Tryz.isAgg128,
    z198 := Tryz.sizeOf128,
    v198 := Tryz.zeroValue128,
    t201 := Tryz.underlying131,
    a201 := Tryz.isAgg131,
    z201 := Tryz.sizeOf131,
    v201 := Tryz.zeroValue131,
    t226 := Tryz.underlying144,
    a226 := Tryz.isAgg144,
    z226 := Tryz.sizeOf144,
    v226 := Tryz.zeroValue144,
    t227 := Tryz.underlying145,
    a227 := Tryz.isAgg145,
    z227 := Tryz.sizeOf145,
    v227 := Tryz.zeroValue145,
    g0 := by kernel_rfl,
    g6 := by kernel_rfl }
abbrev zq2c := fieldsT
def zq2d (c : zq2c) : Spec := fieldsRS 9 c
def zq2e : zq2c := fun x k => fieldsF x k
theorem zq2f : SpecOk Tryz.prog 32 (zq2d zq2e) :=
  fields_ok zq2b rfl rfl (by kernel_rfl) (by kernel_rfl) (by kernel_rfl) (by kernel_rfl) ⟨_, Tryz.func32, by kernel_rfl, by kernel_rfl⟩
def zq2g : Shelf.Ren :=
      {
      f := fun x =>
        match x with
        | 156 => 35
        | 165 => 56
        | 166 => 22
        | 169 => 24
        | 240 => 36
        | 241 => 79
        | 276 => 57
        | 277 => 95
        | n => n,
      t := fun x =>
        match x with
        | 31 => 43
        | 9 => 9
        | 3 => 3
        | 4 => 4
        | 0 => 0
        | 20 => 20
        | 72 => 55
        | 76 => 59
        | 70 => 52
        | 37 => 53
        | 75 => 58
        | 127 => 78
        | 164 => 100
        | 5 => 5
        | 80 => 62
        | n => n,
      g := fun x => x }
theorem zq2h : Go.Proofs.Lays.n156 Tryz.prog zq2g :=
  { mixed := by kernel_rfl,
    f156 := Eq.trans Tryz.func35 (congrArg some (by kernel_rfl)),
    f165 := Eq.trans Tryz.func56 (congrArg some (by kernel_rfl)),
    f166 := Eq.trans Tryz.func22 (congrArg some (by kernel_rfl)),
    f169 := Eq.trans Tryz.func24 (congrArg some (by kernel_rfl)),
    f240 := Eq.trans Tryz.func36 (congrArg some (by kernel_rfl)),
    f241 := Eq.trans Tryz.func79 (congrArg some (by kernel_rfl)),
    f276 := Eq.trans Tryz.func57 (congrArg some (by kernel_rfl)),
    f277 := Eq.trans Tryz.func95 (congrArg some (by kernel_rfl)),
    t0 := Tryz.underlying0,
    a0 := Tryz.isAgg0,
    z0 := Tryz.sizeOf0,
    v0 := Tryz.zeroValue0,
    t3 := Tryz.underlying3,
    a3 := Tryz.isAgg3,
    z3 := Tryz.sizeOf3,
    v3 := Tryz.zeroValue3,
    t4 := Tryz.underlying4,
    a4 := Tryz.isAgg4,
    z4 := Tryz.sizeOf4,
    v4 := Tryz.zeroValue4,
    t9 := Tryz.underlying9,
    a9 := Tryz.isAgg9,
    z9 := Tryz.sizeOf9,
    v9 := Tryz.zeroValue9,
    t20 := Tryz.underlying20,
    a20 := Tryz.isAgg20,
    z20 := Tryz.sizeOf20,
    v20 := Tryz.zeroValue20,
    t31 := Tryz.underlying43,
    a31 := Tryz.isAgg43,
    z31 := Tryz.sizeOf43,
    v31 := Tryz.zeroValue43,
    t37 := Tryz.underlying53,
    a37 := Tryz.isAgg53,
    z37 := Tryz.sizeOf53,
    v37 := Tryz.zeroValue53,
    t70 := Tryz.underlying52,
    a70 := Tryz.isAgg52,
    z70 := Tryz.sizeOf52,
    v70 := Tryz.zeroValue52,
    t72 := Tryz.underlying55,
    a72 := Tryz.isAgg55,
    z72 := Tryz.sizeOf55,
    v72 := Tryz.zeroValue55,
    t75 := Tryz.underlying58,
    a75 := Tryz.isAgg58,
    z75 := Tryz.sizeOf58,
    v75 := Tryz.zeroValue58,
    t76 := Tryz.underlying59,
    a76 := Tryz.isAgg59,
    z76 := Tryz.sizeOf59,
    v76 := Tryz.zeroValue59,
    t127 := Tryz.underlying78,
    a127 := Tryz.isAgg78,
    z127 := Tryz.sizeOf78,
    v127 := Tryz.zeroValue78,
    t164 := Tryz.underlying100,
    a164 := Tryz.isAgg100,
    z164 := Tryz.sizeOf100,
    v164 := Tryz.zeroValue100 }
def zq2i : BldF := ⟨9, 0, 3⟩
theorem zq2j : BldOk Tryz.prog 35 zq2i :=
  join_ok zq2h { sizeBuilder := by kernel_rfl, liesBuilder := by kernel_rfl, t5 := Tryz.underlying5, a5 := Tryz.isAgg5, z5 := Tryz.sizeOf5, v5 := Tryz.zeroValue5, infoByte := by kernel_rfl, cellsByte := by kernel_rfl, sizeByte := by kernel_rfl, neB5 := by decide } rfl ⟨_, Tryz.func35, by kernel_rfl, by kernel_rfl⟩
abbrev zq2k := {β : Type} → zq2 → (List UInt8) → (Bool → (List UInt8) → Option β) → Option β
def zq2l (c : zq2k) : Spec :=
  ⟨[(true, [.data zq3]), (false, [.ptr 0 0])], [.cells 9 [.data .str]], [(false, [.data .bool])], [.cells 9 [.data .str]], fun x k => c x.1.1.1 x.2.1.1 (fun r0 r1 => k (((r0, ()), ()), ((r1, ()), ())))⟩
section
@[reducible] def syntax_forms_f1_X : Ctx := ⟨look tab, pick1 [], false, false, false, false⟩
def zq2m {β : Type} (f : zq2) (t1 : List UInt8) (k : (Bool → (List UInt8) → Option β)) : Option β :=
  k (decide (f.1 = t1)) t1
theorem zq2n (hΓ : ΓOk Tryz.prog syntax_forms_f1_X.Γ) : SpecOk Tryz.prog 38 (zq2l (zq2m)) :=
  spec_exec (X := syntax_forms_f1_X) (Λ := pick1 []) (rs := [.tmp 3]) (c := bodyOf Tryz.f38) mixed tab_ok hΓ Tryz.func38 (by kernel_rfl) (by kernel_rfl) (by kernel_rfl) (by kernel_rfl) CutsOk_nil (fun x k r h => Eq.trans (b := (zq2l (zq2m)).run x k) (by kernel_rfl) h)
end
theorem zq2oΓ : ΓOk Tryz.prog (pick1 []) := ΓOk_nil
def zq2p : zq2k := zq2m
theorem zq2q : SpecOk Tryz.prog 38 (zq2l zq2p) := zq2n zq2oΓ
abbrev zq2r := {β : Type} → zq0 → (List UInt8) → (Bool → Option β) → Option β
def zq2s (c : zq2r) : Spec :=
  ⟨[(true, [.data zq1]), (false, [.data .str])], [], [(false, [.data .bool])], [], fun x k => c x.1.1.1 x.1.2.1.1 (fun r0 => k (((r0, ()), ()), ()))⟩
section
@[reducible] def syntax_word_X : Ctx := ⟨look tab, pick1 [], false, false, false, false⟩
def zq2t {β : Type} (t : zq0) (s : List UInt8) (k : (Bool → Option β)) : Option β :=
  cond (decide (t.1 = 0))
  (k (decide (t.2.1 = s)))
  (k false)
theorem zq2u (hΓ : ΓOk Tryz.prog syntax_word_X.Γ) : SpecOk Tryz.prog 39 (zq2s (zq2t)) :=
  spec_exec (X := syntax_word_X) (Λ := pick1 []) (rs := [.tmp 4]) (c := bodyOf Tryz.f39) mixed tab_ok hΓ Tryz.func39 (by kernel_rfl) (by kernel_rfl) (by kernel_rfl) (by kernel_rfl) CutsOk_nil (fun x k r h => Eq.trans (b := (zq2s (zq2t)).run x k) (by kernel_rfl) h)
end
theorem zq2vΓ : ΓOk Tryz.prog (pick1 []) := ΓOk_nil
def zq2w : zq2r := zq2t
theorem zq2x : SpecOk Tryz.prog 39 (zq2s zq2w) := zq2u zq2vΓ
abbrev zq2y := {β : Type} → (List (List UInt8)) → (List UInt8) → (Int → Option β) → Option β
def zq2z (c : zq2y) : Spec :=
  ⟨[(false, [.data (.slice .str)]), (false, [.data .str])], [], [(false, [.data (.int .i64)])], [], fun x k => c x.1.1.1 x.1.2.1.1 (fun r0 => k (((r0, ()), ()), ()))⟩
noncomputable def slices_Index_string_string_p1_code : Code := codeAt 26 (bodyOf Tryz.f40)
abbrev zq30 (β : Type) := Int → Option β
abbrev zq31 (β : Type) := Unit → Option β
abbrev zq32 := {β : Type} → zq30 β → zq31 β → (List (List UInt8)) → (List UInt8) → Int → Int → Option β
def zq33 : View := ⟨0, [0, 1, 7, 8], [(false, [.data  (.slice .str)]), (false, [.data .str]), (false, [.data (.int .i64)]), (false, [.data (.int .i64)])], []⟩
def zq34 : List  (AExit × View) := [(.ret, ⟨0, [4], [(false, [.data (.int .i64)])], []⟩), (.exit 0, ⟨0, [], [], []⟩)]
@[reducible] def slices_Index_string_string_p1_G (p : zq32) {β : Type} (d : zq33.den) (ks : Outs.K β zq34) : Option β :=
  p (fun a0 => ks.1 (((a0, ()), ()), ())) (fun _ => ks.2.1 ((), ())) d.1.1.1 d.1.2.1.1 d.1.2.2.1.1 d.1.2.2.2.1.1
section
@[reducible] def slices_Index_string_string_X : Ctx := ⟨look tab, pick1 [], false, false, false, false⟩
def zq35 {β : Type} (rec : (List (List UInt8)) → (List UInt8) → Int → Int → Option β) (k1 : zq30 β) (k2 : zq31 β) (s : List (List UInt8)) (v : List UInt8) (t7 t8 : Int) : Option β :=
  cond (decide (t8 < t7))
  (cond (decide (0 ≤ t8) && decide (t8 < (List.length s : Int)))
  (let e : List UInt8 := List.getD s (Int.toNat t8) ([] : List UInt8);
  cond (decide (v = e))
  (k1 t8)
  (rec s v t7 (IntKind.i64.wrap (t8 + 1))))
  none)
  (k2 ())
def zq36 {β : Type} : Nat → zq30 β → zq31 β →  (List (List UInt8)) → (List UInt8) → Int → Int → Option β
  | 0 => fun _ _ _ _ _ _ => none
  | i + 1 => fun k1 k2 s v t7 t8 => zq35 (zq36 i k1 k2) k1 k2 s v t7 t8
theorem zq37 (hΓ : ΓOk Tryz.prog slices_Index_string_string_X.Γ) (i : Nat) : PieceOk Tryz.prog 19 0 slices_Index_string_string_p1_code zq33 zq34 (slices_Index_string_string_p1_G (zq36 i)) := by
  rw [show slices_Index_string_string_p1_code = .loop (loopBody slices_Index_string_string_p1_code) by kernel_rfl]
  exact piece_loop (X := slices_Index_string_string_X) (p := 1) (Λ := pick1 []) (G := fun i => @fun β d ks => slices_Index_string_string_p1_G (zq36 i) d ks) mixed tab_ok hΓ rfl (by kernel_rfl) CutsOk_nil (fun _ _ => rfl) (fun i => @fun β d ks r h => Eq.trans (b := slices_Index_string_string_p1_G (zq36 (i + 1)) d ks) (by kernel_rfl) h) i
def zq38 (p1 : zq32) {β : Type} (s : List (List UInt8)) (v : List UInt8) (k : (Int → Option β)) : Option β :=
  p1 (fun t4 =>
  k t4) (fun _ =>
  k (-1)) s v (List.length s : Int) 0
theorem zq39 (hΓ : ΓOk Tryz.prog slices_Index_string_string_X.Γ) (p1 : zq32) (hp1 : PieceOk Tryz.prog 19 0 slices_Index_string_string_p1_code zq33 zq34 (slices_Index_string_string_p1_G p1)) : SpecOk Tryz.prog 40 (zq2z (zq38 p1)) :=
  spec_exec (X := slices_Index_string_string_X) (Λ := pick1 [(26, pieceCut zq33 zq34 (slices_Index_string_string_p1_G p1))]) (rs := [.tmp 4]) (c := bodyOf Tryz.f40) mixed tab_ok hΓ Tryz.func40 (by kernel_rfl) (by kernel_rfl) (by kernel_rfl) (by kernel_rfl) (CutsOk_cons (q := 26) (c' := slices_Index_string_string_p1_code) (by kernel_rfl) rfl hp1 CutsOk_nil) (fun x k r h => Eq.trans (b := (zq2z (zq38 p1)).run x k) (by kernel_rfl) h)
end
theorem zq3aΓ : ΓOk Tryz.prog (pick1 []) := ΓOk_nil
def zq3b (m : Nat) : zq32 := zq36 m
theorem zq3c {β : Type} (i : Nat) (k1 k2 s v t7 t8) : (zq3b (i + 1) k1 k2 s v t7 t8 : Option β) = zq35 (zq3b i k1 k2) k1 k2 s v t7 t8 := rfl
def zq3d : zq32 := zq3b fuel
theorem zq3e : PieceOk Tryz.prog 19 0 slices_Index_string_string_p1_code zq33 zq34 (slices_Index_string_string_p1_G zq3d) := zq37 zq3aΓ fuel
def zq3f : zq2y := zq38 zq3d
theorem zq3g : SpecOk Tryz.prog 40 (zq2z zq3f) := zq39 zq3aΓ zq3d zq3e
abbrev zq3h := {β : Type} → (List UInt8) → ((List (List UInt8)) → Option β) → Option β
def zq3i (c : zq3h) : Spec :=
  ⟨[(false, [.data .str])], [], [(false, [.rowh 0])], [.row 9 .str], fun x k => c x.1.1.1 (fun r0 => k (((), ()), (r0, ())))⟩
noncomputable def ref06_Words_p2_code : Code := codeAt 122 (bodyOf Tryz.f41)
noncomputable def ref06_Words_p1_code : Code := codeAt 25 (loopBody ref06_Words_p2_code)
abbrev zq3j (β : Type) := (List UInt8) → Int → Int → (List (List UInt8)) → Option β
abbrev zq3k := {β : Type} → zq3j β → (List UInt8) → Int → Int → Bool → (List (List UInt8)) → Option β
def zq3l : View := ⟨0, [0, 3, 4, 5, 21], [(false, [.data .str]),  (false, [.rowh 0]), (false, [.data (.int .i64)]), (false, [.data (.int .i64)]), (false, [.data .bool])], [.row 9 .str]⟩
def zq3m : List  (AExit × View) := [(.normal, ⟨0, [0, 3, 4, 5], [(false, [.data .str]), (false, [.rowh 0]), (false, [.data (.int .i64)]), (false, [.data (.int .i64)])], [.row 9 .str]⟩)]
@[reducible] def ref06_Words_p1_G (p : zq3k) {β : Type} (d : zq3l.den) (ks : Outs.K β zq3m) : Option β :=
  p (fun a0 a1 a2 a3 => ks.1 (((a0, ()), (), (a1, ()), (a2, ()), ()), (a3, ()))) d.1.1.1 d.1.2.2.1.1 d.1.2.2.2.1.1 d.1.2.2.2.2.1.1 d.2.1
abbrev zq3n (β : Type) := (List (List UInt8)) → Option β
abbrev zq3o := {β : Type} → zq3n β → (List UInt8) → Int → Int → (List (List UInt8)) → Option β
def zq3p : View := ⟨0, [0, 3, 4, 5], [(false, [.data .str]),  (false, [.rowh 0]), (false, [.data (.int .i64)]), (false, [.data (.int .i64)])], [.row 9 .str]⟩
def zq3q : List  (AExit × View) := [(.exit 0, ⟨0, [3], [(false, [.rowh 0])], [.row 9 .str]⟩)]
@[reducible] def ref06_Words_p2_G (p : zq3o) {β : Type} (d : zq3p.den) (ks : Outs.K β zq3q) : Option β :=
  p (fun a0 => ks.1 (((), ()), (a0, ()))) d.1.1.1 d.1.2.2.1.1 d.1.2.2.2.1.1 d.2.1
section
@[reducible] def ref06_Words_X : Ctx := ⟨look tab, pick1 [], false, false, false, false⟩
def zq3r {β : Type} (k1 : zq3j β) (s : List UInt8) (from_ i_ : Int) (t21 : Bool) (out : List (List UInt8)) : Option β :=
  cond t21
  (cond (decide (from_ < i_))
  (cond (decide (0 ≤ from_) && (decide (from_ ≤ i_) && decide (i_ ≤ (List.length s : Int))))
  (let l : List (List UInt8) := ([(List.drop (Int.toNat from_) (List.take (Int.toNat i_) s))] : List (List UInt8));
  cond (decide ((List.length out + List.length l) * 16 ≤ roomMax))
  (let l2 : List (List UInt8) := (out ++ l);
  let from_2 : Int := (IntKind.i64.wrap (i_ + 1));
  k1 s from_2 i_ l2)
  none)
  none)
  (let from_2 : Int := (IntKind.i64.wrap (i_ + 1));
  k1 s from_2 i_ out))
  (k1 s from_ i_ out)
def zq3s {β : Type} (k1 : zq3j β) (s : List UInt8) (from_ i_ : Int) (t21 : Bool) (out : List (List UInt8)) : Option β := zq3r k1 s from_ i_ t21 out
theorem zq3t (hΓ : ΓOk Tryz.prog ref06_Words_X.Γ) : PieceOk Tryz.prog 35 0 ref06_Words_p1_code zq3l zq3m (ref06_Words_p1_G (zq3s)) :=
  piece_exec (X := ref06_Words_X) (p := 25) (Λ := pick1 []) mixed tab_ok hΓ (by kernel_rfl) CutsOk_nil (fun d ks r h => Eq.trans (b := ref06_Words_p1_G (zq3s) d ks) (by kernel_rfl) h)
def zq3u (p1 : zq3k) {β : Type} (rec : (List UInt8) → Int → Int → (List (List UInt8)) → Option β) (k1 : zq3n β) (s : List UInt8) (from_ : Int) (i_ : Int) (out : List (List UInt8)) : Option β :=
  cond (decide (i_ ≤ (List.length s : Int)))
  (cond (decide (i_ = (List.length s : Int)))
  (p1 (fun s2 from_2 i_2 out2 =>
  let i_3 : Int := (IntKind.i64.wrap (i_2 + 1));
  rec s2 from_2 i_3 out2) s from_ i_ true out)
  (cond (decide (0 ≤ i_) && decide (i_ < (List.length s : Int)))
  (p1 (fun s2 from_2 i_2 out2 =>
  let i_3 : Int := (IntKind.i64.wrap (i_2 + 1));
  rec s2 from_2 i_3 out2) s from_ i_ (decide (((List.getD s (Int.toNat i_) 0).toNat : Int) = 32)) out)
  none))
  (k1 out)
def zq3v (p1 : zq3k) {β : Type} : Nat → zq3n β → (List UInt8) → Int → Int → (List (List UInt8)) → Option β
  | 0 => fun _ _ _ _ _ => none
  | i + 1 => fun k1 s from_ i_ out => zq3u p1 (zq3v p1 i k1) k1 s from_ i_ out
theorem zq3w (hΓ : ΓOk Tryz.prog ref06_Words_X.Γ) (p1 : zq3k) (hp1 : PieceOk Tryz.prog 35 0 ref06_Words_p1_code zq3l zq3m (ref06_Words_p1_G p1)) (i : Nat) : PieceOk Tryz.prog 35 0 ref06_Words_p2_code zq3p zq3q (ref06_Words_p2_G (zq3v p1 i)) := by
  rw [show ref06_Words_p2_code = .loop (loopBody ref06_Words_p2_code) by kernel_rfl]
  exact piece_loop (X := ref06_Words_X) (p := 1) (Λ := pick1 [(25, pieceCut zq3l zq3m (ref06_Words_p1_G p1))]) (G := fun i => @fun β d ks => ref06_Words_p2_G (zq3v p1 i) d ks) mixed tab_ok hΓ rfl (by kernel_rfl) (CutsOk_cons (q := 25) (c' := ref06_Words_p1_code) (by kernel_rfl) rfl hp1 CutsOk_nil) (fun _ _ => rfl) (fun i => @fun β d ks r h => Eq.trans (b := ref06_Words_p2_G (zq3v p1 (i + 1)) d ks) (by kernel_rfl) h) i
def zq3x (p2 : zq3o) {β : Type} (s : List UInt8) (k : ((List (List UInt8)) → Option β)) : Option β :=
  p2 (fun out =>
  k out) s 0 0 ([] : List (List UInt8))
theorem zq3y (hΓ : ΓOk Tryz.prog ref06_Words_X.Γ) (p2 : zq3o) (hp2 : PieceOk Tryz.prog 35 0 ref06_Words_p2_code zq3p zq3q (ref06_Words_p2_G p2)) : SpecOk Tryz.prog 41 (zq3i (zq3x p2)) :=
  spec_exec (X := ref06_Words_X) (Λ := pick1 [(122, pieceCut zq3p zq3q (ref06_Words_p2_G p2))]) (rs := [.tmp 2]) (c := bodyOf Tryz.f41) mixed tab_ok hΓ Tryz.func41 (by kernel_rfl) (by kernel_rfl) (by kernel_rfl) (by kernel_rfl) (CutsOk_cons (q := 122) (c' := ref06_Words_p2_code) (by kernel_rfl) rfl hp2 CutsOk_nil) (fun x k r h => Eq.trans (b := (zq3i (zq3x p2)).run x k) (by kernel_rfl) h)
end
theorem zq3zΓ : ΓOk Tryz.prog (pick1 []) := ΓOk_nil
def zq40 : zq3k := zq3s
theorem zq41 : PieceOk Tryz.prog 35 0 ref06_Words_p1_code zq3l zq3m (ref06_Words_p1_G zq40) := zq3t zq3zΓ
def zq42 (m : Nat) : zq3o := zq3v zq40 m
theorem zq43 {β : Type} (i : Nat) (k1 s from_ i_ out) : (zq42 (i + 1) k1 s from_ i_ out : Option β) = zq3u zq40 (zq42 i k1) k1 s from_ i_ out := rfl
def zq44 : zq3o := zq42 fuel
theorem zq45 : PieceOk Tryz.prog 35 0 ref06_Words_p2_code zq3p zq3q (ref06_Words_p2_G zq44) := zq3w zq3zΓ zq40 zq41 fuel
def zq46 : zq3h := zq3x zq44
theorem zq47 : SpecOk Tryz.prog 41 (zq3i zq46) := zq3y zq3zΓ zq44 zq45
abbrev zq48 := {β : Type} → (List zq0) → ((List UInt8) → Option β) → Option β
def zq49 (c : zq48) : Spec :=
  ⟨[(false, [.data (.slice zq1)])], [], [(false, [.data .str])], [], fun x k => c x.1.1.1 (fun r0 => k (((r0, ()), ()), ()))⟩
noncomputable def ref07_kinds_p1_code : Code := codeAt 58 (bodyOf Tryz.f44)
abbrev zq4a (β : Type) := (List UInt8) → Option β
abbrev zq4b (β : Type) := (List UInt8) → Option β
abbrev zq4c := {β : Type} → zq4a β → zq4b β → (List zq0) → (List UInt8) → Int → Option β
def zq4d : View := ⟨0, [0, 3, 4], [(false, [.data  (.slice zq1)]), (false, [.data .str]), (false, [.data (.int .i64)])], []⟩
def zq4e : List  (AExit × View) := [(.ret, ⟨0, [2], [(false, [.data .str])], []⟩), (.exit 0, ⟨0, [3], [(false, [.data .str])], []⟩)]
@[reducible] def ref07_kinds_p1_G (p : zq4c) {β : Type} (d : zq4d.den) (ks : Outs.K β zq4e) : Option β :=
  p (fun a0 => ks.1 (((a0, ()), ()), ())) (fun a0 => ks.2.1 (((a0, ()), ()), ())) d.1.1.1 d.1.2.1.1 d.1.2.2.1.1
section
@[reducible] def ref07_kinds_X : Ctx := ⟨look tab, pick1 [], false, false, false, false⟩
def zq4f {β : Type} (rec : (List zq0) → (List UInt8) → Int → Option β) (k1 : zq4a β) (k2 : zq4b β) (l : List zq0) (s : List UInt8) (i_ : Int) : Option β :=
  cond (decide (i_ < (List.length l : Int)))
  (cond (decide (0 ≤ i_) && decide (i_ < (List.length l : Int)))
  (let e : zq0 := List.getD l (Int.toNat i_) (0, (([] : List UInt8), 0));
  cond (decide (e.1 < 0))
  (k1 ([63] : List UInt8))
  (cond (decide (0 ≤ i_) && decide (i_ < (List.length l : Int)))
  (let e2 : zq0 := List.getD l (Int.toNat i_) (0, (([] : List UInt8), 0));
  cond (decide (5 < e2.1))
  (k1 ([63] : List UInt8))
  (let l2 : List (List UInt8) := ([([119] : List UInt8), ([110] : List UInt8), ([99] : List UInt8), ([100] : List UInt8), ([111] : List UInt8), ([105] : List UInt8)] : List (List UInt8));
  cond (decide (0 ≤ i_) && decide (i_ < (List.length l : Int)))
  (let e3 : zq0 := List.getD l (Int.toNat i_) (0, (([] : List UInt8), 0));
  cond (decide (0 ≤ e3.1) && decide (e3.1 < (List.length l2 : Int)))
  (cond (decide (List.length s + List.length (List.getD l2 (Int.toNat e3.1) ([] : List UInt8)) ≤ 9223372036854775807))
  (let s2 : List UInt8 := (s ++ (List.getD l2 (Int.toNat e3.1) ([] : List UInt8)));
  let i_2 : Int := (IntKind.i64.wrap (i_ + 1));
  rec l s2 i_2)
  none)
  none)
  none))
  none))
  none)
  (k2 s)
def zq4g {β : Type} : Nat → zq4a β → zq4b β →  (List zq0) → (List UInt8) → Int → Option β
  | 0 => fun _ _ _ _ _ => none
  | i + 1 => fun k1 k2 l s i_ => zq4f (zq4g i k1 k2) k1 k2 l s i_
theorem zq4h (hΓ : ΓOk Tryz.prog ref07_kinds_X.Γ) (i : Nat) : PieceOk Tryz.prog 36 0 ref07_kinds_p1_code zq4d zq4e (ref07_kinds_p1_G (zq4g i)) := by
  rw [show ref07_kinds_p1_code = .loop (loopBody ref07_kinds_p1_code) by kernel_rfl]
  exact piece_loop (X := ref07_kinds_X) (p := 1) (Λ := pick1 []) (G := fun i => @fun β d ks => ref07_kinds_p1_G (zq4g i) d ks) mixed tab_ok hΓ rfl (by kernel_rfl) CutsOk_nil (fun _ _ => rfl) (fun i => @fun β d ks r h => Eq.trans (b := ref07_kinds_p1_G (zq4g (i + 1)) d ks) (by kernel_rfl) h) i
def zq4i (p1 : zq4c) {β : Type} (l : List zq0) (k : ((List UInt8) → Option β)) : Option β :=
  p1 (fun t2 =>
  k t2) (fun s =>
  k s) l ([] : List UInt8) 0
theorem zq4j (hΓ : ΓOk Tryz.prog ref07_kinds_X.Γ) (p1 : zq4c) (hp1 : PieceOk Tryz.prog 36 0 ref07_kinds_p1_code zq4d zq4e (ref07_kinds_p1_G p1)) : SpecOk Tryz.prog 44 (zq49 (zq4i p1)) :=
  spec_exec (X := ref07_kinds_X) (Λ := pick1 [(58, pieceCut zq4d zq4e (ref07_kinds_p1_G p1))]) (rs := [.tmp 2]) (c := bodyOf Tryz.f44) mixed tab_ok hΓ Tryz.func44 (by kernel_rfl) (by kernel_rfl) (by kernel_rfl) (by kernel_rfl) (CutsOk_cons (q := 58) (c' := ref07_kinds_p1_code) (by kernel_rfl) rfl hp1 CutsOk_nil) (fun x k r h => Eq.trans (b := (zq49 (zq4i p1)).run x k) (by kernel_rfl) h)
end
theorem zq4kΓ : ΓOk Tryz.prog (pick1 []) := ΓOk_nil
def zq4l (m : Nat) : zq4c := zq4g m
theorem zq4m {β : Type} (i : Nat) (k1 k2 l s i_) : (zq4l (i + 1) k1 k2 l s i_ : Option β) = zq4f (zq4l i k1 k2) k1 k2 l s i_ := rfl
def zq4n : zq4c := zq4l fuel
theorem zq4o : PieceOk Tryz.prog 36 0 ref07_kinds_p1_code zq4d zq4e (ref07_kinds_p1_G zq4n) := zq4h zq4kΓ fuel
def zq4p : zq48 := zq4i zq4n
theorem zq4q : SpecOk Tryz.prog 44 (zq49 zq4p) := zq4j zq4kΓ zq4n zq4o
abbrev zq4r := {β : Type} → ((List (List UInt8 × List UInt8)) → Option β) → Option β
def zq4s (c : zq4r) : Spec :=
  ⟨[], [], [(false, [.rowh 0])], [.row 87 (.prod .str .str)], fun x k => c  (fun r0 => k (((), ()), (r0, ())))⟩
section
@[reducible] def ref07_forms_X : Ctx := ⟨look tab, pick1 [], false, false, false, false⟩
def zq4t {β : Type} (k : ((List (List UInt8 × List UInt8)) → Option β)) : Option β :=
  let l : List (List UInt8 × List UInt8) := ([(([122, 111, 110, 101] : List UInt8), ([119, 111] : List UInt8)), (([114, 117, 108, 101] : List UInt8), ([110, 110, 119, 119, 119, 99, 111] : List UInt8)), (([113, 117, 105, 101, 116] : List UInt8), ([119, 99, 119, 99] : List UInt8)), (([99, 97, 108, 101, 110, 100, 97, 114] : List UInt8), ([119, 119] : List UInt8)), (([100, 97, 121, 115] : List UInt8), ([100, 43] : List UInt8)), (([115, 99, 104, 101, 100, 117, 108, 101] : List UInt8), ([119] : List UInt8)), (([108, 97, 121, 101, 114] : List UInt8), ([119, 119, 100, 99, 110, 119] : List UInt8)), (([109, 101, 109, 98, 101, 114] : List UInt8), ([119, 43] : List UInt8)), (([111, 110] : List UInt8), ([119, 99, 119, 99] : List UInt8)), (([110, 111, 116] : List UInt8), ([119] : List UInt8)), (([111, 110, 108, 121] : List UInt8), ([119] : List UInt8)), (([108, 101, 97, 118, 101] : List UInt8), ([119, 105, 105] : List UInt8)), (([111, 118, 101, 114, 114, 105, 100, 101] : List UInt8), ([119, 105, 105] : List UInt8)), (([115, 119, 97, 112] : List UInt8), ([119, 119, 105, 105] : List UInt8))] : List (List UInt8 × List UInt8));
  k l
theorem zq4u (hΓ : ΓOk Tryz.prog ref07_forms_X.Γ) : SpecOk Tryz.prog 45 (zq4s (zq4t)) :=
  spec_exec (X := ref07_forms_X) (Λ := pick1 []) (rs := [.tmp 0]) (c := bodyOf Tryz.f45) mixed tab_ok hΓ Tryz.func45 (by kernel_rfl) (by kernel_rfl) (by kernel_rfl) (by kernel_rfl) CutsOk_nil (fun x k r h => Eq.trans (b := (zq4s (zq4t)).run x k) (by kernel_rfl) h)
end
theorem zq4vΓ : ΓOk Tryz.prog (pick1 []) := ΓOk_nil
def zq4w : zq4r := zq4t
theorem zq4x : SpecOk Tryz.prog 45 (zq4s zq4w) := zq4u zq4vΓ
abbrev zq4y := {β : Type} → (List UInt8) → (List UInt8) → (Bool → Option β) → Option β
def zq4z (c : zq4y) : Spec :=
  ⟨[(false, [.data .str]), (false, [.data .str])], [], [(false, [.data .bool])], [], fun x k => c x.1.1.1 x.1.2.1.1 (fun r0 => k (((r0, ()), ()), ()))⟩
noncomputable def ref07_many_p1_code : Code := codeAt 26 (bodyOf Tryz.f46)
abbrev zq50 (β : Type) := Bool → Option β
abbrev zq51 (β : Type) := (List UInt8) → Option β
abbrev zq52 := {β : Type} → zq50 β → zq51 β → (List UInt8) → (List UInt8) → Int → Option β
def zq53 : View := ⟨0, [0, 1, 5], [(false, [.data .str]),  (false, [.data .str]), (false, [.data (.int .i64)])], []⟩
def zq54 : List  (AExit × View) := [(.ret, ⟨0, [4], [(false, [.data .bool])], []⟩), (.exit 0, ⟨0, [0], [(false, [.data .str])], []⟩)]
@[reducible] def ref07_many_p1_G (p : zq52) {β : Type} (d : zq53.den) (ks : Outs.K β zq54) : Option β :=
  p (fun a0 => ks.1 (((a0, ()), ()), ())) (fun a0 => ks.2.1 (((a0, ()), ()), ())) d.1.1.1 d.1.2.1.1 d.1.2.2.1.1
section
@[reducible] def ref07_many_X : Ctx := ⟨look tab, pick1 [], false, false, false, false⟩
def zq55 {β : Type} (rec : (List UInt8) → (List UInt8) → Int → Option β) (k1 : zq50 β) (k2 : zq51 β) (s b : List UInt8) (i_ : Int) : Option β :=
  cond (decide (i_ < (List.length s : Int)))
  (cond (decide (0 ≤ i_) && (decide (i_ ≤ (IntKind.i64.wrap (i_ + 1))) && decide ((IntKind.i64.wrap (i_ + 1)) ≤ (List.length s : Int))))
  (cond (!decide ((List.drop (Int.toNat i_) (List.take (Int.toNat (IntKind.i64.wrap (i_ + 1))) s)) = b))
  (k1 false)
  (let i_2 : Int := (IntKind.i64.wrap (i_ + 1));
  rec s b i_2))
  none)
  (k2 s)
def zq56 {β : Type} : Nat → zq50 β → zq51 β →  (List UInt8) → (List UInt8) → Int → Option β
  | 0 => fun _ _ _ _ _ => none
  | i + 1 => fun k1 k2 s b i_ => zq55 (zq56 i k1 k2) k1 k2 s b i_
theorem zq57 (hΓ : ΓOk Tryz.prog ref07_many_X.Γ) (i : Nat) : PieceOk Tryz.prog 21 0 ref07_many_p1_code zq53 zq54 (ref07_many_p1_G (zq56 i)) := by
  rw [show ref07_many_p1_code = .loop (loopBody ref07_many_p1_code) by kernel_rfl]
  exact piece_loop (X := ref07_many_X) (p := 1) (Λ := pick1 []) (G := fun i => @fun β d ks => ref07_many_p1_G (zq56 i) d ks) mixed tab_ok hΓ rfl (by kernel_rfl) CutsOk_nil (fun _ _ => rfl) (fun i => @fun β d ks r h => Eq.trans (b := ref07_many_p1_G (zq56 (i + 1)) d ks) (by kernel_rfl) h) i
def zq58 (p1 : zq52) {β : Type} (s : List UInt8) (b : List UInt8) (k : (Bool → Option β)) : Option β :=
  p1 (fun t4 =>
  k t4) (fun s2 =>
  let t : Bool := (!decide (s2 = ([] : List UInt8)));
  k t) s b 0
theorem zq59 (hΓ : ΓOk Tryz.prog ref07_many_X.Γ) (p1 : zq52) (hp1 : PieceOk Tryz.prog 21 0 ref07_many_p1_code zq53 zq54 (ref07_many_p1_G p1)) : SpecOk Tryz.prog 46 (zq4z (zq58 p1)) :=
  spec_exec (X := ref07_many_X) (Λ := pick1 [(26, pieceCut zq53 zq54 (ref07_many_p1_G p1))]) (rs := [.tmp 4]) (c := bodyOf Tryz.f46) mixed tab_ok hΓ Tryz.func46 (by kernel_rfl) (by kernel_rfl) (by kernel_rfl) (by kernel_rfl) (CutsOk_cons (q := 26) (c' := ref07_many_p1_code) (by kernel_rfl) rfl hp1 CutsOk_nil) (fun x k r h => Eq.trans (b := (zq4z (zq58 p1)).run x k) (by kernel_rfl) h)
end
theorem zq5aΓ : ΓOk Tryz.prog (pick1 []) := ΓOk_nil
def zq5b (m : Nat) : zq52 := zq56 m
theorem zq5c {β : Type} (i : Nat) (k1 k2 s b i_) : (zq5b (i + 1) k1 k2 s b i_ : Option β) = zq55 (zq5b i k1 k2) k1 k2 s b i_ := rfl
def zq5d : zq52 := zq5b fuel
theorem zq5e : PieceOk Tryz.prog 21 0 ref07_many_p1_code zq53 zq54 (ref07_many_p1_G zq5d) := zq57 zq5aΓ fuel
def zq5f : zq4y := zq58 zq5d
theorem zq5g : SpecOk Tryz.prog 46 (zq4z zq5f) := zq59 zq5aΓ zq5d zq5e
abbrev zq5h := {β : Type} → (List UInt8) → (Int → Option β) → Option β
def zq5i (c : zq5h) : Spec :=
  ⟨[(false, [.data .str])], [], [(false, [.data (.int .i64)])], [], fun x k => c x.1.1.1 (fun r0 => k (((r0, ()), ()), ()))⟩
noncomputable def ref06_number_p1_code : Code := codeAt 58 (bodyOf Tryz.f62)
abbrev zq5j (β : Type) := Int → Option β
abbrev zq5k := {β : Type} → zq5j β → (List UInt8) → Int → Int → Option β
def zq5l : View := ⟨0, [0, 3, 4], [(false, [.data .str]),  (false, [.data (.int .i64)]), (false, [.data (.int .i64)])], []⟩
def zq5m : List  (AExit × View) := [(.exit 0, ⟨0, [3], [(false, [.data (.int .i64)])], []⟩)]
@[reducible] def ref06_number_p1_G (p : zq5k) {β : Type} (d : zq5l.den) (ks : Outs.K β zq5m) : Option β :=
  p (fun a0 => ks.1 (((a0, ()), ()), ())) d.1.1.1 d.1.2.1.1 d.1.2.2.1.1
section
@[reducible] def ref06_number_X : Ctx := ⟨look tab, pick1 [], false, false, false, false⟩
def zq5n {β : Type} (rec : (List UInt8) → Int → Int → Option β) (k1 : zq5j β) (s : List UInt8) (n i_ : Int) : Option β :=
  cond (decide (i_ < (List.length s : Int)))
  (cond (decide (0 ≤ i_) && decide (i_ < (List.length s : Int)))
  (let n2 : Int := (IntKind.i64.wrap ((IntKind.i64.wrap (10 * n)) + (IntKind.i64.wrap (IntKind.u8.wrap (((List.getD s (Int.toNat i_) 0).toNat : Int) - 48)))));
  let i_2 : Int := (IntKind.i64.wrap (i_ + 1));
  rec s n2 i_2)
  none)
  (k1 n)
def zq5o {β : Type} : Nat → zq5j β →  (List UInt8) → Int → Int → Option β
  | 0 => fun _ _ _ _ => none
  | i + 1 => fun k1 s n i_ => zq5n (zq5o i k1) k1 s n i_
theorem zq5p (hΓ : ΓOk Tryz.prog ref06_number_X.Γ) (i : Nat) : PieceOk Tryz.prog 20 0 ref06_number_p1_code zq5l zq5m (ref06_number_p1_G (zq5o i)) := by
  rw [show ref06_number_p1_code = .loop (loopBody ref06_number_p1_code) by kernel_rfl]
  exact piece_loop (X := ref06_number_X) (p := 1) (Λ := pick1 []) (G := fun i => @fun β d ks => ref06_number_p1_G (zq5o i) d ks) mixed tab_ok hΓ rfl (by kernel_rfl) CutsOk_nil (fun _ _ => rfl) (fun i => @fun β d ks r h => Eq.trans (b := ref06_number_p1_G (zq5o (i + 1)) d ks) (by kernel_rfl) h) i
def zq5q (p1 : zq5k) {β : Type} (s : List UInt8) (k : (Int → Option β)) : Option β :=
  p1 (fun n =>
  k n) s 0 0
theorem zq5r (hΓ : ΓOk Tryz.prog ref06_number_X.Γ) (p1 : zq5k) (hp1 : PieceOk Tryz.prog 20 0 ref06_number_p1_code zq5l zq5m (ref06_number_p1_G p1)) : SpecOk Tryz.prog 62 (zq5i (zq5q p1)) :=
  spec_exec (X := ref06_number_X) (Λ := pick1 [(58, pieceCut zq5l zq5m (ref06_number_p1_G p1))]) (rs := [.tmp 2]) (c := bodyOf Tryz.f62) mixed tab_ok hΓ Tryz.func62 (by kernel_rfl) (by kernel_rfl) (by kernel_rfl) (by kernel_rfl) (CutsOk_cons (q := 58) (c' := ref06_number_p1_code) (by kernel_rfl) rfl hp1 CutsOk_nil) (fun x k r h => Eq.trans (b := (zq5i (zq5q p1)).run x k) (by kernel_rfl) h)
end
theorem zq5sΓ : ΓOk Tryz.prog (pick1 []) := ΓOk_nil
def zq5t (m : Nat) : zq5k := zq5o m
theorem zq5u {β : Type} (i : Nat) (k1 s n i_) : (zq5t (i + 1) k1 s n i_ : Option β) = zq5n (zq5t i k1) k1 s n i_ := rfl
def zq5v : zq5k := zq5t fuel
theorem zq5w : PieceOk Tryz.prog 20 0 ref06_number_p1_code zq5l zq5m (ref06_number_p1_G zq5v) := zq5p zq5sΓ fuel
def zq5x : zq5h := zq5q zq5v
theorem zq5y : SpecOk Tryz.prog 62 (zq5i zq5x) := zq5r zq5sΓ zq5v zq5w
abbrev zq5z := {β : Type} → Int → (Bool → Option β) → Option β
def zq60 (c : zq5z) : Spec :=
  ⟨[(false, [.data (.int .u8)])], [], [(false, [.data .bool])], [], fun x k => c x.1.1.1 (fun r0 => k (((r0, ()), ()), ()))⟩
section
@[reducible] def lexer_small_X : Ctx := ⟨look tab, pick1 [], false, false, false, false⟩
def zq61 {β : Type} (c : Int) (k : (Bool → Option β)) : Option β :=
  cond (decide (97 ≤ c))
  (let t : Bool := (decide (c ≤ 122));
  k t)
  (k false)
theorem zq62 (hΓ : ΓOk Tryz.prog lexer_small_X.Γ) : SpecOk Tryz.prog 68 (zq60 (zq61)) :=
  spec_exec (X := lexer_small_X) (Λ := pick1 []) (rs := [.tmp 2]) (c := bodyOf Tryz.f68) mixed tab_ok hΓ Tryz.func68 (by kernel_rfl) (by kernel_rfl) (by kernel_rfl) (by kernel_rfl) CutsOk_nil (fun x k r h => Eq.trans (b := (zq60 (zq61)).run x k) (by kernel_rfl) h)
end
theorem zq63Γ : ΓOk Tryz.prog (pick1 []) := ΓOk_nil
def zq64 : zq5z := zq61
theorem zq65 : SpecOk Tryz.prog 68 (zq60 zq64) := zq62 zq63Γ
def zq66 : Shelf.Ren :=
      {
      f := fun x =>
        match x with
        | 144 => 70
        | 143 => 49
        | 219 => 66
        | 217 => 83
        | 225 => 84
        | 224 => 85
        | 267 => 86
        | 266 => 99
        | 314 => 100
        | n => n,
      t := fun x =>
        match x with
        | 9 => 9
        | 4 => 4
        | 3 => 3
        | 5 => 5
        | 46 => 121
        | 146 => 142
        | 51 => 110
        | n => n,
      g := fun x =>
        match x with
        | 1 => 2
        | n => n }
theorem zq67 : Go.Proofs.Lays.n144 Tryz.prog zq66 :=
  { mixed := by kernel_rfl,
    f143 := Eq.trans Tryz.func49 (congrArg some (by kernel_rfl)),
    f144 := Eq.trans Tryz.func70 (congrArg some (by kernel_rfl)),
    f217 := Eq.trans Tryz.func83 (congrArg some (by kernel_rfl)),
    f219 := Eq.trans Tryz.func66 (congrArg some (by kernel_rfl)),
    f224 := Eq.trans Tryz.func85 (congrArg some (by kernel_rfl)),
    f225 := Eq.trans Tryz.func84 (congrArg some (by kernel_rfl)),
    f266 := Eq.trans Tryz.func99 (congrArg some (by kernel_rfl)),
    f267 := Eq.trans Tryz.func86 (congrArg some (by kernel_rfl)),
    f314 := Eq.trans Tryz.func100 (congrArg some (by kernel_rfl)),
    t3 := Tryz.underlying3,
    a3 := Tryz.isAgg3,
    z3 := Tryz.sizeOf3,
    v3 := Tryz.zeroValue3,
    t4 := Tryz.underlying4,
    a4 := Tryz.isAgg4,
    z4 := Tryz.sizeOf4,
    v4 := Tryz.zeroValue4,
    t5 := Tryz.underlying5,
    a5 := Tryz.isAgg5,
    z5 := Tryz.sizeOf5,
    v5 := Tryz.zeroValue5,
    t9 := Tryz.underlying9,
    a9 := Tryz.isAgg9,
    z9 := Tryz.sizeOf9,
    v9 := Tryz.zeroValue9,
    t46 := Tryz.underlying121,
    a46 := Tryz.isAgg121,
    z46 := Tryz.sizeOf121,
    v46 := Tryz.zeroValue121,
    t51 := Tryz.underlying110,
    a51 := Tryz.isAgg110,
    z51 := Tryz.sizeOf110,
    v51 := Tryz.zeroValue110,
    t146 := Tryz.underlying142,
    a146 := Tryz.isAgg142,
    z146 := Tryz.sizeOf142,
    v146 := Tryz.zeroValue142,
    g1 := by kernel_rfl }
abbrev zq68 := containsT
def zq69 (c : zq68) : Spec := containsS c
def zq6a : zq68 := fun x y k => containsF x y k
theorem zq6b : SpecOk Tryz.prog 70 (zq69 zq6a) :=
  contains_ok zq67 rfl (of_decide_eq_true (by kernel_rfl)) (fun w0 h0 => Go.Proofs.cell_of_shapedOpen_int (P := Tryz.prog) (g := 2) (t := 3) (zero := #[.int .i64 0]) h0 (of_decide_eq_true (by kernel_rfl)) (by kernel_rfl) rfl (by kernel_rfl) (by kernel_rfl) Tryz.underlying3) ⟨_, Tryz.func70, by kernel_rfl, by kernel_rfl⟩
abbrev zq6c := {β : Type} → Int → (Bool → Option β) → Option β
def zq6d (c : zq6c) : Spec :=
  ⟨[(false, [.data (.int .u8)])], [], [(false, [.data .bool])], [], fun x k => c x.1.1.1 (fun r0 => k (((r0, ()), ()), ()))⟩
section
@[reducible] def lexer_digit_X : Ctx := ⟨look tab, pick1 [], false, false, false, false⟩
def zq6e {β : Type} (c : Int) (k : (Bool → Option β)) : Option β :=
  cond (decide (48 ≤ c))
  (let t : Bool := (decide (c ≤ 57));
  k t)
  (k false)
theorem zq6f (hΓ : ΓOk Tryz.prog lexer_digit_X.Γ) : SpecOk Tryz.prog 75 (zq6d (zq6e)) :=
  spec_exec (X := lexer_digit_X) (Λ := pick1 []) (rs := [.tmp 2]) (c := bodyOf Tryz.f75) mixed tab_ok hΓ Tryz.func75 (by kernel_rfl) (by kernel_rfl) (by kernel_rfl) (by kernel_rfl) CutsOk_nil (fun x k r h => Eq.trans (b := (zq6d (zq6e)).run x k) (by kernel_rfl) h)
end
theorem zq6gΓ : ΓOk Tryz.prog (pick1 []) := ΓOk_nil
def zq6h : zq6c := zq6e
theorem zq6i : SpecOk Tryz.prog 75 (zq6d zq6h) := zq6f zq6gΓ
def zq6j : Shelf.Ren :=
      {
      f := fun x =>
        match x with
        | 171 => 76
        | 243 => 92
        | 246 => 105
        | 283 => 116
        | 284 => 117
        | 285 => 118
        | 286 => 119
        | 129 => 128
        | 317 => 127
        | 318 => 129
        | 319 => 130
        | 320 => 131
        | 337 => 137
        | 338 => 138
        | n => n,
      t := fun x =>
        match x with
        | 3 => 3
        | 9 => 9
        | 2 => 2
        | 4 => 4
        | 171 => 156
        | 0 => 0
        | 53 => 157
        | 37 => 53
        | 5 => 5
        | 173 => 160
        | 212 => 171
        | 51 => 110
        | 20 => 20
        | 213 => 172
        | 46 => 121
        | 232 => 182
        | 233 => 183
        | n => n,
      g := fun x =>
        match x with
        | 17 => 7
        | 18 => 8
        | 19 => 9
        | n => n }
theorem zq6k : Go.Proofs.LaysM.n171 Tryz.prog zq6j :=
  { mixed := by kernel_rfl,
    f129 := Eq.trans Tryz.func128 (congrArg some (by kernel_rfl)),
    f171 := Eq.trans Tryz.func76 (congrArg some (by kernel_rfl)),
    f243 := Eq.trans Tryz.func92 (congrArg some (by kernel_rfl)),
    f246 := Eq.trans Tryz.func105 (congrArg some (by kernel_rfl)),
    f283 := Eq.trans Tryz.func116 (congrArg some (by kernel_rfl)),
    f284 := Eq.trans Tryz.func117 (congrArg some (by kernel_rfl)),
    f285 := Eq.trans Tryz.func118 (congrArg some (by kernel_rfl)),
    f286 := Eq.trans Tryz.func119 (congrArg some (by kernel_rfl)),
    f317 := Eq.trans Tryz.func127 (congrArg some (by kernel_rfl)),
    f318 := Eq.trans Tryz.func129 (congrArg some (by kernel_rfl)),
    f319 := Eq.trans Tryz.func130 (congrArg some (by kernel_rfl)),
    f320 := Eq.trans Tryz.func131 (congrArg some (by kernel_rfl)),
    f337 := Eq.trans Tryz.func137 (congrArg some (by kernel_rfl)),
    f338 := Eq.trans Tryz.func138 (congrArg some (by kernel_rfl)),
    t0 := Tryz.underlying0,
    a0 := Tryz.isAgg0,
    z0 := Tryz.sizeOf0,
    v0 := Tryz.zeroValue0,
    t2 := Tryz.underlying2,
    a2 := Tryz.isAgg2,
    z2 := Tryz.sizeOf2,
    v2 := Tryz.zeroValue2,
    t3 := Tryz.underlying3,
    a3 := Tryz.isAgg3,
    z3 := Tryz.sizeOf3,
    v3 := Tryz.zeroValue3,
    t4 := Tryz.underlying4,
    a4 := Tryz.isAgg4,
    z4 := Tryz.sizeOf4,
    v4 := Tryz.zeroValue4,
    t5 := Tryz.underlying5,
    a5 := Tryz.isAgg5,
    z5 := Tryz.sizeOf5,
    v5 := Tryz.zeroValue5,
    t9 := Tryz.underlying9,
    a9 := Tryz.isAgg9,
    z9 := Tryz.sizeOf9,
    v9 := Tryz.zeroValue9,
    t20 := Tryz.underlying20,
    a20 := Tryz.isAgg20,
    z20 := Tryz.sizeOf20,
    v20 := Tryz.zeroValue20,
    t37 := Tryz.underlying53,
    a37 := Tryz.isAgg53,
    z37 := Tryz.sizeOf53,
    v37 := Tryz.zeroValue53,
    t46 := Tryz.underlying121,
    a46 := Tryz.isAgg121,
    z46 := Tryz.sizeOf121,
    v46 := Tryz.zeroValue121,
    t51 := Tryz.underlying110,
    a51 := Tryz.isAgg110,
    z51 := Tryz.sizeOf110,
    v51 := Tryz.zeroValue110,
    t53 := Tryz.underlying157,
    a53 := Tryz.isAgg157,
    z53 := Tryz.sizeOf157,
    v53 := Tryz.zeroValue157,
    t171 := Tryz.underlying156,
    a171 := Tryz.isAgg156,
    z171 := Tryz.sizeOf156,
    v171 := Tryz.zeroValue156,
    t173 := Tryz.underlying160,
    a173 := Tryz.isAgg160,
    z173 := Tryz.sizeOf160,
    v173 := Tryz.zeroValue160,
    t212 := Tryz.underlying171,
    a212 := Tryz.isAgg171,
    z212 := Tryz.sizeOf171,
    v212 := Tryz.zeroValue171,
    t213 := Tryz.underlying172,
    a213 := Tryz.isAgg172,
    z213 := Tryz.sizeOf172,
    t232 := Tryz.underlying182,
    a232 := Tryz.isAgg182,
    z232 := Tryz.sizeOf182,
    v232 := Tryz.zeroValue182,
    t233 := Tryz.underlying183,
    a233 := Tryz.isAgg183,
    z233 := Tryz.sizeOf183,
    v233 := Tryz.zeroValue183,
    g17 := by kernel_rfl,
    g18 := by kernel_rfl,
    g19 := by kernel_rfl,
    i0 := by kernel_rfl,
    i2 := by kernel_rfl,
    i3 := by kernel_rfl,
    i4 := by kernel_rfl,
    i5 := by kernel_rfl,
    i9 := by kernel_rfl,
    i20 := by kernel_rfl,
    i37 := by kernel_rfl,
    i46 := by kernel_rfl,
    i51 := by kernel_rfl,
    i53 := by kernel_rfl,
    i171 := by kernel_rfl,
    i173 := by kernel_rfl,
    i212 := by kernel_rfl,
    i232 := by kernel_rfl,
    i233 := by kernel_rfl,
    m17 := by kernel_rfl,
    m18 := by kernel_rfl,
    m19 := by kernel_rfl }
abbrev zq6l := itoaT
def zq6m (c : zq6l) : Spec := itoaS c
def zq6n : zq6l := fun x k => itoaF x k
theorem zq6o : SpecOk Tryz.prog 76 (zq6m zq6n) :=
  itoa_ok zq6k rfl (g := 7) (by kernel_rfl) ⟨_, Tryz.func76, by kernel_rfl, by kernel_rfl⟩
abbrev zq6p := {β : Type} → Int → (Bool → Option β) → Option β
def zq6q (c : zq6p) : Spec :=
  ⟨[(false, [.data (.int .u8)])], [], [(false, [.data .bool])], [], fun x k => c x.1.1.1 (fun r0 => k (((r0, ()), ()), ()))⟩
section
@[reducible] def ref06_digit_X : Ctx := ⟨look tab, pick1 [], false, false, false, false⟩
def zq6r {β : Type} (b : Int) (k : (Bool → Option β)) : Option β :=
  cond (decide (48 ≤ b))
  (let t : Bool := (decide (b ≤ 57));
  k t)
  (k false)
theorem zq6s (hΓ : ΓOk Tryz.prog ref06_digit_X.Γ) : SpecOk Tryz.prog 80 (zq6q (zq6r)) :=
  spec_exec (X := ref06_digit_X) (Λ := pick1 []) (rs := [.tmp 2]) (c := bodyOf Tryz.f80) mixed tab_ok hΓ Tryz.func80 (by kernel_rfl) (by kernel_rfl) (by kernel_rfl) (by kernel_rfl) CutsOk_nil (fun x k r h => Eq.trans (b := (zq6q (zq6r)).run x k) (by kernel_rfl) h)
end
theorem zq6tΓ : ΓOk Tryz.prog (pick1 []) := ΓOk_nil
def zq6u : zq6p := zq6r
theorem zq6v : SpecOk Tryz.prog 80 (zq6q zq6u) := zq6s zq6tΓ
def zq6w : Shelf.Ren :=
      {
      f := fun x =>
        match x with
        | 172 => 91
        | 244 => 103
        | 245 => 104
        | 247 => 111
        | 279 => 112
        | 280 => 113
        | 281 => 114
        | 282 => 115
        | 287 => 124
        | 316 => 125
        | 171 => 76
        | 205 => 126
        | 321 => 135
        | 322 => 136
        | 243 => 92
        | 246 => 105
        | 283 => 116
        | 284 => 117
        | 285 => 118
        | 286 => 119
        | 129 => 128
        | 317 => 127
        | 318 => 129
        | 319 => 130
        | 320 => 131
        | 337 => 137
        | 338 => 138
        | n => n,
      t := fun x =>
        match x with
        | 9 => 9
        | 3 => 3
        | 75 => 58
        | 76 => 59
        | 4 => 4
        | 5 => 5
        | 167 => 150
        | 37 => 53
        | 0 => 0
        | 85 => 151
        | 2 => 2
        | 168 => 153
        | 53 => 157
        | 175 => 165
        | 46 => 121
        | 210 => 168
        | 127 => 78
        | 145 => 180
        | 143 => 178
        | 21 => 21
        | 171 => 156
        | 173 => 160
        | 212 => 171
        | 51 => 110
        | 20 => 20
        | 213 => 172
        | 232 => 182
        | 233 => 183
        | 80 => 62
        | n => n,
      g := fun x =>
        match x with
        | 15 => 5
        | 16 => 6
        | 17 => 7
        | 18 => 8
        | 19 => 9
        | n => n }
theorem zq6x : Go.Proofs.LaysC.n172 Tryz.prog zq6w :=
  { mixed := by kernel_rfl,
    f129 := Eq.trans Tryz.func128 (congrArg some (by kernel_rfl)),
    f171 := Eq.trans Tryz.func76 (congrArg some (by kernel_rfl)),
    f172 := Eq.trans Tryz.func91 (congrArg some (by kernel_rfl)),
    f205 := Eq.trans Tryz.func126 (congrArg some (by kernel_rfl)),
    f243 := Eq.trans Tryz.func92 (congrArg some (by kernel_rfl)),
    f244 := Eq.trans Tryz.func103 (congrArg some (by kernel_rfl)),
    f245 := Eq.trans Tryz.func104 (congrArg some (by kernel_rfl)),
    f246 := Eq.trans Tryz.func105 (congrArg some (by kernel_rfl)),
    f247 := Eq.trans Tryz.func111 (congrArg some (by kernel_rfl)),
    f279 := Eq.trans Tryz.func112 (congrArg some (by kernel_rfl)),
    f280 := Eq.trans Tryz.func113 (congrArg some (by kernel_rfl)),
    f281 := Eq.trans Tryz.func114 (congrArg some (by kernel_rfl)),
    f282 := Eq.trans Tryz.func115 (congrArg some (by kernel_rfl)),
    f283 := Eq.trans Tryz.func116 (congrArg some (by kernel_rfl)),
    f284 := Eq.trans Tryz.func117 (congrArg some (by kernel_rfl)),
    f285 := Eq.trans Tryz.func118 (congrArg some (by kernel_rfl)),
    f286 := Eq.trans Tryz.func119 (congrArg some (by kernel_rfl)),
    f287 := Eq.trans Tryz.func124 (congrArg some (by kernel_rfl)),
    f316 := Eq.trans Tryz.func125 (congrArg some (by kernel_rfl)),
    f317 := Eq.trans Tryz.func127 (congrArg some (by kernel_rfl)),
    f318 := Eq.trans Tryz.func129 (congrArg some (by kernel_rfl)),
    f319 := Eq.trans Tryz.func130 (congrArg some (by kernel_rfl)),
    f320 := Eq.trans Tryz.func131 (congrArg some (by kernel_rfl)),
    f321 := Eq.trans Tryz.func135 (congrArg some (by kernel_rfl)),
    f322 := Eq.trans Tryz.func136 (congrArg some (by kernel_rfl)),
    f337 := Eq.trans Tryz.func137 (congrArg some (by kernel_rfl)),
    f338 := Eq.trans Tryz.func138 (congrArg some (by kernel_rfl)),
    t0 := Tryz.underlying0,
    a0 := Tryz.isAgg0,
    z0 := Tryz.sizeOf0,
    v0 := Tryz.zeroValue0,
    t2 := Tryz.underlying2,
    a2 := Tryz.isAgg2,
    z2 := Tryz.sizeOf2,
    v2 := Tryz.zeroValue2,
    t3 := Tryz.underlying3,
    a3 := Tryz.isAgg3,
    z3 := Tryz.sizeOf3,
    v3 := Tryz.zeroValue3,
    t4 := Tryz.underlying4,
    a4 := Tryz.isAgg4,
    z4 := Tryz.sizeOf4,
    v4 := Tryz.zeroValue4,
    t5 := Tryz.underlying5,
    a5 := Tryz.isAgg5,
    z5 := Tryz.sizeOf5,
    v5 := Tryz.zeroValue5,
    t9 := Tryz.underlying9,
    a9 := Tryz.isAgg9,
    z9 := Tryz.sizeOf9,
    v9 := Tryz.zeroValue9,
    t20 := Tryz.underlying20,
    a20 := Tryz.isAgg20,
    z20 := Tryz.sizeOf20,
    v20 := Tryz.zeroValue20,
    t21 := Tryz.underlying21,
    a21 := Tryz.isAgg21,
    z21 := Tryz.sizeOf21,
    v21 := Tryz.zeroValue21,
    t37 := Tryz.underlying53,
    a37 := Tryz.isAgg53,
    z37 := Tryz.sizeOf53,
    v37 := Tryz.zeroValue53,
    t46 := Tryz.underlying121,
    a46 := Tryz.isAgg121,
    z46 := Tryz.sizeOf121,
    v46 := Tryz.zeroValue121,
    t51 := Tryz.underlying110,
    a51 := Tryz.isAgg110,
    z51 := Tryz.sizeOf110,
    v51 := Tryz.zeroValue110,
    t53 := Tryz.underlying157,
    a53 := Tryz.isAgg157,
    z53 := Tryz.sizeOf157,
    v53 := Tryz.zeroValue157,
    t75 := Tryz.underlying58,
    a75 := Tryz.isAgg58,
    z75 := Tryz.sizeOf58,
    v75 := Tryz.zeroValue58,
    t76 := Tryz.underlying59,
    a76 := Tryz.isAgg59,
    z76 := Tryz.sizeOf59,
    v76 := Tryz.zeroValue59,
    t85 := Tryz.underlying151,
    a85 := Tryz.isAgg151,
    z85 := Tryz.sizeOf151,
    v85 := Tryz.zeroValue151,
    t127 := Tryz.underlying78,
    a127 := Tryz.isAgg78,
    z127 := Tryz.sizeOf78,
    v127 := Tryz.zeroValue78,
    t143 := Tryz.underlying178,
    a143 := Tryz.isAgg178,
    z143 := Tryz.sizeOf178,
    v143 := Tryz.zeroValue178,
    t145 := Tryz.underlying180,
    a145 := Tryz.isAgg180,
    z145 := Tryz.sizeOf180,
    v145 := Tryz.zeroValue180,
    t167 := Tryz.underlying150,
    a167 := Tryz.isAgg150,
    z167 := Tryz.sizeOf150,
    v167 := Tryz.zeroValue150,
    t168 := Tryz.underlying153,
    a168 := Tryz.isAgg153,
    z168 := Tryz.sizeOf153,
    v168 := Tryz.zeroValue153,
    t171 := Tryz.underlying156,
    a171 := Tryz.isAgg156,
    z171 := Tryz.sizeOf156,
    v171 := Tryz.zeroValue156,
    t173 := Tryz.underlying160,
    a173 := Tryz.isAgg160,
    z173 := Tryz.sizeOf160,
    v173 := Tryz.zeroValue160,
    t175 := Tryz.underlying165,
    a175 := Tryz.isAgg165,
    z175 := Tryz.sizeOf165,
    v175 := Tryz.zeroValue165,
    t210 := Tryz.underlying168,
    a210 := Tryz.isAgg168,
    z210 := Tryz.sizeOf168,
    v210 := Tryz.zeroValue168,
    t212 := Tryz.underlying171,
    a212 := Tryz.isAgg171,
    z212 := Tryz.sizeOf171,
    v212 := Tryz.zeroValue171,
    t213 := Tryz.underlying172,
    a213 := Tryz.isAgg172,
    z213 := Tryz.sizeOf172,
    t232 := Tryz.underlying182,
    a232 := Tryz.isAgg182,
    z232 := Tryz.sizeOf182,
    v232 := Tryz.zeroValue182,
    t233 := Tryz.underlying183,
    a233 := Tryz.isAgg183,
    z233 := Tryz.sizeOf183,
    v233 := Tryz.zeroValue183,
    g15 := by kernel_rfl,
    g16 := by kernel_rfl,
    g17 := by kernel_rfl,
    g18 := by kernel_rfl,
    g19 := by kernel_rfl,
    t80 := Tryz.underlying62,
    a80 := Tryz.isAgg62,
    z80 := Tryz.sizeOf62,
    v80 := Tryz.zeroValue62,
    i0 := by kernel_rfl,
    i2 := by kernel_rfl,
    i3 := by kernel_rfl,
    i4 := by kernel_rfl,
    i5 := by kernel_rfl,
    i9 := by kernel_rfl,
    i20 := by kernel_rfl,
    i21 := by kernel_rfl,
    i37 := by kernel_rfl,
    i46 := by kernel_rfl,
    i51 := by kernel_rfl,
    i53 := by kernel_rfl,
    i75 := by kernel_rfl,
    i76 := by kernel_rfl,
    i80 := by kernel_rfl,
    i85 := by kernel_rfl,
    i127 := by kernel_rfl,
    i143 := by kernel_rfl,
    i145 := by kernel_rfl,
    i167 := by kernel_rfl,
    i168 := by kernel_rfl,
    i171 := by kernel_rfl,
    i173 := by kernel_rfl,
    i175 := by kernel_rfl,
    i210 := by kernel_rfl,
    i212 := by kernel_rfl,
    i232 := by kernel_rfl,
    i233 := by kernel_rfl,
    m15 := by kernel_rfl,
    m16 := by kernel_rfl,
    m17 := by kernel_rfl,
    m18 := by kernel_rfl,
    m19 := by kernel_rfl,
    c0 := by kernel_rfl,
    c2 := by kernel_rfl,
    c3 := by kernel_rfl,
    c4 := by kernel_rfl,
    c5 := by kernel_rfl,
    c9 := by kernel_rfl,
    c20 := by kernel_rfl,
    c21 := by kernel_rfl,
    c37 := by kernel_rfl,
    c46 := by kernel_rfl,
    c51 := by kernel_rfl,
    c53 := by kernel_rfl,
    c75 := by kernel_rfl,
    c76 := by kernel_rfl,
    c80 := by kernel_rfl,
    c85 := by kernel_rfl,
    c127 := by kernel_rfl,
    c143 := by kernel_rfl,
    c145 := by kernel_rfl,
    c167 := by kernel_rfl,
    c168 := by kernel_rfl,
    c171 := by kernel_rfl,
    c173 := by kernel_rfl,
    c175 := by kernel_rfl,
    c210 := by kernel_rfl,
    c212 := by kernel_rfl,
    c213 := by kernel_rfl,
    c232 := by kernel_rfl,
    c233 := by kernel_rfl }
abbrev zq6y := atoiT
def zq6z (c : zq6y) : Spec := atoiS c
def zq70 : zq6y := fun x k => atoiF x k
theorem zq71 : SpecOk Tryz.prog 91 (zq6z zq70) :=
  atoi_ok zq6x rfl (by kernel_rfl) (by kernel_rfl) ⟨_, Tryz.func91, by kernel_rfl, by kernel_rfl⟩
abbrev zq72 := {β : Type} → Int → (Int → Option β) → Option β
def zq73 (c : zq72) : Spec :=
  ⟨[(false, [.data (.int .i64)])], [], [(false, [.data (.int .i64)])], [], fun x k => c x.1.1.1 (fun r0 => k (((r0, ()), ()), ()))⟩
section
@[reducible] def ref01_year_X : Ctx := ⟨look tab, pick1 [], false, false, false, false⟩
def zq74 {β : Type} (y : Int) (k : (Int → Option β)) : Option β :=
  cond (!decide (4 = 0))
  (cond (!decide (100 = 0))
  (cond (!decide (400 = 0))
  (let t : Int := (IntKind.i64.wrap ((IntKind.i64.wrap ((IntKind.i64.wrap ((IntKind.i64.wrap ((IntKind.i64.wrap (y - 1970)) * 365)) + (IntKind.i64.wrap (Int.tdiv (IntKind.i64.wrap (y - 1969)) 4)))) - (IntKind.i64.wrap (Int.tdiv (IntKind.i64.wrap (y - 1901)) 100)))) + (IntKind.i64.wrap (Int.tdiv (IntKind.i64.wrap (y - 1601)) 400))));
  k t)
  none)
  none)
  none
theorem zq75 (hΓ : ΓOk Tryz.prog ref01_year_X.Γ) : SpecOk Tryz.prog 97 (zq73 (zq74)) :=
  spec_exec (X := ref01_year_X) (Λ := pick1 []) (rs := [.tmp 2]) (c := bodyOf Tryz.f97) mixed tab_ok hΓ Tryz.func97 (by kernel_rfl) (by kernel_rfl) (by kernel_rfl) (by kernel_rfl) CutsOk_nil (fun x k r h => Eq.trans (b := (zq73 (zq74)).run x k) (by kernel_rfl) h)
end
theorem zq76Γ : ΓOk Tryz.prog (pick1 []) := ΓOk_nil
def zq77 : zq72 := zq74
theorem zq78 : SpecOk Tryz.prog 97 (zq73 zq77) := zq75 zq76Γ
def zq79 : Shelf.Ren :=
      {
      f := fun x =>
        match x with
        | 105 => 106
        | 212 => 120
        | 99 => 121
        | 165 => 56
        | 166 => 22
        | 170 => 23
        | 169 => 24
        | 263 => 132
        | 264 => 133
        | 206 => 134
        | 240 => 36
        | 241 => 79
        | 276 => 57
        | 277 => 95
        | n => n,
      t := fun x =>
        match x with
        | 9 => 9
        | 3 => 3
        | 4 => 4
        | 20 => 20
        | 0 => 0
        | 46 => 121
        | 109 => 162
        | 5 => 5
        | 72 => 55
        | 76 => 59
        | 51 => 110
        | 146 => 142
        | 53 => 157
        | 148 => 175
        | 70 => 52
        | 37 => 53
        | 75 => 58
        | 127 => 78
        | 164 => 100
        | 80 => 62
        | n => n,
      g := fun x => x }
theorem zq7a : Go.Proofs.Lays.n105 Tryz.prog zq79 :=
  { mixed := by kernel_rfl,
    f99 := Eq.trans Tryz.func121 (congrArg some (by kernel_rfl)),
    f105 := Eq.trans Tryz.func106 (congrArg some (by kernel_rfl)),
    f165 := Eq.trans Tryz.func56 (congrArg some (by kernel_rfl)),
    f166 := Eq.trans Tryz.func22 (congrArg some (by kernel_rfl)),
    f169 := Eq.trans Tryz.func24 (congrArg some (by kernel_rfl)),
    f170 := Eq.trans Tryz.func23 (congrArg some (by kernel_rfl)),
    f206 := Eq.trans Tryz.func134 (congrArg some (by kernel_rfl)),
    f212 := Eq.trans Tryz.func120 (congrArg some (by kernel_rfl)),
    f240 := Eq.trans Tryz.func36 (congrArg some (by kernel_rfl)),
    f241 := Eq.trans Tryz.func79 (congrArg some (by kernel_rfl)),
    f263 := Eq.trans Tryz.func132 (congrArg some (by kernel_rfl)),
    f264 := Eq.trans Tryz.func133 (congrArg some (by kernel_rfl)),
    f276 := Eq.trans Tryz.func57 (congrArg some (by kernel_rfl)),
    f277 := Eq.trans Tryz.func95 (congrArg some (by kernel_rfl)),
    t0 := Tryz.underlying0,
    a0 := Tryz.isAgg0,
    z0 := Tryz.sizeOf0,
    v0 := Tryz.zeroValue0,
    t3 := Tryz.underlying3,
    a3 := Tryz.isAgg3,
    z3 := Tryz.sizeOf3,
    v3 := Tryz.zeroValue3,
    t4 := Tryz.underlying4,
    a4 := Tryz.isAgg4,
    z4 := Tryz.sizeOf4,
    v4 := Tryz.zeroValue4,
    t5 := Tryz.underlying5,
    a5 := Tryz.isAgg5,
    z5 := Tryz.sizeOf5,
    v5 := Tryz.zeroValue5,
    t9 := Tryz.underlying9,
    a9 := Tryz.isAgg9,
    z9 := Tryz.sizeOf9,
    v9 := Tryz.zeroValue9,
    t20 := Tryz.underlying20,
    a20 := Tryz.isAgg20,
    z20 := Tryz.sizeOf20,
    v20 := Tryz.zeroValue20,
    t37 := Tryz.underlying53,
    a37 := Tryz.isAgg53,
    z37 := Tryz.sizeOf53,
    v37 := Tryz.zeroValue53,
    t46 := Tryz.underlying121,
    a46 := Tryz.isAgg121,
    z46 := Tryz.sizeOf121,
    v46 := Tryz.zeroValue121,
    t51 := Tryz.underlying110,
    a51 := Tryz.isAgg110,
    z51 := Tryz.sizeOf110,
    v51 := Tryz.zeroValue110,
    t53 := Tryz.underlying157,
    a53 := Tryz.isAgg157,
    z53 := Tryz.sizeOf157,
    v53 := Tryz.zeroValue157,
    t70 := Tryz.underlying52,
    a70 := Tryz.isAgg52,
    z70 := Tryz.sizeOf52,
    v70 := Tryz.zeroValue52,
    t72 := Tryz.underlying55,
    a72 := Tryz.isAgg55,
    z72 := Tryz.sizeOf55,
    v72 := Tryz.zeroValue55,
    t75 := Tryz.underlying58,
    a75 := Tryz.isAgg58,
    z75 := Tryz.sizeOf58,
    v75 := Tryz.zeroValue58,
    t76 := Tryz.underlying59,
    a76 := Tryz.isAgg59,
    z76 := Tryz.sizeOf59,
    v76 := Tryz.zeroValue59,
    t109 := Tryz.underlying162,
    a109 := Tryz.isAgg162,
    z109 := Tryz.sizeOf162,
    v109 := Tryz.zeroValue162,
    t127 := Tryz.underlying78,
    a127 := Tryz.isAgg78,
    z127 := Tryz.sizeOf78,
    v127 := Tryz.zeroValue78,
    t146 := Tryz.underlying142,
    a146 := Tryz.isAgg142,
    z146 := Tryz.sizeOf142,
    v146 := Tryz.zeroValue142,
    t148 := Tryz.underlying175,
    a148 := Tryz.isAgg175,
    z148 := Tryz.sizeOf175,
    v148 := Tryz.zeroValue175,
    t164 := Tryz.underlying100,
    a164 := Tryz.isAgg100,
    z164 := Tryz.sizeOf100,
    v164 := Tryz.zeroValue100 }
abbrev zq7b := repeatT
def zq7c (c : zq7b) : Spec := repeatS c
def zq7d : zq7b := fun x y k => repeatF x y k
theorem zq7e : SpecOk Tryz.prog 106 (zq7c zq7d) :=
  repeat_ok zq7a { sizeBuilder := by kernel_rfl, liesBuilder := by kernel_rfl, t5 := Tryz.underlying5, a5 := Tryz.isAgg5, z5 := Tryz.sizeOf5, v5 := Tryz.zeroValue5, infoByte := by kernel_rfl, cellsByte := by kernel_rfl, sizeByte := by kernel_rfl, neB5 := by decide } rfl ⟨_, Tryz.func106, by kernel_rfl, by kernel_rfl⟩
abbrev zq7f := {β : Type} → Int → (Bool → Option β) → Option β
def zq7g (c : zq7f) : Spec :=
  ⟨[(false, [.data (.int .i64)])], [], [(false, [.data .bool])], [], fun x k => c x.1.1.1 (fun r0 => k (((r0, ()), ()), ()))⟩
section
@[reducible] def ref01_Leap_X : Ctx := ⟨look tab, pick1 [], false, false, false, false⟩
def zq7h {β : Type} (year : Int) (k : (Bool → Option β)) : Option β :=
  cond (!decide (4 = 0))
  (cond (decide ((Int.tmod year 4) = 0))
  (cond (!decide (100 = 0))
  (cond (!decide ((Int.tmod year 100) = 0))
  (k true)
  (cond (!decide (400 = 0))
  (let t : Bool := (decide ((Int.tmod year 400) = 0));
  k t)
  none))
  none)
  (k false))
  none
theorem zq7i (hΓ : ΓOk Tryz.prog ref01_Leap_X.Γ) : SpecOk Tryz.prog 110 (zq7g (zq7h)) :=
  spec_exec (X := ref01_Leap_X) (Λ := pick1 []) (rs := [.tmp 2]) (c := bodyOf Tryz.f110) mixed tab_ok hΓ Tryz.func110 (by kernel_rfl) (by kernel_rfl) (by kernel_rfl) (by kernel_rfl) CutsOk_nil (fun x k r h => Eq.trans (b := (zq7g (zq7h)).run x k) (by kernel_rfl) h)
end
theorem zq7jΓ : ΓOk Tryz.prog (pick1 []) := ΓOk_nil
def zq7k : zq7f := zq7h
theorem zq7l : SpecOk Tryz.prog 110 (zq7g zq7k) := zq7i zq7jΓ
abbrev zq7m := {β : Type} → Int → Int → (Int → Option β) → Option β
def zq7n (c : zq7m) : Spec :=
  ⟨[(false, [.data (.int .i64)]), (false, [.data (.int .i64)])], [], [(false, [.data (.int .i64)])], [], fun x k => c x.1.1.1 x.1.2.1.1 (fun r0 => k (((r0, ()), ()), ()))⟩
section
@[reducible] def civil_floor_X : Ctx := ⟨look tab, pick1 [], false, false, false, false⟩
def zq7o {β : Type} (a b : Int) (k : (Int → Option β)) : Option β :=
  cond (!decide (b = 0))
  (let q : Int := (IntKind.i64.wrap (Int.tdiv a b));
  cond (!decide (b = 0))
  (cond (decide ((Int.tmod a b) < 0))
  (let q2 : Int := (IntKind.i64.wrap (q - 1));
  k q2)
  (k q))
  none)
  none
theorem zq7p (hΓ : ΓOk Tryz.prog civil_floor_X.Γ) : SpecOk Tryz.prog 122 (zq7n (zq7o)) :=
  spec_exec (X := civil_floor_X) (Λ := pick1 []) (rs := [.tmp 4]) (c := bodyOf Tryz.f122) mixed tab_ok hΓ Tryz.func122 (by kernel_rfl) (by kernel_rfl) (by kernel_rfl) (by kernel_rfl) CutsOk_nil (fun x k r h => Eq.trans (b := (zq7n (zq7o)).run x k) (by kernel_rfl) h)
end
theorem zq7qΓ : ΓOk Tryz.prog (pick1 []) := ΓOk_nil
def zq7r : zq7m := zq7o
theorem zq7s : SpecOk Tryz.prog 122 (zq7n zq7r) := zq7p zq7qΓ
abbrev zq7t := {β : Type} → Int → (Bool → Option β) → Option β
def zq7u (c : zq7t) : Spec :=
  ⟨[(false, [.data (.int .i64)])], [], [(false, [.data .bool])], [], fun x k => c x.1.1.1 (fun r0 => k (((r0, ()), ()), ()))⟩
section
@[reducible] def civil_Leap_X : Ctx := ⟨look tab, pick1 [], false, false, false, false⟩
def zq7v {β : Type} (year : Int) (k : (Bool → Option β)) : Option β :=
  cond (!decide (4 = 0))
  (cond (decide ((Int.tmod year 4) = 0))
  (cond (!decide (100 = 0))
  (cond (!decide ((Int.tmod year 100) = 0))
  (k true)
  (cond (!decide (400 = 0))
  (let t : Bool := (decide ((Int.tmod year 400) = 0));
  k t)
  none))
  none)
  (k false))
  none
theorem zq7w (hΓ : ΓOk Tryz.prog civil_Leap_X.Γ) : SpecOk Tryz.prog 123 (zq7u (zq7v)) :=
  spec_exec (X := civil_Leap_X) (Λ := pick1 []) (rs := [.tmp 2]) (c := bodyOf Tryz.f123) mixed tab_ok hΓ Tryz.func123 (by kernel_rfl) (by kernel_rfl) (by kernel_rfl) (by kernel_rfl) CutsOk_nil (fun x k r h => Eq.trans (b := (zq7u (zq7v)).run x k) (by kernel_rfl) h)
end
theorem zq7xΓ : ΓOk Tryz.prog (pick1 []) := ΓOk_nil
def zq7y : zq7t := zq7v
theorem zq7z : SpecOk Tryz.prog 123 (zq7u zq7y) := zq7w zq7xΓ
abbrev zq80 := {β : Type} → (List zq0) → ((List zq0) → Bool → Option β) → Option β
def zq81 (c : zq80) : Spec :=
  ⟨[(false, [.data (.slice zq1)])], [], [(false, [.data (.slice zq1)]), (false, [.data .bool])], [], fun x k => c x.1.1.1 (fun r0 r1 => k (((r0, ()), (r1, ()), ()), ()))⟩
noncomputable def syntax_options_p1_code : Code := codeAt 122 (bodyOf Tryz.f26)
abbrev zq82 (β : Type) := (List zq0) → (List zq0) → Option β
abbrev zq83 := {β : Type} → zq82 β → (List zq0) → (List zq0) → Int → Int → (List (List UInt8)) → Option β
def zq84 : View := ⟨0, [0, 4, 13, 14, 15], [(false, [.data  (.slice zq1)]), (false, [.data (.slice zq1)]), (false, [.rowh 0]), (false, [.data (.int .i64)]), (false, [.data (.int .i64)])], [.row 9 .str]⟩
def zq85 : List  (AExit × View) := [(.exit 0, ⟨0, [0, 4], [(false, [.data (.slice zq1)]), (false, [.data (.slice zq1)])], []⟩)]
@[reducible] def syntax_options_p1_G (p : zq83) {β : Type} (d : zq84.den) (ks : Outs.K β zq85) : Option β :=
  p (fun a0 a1 => ks.1 (((a0, ()), (a1, ()), ()), ())) d.1.1.1 d.1.2.1.1 d.1.2.2.2.1.1 d.1.2.2.2.2.1.1 d.2.1
section
variable (c_syntax_word : zq2r)
@[reducible] def syntax_options_X : Ctx := ⟨look tab, pick1 [(39, .spec (zq2s c_syntax_word))], false, false, false, false⟩
def zq86 {β : Type} (rec : (List zq0) → (List zq0) → Int → Int → (List (List UInt8)) → Option β) (k1 : zq82 β) (l rest : List zq0) (t14 t15 : Int) (t13 : List (List UInt8)) : Option β :=
  cond (decide (t15 < t14))
  (cond (decide (0 ≤ t15) && decide (t15 < (List.length t13 : Int)))
  (let s : List UInt8 := (List.getD t13 (Int.toNat t15) ([] : List UInt8));
  cond (decide (2 ≤ (List.length rest : Int)))
  (cond (decide (0 ≤ 0) && decide (0 < (List.length rest : Int)))
  (let e : zq0 := List.getD rest (Int.toNat 0) (0, (([] : List UInt8), 0));
  c_syntax_word e s (fun rword =>
  cond rword
  (cond (decide (0 ≤ 1) && decide (1 < (List.length rest : Int)))
  (let e2 : zq0 := List.getD rest (Int.toNat 1) (0, (([] : List UInt8), 0));
  cond (decide (e2.1 = 1))
  (cond (decide (0 ≤ 2) && (decide (2 ≤ (List.length rest : Int)) && decide ((List.length rest : Int) ≤ (List.length rest : Int))))
  (let rest2 : List zq0 := (List.drop (Int.toNat 2) (List.take (Int.toNat (List.length rest : Int)) rest));
  rec l rest2 t14 (IntKind.i64.wrap (t15 + 1)) t13)
  none)
  (rec l rest t14 (IntKind.i64.wrap (t15 + 1)) t13))
  none)
  (rec l rest t14 (IntKind.i64.wrap (t15 + 1)) t13)))
  none)
  (rec l rest t14 (IntKind.i64.wrap (t15 + 1)) t13))
  none)
  (k1 l rest)
def zq87 {β : Type} : Nat → zq82 β →  (List zq0) → (List zq0) → Int → Int → (List (List UInt8)) → Option β
  | 0 => fun _ _ _ _ _ _ => none
  | i + 1 => fun k1 l rest t14 t15 t13 => zq86 c_syntax_word (zq87 i k1) k1 l rest t14 t15 t13
theorem zq88 (hΓ : ΓOk Tryz.prog (syntax_options_X c_syntax_word).Γ) (i : Nat) : PieceOk Tryz.prog 55 0 syntax_options_p1_code zq84 zq85 (syntax_options_p1_G (zq87 c_syntax_word i)) := by
  rw [show syntax_options_p1_code = .loop (loopBody syntax_options_p1_code) by kernel_rfl]
  exact piece_loop (X := (syntax_options_X c_syntax_word)) (p := 1) (Λ := pick1 []) (G := fun i => @fun β d ks => syntax_options_p1_G (zq87 c_syntax_word i) d ks) mixed tab_ok hΓ rfl (by kernel_rfl) CutsOk_nil (fun _ _ => rfl) (fun i => @fun β d ks r h => Eq.trans (b := syntax_options_p1_G (zq87 c_syntax_word (i + 1)) d ks) (by kernel_rfl) h) i
def zq89 (p1 : zq83) {β : Type} (l : List zq0) (k : ((List zq0) → Bool → Option β)) : Option β :=
  cond (decide ((List.length l : Int) < 3))
  (k l false)
  (cond (decide (0 ≤ 3) && (decide (3 ≤ (List.length l : Int)) && decide ((List.length l : Int) ≤ (List.length l : Int))))
  (let rest : List zq0 := (List.drop (Int.toNat 3) (List.take (Int.toNat (List.length l : Int)) l));
  let l2 : List (List UInt8) := ([([119, 101, 101, 107] : List UInt8), ([114, 101, 115, 116] : List UInt8)] : List (List UInt8));
  p1 (fun l3 rest2 =>
  cond (decide (0 < (List.length rest2 : Int)))
  (cond (decide (0 ≤ 0) && decide (0 < (List.length rest2 : Int)))
  (let e : zq0 := List.getD rest2 (Int.toNat 0) (0, (([] : List UInt8), 0));
  c_syntax_word e ([99, 111, 110, 115, 101, 110, 116] : List UInt8) (fun rword =>
  cond rword
  (cond (decide (0 ≤ 1) && (decide (1 ≤ (List.length rest2 : Int)) && decide ((List.length rest2 : Int) ≤ (List.length rest2 : Int))))
  (let rest3 : List zq0 := (List.drop (Int.toNat 1) (List.take (Int.toNat (List.length rest2 : Int)) rest2));
  cond (decide (0 ≤ 0) && (decide (0 ≤ 3) && decide (3 ≤ (List.length l3 : Int))))
  (let t : List zq0 := (List.drop (Int.toNat 0) (List.take (Int.toNat 3) l3));
  let t2 : Bool := (decide ((List.length rest3 : Int) = 0));
  k t t2)
  none)
  none)
  (cond (decide (0 ≤ 0) && (decide (0 ≤ 3) && decide (3 ≤ (List.length l3 : Int))))
  (let t : List zq0 := (List.drop (Int.toNat 0) (List.take (Int.toNat 3) l3));
  let t2 : Bool := (decide ((List.length rest2 : Int) = 0));
  k t t2)
  none)))
  none)
  (cond (decide (0 ≤ 0) && (decide (0 ≤ 3) && decide (3 ≤ (List.length l3 : Int))))
  (let t : List zq0 := (List.drop (Int.toNat 0) (List.take (Int.toNat 3) l3));
  let t2 : Bool := (decide ((List.length rest2 : Int) = 0));
  k t t2)
  none)) l rest (List.length l2 : Int) 0 l2)
  none)
theorem zq8a (hΓ : ΓOk Tryz.prog (syntax_options_X c_syntax_word).Γ) (p1 : zq83) (hp1 : PieceOk Tryz.prog 55 0 syntax_options_p1_code zq84 zq85 (syntax_options_p1_G p1)) : SpecOk Tryz.prog 26 (zq81 (zq89 c_syntax_word p1)) :=
  spec_exec (X := (syntax_options_X c_syntax_word)) (Λ := pick1 [(122, pieceCut zq84 zq85 (syntax_options_p1_G p1))]) (rs := [.tmp 2, .tmp 3]) (c := bodyOf Tryz.f26) mixed tab_ok hΓ Tryz.func26 (by kernel_rfl) (by kernel_rfl) (by kernel_rfl) (by kernel_rfl) (CutsOk_cons (q := 122) (c' := syntax_options_p1_code) (by kernel_rfl) rfl hp1 CutsOk_nil) (fun x k r h => Eq.trans (b := (zq81 (zq89 c_syntax_word p1)).run x k) (by kernel_rfl) h)
end
theorem zq8bΓ : ΓOk Tryz.prog (pick1 [(39, .spec (zq2s zq2w))]) := (ΓOk_cons zq2x ΓOk_nil)
def zq8c (m : Nat) : zq83 := zq87 zq2w m
theorem zq8d {β : Type} (i : Nat) (k1 l rest t14 t15 t13) : (zq8c (i + 1) k1 l rest t14 t15 t13 : Option β) = zq86 zq2w (zq8c i k1) k1 l rest t14 t15 t13 := rfl
def zq8e : zq83 := zq8c fuel
theorem zq8f : PieceOk Tryz.prog 55 0 syntax_options_p1_code zq84 zq85 (syntax_options_p1_G zq8e) := zq88 zq2w zq8bΓ fuel
def zq8g : zq80 := zq89 zq2w zq8e
theorem zq8h : SpecOk Tryz.prog 26 (zq81 zq8g) := zq8a zq2w zq8bΓ zq8e zq8f
abbrev zq8i := {β : Type} → (List UInt8) → (List UInt8) → (Int → Bool → Option β) → Option β
def zq8j (c : zq8i) : Spec :=
  ⟨[(false, [.data .str]), (false, [.data .str])], [], [(false, [.data (.int .i64)]), (false, [.data .bool])], [], fun x k => c x.1.1.1 x.1.2.1.1 (fun r0 r1 => k (((r0, ()), (r1, ()), ()), ()))⟩
section
variable (c_slices_Index_string_string : zq2y) (c_strings_Fields : zq2c)
@[reducible] def syntax_index_X : Ctx := ⟨look tab, pick1 [(40, .spec (zq2z c_slices_Index_string_string)), (32, .spec (zq2d c_strings_Fields))], false, false, false, false⟩
def zq8k {β : Type} (words word : List UInt8) (k : (Int → Bool → Option β)) : Option β :=
  c_strings_Fields words (fun lrFields =>
  c_slices_Index_string_string lrFields word (fun rIndexstringstring =>
  let t : Int := (IntKind.i64.wrap (rIndexstringstring + 1));
  let t2 : Bool := (decide (0 ≤ rIndexstringstring));
  k t t2))
theorem zq8l (hΓ : ΓOk Tryz.prog (syntax_index_X c_slices_Index_string_string c_strings_Fields).Γ) : SpecOk Tryz.prog 27 (zq8j (zq8k c_slices_Index_string_string c_strings_Fields)) :=
  spec_exec (X := (syntax_index_X c_slices_Index_string_string c_strings_Fields)) (Λ := pick1 []) (rs := [.tmp 4, .tmp 5]) (c := bodyOf Tryz.f27) mixed tab_ok hΓ Tryz.func27 (by kernel_rfl) (by kernel_rfl) (by kernel_rfl) (by kernel_rfl) CutsOk_nil (fun x k r h => Eq.trans (b := (zq8j (zq8k c_slices_Index_string_string c_strings_Fields)).run x k) (by kernel_rfl) h)
end
theorem zq8mΓ : ΓOk Tryz.prog (pick1 [(40, .spec (zq2z zq3f)), (32, .spec (zq2d zq2e))]) := (ΓOk_cons zq3g (ΓOk_cons zq2f ΓOk_nil))
def zq8n : zq8i := zq8k zq3f zq2e
theorem zq8o : SpecOk Tryz.prog 27 (zq8j zq8n) := zq8l zq3f zq2e zq8mΓ
abbrev zq8p := {β : Type} → (List zq0) → (Bool → Option β) → Option β
def zq8q (c : zq8p) : Spec :=
  ⟨[(false, [.data (.slice zq1)])], [], [(false, [.data .bool])], [], fun x k => c x.1.1.1 (fun r0 => k (((r0, ()), ()), ()))⟩
noncomputable def ref07_person_p1_code : Code := codeAt 122 (bodyOf Tryz.f43)
abbrev zq8r (β : Type) := (List zq0) → Option β
abbrev zq8s := {β : Type} → zq8r β → (List zq0) → (List UInt8) → (List UInt8) → Int → Option β
def zq8t : View := ⟨0, [0, 16, 17], [(false, [.data  (.slice zq1)]), (true, [.data .str, .data .str]), (false, [.data (.int .i64)])], []⟩
def zq8u : List  (AExit × View) := [(.exit 0, ⟨0, [0], [(false, [.data (.slice zq1)])], []⟩)]
@[reducible] def ref07_person_p1_G (p : zq8s) {β : Type} (d : zq8t.den) (ks : Outs.K β zq8u) : Option β :=
  p (fun a0 => ks.1 (((a0, ()), ()), ())) d.1.1.1 d.1.2.1.1 d.1.2.1.2.1 d.1.2.2.1.1
section
variable (c_ref07_kinds : zq48)
@[reducible] def ref07_person_X : Ctx := ⟨look tab, pick1 [(44, .spec (zq49 c_ref07_kinds))], false, false, false, false⟩
def zq8v {β : Type} (rec : (List zq0) → (List UInt8) → (List UInt8) → Int → Option β) (k1 : zq8r β) (l : List zq0) (t16 t162 : List UInt8) (t17 : Int) : Option β :=
  cond (decide (t17 < 2))
  (cond (decide (0 ≤ t17) && decide (t17 < (List.length ([t16, t162] : List (List UInt8)) : Int)))
  (let e : List UInt8 := List.getD ([t16, t162] : List (List UInt8)) (Int.toNat t17) ([] : List UInt8);
  cond (decide (2 ≤ (List.length l : Int)))
  (cond (decide (0 ≤ 0) && (decide (0 ≤ 2) && decide (2 ≤ (List.length l : Int))))
  (c_ref07_kinds (List.drop (Int.toNat 0) (List.take (Int.toNat 2) l)) (fun rkinds =>
  cond (decide (rkinds = ([119, 110] : List UInt8)))
  (cond (decide (0 ≤ 0) && decide (0 < (List.length l : Int)))
  (let e2 : zq0 := List.getD l (Int.toNat 0) (0, (([] : List UInt8), 0));
  cond (decide (e2.2.1 = e))
  (cond (decide (0 ≤ 2) && (decide (2 ≤ (List.length l : Int)) && decide ((List.length l : Int) ≤ (List.length l : Int))))
  (let l2 : List zq0 := (List.drop (Int.toNat 2) (List.take (Int.toNat (List.length l : Int)) l));
  rec l2 t16 t162 (IntKind.i64.wrap (t17 + 1)))
  none)
  (rec l t16 t162 (IntKind.i64.wrap (t17 + 1))))
  none)
  (rec l t16 t162 (IntKind.i64.wrap (t17 + 1)))))
  none)
  (rec l t16 t162 (IntKind.i64.wrap (t17 + 1))))
  none)
  (k1 l)
def zq8w {β : Type} : Nat → zq8r β →  (List zq0) → (List UInt8) → (List UInt8) → Int → Option β
  | 0 => fun _ _ _ _ _ => none
  | i + 1 => fun k1 l t16 t162 t17 => zq8v c_ref07_kinds (zq8w i k1) k1 l t16 t162 t17
theorem zq8x (hΓ : ΓOk Tryz.prog (ref07_person_X c_ref07_kinds).Γ) (i : Nat) : PieceOk Tryz.prog 60 0 ref07_person_p1_code zq8t zq8u (ref07_person_p1_G (zq8w c_ref07_kinds i)) := by
  rw [show ref07_person_p1_code = .loop (loopBody ref07_person_p1_code) by kernel_rfl]
  exact piece_loop (X := (ref07_person_X c_ref07_kinds)) (p := 1) (Λ := pick1 []) (G := fun i => @fun β d ks => ref07_person_p1_G (zq8w c_ref07_kinds i) d ks) mixed tab_ok hΓ rfl (by kernel_rfl) CutsOk_nil (fun _ _ => rfl) (fun i => @fun β d ks r h => Eq.trans (b := ref07_person_p1_G (zq8w c_ref07_kinds (i + 1)) d ks) (by kernel_rfl) h) i
def zq8y (p1 : zq8s) {β : Type} (l : List zq0) (k : (Bool → Option β)) : Option β :=
  cond (decide ((List.length l : Int) < 2))
  (k false)
  (cond (decide (0 ≤ 0) && (decide (0 ≤ 2) && decide (2 ≤ (List.length l : Int))))
  (c_ref07_kinds (List.drop (Int.toNat 0) (List.take (Int.toNat 2) l)) (fun rkinds =>
  cond (!decide (rkinds = ([119, 119] : List UInt8)))
  (k false)
  (cond (decide (0 ≤ 2) && (decide (2 ≤ (List.length l : Int)) && decide ((List.length l : Int) ≤ (List.length l : Int))))
  (let l2 : List zq0 := (List.drop (Int.toNat 2) (List.take (Int.toNat (List.length l : Int)) l));
  p1 (fun l3 =>
  cond (decide ((List.length l3 : Int) = 0))
  (k true)
  (cond (decide ((List.length l3 : Int) = 1))
  (c_ref07_kinds l3 (fun rkinds2 =>
  cond (decide (rkinds2 = ([119] : List UInt8)))
  (cond (decide (0 ≤ 0) && decide (0 < (List.length l3 : Int)))
  (let e : zq0 := List.getD l3 (Int.toNat 0) (0, (([] : List UInt8), 0));
  let t : Bool := (decide (e.2.1 = ([99, 111, 110, 115, 101, 110, 116] : List UInt8)));
  k t)
  none)
  (k false)))
  (k false))) l2 ([119, 101, 101, 107] : List UInt8) ([114, 101, 115, 116] : List UInt8) 0)
  none)))
  none)
theorem zq8z (hΓ : ΓOk Tryz.prog (ref07_person_X c_ref07_kinds).Γ) (p1 : zq8s) (hp1 : PieceOk Tryz.prog 60 0 ref07_person_p1_code zq8t zq8u (ref07_person_p1_G p1)) : SpecOk Tryz.prog 43 (zq8q (zq8y c_ref07_kinds p1)) :=
  spec_exec (X := (ref07_person_X c_ref07_kinds)) (Λ := pick1 [(122, pieceCut zq8t zq8u (ref07_person_p1_G p1))]) (rs := [.tmp 2]) (c := bodyOf Tryz.f43) mixed tab_ok hΓ Tryz.func43 (by kernel_rfl) (by kernel_rfl) (by kernel_rfl) (by kernel_rfl) (CutsOk_cons (q := 122) (c' := ref07_person_p1_code) (by kernel_rfl) rfl hp1 CutsOk_nil) (fun x k r h => Eq.trans (b := (zq8q (zq8y c_ref07_kinds p1)).run x k) (by kernel_rfl) h)
end
theorem zq90Γ : ΓOk Tryz.prog (pick1 [(44, .spec (zq49 zq4p))]) := (ΓOk_cons zq4q ΓOk_nil)
def zq91 (m : Nat) : zq8s := zq8w zq4p m
theorem zq92 {β : Type} (i : Nat) (k1 l t16 t162 t17) : (zq91 (i + 1) k1 l t16 t162 t17 : Option β) = zq8v zq4p (zq91 i k1) k1 l t16 t162 t17 := rfl
def zq93 : zq8s := zq91 fuel
theorem zq94 : PieceOk Tryz.prog 60 0 ref07_person_p1_code zq8t zq8u (ref07_person_p1_G zq93) := zq8x zq4p zq90Γ fuel
def zq95 : zq8p := zq8y zq4p zq93
theorem zq96 : SpecOk Tryz.prog 43 (zq8q zq95) := zq8z zq4p zq90Γ zq93 zq94
abbrev zq97 := {β : Type} → (List UInt8) → (Bool → Option β) → Option β
def zq98 (c : zq97) : Spec :=
  ⟨[(false, [.data .str])], [], [(false, [.data .bool])], [], fun x k => c x.1.1.1 (fun r0 => k (((r0, ()), ()), ()))⟩
noncomputable def lexer_Name_p1_code : Code := codeAt 58 (bodyOf Tryz.f54)
abbrev zq99 (β : Type) := Bool → Option β
abbrev zq9a (β : Type) := Unit → Option β
abbrev zq9b := {β : Type} → zq99 β → zq9a β → (List UInt8) → Int → Int → Option β
def zq9c : View := ⟨0, [0, 19, 20], [(false, [.data .str]),  (false, [.data (.int .i64)]), (false, [.data (.int .i64)])], []⟩
def zq9d : List  (AExit × View) := [(.ret, ⟨0, [2], [(false, [.data .bool])], []⟩), (.exit 0, ⟨0, [], [], []⟩)]
@[reducible] def lexer_Name_p1_G (p : zq9b) {β : Type} (d : zq9c.den) (ks : Outs.K β zq9d) : Option β :=
  p (fun a0 => ks.1 (((a0, ()), ()), ())) (fun _ => ks.2.1 ((), ())) d.1.1.1 d.1.2.1.1 d.1.2.2.1.1
section
variable (c_lexer_digit : zq6c) (c_lexer_small : zq5z)
@[reducible] def lexer_Name_X : Ctx := ⟨look tab, pick1 [(75, .spec (zq6d c_lexer_digit)), (68, .spec (zq60 c_lexer_small))], false, false, false, false⟩
def zq9e {β : Type} (rec : (List UInt8) → Int → Int → Option β) (k1 : zq99 β) (k2 : zq9a β) (s : List UInt8) (t19 t20 : Int) : Option β :=
  cond (decide (t20 < t19))
  (cond (decide (0 ≤ t20) && decide (t20 < (List.length s : Int)))
  (let c : Int := ((List.getD s (Int.toNat t20) 0).toNat : Int);
  c_lexer_small c (fun rsmall =>
  cond (!rsmall)
  (c_lexer_digit c (fun rdigit =>
  cond (!rdigit)
  (cond (!decide (c = 95))
  (cond (!decide (c = 45))
  (k1 false)
  (rec s t19 (IntKind.i64.wrap (t20 + 1))))
  (rec s t19 (IntKind.i64.wrap (t20 + 1))))
  (rec s t19 (IntKind.i64.wrap (t20 + 1)))))
  (rec s t19 (IntKind.i64.wrap (t20 + 1)))))
  none)
  (k2 ())
def zq9f {β : Type} : Nat → zq99 β → zq9a β →  (List UInt8) → Int → Int → Option β
  | 0 => fun _ _ _ _ _ => none
  | i + 1 => fun k1 k2 s t19 t20 => zq9e c_lexer_digit c_lexer_small (zq9f i k1 k2) k1 k2 s t19 t20
theorem zq9g (hΓ : ΓOk Tryz.prog (lexer_Name_X c_lexer_digit c_lexer_small).Γ) (i : Nat) : PieceOk Tryz.prog 43 0 lexer_Name_p1_code zq9c zq9d (lexer_Name_p1_G (zq9f c_lexer_digit c_lexer_small i)) := by
  rw [show lexer_Name_p1_code = .loop (loopBody lexer_Name_p1_code) by kernel_rfl]
  exact piece_loop (X := (lexer_Name_X c_lexer_digit c_lexer_small)) (p := 1) (Λ := pick1 []) (G := fun i => @fun β d ks => lexer_Name_p1_G (zq9f c_lexer_digit c_lexer_small i) d ks) mixed tab_ok hΓ rfl (by kernel_rfl) CutsOk_nil (fun _ _ => rfl) (fun i => @fun β d ks r h => Eq.trans (b := lexer_Name_p1_G (zq9f c_lexer_digit c_lexer_small (i + 1)) d ks) (by kernel_rfl) h) i
def zq9h (p1 : zq9b) {β : Type} (s : List UInt8) (k : (Bool → Option β)) : Option β :=
  cond (decide (s = ([] : List UInt8)))
  (k false)
  (cond (decide (24 < (List.length s : Int)))
  (k false)
  (cond (decide (0 ≤ 0) && decide (0 < (List.length s : Int)))
  (c_lexer_small ((List.getD s (Int.toNat 0) 0).toNat : Int) (fun rsmall =>
  cond (!rsmall)
  (k false)
  (p1 (fun t2 =>
  k t2) (fun _ =>
  k true) s (List.length s : Int) 0)))
  none))
theorem zq9i (hΓ : ΓOk Tryz.prog (lexer_Name_X c_lexer_digit c_lexer_small).Γ) (p1 : zq9b) (hp1 : PieceOk Tryz.prog 43 0 lexer_Name_p1_code zq9c zq9d (lexer_Name_p1_G p1)) : SpecOk Tryz.prog 54 (zq98 (zq9h c_lexer_small p1)) :=
  spec_exec (X := (lexer_Name_X c_lexer_digit c_lexer_small)) (Λ := pick1 [(58, pieceCut zq9c zq9d (lexer_Name_p1_G p1))]) (rs := [.tmp 2]) (c := bodyOf Tryz.f54) mixed tab_ok hΓ Tryz.func54 (by kernel_rfl) (by kernel_rfl) (by kernel_rfl) (by kernel_rfl) (CutsOk_cons (q := 58) (c' := lexer_Name_p1_code) (by kernel_rfl) rfl hp1 CutsOk_nil) (fun x k r h => Eq.trans (b := (zq98 (zq9h c_lexer_small p1)).run x k) (by kernel_rfl) h)
end
theorem zq9jΓ : ΓOk Tryz.prog (pick1 [(75, .spec (zq6d zq6h)), (68, .spec (zq60 zq64))]) := (ΓOk_cons zq6i (ΓOk_cons zq65 ΓOk_nil))
def zq9k (m : Nat) : zq9b := zq9f zq6h zq64 m
theorem zq9l {β : Type} (i : Nat) (k1 k2 s t19 t20) : (zq9k (i + 1) k1 k2 s t19 t20 : Option β) = zq9e zq6h zq64 (zq9k i k1 k2) k1 k2 s t19 t20 := rfl
def zq9m : zq9b := zq9k fuel
theorem zq9n : PieceOk Tryz.prog 43 0 lexer_Name_p1_code zq9c zq9d (lexer_Name_p1_G zq9m) := zq9g zq6h zq64 zq9jΓ fuel
def zq9o : zq97 := zq9h zq64 zq9m
theorem zq9p : SpecOk Tryz.prog 54 (zq98 zq9o) := zq9i zq6h zq64 zq9jΓ zq9m zq9n
abbrev zq9q := {β : Type} → (List UInt8) → (Bool → Option β) → Option β
def zq9r (c : zq9q) : Spec :=
  ⟨[(false, [.data .str])], [], [(false, [.data .bool])], [], fun x k => c x.1.1.1 (fun r0 => k (((r0, ()), ()), ()))⟩
noncomputable def ref06_Name_p1_code : Code := codeAt 58 (bodyOf Tryz.f58)
abbrev zq9s (β : Type) := Bool → Option β
abbrev zq9t (β : Type) := Unit → Option β
abbrev zq9u := {β : Type} → zq9s β → zq9t β → (List UInt8) → Int → Option β
def zq9v : View := ⟨0, [0, 3], [(false, [.data .str]),  (false, [.data (.int .i64)])], []⟩
def zq9w : List  (AExit × View) := [(.ret, ⟨0, [2], [(false, [.data .bool])], []⟩), (.exit 0, ⟨0, [], [], []⟩)]
@[reducible] def ref06_Name_p1_G (p : zq9u) {β : Type} (d : zq9v.den) (ks : Outs.K β zq9w) : Option β :=
  p (fun a0 => ks.1 (((a0, ()), ()), ())) (fun _ => ks.2.1 ((), ())) d.1.1.1 d.1.2.1.1
section
variable (c_ref06_digit : zq6p)
@[reducible] def ref06_Name_X : Ctx := ⟨look tab, pick1 [(80, .spec (zq6q c_ref06_digit))], false, false, false, false⟩
def zq9x {β : Type} (rec : (List UInt8) → Int → Option β) (k1 : zq9s β) (k2 : zq9t β) (s : List UInt8) (i_ : Int) : Option β :=
  cond (decide (i_ < (List.length s : Int)))
  (cond (decide (0 ≤ i_) && decide (i_ < (List.length s : Int)))
  (cond (decide (((List.getD s (Int.toNat i_) 0).toNat : Int) < 97))
  (cond (decide (0 ≤ i_) && decide (i_ < (List.length s : Int)))
  (c_ref06_digit ((List.getD s (Int.toNat i_) 0).toNat : Int) (fun rdigit =>
  cond (!rdigit)
  (cond (decide (0 ≤ i_) && decide (i_ < (List.length s : Int)))
  (cond (!decide (((List.getD s (Int.toNat i_) 0).toNat : Int) = 95))
  (cond (decide (0 ≤ i_) && decide (i_ < (List.length s : Int)))
  (cond (!decide (((List.getD s (Int.toNat i_) 0).toNat : Int) = 45))
  (k1 false)
  (let i_2 : Int := (IntKind.i64.wrap (i_ + 1));
  rec s i_2))
  none)
  (let i_2 : Int := (IntKind.i64.wrap (i_ + 1));
  rec s i_2))
  none)
  (let i_2 : Int := (IntKind.i64.wrap (i_ + 1));
  rec s i_2)))
  none)
  (cond (decide (0 ≤ i_) && decide (i_ < (List.length s : Int)))
  (cond (decide (122 < ((List.getD s (Int.toNat i_) 0).toNat : Int)))
  (cond (decide (0 ≤ i_) && decide (i_ < (List.length s : Int)))
  (c_ref06_digit ((List.getD s (Int.toNat i_) 0).toNat : Int) (fun rdigit =>
  cond (!rdigit)
  (cond (decide (0 ≤ i_) && decide (i_ < (List.length s : Int)))
  (cond (!decide (((List.getD s (Int.toNat i_) 0).toNat : Int) = 95))
  (cond (decide (0 ≤ i_) && decide (i_ < (List.length s : Int)))
  (cond (!decide (((List.getD s (Int.toNat i_) 0).toNat : Int) = 45))
  (k1 false)
  (let i_2 : Int := (IntKind.i64.wrap (i_ + 1));
  rec s i_2))
  none)
  (let i_2 : Int := (IntKind.i64.wrap (i_ + 1));
  rec s i_2))
  none)
  (let i_2 : Int := (IntKind.i64.wrap (i_ + 1));
  rec s i_2)))
  none)
  (let i_2 : Int := (IntKind.i64.wrap (i_ + 1));
  rec s i_2))
  none))
  none)
  (k2 ())
def zq9y {β : Type} : Nat → zq9s β → zq9t β →  (List UInt8) → Int → Option β
  | 0 => fun _ _ _ _ => none
  | i + 1 => fun k1 k2 s i_ => zq9x c_ref06_digit (zq9y i k1 k2) k1 k2 s i_
theorem zq9z (hΓ : ΓOk Tryz.prog (ref06_Name_X c_ref06_digit).Γ) (i : Nat) : PieceOk Tryz.prog 57 0 ref06_Name_p1_code zq9v zq9w (ref06_Name_p1_G (zq9y c_ref06_digit i)) := by
  rw [show ref06_Name_p1_code = .loop (loopBody ref06_Name_p1_code) by kernel_rfl]
  exact piece_loop (X := (ref06_Name_X c_ref06_digit)) (p := 1) (Λ := pick1 []) (G := fun i => @fun β d ks => ref06_Name_p1_G (zq9y c_ref06_digit i) d ks) mixed tab_ok hΓ rfl (by kernel_rfl) CutsOk_nil (fun _ _ => rfl) (fun i => @fun β d ks r h => Eq.trans (b := ref06_Name_p1_G (zq9y c_ref06_digit (i + 1)) d ks) (by kernel_rfl) h) i
def zqa0 (p1 : zq9u) {β : Type} (s : List UInt8) (k : (Bool → Option β)) : Option β :=
  cond (decide ((List.length s : Int) < 1))
  (k false)
  (cond (decide (24 < (List.length s : Int)))
  (k false)
  (cond (decide (0 ≤ 0) && decide (0 < (List.length s : Int)))
  (cond (decide (((List.getD s (Int.toNat 0) 0).toNat : Int) < 97))
  (k false)
  (cond (decide (0 ≤ 0) && decide (0 < (List.length s : Int)))
  (cond (decide (122 < ((List.getD s (Int.toNat 0) 0).toNat : Int)))
  (k false)
  (p1 (fun t2 =>
  k t2) (fun _ =>
  k true) s 0))
  none))
  none))
theorem zqa1 (hΓ : ΓOk Tryz.prog (ref06_Name_X c_ref06_digit).Γ) (p1 : zq9u) (hp1 : PieceOk Tryz.prog 57 0 ref06_Name_p1_code zq9v zq9w (ref06_Name_p1_G p1)) : SpecOk Tryz.prog 58 (zq9r (zqa0 p1)) :=
  spec_exec (X := (ref06_Name_X c_ref06_digit)) (Λ := pick1 [(58, pieceCut zq9v zq9w (ref06_Name_p1_G p1))]) (rs := [.tmp 2]) (c := bodyOf Tryz.f58) mixed tab_ok hΓ Tryz.func58 (by kernel_rfl) (by kernel_rfl) (by kernel_rfl) (by kernel_rfl) (CutsOk_cons (q := 58) (c' := ref06_Name_p1_code) (by kernel_rfl) rfl hp1 CutsOk_nil) (fun x k r h => Eq.trans (b := (zq9r (zqa0 p1)).run x k) (by kernel_rfl) h)
end
theorem zqa2Γ : ΓOk Tryz.prog (pick1 [(80, .spec (zq6q zq6u))]) := (ΓOk_cons zq6v ΓOk_nil)
def zqa3 (m : Nat) : zq9u := zq9y zq6u m
theorem zqa4 {β : Type} (i : Nat) (k1 k2 s i_) : (zqa3 (i + 1) k1 k2 s i_ : Option β) = zq9x zq6u (zqa3 i k1 k2) k1 k2 s i_ := rfl
def zqa5 : zq9u := zqa3 fuel
theorem zqa6 : PieceOk Tryz.prog 57 0 ref06_Name_p1_code zq9v zq9w (ref06_Name_p1_G zqa5) := zq9z zq6u zqa2Γ fuel
def zqa7 : zq9q := zqa0 zqa5
theorem zqa8 : SpecOk Tryz.prog 58 (zq9r zqa7) := zqa1 zq6u zqa2Γ zqa5 zqa6
abbrev zqa9 := {β : Type} → (List UInt8) → ((List UInt8) → Option β) → Option β
def zqaa (c : zqa9) : Spec :=
  ⟨[(false, [.data .str])], [], [(false, [.data .str])], [], fun x k => c x.1.1.1 (fun r0 => k (((r0, ()), ()), ()))⟩
noncomputable def ref06_form_p1_code : Code := codeAt 58 (bodyOf Tryz.f59)
abbrev zqab (β : Type) := (List UInt8) → Option β
abbrev zqac := {β : Type} → zqab β → (List UInt8) → (List UInt8) → Int → Option β
def zqad : View := ⟨0, [0, 3, 4], [(false, [.data .str]),  (false, [.data .str]), (false, [.data (.int .i64)])], []⟩
def zqae : List  (AExit × View) := [(.exit 0, ⟨0, [3], [(false, [.data .str])], []⟩)]
@[reducible] def ref06_form_p1_G (p : zqac) {β : Type} (d : zqad.den) (ks : Outs.K β zqae) : Option β :=
  p (fun a0 => ks.1 (((a0, ()), ()), ())) d.1.1.1 d.1.2.1.1 d.1.2.2.1.1
section
variable (c_ref06_digit : zq6p)
@[reducible] def ref06_form_X : Ctx := ⟨look tab, pick1 [(80, .spec (zq6q c_ref06_digit))], false, false, false, false⟩
def zqaf {β : Type} (rec : (List UInt8) → (List UInt8) → Int → Option β) (k1 : zqab β) (s out : List UInt8) (i_ : Int) : Option β :=
  cond (decide (i_ < (List.length s : Int)))
  (cond (decide (0 ≤ i_) && decide (i_ < (List.length s : Int)))
  (c_ref06_digit ((List.getD s (Int.toNat i_) 0).toNat : Int) (fun rdigit =>
  cond rdigit
  (cond (decide (List.length out + List.length ([100] : List UInt8) ≤ 9223372036854775807))
  (let out2 : List UInt8 := (out ++ ([100] : List UInt8));
  let i_2 : Int := (IntKind.i64.wrap (i_ + 1));
  rec s out2 i_2)
  none)
  (cond (decide (0 ≤ i_) && (decide (i_ ≤ (IntKind.i64.wrap (i_ + 1))) && decide ((IntKind.i64.wrap (i_ + 1)) ≤ (List.length s : Int))))
  (cond (decide (List.length out + List.length (List.drop (Int.toNat i_) (List.take (Int.toNat (IntKind.i64.wrap (i_ + 1))) s)) ≤ 9223372036854775807))
  (let out2 : List UInt8 := (out ++ (List.drop (Int.toNat i_) (List.take (Int.toNat (IntKind.i64.wrap (i_ + 1))) s)));
  let i_2 : Int := (IntKind.i64.wrap (i_ + 1));
  rec s out2 i_2)
  none)
  none)))
  none)
  (k1 out)
def zqag {β : Type} : Nat → zqab β →  (List UInt8) → (List UInt8) → Int → Option β
  | 0 => fun _ _ _ _ => none
  | i + 1 => fun k1 s out i_ => zqaf c_ref06_digit (zqag i k1) k1 s out i_
theorem zqah (hΓ : ΓOk Tryz.prog (ref06_form_X c_ref06_digit).Γ) (i : Nat) : PieceOk Tryz.prog 25 0 ref06_form_p1_code zqad zqae (ref06_form_p1_G (zqag c_ref06_digit i)) := by
  rw [show ref06_form_p1_code = .loop (loopBody ref06_form_p1_code) by kernel_rfl]
  exact piece_loop (X := (ref06_form_X c_ref06_digit)) (p := 1) (Λ := pick1 []) (G := fun i => @fun β d ks => ref06_form_p1_G (zqag c_ref06_digit i) d ks) mixed tab_ok hΓ rfl (by kernel_rfl) CutsOk_nil (fun _ _ => rfl) (fun i => @fun β d ks r h => Eq.trans (b := ref06_form_p1_G (zqag c_ref06_digit (i + 1)) d ks) (by kernel_rfl) h) i
def zqai (p1 : zqac) {β : Type} (s : List UInt8) (k : ((List UInt8) → Option β)) : Option β :=
  p1 (fun out =>
  k out) s ([] : List UInt8) 0
theorem zqaj (hΓ : ΓOk Tryz.prog (ref06_form_X c_ref06_digit).Γ) (p1 : zqac) (hp1 : PieceOk Tryz.prog 25 0 ref06_form_p1_code zqad zqae (ref06_form_p1_G p1)) : SpecOk Tryz.prog 59 (zqaa (zqai p1)) :=
  spec_exec (X := (ref06_form_X c_ref06_digit)) (Λ := pick1 [(58, pieceCut zqad zqae (ref06_form_p1_G p1))]) (rs := [.tmp 2]) (c := bodyOf Tryz.f59) mixed tab_ok hΓ Tryz.func59 (by kernel_rfl) (by kernel_rfl) (by kernel_rfl) (by kernel_rfl) (CutsOk_cons (q := 58) (c' := ref06_form_p1_code) (by kernel_rfl) rfl hp1 CutsOk_nil) (fun x k r h => Eq.trans (b := (zqaa (zqai p1)).run x k) (by kernel_rfl) h)
end
theorem zqakΓ : ΓOk Tryz.prog (pick1 [(80, .spec (zq6q zq6u))]) := (ΓOk_cons zq6v ΓOk_nil)
def zqal (m : Nat) : zqac := zqag zq6u m
theorem zqam {β : Type} (i : Nat) (k1 s out i_) : (zqal (i + 1) k1 s out i_ : Option β) = zqaf zq6u (zqal i k1) k1 s out i_ := rfl
def zqan : zqac := zqal fuel
theorem zqao : PieceOk Tryz.prog 25 0 ref06_form_p1_code zqad zqae (ref06_form_p1_G zqan) := zqah zq6u zqakΓ fuel
def zqap : zqa9 := zqai zqan
theorem zqaq : SpecOk Tryz.prog 59 (zqaa zqap) := zqaj zq6u zqakΓ zqan zqao
abbrev zqar := {β : Type} → (List UInt8) → (Int → Option β) → Option β
def zqas (c : zqar) : Spec :=
  ⟨[(false, [.data .str])], [], [(false, [.data (.int .i64)])], [], fun x k => c x.1.1.1 (fun r0 => k (((r0, ()), ()), ()))⟩
noncomputable def ref06_clock_p1_code : Code := codeAt 15 (bodyOf Tryz.f60)
abbrev zqat (β : Type) := Int → Option β
abbrev zqau := {β : Type} → zqat β → Int → Int → Int → Option β
def zqav : View := ⟨0, [3, 4, 5], [(false, [.data  (.int .i64)]), (false, [.data (.int .i64)]), (false, [.data (.int .i64)])], []⟩
def zqaw : List  (AExit × View) := [(.ret, ⟨0, [2], [(false, [.data (.int .i64)])], []⟩)]
@[reducible] def ref06_clock_p1_G (p : zqau) {β : Type} (d : zqav.den) (ks : Outs.K β zqaw) : Option β :=
  p (fun a0 => ks.1 (((a0, ()), ()), ())) d.1.1.1 d.1.2.1.1 d.1.2.2.1.1
section
variable (c_ref06_number : zq5h)
@[reducible] def ref06_clock_X : Ctx := ⟨look tab, pick1 [(62, .spec (zq5i c_ref06_number))], false, false, false, false⟩
def zqax {β : Type} (k1 : zqat β) (h m x : Int) : Option β :=
  cond (decide (59 < m))
  (k1 (-1))
  (cond (decide (59 < x))
  (k1 (-1))
  (let t : Int := (IntKind.i64.wrap ((IntKind.i64.wrap ((IntKind.i64.wrap (h * 3600)) + (IntKind.i64.wrap (m * 60)))) + x));
  k1 t))
def zqay {β : Type} (k1 : zqat β) (h m x : Int) : Option β := zqax k1 h m x
theorem zqaz (hΓ : ΓOk Tryz.prog (ref06_clock_X c_ref06_number).Γ) : PieceOk Tryz.prog 31 0 ref06_clock_p1_code zqav zqaw (ref06_clock_p1_G (zqay)) :=
  piece_exec (X := (ref06_clock_X c_ref06_number)) (p := 15) (Λ := pick1 []) mixed tab_ok hΓ (by kernel_rfl) CutsOk_nil (fun d ks r h => Eq.trans (b := ref06_clock_p1_G (zqay) d ks) (by kernel_rfl) h)
def zqb0 (p1 : zqau) {β : Type} (s : List UInt8) (k : (Int → Option β)) : Option β :=
  cond (decide (0 ≤ 0) && (decide (0 ≤ 2) && decide (2 ≤ (List.length s : Int))))
  (c_ref06_number (List.drop (Int.toNat 0) (List.take (Int.toNat 2) s)) (fun rnumber =>
  cond (decide (0 ≤ 3) && (decide (3 ≤ 5) && decide (5 ≤ (List.length s : Int))))
  (c_ref06_number (List.drop (Int.toNat 3) (List.take (Int.toNat 5) s)) (fun rnumber2 =>
  cond (decide ((List.length s : Int) = 8))
  (cond (decide (0 ≤ 6) && (decide (6 ≤ 8) && decide (8 ≤ (List.length s : Int))))
  (c_ref06_number (List.drop (Int.toNat 6) (List.take (Int.toNat 8) s)) (fun rnumber3 =>
  p1 (fun t2 =>
  k t2) rnumber rnumber2 rnumber3))
  none)
  (p1 (fun t2 =>
  k t2) rnumber rnumber2 0)))
  none))
  none
theorem zqb1 (hΓ : ΓOk Tryz.prog (ref06_clock_X c_ref06_number).Γ) (p1 : zqau) (hp1 : PieceOk Tryz.prog 31 0 ref06_clock_p1_code zqav zqaw (ref06_clock_p1_G p1)) : SpecOk Tryz.prog 60 (zqas (zqb0 c_ref06_number p1)) :=
  spec_exec (X := (ref06_clock_X c_ref06_number)) (Λ := pick1 [(15, pieceCut zqav zqaw (ref06_clock_p1_G p1))]) (rs := [.tmp 2]) (c := bodyOf Tryz.f60) mixed tab_ok hΓ Tryz.func60 (by kernel_rfl) (by kernel_rfl) (by kernel_rfl) (by kernel_rfl) (CutsOk_cons (q := 15) (c' := ref06_clock_p1_code) (by kernel_rfl) rfl hp1 CutsOk_nil) (fun x k r h => Eq.trans (b := (zqas (zqb0 c_ref06_number p1)).run x k) (by kernel_rfl) h)
end
theorem zqb2Γ : ΓOk Tryz.prog (pick1 [(62, .spec (zq5i zq5x))]) := (ΓOk_cons zq5y ΓOk_nil)
def zqb3 : zqau := zqay
theorem zqb4 : PieceOk Tryz.prog 31 0 ref06_clock_p1_code zqav zqaw (ref06_clock_p1_G zqb3) := zqaz zq5x zqb2Γ
def zqb5 : zqar := zqb0 zq5x zqb3
theorem zqb6 : SpecOk Tryz.prog 60 (zqas zqb5) := zqb1 zq5x zqb2Γ zqb3 zqb4
abbrev zqb7 := {β : Type} → (List UInt8) → (Int → Bool → Option β) → Option β
def zqb8 (c : zqb7) : Spec :=
  ⟨[(false, [.data .str])], [], [(false, [.data (.int .i64)]), (false, [.data .bool])], [], fun x k => c x.1.1.1 (fun r0 r1 => k (((r0, ()), (r1, ()), ()), ()))⟩
noncomputable def lexer_number_p1_code : Code := codeAt 26 (bodyOf Tryz.f74)
abbrev zqb9 (β : Type) := Int → Bool → Option β
abbrev zqba (β : Type) := (List UInt8) → Option β
abbrev zqbb := {β : Type} → zqb9 β → zqba β → (List UInt8) → Int → Int → Option β
def zqbc : View := ⟨0, [0, 8, 9], [(false, [.data .str]),  (false, [.data (.int .i64)]), (false, [.data (.int .i64)])], []⟩
def zqbd : List  (AExit × View) := [(.ret, ⟨0, [2, 3], [(false, [.data (.int .i64)]), (false, [.data .bool])], []⟩), (.exit 0, ⟨0, [0], [(false, [.data .str])], []⟩)]
@[reducible] def lexer_number_p1_G (p : zqbb) {β : Type} (d : zqbc.den) (ks : Outs.K β zqbd) : Option β :=
  p (fun a0 a1 => ks.1 (((a0, ()), (a1, ()), ()), ())) (fun a0 => ks.2.1 (((a0, ()), ()), ())) d.1.1.1 d.1.2.1.1 d.1.2.2.1.1
section
variable (c_lexer_digit : zq6c) (c_strconv_Atoi : zq6y)
@[reducible] def lexer_number_X : Ctx := ⟨look tab, pick1 [(75, .spec (zq6d c_lexer_digit)), (91, .spec (zq6z c_strconv_Atoi))], false, false, false, false⟩
def zqbe {β : Type} (rec : (List UInt8) → Int → Int → Option β) (k1 : zqb9 β) (k2 : zqba β) (s : List UInt8) (t8 t9 : Int) : Option β :=
  cond (decide (t9 < t8))
  (cond (decide (0 ≤ t9) && decide (t9 < (List.length s : Int)))
  (c_lexer_digit ((List.getD s (Int.toNat t9) 0).toNat : Int) (fun rdigit =>
  cond (!rdigit)
  (k1 0 false)
  (rec s t8 (IntKind.i64.wrap (t9 + 1)))))
  none)
  (k2 s)
def zqbf {β : Type} : Nat → zqb9 β → zqba β →  (List UInt8) → Int → Int → Option β
  | 0 => fun _ _ _ _ _ => none
  | i + 1 => fun k1 k2 s t8 t9 => zqbe c_lexer_digit (zqbf i k1 k2) k1 k2 s t8 t9
theorem zqbg (hΓ : ΓOk Tryz.prog (lexer_number_X c_lexer_digit c_strconv_Atoi).Γ) (i : Nat) : PieceOk Tryz.prog 31 0 lexer_number_p1_code zqbc zqbd (lexer_number_p1_G (zqbf c_lexer_digit i)) := by
  rw [show lexer_number_p1_code = .loop (loopBody lexer_number_p1_code) by kernel_rfl]
  exact piece_loop (X := (lexer_number_X c_lexer_digit c_strconv_Atoi)) (p := 1) (Λ := pick1 []) (G := fun i => @fun β d ks => lexer_number_p1_G (zqbf c_lexer_digit i) d ks) mixed tab_ok hΓ rfl (by kernel_rfl) CutsOk_nil (fun _ _ => rfl) (fun i => @fun β d ks r h => Eq.trans (b := lexer_number_p1_G (zqbf c_lexer_digit (i + 1)) d ks) (by kernel_rfl) h) i
def zqbh (p1 : zqbb) {β : Type} (s : List UInt8) (k : (Int → Bool → Option β)) : Option β :=
  p1 (fun t2 t3 =>
  k t2 t3) (fun s2 =>
  c_strconv_Atoi s2 (fun rAtoi rAtoi2 =>
  cond rAtoi2
  (let t : Bool := (decide ((List.length s2 : Int) ≤ 9));
  k rAtoi t)
  (k rAtoi false))) s (List.length s : Int) 0
theorem zqbi (hΓ : ΓOk Tryz.prog (lexer_number_X c_lexer_digit c_strconv_Atoi).Γ) (p1 : zqbb) (hp1 : PieceOk Tryz.prog 31 0 lexer_number_p1_code zqbc zqbd (lexer_number_p1_G p1)) : SpecOk Tryz.prog 74 (zqb8 (zqbh c_strconv_Atoi p1)) :=
  spec_exec (X := (lexer_number_X c_lexer_digit c_strconv_Atoi)) (Λ := pick1 [(26, pieceCut zqbc zqbd (lexer_number_p1_G p1))]) (rs := [.tmp 2, .tmp 3]) (c := bodyOf Tryz.f74) mixed tab_ok hΓ Tryz.func74 (by kernel_rfl) (by kernel_rfl) (by kernel_rfl) (by kernel_rfl) (CutsOk_cons (q := 26) (c' := lexer_number_p1_code) (by kernel_rfl) rfl hp1 CutsOk_nil) (fun x k r h => Eq.trans (b := (zqb8 (zqbh c_strconv_Atoi p1)).run x k) (by kernel_rfl) h)
end
theorem zqbjΓ : ΓOk Tryz.prog (pick1 [(75, .spec (zq6d zq6h)), (91, .spec (zq6z zq70))]) := (ΓOk_cons zq6i (ΓOk_cons zq71 ΓOk_nil))
def zqbk (m : Nat) : zqbb := zqbf zq6h m
theorem zqbl {β : Type} (i : Nat) (k1 k2 s t8 t9) : (zqbk (i + 1) k1 k2 s t8 t9 : Option β) = zqbe zq6h (zqbk i k1 k2) k1 k2 s t8 t9 := rfl
def zqbm : zqbb := zqbk fuel
theorem zqbn : PieceOk Tryz.prog 31 0 lexer_number_p1_code zqbc zqbd (lexer_number_p1_G zqbm) := zqbg zq6h zq70 zqbjΓ fuel
def zqbo : zqb7 := zqbh zq70 zqbm
theorem zqbp : SpecOk Tryz.prog 74 (zqb8 zqbo) := zqbi zq6h zq70 zqbjΓ zqbm zqbn
abbrev zqbq := {β : Type} → (List UInt8) → (Int → Bool → Option β) → Option β
def zqbr (c : zqbq) : Spec :=
  ⟨[(false, [.data .str])], [], [(false, [.data (.int .i64)]), (false, [.data .bool])], [], fun x k => c x.1.1.1 (fun r0 r1 => k (((r0, ()), (r1, ()), ()), ()))⟩
section
variable (c_lexer_number : zqb7)
@[reducible] def lexer_two_X : Ctx := ⟨look tab, pick1 [(74, .spec (zqb8 c_lexer_number))], false, false, false, false⟩
def zqbs {β : Type} (s : List UInt8) (k : (Int → Bool → Option β)) : Option β :=
  c_lexer_number s (fun rnumber rnumber2 =>
  cond rnumber2
  (let t : Bool := (decide ((List.length s : Int) = 2));
  k rnumber t)
  (k rnumber false))
theorem zqbt (hΓ : ΓOk Tryz.prog (lexer_two_X c_lexer_number).Γ) : SpecOk Tryz.prog 89 (zqbr (zqbs c_lexer_number)) :=
  spec_exec (X := (lexer_two_X c_lexer_number)) (Λ := pick1 []) (rs := [.tmp 2, .tmp 3]) (c := bodyOf Tryz.f89) mixed tab_ok hΓ Tryz.func89 (by kernel_rfl) (by kernel_rfl) (by kernel_rfl) (by kernel_rfl) CutsOk_nil (fun x k r h => Eq.trans (b := (zqbr (zqbs c_lexer_number)).run x k) (by kernel_rfl) h)
end
theorem zqbuΓ : ΓOk Tryz.prog (pick1 [(74, .spec (zqb8 zqbo))]) := (ΓOk_cons zqbp ΓOk_nil)
def zqbv : zqbq := zqbs zqbo
theorem zqbw : SpecOk Tryz.prog 89 (zqbr zqbv) := zqbt zqbo zqbuΓ
abbrev zqbx := {β : Type} → Int → Int → ((List UInt8) → Option β) → Option β
def zqby (c : zqbx) : Spec :=
  ⟨[(false, [.data (.int .i64)]), (false, [.data (.int .i64)])], [], [(false, [.data .str])], [], fun x k => c x.1.1.1 x.1.2.1.1 (fun r0 => k (((r0, ()), ()), ()))⟩
section
variable (c_strconv_Itoa : zq6l) (c_strings_Repeat : zq7b)
@[reducible] def lexer_digits_X : Ctx := ⟨look tab, pick1 [(76, .spec (zq6m c_strconv_Itoa)), (106, .spec (zq7c c_strings_Repeat))], false, false, false, false⟩
def zqbz {β : Type} (x n : Int) (k : ((List UInt8) → Option β)) : Option β :=
  c_strconv_Itoa x (fun rItoa =>
  c_strings_Repeat ([48] : List UInt8) (if (IntKind.i64.wrap (n - (List.length rItoa : Int))) > 0 then (IntKind.i64.wrap (n - (List.length rItoa : Int))) else 0) (fun rRepeat =>
  cond (decide (List.length rRepeat + List.length rItoa ≤ 9223372036854775807))
  (k (rRepeat ++ rItoa))
  none))
theorem zqc0 (hΓ : ΓOk Tryz.prog (lexer_digits_X c_strconv_Itoa c_strings_Repeat).Γ) : SpecOk Tryz.prog 93 (zqby (zqbz c_strconv_Itoa c_strings_Repeat)) :=
  spec_exec (X := (lexer_digits_X c_strconv_Itoa c_strings_Repeat)) (Λ := pick1 []) (rs := [.tmp 4]) (c := bodyOf Tryz.f93) mixed tab_ok hΓ Tryz.func93 (by kernel_rfl) (by kernel_rfl) (by kernel_rfl) (by kernel_rfl) CutsOk_nil (fun x k r h => Eq.trans (b := (zqby (zqbz c_strconv_Itoa c_strings_Repeat)).run x k) (by kernel_rfl) h)
end
theorem zqc1Γ : ΓOk Tryz.prog (pick1 [(76, .spec (zq6m zq6n)), (106, .spec (zq7c zq7d))]) := (ΓOk_cons zq6o (ΓOk_cons zq7e ΓOk_nil))
def zqc2 : zqbx := zqbz zq6n zq7d
theorem zqc3 : SpecOk Tryz.prog 93 (zqby zqc2) := zqc0 zq6n zq7d zqc1Γ
abbrev zqc4 := {β : Type} → Int → Int → (Int → Option β) → Option β
def zqc5 (c : zqc4) : Spec :=
  ⟨[(false, [.data (.int .i64)]), (false, [.data (.int .i64)])], [], [(false, [.data (.int .i64)])], [], fun x k => c x.1.1.1 x.1.2.1.1 (fun r0 => k (((r0, ()), ()), ()))⟩
noncomputable def ref01_Days_p1_code : Code := codeAt 215 (bodyOf Tryz.f98)
noncomputable def ref01_Days_p2_code : Code := codeAt 53 (bodyOf Tryz.f98)
abbrev zqc6 (β : Type) := Int → Option β
abbrev zqc7 (β : Type) := Unit → Option β
abbrev zqc8 := {β : Type} → zqc6 β → zqc7 β → Int → Int → Bool → Option β
def zqc9 : View := ⟨0, [0, 5, 14], [(false, [.data  (.int .i64)]), (false, [.data (.int .i64)]), (false, [.data .bool])], []⟩
def zqca : List  (AExit × View) := [(.ret, ⟨0, [4], [(false, [.data (.int .i64)])], []⟩), (.normal, ⟨0, [], [], []⟩)]
@[reducible] def ref01_Days_p1_G (p : zqc8) {β : Type} (d : zqc9.den) (ks : Outs.K β zqca) : Option β :=
  p (fun a0 => ks.1 (((a0, ()), ()), ())) (fun _ => ks.2.1 ((), ())) d.1.1.1 d.1.2.1.1 d.1.2.2.1.1
abbrev zqcb (β : Type) := Int → Option β
abbrev zqcc (β : Type) := Unit → Option β
abbrev zqcd := {β : Type} → zqcb β → zqcc β → Int → Int → Bool → Option β
def zqce : View := ⟨0, [0, 5, 6], [(false, [.data  (.int .i64)]), (false, [.data (.int .i64)]), (false, [.data .bool])], []⟩
def zqcf : List  (AExit × View) := [(.ret, ⟨0, [4], [(false, [.data (.int .i64)])], []⟩), (.normal, ⟨0, [], [], []⟩)]
@[reducible] def ref01_Days_p2_G (p : zqcd) {β : Type} (d : zqce.den) (ks : Outs.K β zqcf) : Option β :=
  p (fun a0 => ks.1 (((a0, ()), ()), ())) (fun _ => ks.2.1 ((), ())) d.1.1.1 d.1.2.1.1 d.1.2.2.1.1
section
variable (c_ref01_Leap : zq7f)
@[reducible] def ref01_Days_X : Ctx := ⟨look tab, pick1 [(110, .spec (zq7g c_ref01_Leap))], false, false, false, false⟩
def zqcg {β : Type} (k1 : zqc6 β) (k2 : zqc7 β) (year t5 : Int) (t14 : Bool) : Option β :=
  cond t14
  (k1 30)
  (let t : Bool := (decide (t5 = 2));
  cond t
  (c_ref01_Leap year (fun rLeap =>
  cond rLeap
  (k1 29)
  (k1 28)))
  (k2 ()))
def zqch {β : Type} (k1 : zqc6 β) (k2 : zqc7 β) (year t5 : Int) (t14 : Bool) : Option β := zqcg c_ref01_Leap k1 k2 year t5 t14
theorem zqci (hΓ : ΓOk Tryz.prog (ref01_Days_X c_ref01_Leap).Γ) : PieceOk Tryz.prog 23 0 ref01_Days_p1_code zqc9 zqca (ref01_Days_p1_G (zqch c_ref01_Leap)) :=
  piece_exec (X := (ref01_Days_X c_ref01_Leap)) (p := 215) (Λ := pick1 []) mixed tab_ok hΓ (by kernel_rfl) CutsOk_nil (fun d ks r h => Eq.trans (b := ref01_Days_p1_G (zqch c_ref01_Leap) d ks) (by kernel_rfl) h)
def zqcj (p1 : zqc8) {β : Type} (k1 : zqcb β) (k2 : zqcc β) (year : Int) (t5 : Int) (t6 : Bool) : Option β :=
  cond t6
  (k1 31)
  (let t : Bool := (decide (t5 = 4));
  cond t
  (p1 (fun t4 =>
  k1 t4) (fun _ =>
  k2 ()) year t5 t)
  (let t2 : Bool := (decide (t5 = 6));
  cond t2
  (p1 (fun t4 =>
  k1 t4) (fun _ =>
  k2 ()) year t5 t2)
  (let t3 : Bool := (decide (t5 = 9));
  cond t3
  (p1 (fun t4 =>
  k1 t4) (fun _ =>
  k2 ()) year t5 t3)
  (let t4 : Bool := (decide (t5 = 11));
  p1 (fun t42 =>
  k1 t42) (fun _ =>
  k2 ()) year t5 t4))))
def zqck (p1 : zqc8) {β : Type} (k1 : zqcb β) (k2 : zqcc β) (year : Int) (t5 : Int) (t6 : Bool) : Option β := zqcj p1 k1 k2 year t5 t6
theorem zqcl (hΓ : ΓOk Tryz.prog (ref01_Days_X c_ref01_Leap).Γ) (p1 : zqc8) (hp1 : PieceOk Tryz.prog 23 0 ref01_Days_p1_code zqc9 zqca (ref01_Days_p1_G p1)) : PieceOk Tryz.prog 23 0 ref01_Days_p2_code zqce zqcf (ref01_Days_p2_G (zqck p1)) :=
  piece_exec (X := (ref01_Days_X c_ref01_Leap)) (p := 53) (Λ := pick1 [(215, pieceCut zqc9 zqca (ref01_Days_p1_G p1))]) mixed tab_ok hΓ (by kernel_rfl) (CutsOk_cons (q := 215) (c' := ref01_Days_p1_code) (by kernel_rfl) rfl hp1 CutsOk_nil) (fun d ks r h => Eq.trans (b := ref01_Days_p2_G (zqck p1) d ks) (by kernel_rfl) h)
def zqcm (p2 : zqcd) {β : Type} (year : Int) (month : Int) (k : (Int → Option β)) : Option β :=
  let t : Bool := (decide (month = 1));
  cond t
  (p2 (fun t4 =>
  k t4) (fun _ =>
  k 0) year month t)
  (let t2 : Bool := (decide (month = 3));
  cond t2
  (p2 (fun t4 =>
  k t4) (fun _ =>
  k 0) year month t2)
  (let t3 : Bool := (decide (month = 5));
  cond t3
  (p2 (fun t4 =>
  k t4) (fun _ =>
  k 0) year month t3)
  (let t4 : Bool := (decide (month = 7));
  cond t4
  (p2 (fun t42 =>
  k t42) (fun _ =>
  k 0) year month t4)
  (let t5 : Bool := (decide (month = 8));
  cond t5
  (p2 (fun t42 =>
  k t42) (fun _ =>
  k 0) year month t5)
  (let t6 : Bool := (decide (month = 10));
  cond t6
  (p2 (fun t42 =>
  k t42) (fun _ =>
  k 0) year month t6)
  (let t7 : Bool := (decide (month = 12));
  p2 (fun t42 =>
  k t42) (fun _ =>
  k 0) year month t7))))))
theorem zqcn (hΓ : ΓOk Tryz.prog (ref01_Days_X c_ref01_Leap).Γ) (p2 : zqcd) (hp2 : PieceOk Tryz.prog 23 0 ref01_Days_p2_code zqce zqcf (ref01_Days_p2_G p2)) : SpecOk Tryz.prog 98 (zqc5 (zqcm p2)) :=
  spec_exec (X := (ref01_Days_X c_ref01_Leap)) (Λ := pick1 [(53, pieceCut zqce zqcf (ref01_Days_p2_G p2))]) (rs := [.tmp 4]) (c := bodyOf Tryz.f98) mixed tab_ok hΓ Tryz.func98 (by kernel_rfl) (by kernel_rfl) (by kernel_rfl) (by kernel_rfl) (CutsOk_cons (q := 53) (c' := ref01_Days_p2_code) (by kernel_rfl) rfl hp2 CutsOk_nil) (fun x k r h => Eq.trans (b := (zqc5 (zqcm p2)).run x k) (by kernel_rfl) h)
end
theorem zqcoΓ : ΓOk Tryz.prog (pick1 [(110, .spec (zq7g zq7k))]) := (ΓOk_cons zq7l ΓOk_nil)
def zqcp : zqc8 := zqch zq7k
theorem zqcq : PieceOk Tryz.prog 23 0 ref01_Days_p1_code zqc9 zqca (ref01_Days_p1_G zqcp) := zqci zq7k zqcoΓ
def zqcr : zqcd := zqck zqcp
theorem zqcs : PieceOk Tryz.prog 23 0 ref01_Days_p2_code zqce zqcf (ref01_Days_p2_G zqcr) := zqcl zq7k zqcoΓ zqcp zqcq
def zqct : zqc4 := zqcm zqcr
theorem zqcu : SpecOk Tryz.prog 98 (zqc5 zqct) := zqcn zq7k zqcoΓ zqcr zqcs
abbrev zqcv := {β : Type} → Int → (Int → Option β) → Option β
def zqcw (c : zqcv) : Spec :=
  ⟨[(false, [.data (.int .i64)])], [], [(false, [.data (.int .i64)])], [], fun x k => c x.1.1.1 (fun r0 => k (((r0, ()), ()), ()))⟩
section
variable (c_civil_floor : zq7m)
@[reducible] def civil_count_X : Ctx := ⟨look tab, pick1 [(122, .spec (zq7n c_civil_floor))], false, false, false, false⟩
def zqcx {β : Type} (year : Int) (k : (Int → Option β)) : Option β :=
  let y : Int := (IntKind.i64.wrap (year - 1));
  c_civil_floor y 4 (fun rfloor =>
  c_civil_floor y 100 (fun rfloor2 =>
  c_civil_floor y 400 (fun rfloor3 =>
  let t : Int := (IntKind.i64.wrap ((IntKind.i64.wrap ((IntKind.i64.wrap ((IntKind.i64.wrap ((IntKind.i64.wrap (365 * (IntKind.i64.wrap (year - 1970)))) + rfloor)) - rfloor2)) + rfloor3)) - 477));
  k t)))
theorem zqcy (hΓ : ΓOk Tryz.prog (civil_count_X c_civil_floor).Γ) : SpecOk Tryz.prog 107 (zqcw (zqcx c_civil_floor)) :=
  spec_exec (X := (civil_count_X c_civil_floor)) (Λ := pick1 []) (rs := [.tmp 2]) (c := bodyOf Tryz.f107) mixed tab_ok hΓ Tryz.func107 (by kernel_rfl) (by kernel_rfl) (by kernel_rfl) (by kernel_rfl) CutsOk_nil (fun x k r h => Eq.trans (b := (zqcw (zqcx c_civil_floor)).run x k) (by kernel_rfl) h)
end
theorem zqczΓ : ΓOk Tryz.prog (pick1 [(122, .spec (zq7n zq7r))]) := (ΓOk_cons zq7s ΓOk_nil)
def zqd0 : zqcv := zqcx zq7r
theorem zqd1 : SpecOk Tryz.prog 107 (zqcw zqd0) := zqcy zq7r zqczΓ
abbrev zqd2 := {β : Type} → Int → (Int → Option β) → Option β
def zqd3 (c : zqd2) : Spec :=
  ⟨[(false, [.data (.int .i64)])], [], [(false, [.data (.int .i64)])], [], fun x k => c x.1.1.1 (fun r0 => k (((r0, ()), ()), ()))⟩
noncomputable def civil_year_p1_code : Code := codeAt 28 (bodyOf Tryz.f108)
abbrev zqd4 (β : Type) := Int → Option β
abbrev zqd5 := {β : Type} → zqd4 β → Int → Int → Option β
def zqd6 : View := ⟨0, [0, 3], [(false, [.data  (.int .i64)]), (false, [.data (.int .i64)])], []⟩
def zqd7 : List  (AExit × View) := [(.exit 0, ⟨0, [3], [(false, [.data (.int .i64)])], []⟩)]
@[reducible] def civil_year_p1_G (p : zqd5) {β : Type} (d : zqd6.den) (ks : Outs.K β zqd7) : Option β :=
  p (fun a0 => ks.1 (((a0, ()), ()), ())) d.1.1.1 d.1.2.1.1
section
variable (c_civil_count : zqcv) (c_civil_floor : zq7m)
@[reducible] def civil_year_X : Ctx := ⟨look tab, pick1 [(107, .spec (zqcw c_civil_count)), (122, .spec (zq7n c_civil_floor))], false, false, false, false⟩
def zqd8 {β : Type} (rec : Int → Int → Option β) (k1 : zqd4 β) (day y : Int) : Option β :=
  c_civil_count (IntKind.i64.wrap (y + 1)) (fun rcount =>
  cond (decide (rcount ≤ day))
  (let y2 : Int := (IntKind.i64.wrap (y + 1));
  rec day y2)
  (k1 y))
def zqd9 {β : Type} : Nat → zqd4 β → Int → Int → Option β
  | 0 => fun _ _ _ => none
  | i + 1 => fun k1 day y => zqd8 c_civil_count (zqd9 i k1) k1 day y
theorem zqda (hΓ : ΓOk Tryz.prog (civil_year_X c_civil_count c_civil_floor).Γ) (i : Nat) : PieceOk Tryz.prog 15 0 civil_year_p1_code zqd6 zqd7 (civil_year_p1_G (zqd9 c_civil_count i)) := by
  rw [show civil_year_p1_code = .loop (loopBody civil_year_p1_code) by kernel_rfl]
  exact piece_loop (X := (civil_year_X c_civil_count c_civil_floor)) (p := 1) (Λ := pick1 []) (G := fun i => @fun β d ks => civil_year_p1_G (zqd9 c_civil_count i) d ks) mixed tab_ok hΓ rfl (by kernel_rfl) CutsOk_nil (fun _ _ => rfl) (fun i => @fun β d ks r h => Eq.trans (b := civil_year_p1_G (zqd9 c_civil_count (i + 1)) d ks) (by kernel_rfl) h) i
def zqdb (p1 : zqd5) {β : Type} (day : Int) (k : (Int → Option β)) : Option β :=
  c_civil_floor day 366 (fun rfloor =>
  let y : Int := (IntKind.i64.wrap (1970 + rfloor));
  p1 (fun y2 =>
  k y2) day y)
theorem zqdc (hΓ : ΓOk Tryz.prog (civil_year_X c_civil_count c_civil_floor).Γ) (p1 : zqd5) (hp1 : PieceOk Tryz.prog 15 0 civil_year_p1_code zqd6 zqd7 (civil_year_p1_G p1)) : SpecOk Tryz.prog 108 (zqd3 (zqdb c_civil_floor p1)) :=
  spec_exec (X := (civil_year_X c_civil_count c_civil_floor)) (Λ := pick1 [(28, pieceCut zqd6 zqd7 (civil_year_p1_G p1))]) (rs := [.tmp 2]) (c := bodyOf Tryz.f108) mixed tab_ok hΓ Tryz.func108 (by kernel_rfl) (by kernel_rfl) (by kernel_rfl) (by kernel_rfl) (CutsOk_cons (q := 28) (c' := civil_year_p1_code) (by kernel_rfl) rfl hp1 CutsOk_nil) (fun x k r h => Eq.trans (b := (zqd3 (zqdb c_civil_floor p1)).run x k) (by kernel_rfl) h)
end
theorem zqddΓ : ΓOk Tryz.prog (pick1 [(107, .spec (zqcw zqd0)), (122, .spec (zq7n zq7r))]) := (ΓOk_cons zqd1 (ΓOk_cons zq7s ΓOk_nil))
def zqde (m : Nat) : zqd5 := zqd9 zqd0 m
theorem zqdf {β : Type} (i : Nat) (k1 day y) : (zqde (i + 1) k1 day y : Option β) = zqd8 zqd0 (zqde i k1) k1 day y := rfl
def zqdg : zqd5 := zqde fuel
theorem zqdh : PieceOk Tryz.prog 15 0 civil_year_p1_code zqd6 zqd7 (civil_year_p1_G zqdg) := zqda zqd0 zq7r zqddΓ fuel
def zqdi : zqd2 := zqdb zq7r zqdg
theorem zqdj : SpecOk Tryz.prog 108 (zqd3 zqdi) := zqdc zqd0 zq7r zqddΓ zqdg zqdh
abbrev zqdk := {β : Type} → Int → Int → (Int → Option β) → Option β
def zqdl (c : zqdk) : Spec :=
  ⟨[(false, [.data (.int .i64)]), (false, [.data (.int .i64)])], [], [(false, [.data (.int .i64)])], [], fun x k => c x.1.1.1 x.1.2.1.1 (fun r0 => k (((r0, ()), ()), ()))⟩
section
variable (c_civil_Leap : zq7t)
@[reducible] def civil_Days_X : Ctx := ⟨look tab, pick1 [(123, .spec (zq7u c_civil_Leap))], false, false, false, false⟩
def zqdm {β : Type} (year month : Int) (k : (Int → Option β)) : Option β :=
  cond (decide (month < 1))
  (k 0)
  (cond (decide (12 < month))
  (k 0)
  (cond (decide (month = 2))
  (c_civil_Leap year (fun rLeap =>
  cond rLeap
  (k 29)
  (cond (decide ((IntKind.i64.wrap (month - 1)) = 0))
  (k 31)
  (cond (decide ((IntKind.i64.wrap (month - 1)) = 1))
  (k 28)
  (cond (decide ((IntKind.i64.wrap (month - 1)) = 2))
  (k 31)
  (cond (decide ((IntKind.i64.wrap (month - 1)) = 3))
  (k 30)
  (cond (decide ((IntKind.i64.wrap (month - 1)) = 4))
  (k 31)
  (cond (decide ((IntKind.i64.wrap (month - 1)) = 5))
  (k 30)
  (cond (decide ((IntKind.i64.wrap (month - 1)) = 6))
  (k 31)
  (cond (decide ((IntKind.i64.wrap (month - 1)) = 7))
  (k 31)
  (cond (decide ((IntKind.i64.wrap (month - 1)) = 8))
  (k 30)
  (cond (decide ((IntKind.i64.wrap (month - 1)) = 9))
  (k 31)
  (cond (decide ((IntKind.i64.wrap (month - 1)) = 10))
  (k 30)
  (cond (decide ((IntKind.i64.wrap (month - 1)) = 11))
  (k 31)
  (none)))))))))))))))
  (cond (decide ((IntKind.i64.wrap (month - 1)) = 0))
  (k 31)
  (cond (decide ((IntKind.i64.wrap (month - 1)) = 1))
  (k 28)
  (cond (decide ((IntKind.i64.wrap (month - 1)) = 2))
  (k 31)
  (cond (decide ((IntKind.i64.wrap (month - 1)) = 3))
  (k 30)
  (cond (decide ((IntKind.i64.wrap (month - 1)) = 4))
  (k 31)
  (cond (decide ((IntKind.i64.wrap (month - 1)) = 5))
  (k 30)
  (cond (decide ((IntKind.i64.wrap (month - 1)) = 6))
  (k 31)
  (cond (decide ((IntKind.i64.wrap (month - 1)) = 7))
  (k 31)
  (cond (decide ((IntKind.i64.wrap (month - 1)) = 8))
  (k 30)
  (cond (decide ((IntKind.i64.wrap (month - 1)) = 9))
  (k 31)
  (cond (decide ((IntKind.i64.wrap (month - 1)) = 10))
  (k 30)
  (cond (decide ((IntKind.i64.wrap (month - 1)) = 11))
  (k 31)
  (none)))))))))))))))
theorem zqdn (hΓ : ΓOk Tryz.prog (civil_Days_X c_civil_Leap).Γ) : SpecOk Tryz.prog 109 (zqdl (zqdm c_civil_Leap)) :=
  spec_exec (X := (civil_Days_X c_civil_Leap)) (Λ := pick1 []) (rs := [.tmp 4]) (c := bodyOf Tryz.f109) mixed tab_ok hΓ Tryz.func109 (by kernel_rfl) (by kernel_rfl) (by kernel_rfl) (by kernel_rfl) CutsOk_nil (fun x k r h => Eq.trans (b := (zqdl (zqdm c_civil_Leap)).run x k) (by kernel_rfl) h)
end
theorem zqdoΓ : ΓOk Tryz.prog (pick1 [(123, .spec (zq7u zq7y))]) := (ΓOk_cons zq7z ΓOk_nil)
def zqdp : zqdk := zqdm zq7y
theorem zqdq : SpecOk Tryz.prog 109 (zqdl zqdp) := zqdn zq7y zqdoΓ
abbrev zqdr := {β : Type} → (List zq2) → (List UInt8) → (Int → (List UInt8) → Option β) → Option β
def zqds (c : zqdr) : Spec :=
  ⟨[(false, [.data (.slice zq3)]), (false, [.fn 38 [0]])], [.cells 9 [.data .str]], [(false, [.data (.int .i64)])], [.cells 9 [.data .str]], fun x k => c x.1.1.1 x.2.1.1 (fun r0 r1 => k (((r0, ()), ()), ((r1, ()), ())))⟩
noncomputable def slices_IndexFunc_syntax_form_syntax_form_vsyntax_forms_f1_p1_code : Code := codeAt 26 (bodyOf Tryz.f37)
abbrev zqdt (β : Type) := Int → (List UInt8) → Option β
abbrev zqdu (β : Type) := (List UInt8) → Option β
abbrev zqdv := {β : Type} → zqdt β → zqdu β → (List zq2) → Int → Int → (List UInt8) → Option β
def zqdw : View := ⟨1, [0, 1, 7, 8], [(false, [.data  (.slice zq3)]), (false, [.fn 38 [0]]), (false, [.data (.int .i64)]), (false, [.data (.int .i64)])], [.cells 9 [.data .str]]⟩
def zqdx : List  (AExit × View) := [(.ret, ⟨1, [4], [(false, [.data (.int .i64)])], [.cells 9 [.data .str]]⟩), (.exit 0, ⟨1, [], [], [.cells 9 [.data .str]]⟩)]
@[reducible] def slices_IndexFunc_syntax_form_syntax_form_vsyntax_forms_f1_p1_G (p : zqdv) {β : Type} (d : zqdw.den) (ks : Outs.K β zqdx) : Option β :=
  p (fun a0 a1 => ks.1 (((a0, ()), ()), ((a1, ()), ()))) (fun a0 => ks.2.1 ((), ((a0, ()), ()))) d.1.1.1 d.1.2.2.1.1 d.1.2.2.2.1.1 d.2.1.1
section
variable (c_syntax_forms_f1 : zq2k)
@[reducible] def slices_IndexFunc_syntax_form_syntax_form_vsyntax_forms_f1_X : Ctx := ⟨look tab, pick1 [(38, .spec (zq2l c_syntax_forms_f1))], false, false, false, false⟩
def zqdy {β : Type} (rec : (List zq2) → Int → Int → (List UInt8) → Option β) (k1 : zqdt β) (k2 : zqdu β) (s : List zq2) (t7 t8 : Int) (b0_ : List UInt8) : Option β :=
  cond (decide (t8 < t7))
  (cond (decide (0 ≤ t8) && decide (t8 < (List.length s : Int)))
  (let e : zq2 := List.getD s (Int.toNat t8) (([] : List UInt8), (([] : List Int), false));
  c_syntax_forms_f1 e b0_ (fun rforms1 mrforms1 =>
  cond rforms1
  (k1 t8 mrforms1)
  (rec s t7 (IntKind.i64.wrap (t8 + 1)) mrforms1)))
  none)
  (k2 b0_)
def zqdz {β : Type} : Nat → zqdt β → zqdu β →  (List zq2) → Int → Int → (List UInt8) → Option β
  | 0 => fun _ _ _ _ _ _ => none
  | i + 1 => fun k1 k2 s t7 t8 b0_ => zqdy c_syntax_forms_f1 (zqdz i k1 k2) k1 k2 s t7 t8 b0_
theorem zqe0 (hΓ : ΓOk Tryz.prog (slices_IndexFunc_syntax_form_syntax_form_vsyntax_forms_f1_X c_syntax_forms_f1).Γ) (i : Nat) : PieceOk Tryz.prog 19 1 slices_IndexFunc_syntax_form_syntax_form_vsyntax_forms_f1_p1_code zqdw zqdx (slices_IndexFunc_syntax_form_syntax_form_vsyntax_forms_f1_p1_G (zqdz c_syntax_forms_f1 i)) := by
  rw [show slices_IndexFunc_syntax_form_syntax_form_vsyntax_forms_f1_p1_code = .loop (loopBody slices_IndexFunc_syntax_form_syntax_form_vsyntax_forms_f1_p1_code) by kernel_rfl]
  exact piece_loop (X := (slices_IndexFunc_syntax_form_syntax_form_vsyntax_forms_f1_X c_syntax_forms_f1)) (p := 1) (Λ := pick1 []) (G := fun i => @fun β d ks => slices_IndexFunc_syntax_form_syntax_form_vsyntax_forms_f1_p1_G (zqdz c_syntax_forms_f1 i) d ks) mixed tab_ok hΓ rfl (by kernel_rfl) CutsOk_nil (fun _ _ => rfl) (fun i => @fun β d ks r h => Eq.trans (b := slices_IndexFunc_syntax_form_syntax_form_vsyntax_forms_f1_p1_G (zqdz c_syntax_forms_f1 (i + 1)) d ks) (by kernel_rfl) h) i
def zqe1 (p1 : zqdv) {β : Type} (s : List zq2) (b0_ : List UInt8) (k : (Int → (List UInt8) → Option β)) : Option β :=
  p1 (fun t4 b0_2 =>
  k t4 b0_2) (fun b0_2 =>
  k (-1) b0_2) s (List.length s : Int) 0 b0_
theorem zqe2 (hΓ : ΓOk Tryz.prog (slices_IndexFunc_syntax_form_syntax_form_vsyntax_forms_f1_X c_syntax_forms_f1).Γ) (p1 : zqdv) (hp1 : PieceOk Tryz.prog 19 1 slices_IndexFunc_syntax_form_syntax_form_vsyntax_forms_f1_p1_code zqdw zqdx (slices_IndexFunc_syntax_form_syntax_form_vsyntax_forms_f1_p1_G p1)) : SpecOk Tryz.prog 37 (zqds (zqe1 p1)) :=
  spec_exec (X := (slices_IndexFunc_syntax_form_syntax_form_vsyntax_forms_f1_X c_syntax_forms_f1)) (Λ := pick1 [(26, pieceCut zqdw zqdx (slices_IndexFunc_syntax_form_syntax_form_vsyntax_forms_f1_p1_G p1))]) (rs := [.tmp 4]) (c := bodyOf Tryz.f37) mixed tab_ok hΓ Tryz.func37 (by kernel_rfl) (by kernel_rfl) (by kernel_rfl) (by kernel_rfl) (CutsOk_cons (q := 26) (c' := slices_IndexFunc_syntax_form_syntax_form_vsyntax_forms_f1_p1_code) (by kernel_rfl) rfl hp1 CutsOk_nil) (fun x k r h => Eq.trans (b := (zqds (zqe1 p1)).run x k) (by kernel_rfl) h)
end
theorem zqe3Γ : ΓOk Tryz.prog (pick1 [(38, .spec (zq2l zq2p))]) := (ΓOk_cons zq2q ΓOk_nil)
def zqe4 (m : Nat) : zqdv := zqdz zq2p m
theorem zqe5 {β : Type} (i : Nat) (k1 k2 s t7 t8 b0_) : (zqe4 (i + 1) k1 k2 s t7 t8 b0_ : Option β) = zqdy zq2p (zqe4 i k1 k2) k1 k2 s t7 t8 b0_ := rfl
def zqe6 : zqdv := zqe4 fuel
theorem zqe7 : PieceOk Tryz.prog 19 1 slices_IndexFunc_syntax_form_syntax_form_vsyntax_forms_f1_p1_code zqdw zqdx (slices_IndexFunc_syntax_form_syntax_form_vsyntax_forms_f1_p1_G zqe6) := zqe0 zq2p zqe3Γ fuel
def zqe8 : zqdr := zqe1 zqe6
theorem zqe9 : SpecOk Tryz.prog 37 (zqds zqe8) := zqe2 zq2p zqe3Γ zqe6 zqe7
abbrev zqea := {β : Type} → (List UInt8) → (Int → Bool → Option β) → Option β
def zqeb (c : zqea) : Spec :=
  ⟨[(false, [.data .str])], [], [(false, [.data (.int .i64)]), (false, [.data .bool])], [], fun x k => c x.1.1.1 (fun r0 r1 => k (((r0, ()), (r1, ()), ()), ()))⟩
section
variable (c_syntax_index : zq8i)
@[reducible] def syntax_Month_X : Ctx := ⟨look tab, pick1 [(27, .spec (zq8j c_syntax_index))], false, false, false, false⟩
def zqec {β : Type} (word : List UInt8) (k : (Int → Bool → Option β)) : Option β :=
  c_syntax_index ([106, 97, 110, 32, 102, 101, 98, 32, 109, 97, 114, 32, 97, 112, 114, 32, 109, 97, 121, 32, 106, 117, 110, 32, 106, 117, 108, 32, 97, 117, 103, 32, 115, 101, 112, 32, 111, 99, 116, 32, 110, 111, 118, 32, 100, 101, 99] : List UInt8) word (fun rindex rindex2 =>
  k rindex rindex2)
theorem zqed (hΓ : ΓOk Tryz.prog (syntax_Month_X c_syntax_index).Γ) : SpecOk Tryz.prog 13 (zqeb (zqec c_syntax_index)) :=
  spec_exec (X := (syntax_Month_X c_syntax_index)) (Λ := pick1 []) (rs := [.tmp 2, .tmp 3]) (c := bodyOf Tryz.f13) mixed tab_ok hΓ Tryz.func13 (by kernel_rfl) (by kernel_rfl) (by kernel_rfl) (by kernel_rfl) CutsOk_nil (fun x k r h => Eq.trans (b := (zqeb (zqec c_syntax_index)).run x k) (by kernel_rfl) h)
end
theorem zqeeΓ : ΓOk Tryz.prog (pick1 [(27, .spec (zq8j zq8n))]) := (ΓOk_cons zq8o ΓOk_nil)
def zqef : zqea := zqec zq8n
theorem zqeg : SpecOk Tryz.prog 13 (zqeb zqef) := zqed zq8n zqeeΓ
abbrev zqeh := {β : Type} → (List UInt8) → (Int → Bool → Option β) → Option β
def zqei (c : zqeh) : Spec :=
  ⟨[(false, [.data .str])], [], [(false, [.data (.int .i64)]), (false, [.data .bool])], [], fun x k => c x.1.1.1 (fun r0 r1 => k (((r0, ()), (r1, ()), ()), ()))⟩
section
variable (c_syntax_index : zq8i)
@[reducible] def syntax_Weekday_X : Ctx := ⟨look tab, pick1 [(27, .spec (zq8j c_syntax_index))], false, false, false, false⟩
def zqej {β : Type} (word : List UInt8) (k : (Int → Bool → Option β)) : Option β :=
  c_syntax_index ([109, 111, 110, 32, 116, 117, 101, 32, 119, 101, 100, 32, 116, 104, 117, 32, 102, 114, 105, 32, 115, 97, 116, 32, 115, 117, 110] : List UInt8) word (fun rindex rindex2 =>
  let t : Int := (if (IntKind.i64.wrap (rindex - 1)) > 0 then (IntKind.i64.wrap (rindex - 1)) else 0);
  k t rindex2)
theorem zqek (hΓ : ΓOk Tryz.prog (syntax_Weekday_X c_syntax_index).Γ) : SpecOk Tryz.prog 14 (zqei (zqej c_syntax_index)) :=
  spec_exec (X := (syntax_Weekday_X c_syntax_index)) (Λ := pick1 []) (rs := [.tmp 2, .tmp 3]) (c := bodyOf Tryz.f14) mixed tab_ok hΓ Tryz.func14 (by kernel_rfl) (by kernel_rfl) (by kernel_rfl) (by kernel_rfl) CutsOk_nil (fun x k r h => Eq.trans (b := (zqei (zqej c_syntax_index)).run x k) (by kernel_rfl) h)
end
theorem zqelΓ : ΓOk Tryz.prog (pick1 [(27, .spec (zq8j zq8n))]) := (ΓOk_cons zq8o ΓOk_nil)
def zqem : zqeh := zqej zq8n
theorem zqen : SpecOk Tryz.prog 14 (zqei zqem) := zqek zq8n zqelΓ
abbrev zqeo := {β : Type} → (List UInt8) → (zq2 → Bool → Option β) → Option β
def zqep (c : zqeo) : Spec :=
  ⟨[(false, [.data .str])], [], [(true, [.data zq3]), (false, [.data .bool])], [], fun x k => c x.1.1.1 (fun r0 r1 => k (((r0, ()), (r1, ()), ()), ()))⟩
section
variable (c_slices_IndexFunc_syntax_form_syntax_form_vsyntax_forms_f1 : zqdr)
@[reducible] def syntax_forms_X : Ctx := ⟨look tab, pick1 [(37, .spec (zqds c_slices_IndexFunc_syntax_form_syntax_form_vsyntax_forms_f1))], false, false, false, false⟩
def zqeq {β : Type} (word : List UInt8) (k : (zq2 → Bool → Option β)) : Option β :=
  let l : List Int := ([0, 4] : List Int);
  let l2 : List Int := ([1, 1, 0, 0, 0, 2, 4] : List Int);
  let l3 : List Int := ([0, 0] : List Int);
  let l4 : List Int := ([0, 2, 0, 2] : List Int);
  let l5 : List Int := ([0, 0] : List Int);
  let l6 : List Int := ([3] : List Int);
  let l7 : List Int := ([0] : List Int);
  let l8 : List Int := ([0, 0, 3, 2, 1, 0] : List Int);
  let l9 : List Int := ([0] : List Int);
  let l10 : List Int := ([0, 2, 0, 2] : List Int);
  let l11 : List Int := ([0] : List Int);
  let l12 : List Int := ([0] : List Int);
  let l13 : List Int := ([0, 5, 5] : List Int);
  let l14 : List Int := ([0, 5, 5] : List Int);
  let l15 : List Int := ([0, 0, 5, 5] : List Int);
  let l16 : List zq2 := ([(([122, 111, 110, 101] : List UInt8), (l, false)), (([114, 117, 108, 101] : List UInt8), (l2, false)), (([112, 101, 114, 115, 111, 110] : List UInt8), (l3, false)), (([113, 117, 105, 101, 116] : List UInt8), (l4, false)), (([99, 97, 108, 101, 110, 100, 97, 114] : List UInt8), (l5, false)), (([100, 97, 121, 115] : List UInt8), (l6, true)), (([115, 99, 104, 101, 100, 117, 108, 101] : List UInt8), (l7, false)), (([108, 97, 121, 101, 114] : List UInt8), (l8, false)), (([109, 101, 109, 98, 101, 114] : List UInt8), (l9, true)), (([111, 110] : List UInt8), (l10, false)), (([110, 111, 116] : List UInt8), (l11, false)), (([111, 110, 108, 121] : List UInt8), (l12, false)), (([108, 101, 97, 118, 101] : List UInt8), (l13, false)), (([111, 118, 101, 114, 114, 105, 100, 101] : List UInt8), (l14, false)), (([115, 119, 97, 112] : List UInt8), (l15, false))] : List zq2);
  c_slices_IndexFunc_syntax_form_syntax_form_vsyntax_forms_f1 l16 word (fun rform mrform =>
  cond (decide (rform < 0))
  (k (([] : List UInt8), (([] : List Int), false)) false)
  (cond (decide (0 ≤ rform) && decide (rform < (List.length l16 : Int)))
  (k ((List.getD l16 (Int.toNat rform) (([] : List UInt8), (([] : List Int), false))).1, ((List.getD l16 (Int.toNat rform) (([] : List UInt8), (([] : List Int), false))).2)) true)
  none))
theorem zqer (hΓ : ΓOk Tryz.prog (syntax_forms_X c_slices_IndexFunc_syntax_form_syntax_form_vsyntax_forms_f1).Γ) : SpecOk Tryz.prog 25 (zqep (zqeq c_slices_IndexFunc_syntax_form_syntax_form_vsyntax_forms_f1)) :=
  spec_exec (X := (syntax_forms_X c_slices_IndexFunc_syntax_form_syntax_form_vsyntax_forms_f1)) (Λ := pick1 []) (rs := [.cell 2 64, .tmp 3]) (c := bodyOf Tryz.f25) mixed tab_ok hΓ Tryz.func25 (by kernel_rfl) (by kernel_rfl) (by kernel_rfl) (by kernel_rfl) CutsOk_nil (fun x k r h => Eq.trans (b := (zqep (zqeq c_slices_IndexFunc_syntax_form_syntax_form_vsyntax_forms_f1)).run x k) (by kernel_rfl) h)
end
theorem zqesΓ : ΓOk Tryz.prog (pick1 [(37, .spec (zqds zqe8))]) := (ΓOk_cons zqe9 ΓOk_nil)
def zqet : zqeo := zqeq zqe8
theorem zqeu : SpecOk Tryz.prog 25 (zqep zqet) := zqer zqe8 zqesΓ
abbrev zqev := {β : Type} → (List zq0) → (Bool → Option β) → Option β
def zqew (c : zqev) : Spec :=
  ⟨[(false, [.data (.slice zq1)])], [], [(false, [.data .bool])], [], fun x k => c x.1.1.1 (fun r0 => k (((r0, ()), ()), ()))⟩
noncomputable def ref07_Form_p1_code : Code := codeAt 506 (bodyOf Tryz.f29)
abbrev zqex (β : Type) := Bool → Option β
abbrev zqey (β : Type) := Unit → Option β
abbrev zqez := {β : Type} → zqex β → zqey β → (List zq0) → (List UInt8) → Int → (List (List UInt8 × List UInt8)) → Option β
def zqf0 : View := ⟨0, [0, 3, 4, 5], [(false, [.data  (.slice zq1)]), (false, [.data .str]), (false, [.rowh 0]), (false, [.data (.int .i64)])], [.row 87 (.prod .str .str)]⟩
def zqf1 : List  (AExit × View) := [(.ret, ⟨0, [2], [(false, [.data .bool])], []⟩), (.exit 0, ⟨0, [], [], []⟩)]
@[reducible] def ref07_Form_p1_G (p : zqez) {β : Type} (d : zqf0.den) (ks : Outs.K β zqf1) : Option β :=
  p (fun a0 => ks.1 (((a0, ()), ()), ())) (fun _ => ks.2.1 ((), ())) d.1.1.1 d.1.2.1.1 d.1.2.2.2.1.1 d.2.1
section
variable (c_ref07_forms : zq4r) (c_ref07_kinds : zq48) (c_ref07_many : zq4y) (c_ref07_person : zq8p)
@[reducible] def ref07_Form_X : Ctx := ⟨look tab, pick1 [(45, .spec (zq4s c_ref07_forms)), (44, .spec (zq49 c_ref07_kinds)), (46, .spec (zq4z c_ref07_many)), (43, .spec (zq8q c_ref07_person))], false, false, false, false⟩
def zqf2 {β : Type} (rec : (List zq0) → (List UInt8) → Int → (List (List UInt8 × List UInt8)) → Option β) (k1 : zqex β) (k2 : zqey β) (l : List zq0) (k_ : List UInt8) (i_ : Int) (f : List (List UInt8 × List UInt8)) : Option β :=
  cond (decide (i_ < (List.length f : Int)))
  (cond (decide (0 ≤ i_) && decide (i_ < (List.length f : Int)))
  (cond (decide (0 ≤ 0) && decide (0 < (List.length l : Int)))
  (let e : zq0 := List.getD l (Int.toNat 0) (0, (([] : List UInt8), 0));
  cond (decide (((List.getD f (Int.toNat i_) (([] : List UInt8), ([] : List UInt8))).1) = e.2.1))
  (cond (decide (0 ≤ i_) && decide (i_ < (List.length f : Int)))
  (cond (decide (k_ = ((List.getD f (Int.toNat i_) (([] : List UInt8), ([] : List UInt8))).2)))
  (k1 true)
  (cond (decide (0 ≤ i_) && decide (i_ < (List.length f : Int)))
  (cond (decide ((List.length ((List.getD f (Int.toNat i_) (([] : List UInt8), ([] : List UInt8))).2) : Int) = 2))
  (cond (decide (0 ≤ i_) && decide (i_ < (List.length f : Int)))
  (cond (decide (0 ≤ 1) && decide (1 < (List.length ((List.getD f (Int.toNat i_) (([] : List UInt8), ([] : List UInt8))).2) : Int)))
  (cond (decide (((List.getD ((List.getD f (Int.toNat i_) (([] : List UInt8), ([] : List UInt8))).2) (Int.toNat 1) 0).toNat : Int) = 43))
  (cond (decide (0 ≤ i_) && decide (i_ < (List.length f : Int)))
  (cond (decide (0 ≤ 0) && (decide (0 ≤ 1) && decide (1 ≤ (List.length ((List.getD f (Int.toNat i_) (([] : List UInt8), ([] : List UInt8))).2) : Int))))
  (c_ref07_many k_ (List.drop (Int.toNat 0) (List.take (Int.toNat 1) ((List.getD f (Int.toNat i_) (([] : List UInt8), ([] : List UInt8))).2))) (fun rmany =>
  k1 rmany))
  none)
  none)
  (k1 false))
  none)
  none)
  (k1 false))
  none))
  none)
  (let i_2 : Int := (IntKind.i64.wrap (i_ + 1));
  rec l k_ i_2 f))
  none)
  none)
  (k2 ())
def zqf3 {β : Type} : Nat → zqex β → zqey β →  (List zq0) → (List UInt8) → Int → (List (List UInt8 × List UInt8)) → Option β
  | 0 => fun _ _ _ _ _ _ => none
  | i + 1 => fun k1 k2 l k_ i_ f => zqf2 c_ref07_many (zqf3 i k1 k2) k1 k2 l k_ i_ f
theorem zqf4 (hΓ : ΓOk Tryz.prog (ref07_Form_X c_ref07_forms c_ref07_kinds c_ref07_many c_ref07_person).Γ) (i : Nat) : PieceOk Tryz.prog 79 0 ref07_Form_p1_code zqf0 zqf1 (ref07_Form_p1_G (zqf3 c_ref07_many i)) := by
  rw [show ref07_Form_p1_code = .loop (loopBody ref07_Form_p1_code) by kernel_rfl]
  exact piece_loop (X := (ref07_Form_X c_ref07_forms c_ref07_kinds c_ref07_many c_ref07_person)) (p := 1) (Λ := pick1 []) (G := fun i => @fun β d ks => ref07_Form_p1_G (zqf3 c_ref07_many i) d ks) mixed tab_ok hΓ rfl (by kernel_rfl) CutsOk_nil (fun _ _ => rfl) (fun i => @fun β d ks r h => Eq.trans (b := ref07_Form_p1_G (zqf3 c_ref07_many (i + 1)) d ks) (by kernel_rfl) h) i
def zqf5 (p1 : zqez) {β : Type} (l : List zq0) (k : (Bool → Option β)) : Option β :=
  cond (decide ((List.length l : Int) = 0))
  (k false)
  (cond (decide (0 ≤ 0) && decide (0 < (List.length l : Int)))
  (let e : zq0 := List.getD l (Int.toNat 0) (0, (([] : List UInt8), 0));
  cond (!decide (e.1 = 0))
  (k false)
  (cond (decide (0 ≤ 0) && decide (0 < (List.length l : Int)))
  (let e2 : zq0 := List.getD l (Int.toNat 0) (0, (([] : List UInt8), 0));
  cond (decide (e2.2.1 = ([112, 101, 114, 115, 111, 110] : List UInt8)))
  (cond (decide (0 ≤ 1) && (decide (1 ≤ (List.length l : Int)) && decide ((List.length l : Int) ≤ (List.length l : Int))))
  (c_ref07_person (List.drop (Int.toNat 1) (List.take (Int.toNat (List.length l : Int)) l)) (fun rperson =>
  k rperson))
  none)
  (cond (decide (0 ≤ 1) && (decide (1 ≤ (List.length l : Int)) && decide ((List.length l : Int) ≤ (List.length l : Int))))
  (c_ref07_kinds (List.drop (Int.toNat 1) (List.take (Int.toNat (List.length l : Int)) l)) (fun rkinds =>
  c_ref07_forms  (fun lrforms =>
  p1 (fun t2 =>
  k t2) (fun _ =>
  k false) l rkinds 0 lrforms)))
  none))
  none))
  none)
theorem zqf6 (hΓ : ΓOk Tryz.prog (ref07_Form_X c_ref07_forms c_ref07_kinds c_ref07_many c_ref07_person).Γ) (p1 : zqez) (hp1 : PieceOk Tryz.prog 79 0 ref07_Form_p1_code zqf0 zqf1 (ref07_Form_p1_G p1)) : SpecOk Tryz.prog 29 (zqew (zqf5 c_ref07_forms c_ref07_kinds c_ref07_person p1)) :=
  spec_exec (X := (ref07_Form_X c_ref07_forms c_ref07_kinds c_ref07_many c_ref07_person)) (Λ := pick1 [(506, pieceCut zqf0 zqf1 (ref07_Form_p1_G p1))]) (rs := [.tmp 2]) (c := bodyOf Tryz.f29) mixed tab_ok hΓ Tryz.func29 (by kernel_rfl) (by kernel_rfl) (by kernel_rfl) (by kernel_rfl) (CutsOk_cons (q := 506) (c' := ref07_Form_p1_code) (by kernel_rfl) rfl hp1 CutsOk_nil) (fun x k r h => Eq.trans (b := (zqew (zqf5 c_ref07_forms c_ref07_kinds c_ref07_person p1)).run x k) (by kernel_rfl) h)
end
theorem zqf7Γ : ΓOk Tryz.prog (pick1 [(45, .spec (zq4s zq4w)), (44, .spec (zq49 zq4p)), (46, .spec (zq4z zq5f)), (43, .spec (zq8q zq95))]) := (ΓOk_cons zq4x (ΓOk_cons zq4q (ΓOk_cons zq5g (ΓOk_cons zq96 ΓOk_nil))))
def zqf8 (m : Nat) : zqez := zqf3 zq5f m
theorem zqf9 {β : Type} (i : Nat) (k1 k2 l k_ i_ f) : (zqf8 (i + 1) k1 k2 l k_ i_ f : Option β) = zqf2 zq5f (zqf8 i k1 k2) k1 k2 l k_ i_ f := rfl
def zqfa : zqez := zqf8 fuel
theorem zqfb : PieceOk Tryz.prog 79 0 ref07_Form_p1_code zqf0 zqf1 (ref07_Form_p1_G zqfa) := zqf4 zq4w zq4p zq5f zq95 zqf7Γ fuel
def zqfc : zqev := zqf5 zq4w zq4p zq95 zqfa
theorem zqfd : SpecOk Tryz.prog 29 (zqew zqfc) := zqf6 zq4w zq4p zq5f zq95 zqf7Γ zqfa zqfb
abbrev zqfe := {β : Type} → (List UInt8) → (Int → Bool → Option β) → Option β
def zqff (c : zqfe) : Spec :=
  ⟨[(false, [.data .str])], [], [(false, [.data (.int .i64)]), (false, [.data .bool])], [], fun x k => c x.1.1.1 (fun r0 r1 => k (((r0, ()), (r1, ()), ()), ()))⟩
noncomputable def lexer_clock_p1_code : Code := codeAt 250 (bodyOf Tryz.f73)
abbrev zqfg (β : Type) := Int → Bool → Option β
abbrev zqfh (β : Type) := Int → Option β
abbrev zqfi := {β : Type} → zqfg β → zqfh β → Int → Int → Int → (List (List UInt8)) → Option β
def zqfj : View := ⟨0, [5, 23, 24, 25], [(false, [.data  (.int .i64)]), (false, [.rowh 0]), (false, [.data (.int .i64)]), (false, [.data (.int .i64)])], [.row 9 .str]⟩
def zqfk : List  (AExit × View) := [(.ret, ⟨0, [2, 3], [(false, [.data (.int .i64)]), (false, [.data .bool])], []⟩), (.exit 0, ⟨0, [5], [(false, [.data (.int .i64)])], []⟩)]
@[reducible] def lexer_clock_p1_G (p : zqfi) {β : Type} (d : zqfj.den) (ks : Outs.K β zqfk) : Option β :=
  p (fun a0 a1 => ks.1 (((a0, ()), (a1, ()), ()), ())) (fun a0 => ks.2.1 (((a0, ()), ()), ())) d.1.1.1 d.1.2.2.1.1 d.1.2.2.2.1.1 d.2.1
section
variable (c_lexer_two : zqbq) (c_strings_Split : zq1o)
@[reducible] def lexer_clock_X : Ctx := ⟨look tab, pick1 [(89, .spec (zqbr c_lexer_two)), (19, .spec (zq1p c_strings_Split))], false, true, false, false⟩
def zqfl {β : Type} (rec : Int → Int → Int → (List (List UInt8)) → Option β) (k1 : zqfg β) (k2 : zqfh β) (n t24 t25 : Int) (t23 : List (List UInt8)) : Option β :=
  cond (decide (t25 < t24))
  (cond (decide (0 ≤ t25) && decide (t25 < (List.length t23 : Int)))
  (let x : List UInt8 := (List.getD t23 (Int.toNat t25) ([] : List UInt8));
  c_lexer_two x (fun rtwo rtwo2 =>
  cond (!rtwo2)
  (k1 0 false)
  (cond (decide (0 < t25))
  (cond (decide (59 < rtwo))
  (k1 0 false)
  (let n2 : Int := (IntKind.i64.wrap ((IntKind.i64.wrap (60 * n)) + rtwo));
  rec n2 t24 (IntKind.i64.wrap (t25 + 1)) t23))
  (let n2 : Int := (IntKind.i64.wrap ((IntKind.i64.wrap (60 * n)) + rtwo));
  rec n2 t24 (IntKind.i64.wrap (t25 + 1)) t23))))
  none)
  (k2 n)
def zqfm {β : Type} : Nat → zqfg β → zqfh β → Int → Int → Int →  (List (List UInt8)) → Option β
  | 0 => fun _ _ _ _ _ _ => none
  | i + 1 => fun k1 k2 n t24 t25 t23 => zqfl c_lexer_two (zqfm i k1 k2) k1 k2 n t24 t25 t23
theorem zqfn (hΓ : ΓOk Tryz.prog (lexer_clock_X c_lexer_two c_strings_Split).Γ) (i : Nat) : PieceOk Tryz.prog 53 0 lexer_clock_p1_code zqfj zqfk (lexer_clock_p1_G (zqfm c_lexer_two i)) := by
  rw [show lexer_clock_p1_code = .loop (loopBody lexer_clock_p1_code) by kernel_rfl]
  exact piece_loop (X := (lexer_clock_X c_lexer_two c_strings_Split)) (p := 1) (Λ := pick1 []) (G := fun i => @fun β d ks => lexer_clock_p1_G (zqfm c_lexer_two i) d ks) mixed tab_ok hΓ rfl (by kernel_rfl) CutsOk_nil (fun _ _ => rfl) (fun i => @fun β d ks r h => Eq.trans (b := lexer_clock_p1_G (zqfm c_lexer_two (i + 1)) d ks) (by kernel_rfl) h) i
def zqfo (p1 : zqfi) {β : Type} (s : List UInt8) (k : (Int → Bool → Option β)) : Option β :=
  c_strings_Split s ([58] : List UInt8) (fun lrSplit =>
  cond (decide ((List.length lrSplit : Int) < 2))
  (k 0 false)
  (cond (decide (3 < (List.length lrSplit : Int)))
  (k 0 false)
  (let l : List (List UInt8) := ([([48, 48] : List UInt8)] : List (List UInt8));
  cond (decide ((List.length lrSplit + List.length l) * 16 ≤ roomMax))
  (let l2 : List (List UInt8) := (lrSplit ++ l);
  cond (decide (0 ≤ 3) && decide (3 ≤ (List.length l2 : Int)))
  (let l3 : List (List UInt8) := (List.take (Int.toNat 3) l2);
  p1 (fun t2 t3 =>
  k t2 t3) (fun n =>
  let t : Bool := (decide (n ≤ 86400));
  k n t) 0 (List.length l3 : Int) 0 l3)
  none)
  none)))
theorem zqfp (hΓ : ΓOk Tryz.prog (lexer_clock_X c_lexer_two c_strings_Split).Γ) (p1 : zqfi) (hp1 : PieceOk Tryz.prog 53 0 lexer_clock_p1_code zqfj zqfk (lexer_clock_p1_G p1)) : SpecOk Tryz.prog 73 (zqff (zqfo c_strings_Split p1)) :=
  spec_exec (X := (lexer_clock_X c_lexer_two c_strings_Split)) (Λ := pick1 [(250, pieceCut zqfj zqfk (lexer_clock_p1_G p1))]) (rs := [.tmp 2, .tmp 3]) (c := bodyOf Tryz.f73) mixed tab_ok hΓ Tryz.func73 (by kernel_rfl) (by kernel_rfl) (by kernel_rfl) (by kernel_rfl) (CutsOk_cons (q := 250) (c' := lexer_clock_p1_code) (by kernel_rfl) rfl hp1 CutsOk_nil) (fun x k r h => Eq.trans (b := (zqff (zqfo c_strings_Split p1)).run x k) (by kernel_rfl) h)
end
theorem zqfqΓ : ΓOk Tryz.prog (pick1 [(89, .spec (zqbr zqbv)), (19, .spec (zq1p zq1q))]) := (ΓOk_cons zqbw (ΓOk_cons zq1r ΓOk_nil))
def zqfr (m : Nat) : zqfi := zqfm zqbv m
theorem zqfs {β : Type} (i : Nat) (k1 k2 n t24 t25 t23) : (zqfr (i + 1) k1 k2 n t24 t25 t23 : Option β) = zqfl zqbv (zqfr i k1 k2) k1 k2 n t24 t25 t23 := rfl
def zqft : zqfi := zqfr fuel
theorem zqfu : PieceOk Tryz.prog 53 0 lexer_clock_p1_code zqfj zqfk (lexer_clock_p1_G zqft) := zqfn zqbv zq1q zqfqΓ fuel
def zqfv : zqfe := zqfo zq1q zqft
theorem zqfw : SpecOk Tryz.prog 73 (zqff zqfv) := zqfp zqbv zq1q zqfqΓ zqft zqfu
abbrev zqfx := {β : Type} → Int → Bool → ((List UInt8) → Option β) → Option β
def zqfy (c : zqfx) : Spec :=
  ⟨[(false, [.data (.int .i64)]), (false, [.data .bool])], [], [(false, [.data .str])], [], fun x k => c x.1.1.1 x.1.2.1.1 (fun r0 => k (((r0, ()), ()), ()))⟩
section
variable (c_lexer_digits : zqbx)
@[reducible] def lexer_hours_X : Ctx := ⟨look tab, pick1 [(93, .spec (zqby c_lexer_digits))], false, false, false, false⟩
def zqfz {β : Type} (n : Int) (seconds : Bool) (k : ((List UInt8) → Option β)) : Option β :=
  cond (!decide (3600 = 0))
  (c_lexer_digits (IntKind.i64.wrap (Int.tdiv n 3600)) 2 (fun rdigits =>
  cond (decide (List.length rdigits + List.length ([58] : List UInt8) ≤ 9223372036854775807))
  (cond (!decide (60 = 0))
  (cond (!decide (60 = 0))
  (c_lexer_digits (Int.tmod (IntKind.i64.wrap (Int.tdiv n 60)) 60) 2 (fun rdigits2 =>
  cond (decide (List.length (rdigits ++ ([58] : List UInt8)) + List.length rdigits2 ≤ 9223372036854775807))
  (let s : List UInt8 := ((rdigits ++ ([58] : List UInt8)) ++ rdigits2);
  cond seconds
  (cond (!decide (60 = 0))
  (c_lexer_digits (Int.tmod n 60) 2 (fun rdigits3 =>
  cond (decide (List.length ([58] : List UInt8) + List.length rdigits3 ≤ 9223372036854775807))
  (cond (decide (List.length s + List.length (([58] : List UInt8) ++ rdigits3) ≤ 9223372036854775807))
  (let s2 : List UInt8 := (s ++ (([58] : List UInt8) ++ rdigits3));
  k s2)
  none)
  none))
  none)
  (k s))
  none))
  none)
  none)
  none))
  none
theorem zqg0 (hΓ : ΓOk Tryz.prog (lexer_hours_X c_lexer_digits).Γ) : SpecOk Tryz.prog 77 (zqfy (zqfz c_lexer_digits)) :=
  spec_exec (X := (lexer_hours_X c_lexer_digits)) (Λ := pick1 []) (rs := [.tmp 4]) (c := bodyOf Tryz.f77) mixed tab_ok hΓ Tryz.func77 (by kernel_rfl) (by kernel_rfl) (by kernel_rfl) (by kernel_rfl) CutsOk_nil (fun x k r h => Eq.trans (b := (zqfy (zqfz c_lexer_digits)).run x k) (by kernel_rfl) h)
end
theorem zqg1Γ : ΓOk Tryz.prog (pick1 [(93, .spec (zqby zqc2))]) := (ΓOk_cons zqc3 ΓOk_nil)
def zqg2 : zqfx := zqfz zqc2
theorem zqg3 : SpecOk Tryz.prog 77 (zqfy zqg2) := zqg0 zqc2 zqg1Γ
abbrev zqg4 := {β : Type} → Int → ((Int × (Int × Int)) → Int → Option β) → Option β
def zqg5 (c : zqg4) : Spec :=
  ⟨[(false, [.data (.int .i64)])], [], [(true, [.data (.prod (.int .i64) (.prod (.int .i64) (.int .i64)))]), (false, [.data (.int .i64)])], [], fun x k => c x.1.1.1 (fun r0 r1 => k (((r0, ()), (r1, ()), ()), ()))⟩
noncomputable def civil_DateOf_p1_code : Code := codeAt 124 (bodyOf Tryz.f94)
abbrev zqg6 (β : Type) := Int → Int → Int → Int → Int → Int → Int → Option β
abbrev zqg7 := {β : Type} → zqg6 β → Int → Int → Int → Int → Int → Int → Int → Option β
def zqg8 : View := ⟨0, [2, 4, 5], [(false, [.ptr 0 0]),  (false, [.ptr 1 0]), (false, [.data (.int .i64)])], [.cells 120 [.data (.int .i64), .data (.int .i64), .data (.int .i64)], .cells 120 [.data (.int .i64), .data (.int .i64), .data (.int .i64)]]⟩
def zqg9 : List  (AExit × View) := [(.exit 0, ⟨0, [2, 4, 5], [(false, [.ptr 0 0]), (false, [.ptr 1 0]), (false, [.data (.int .i64)])], [.cells 120 [.data (.int .i64), .data (.int .i64), .data (.int .i64)], .cells 120 [.data (.int .i64), .data (.int .i64), .data (.int .i64)]]⟩)]
@[reducible] def civil_DateOf_p1_G (p : zqg7) {β : Type} (d : zqg8.den) (ks : Outs.K β zqg9) : Option β :=
  p (fun a0 a1 a2 a3 a4 a5 a6 => ks.1 (((), (), (a0, ()), ()), ((a1, a2, a3, ()), (a4, a5, a6, ()), ()))) d.1.2.2.1.1 d.2.1.1 d.2.1.2.1 d.2.1.2.2.1 d.2.2.1.1 d.2.2.1.2.1 d.2.2.1.2.2.1
section
variable (c_civil_Days : zqdk) (c_civil_count : zqcv) (c_civil_year : zqd2)
@[reducible] def civil_DateOf_X : Ctx := ⟨look tab, pick1 [(109, .spec (zqdl c_civil_Days)), (107, .spec (zqcw c_civil_count)), (108, .spec (zqd3 c_civil_year))], false, false, false, false⟩
def zqga {β : Type} (rec : Int → Int → Int → Int → Int → Int → Int → Option β) (k1 : zqg6 β) (rest t2 t22 t23 d d2 d3 : Int) : Option β :=
  c_civil_Days d d2 (fun rDays =>
  cond (decide (rDays ≤ rest))
  (c_civil_Days d d2 (fun rDays2 =>
  let rest2 : Int := (IntKind.i64.wrap (rest - rDays2));
  rec rest2 t2 t22 t23 d (IntKind.i64.wrap (d2 + 1)) d3))
  (k1 rest t2 t22 t23 d d2 d3))
def zqgb {β : Type} : Nat → zqg6 β → Int → Int → Int → Int → Int → Int → Int → Option β
  | 0 => fun _ _ _ _ _ _ _ _ => none
  | i + 1 => fun k1 rest t2 t22 t23 d d2 d3 => zqga c_civil_Days (zqgb i k1) k1 rest t2 t22 t23 d d2 d3
theorem zqgc (hΓ : ΓOk Tryz.prog (civil_DateOf_X c_civil_Days c_civil_count c_civil_year).Γ) (i : Nat) : PieceOk Tryz.prog 45 0 civil_DateOf_p1_code zqg8 zqg9 (civil_DateOf_p1_G (zqgb c_civil_Days i)) := by
  rw [show civil_DateOf_p1_code = .loop (loopBody civil_DateOf_p1_code) by kernel_rfl]
  exact piece_loop (X := (civil_DateOf_X c_civil_Days c_civil_count c_civil_year)) (p := 1) (Λ := pick1 []) (G := fun i => @fun β d ks => civil_DateOf_p1_G (zqgb c_civil_Days i) d ks) mixed tab_ok hΓ rfl (by kernel_rfl) CutsOk_nil (fun _ _ => rfl) (fun i => @fun β d ks r h => Eq.trans (b := civil_DateOf_p1_G (zqgb c_civil_Days (i + 1)) d ks) (by kernel_rfl) h) i
def zqgd (p1 : zqg7) {β : Type} (day : Int) (k : ((Int × (Int × Int)) → Int → Option β)) : Option β :=
  c_civil_count 1970 (fun rcount =>
  cond (decide (day < rcount))
  (k (0, (0, 0)) 1)
  (c_civil_count 2241 (fun rcount2 =>
  cond (decide (rcount2 ≤ day))
  (k (0, (0, 0)) 1)
  (c_civil_year day (fun ryear =>
  c_civil_count ryear (fun rcount3 =>
  let rest : Int := (IntKind.i64.wrap (day - rcount3));
  p1 (fun rest2 t2 t22 t23 d d2 d3 =>
  k (d, (d2, (IntKind.i64.wrap (rest2 + 1)))) 0) rest 0 0 0 ryear 1 0))))))
theorem zqge (hΓ : ΓOk Tryz.prog (civil_DateOf_X c_civil_Days c_civil_count c_civil_year).Γ) (p1 : zqg7) (hp1 : PieceOk Tryz.prog 45 0 civil_DateOf_p1_code zqg8 zqg9 (civil_DateOf_p1_G p1)) : SpecOk Tryz.prog 94 (zqg5 (zqgd c_civil_count c_civil_year p1)) :=
  spec_exec (X := (civil_DateOf_X c_civil_Days c_civil_count c_civil_year)) (Λ := pick1 [(124, pieceCut zqg8 zqg9 (civil_DateOf_p1_G p1))]) (rs := [.cell 2 120, .tmp 3]) (c := bodyOf Tryz.f94) mixed tab_ok hΓ Tryz.func94 (by kernel_rfl) (by kernel_rfl) (by kernel_rfl) (by kernel_rfl) (CutsOk_cons (q := 124) (c' := civil_DateOf_p1_code) (by kernel_rfl) rfl hp1 CutsOk_nil) (fun x k r h => Eq.trans (b := (zqg5 (zqgd c_civil_count c_civil_year p1)).run x k) (by kernel_rfl) h)
end
theorem zqgfΓ : ΓOk Tryz.prog (pick1 [(109, .spec (zqdl zqdp)), (107, .spec (zqcw zqd0)), (108, .spec (zqd3 zqdi))]) := (ΓOk_cons zqdq (ΓOk_cons zqd1 (ΓOk_cons zqdj ΓOk_nil)))
def zqgg (m : Nat) : zqg7 := zqgb zqdp m
theorem zqgh {β : Type} (i : Nat) (k1 rest t2 t22 t23 d d2 d3) : (zqgg (i + 1) k1 rest t2 t22 t23 d d2 d3 : Option β) = zqga zqdp (zqgg i k1) k1 rest t2 t22 t23 d d2 d3 := rfl
def zqgi : zqg7 := zqgg fuel
theorem zqgj : PieceOk Tryz.prog 45 0 civil_DateOf_p1_code zqg8 zqg9 (civil_DateOf_p1_G zqgi) := zqgc zqdp zqd0 zqdi zqgfΓ fuel
def zqgk : zqg4 := zqgd zqd0 zqdi zqgi
theorem zqgl : SpecOk Tryz.prog 94 (zqg5 zqgk) := zqge zqdp zqd0 zqdi zqgfΓ zqgi zqgj
abbrev zqgm := {β : Type} → (Int × (Int × Int)) → (Bool → Option β) → Option β
def zqgn (c : zqgm) : Spec :=
  ⟨[(true, [.data (.prod (.int .i64) (.prod (.int .i64) (.int .i64)))])], [], [(false, [.data .bool])], [], fun x k => c x.1.1.1 (fun r0 => k (((r0, ()), ()), ()))⟩
section
variable (c_ref01_Days : zqc4)
@[reducible] def ref01_Valid_X : Ctx := ⟨look tab, pick1 [(98, .spec (zqc5 c_ref01_Days))], false, false, false, false⟩
def zqgo {β : Type} (d : (Int × (Int × Int))) (k : (Bool → Option β)) : Option β :=
  cond (decide (1970 ≤ d.1))
  (cond (decide (d.1 ≤ 2240))
  (cond (decide (1 ≤ d.2.1))
  (cond (decide (d.2.1 ≤ 12))
  (cond (decide (1 ≤ d.2.2))
  (c_ref01_Days d.1 d.2.1 (fun rDays =>
  k (decide (d.2.2 ≤ rDays))))
  (k false))
  (k false))
  (k false))
  (k false))
  (k false)
theorem zqgp (hΓ : ΓOk Tryz.prog (ref01_Valid_X c_ref01_Days).Γ) : SpecOk Tryz.prog 96 (zqgn (zqgo c_ref01_Days)) :=
  spec_exec (X := (ref01_Valid_X c_ref01_Days)) (Λ := pick1 []) (rs := [.tmp 2]) (c := bodyOf Tryz.f96) mixed tab_ok hΓ Tryz.func96 (by kernel_rfl) (by kernel_rfl) (by kernel_rfl) (by kernel_rfl) CutsOk_nil (fun x k r h => Eq.trans (b := (zqgn (zqgo c_ref01_Days)).run x k) (by kernel_rfl) h)
end
theorem zqgqΓ : ΓOk Tryz.prog (pick1 [(98, .spec (zqc5 zqct))]) := (ΓOk_cons zqcu ΓOk_nil)
def zqgr : zqgm := zqgo zqct
theorem zqgs : SpecOk Tryz.prog 96 (zqgn zqgr) := zqgp zqct zqgqΓ
abbrev zqgt := {β : Type} → (Int × (Int × Int)) → (Bool → Option β) → Option β
def zqgu (c : zqgt) : Spec :=
  ⟨[(true, [.data (.prod (.int .i64) (.prod (.int .i64) (.int .i64)))])], [], [(false, [.data .bool])], [], fun x k => c x.1.1.1 (fun r0 => k (((r0, ()), ()), ()))⟩
section
variable (c_civil_Days : zqdk)
@[reducible] def civil_Valid_X : Ctx := ⟨look tab, pick1 [(109, .spec (zqdl c_civil_Days))], false, false, false, false⟩
def zqgv {β : Type} (d : (Int × (Int × Int))) (k : (Bool → Option β)) : Option β :=
  cond (decide (1970 ≤ d.1))
  (cond (decide (d.1 ≤ 2240))
  (cond (decide (1 ≤ d.2.2))
  (c_civil_Days d.1 d.2.1 (fun rDays =>
  k (decide (d.2.2 ≤ rDays))))
  (k false))
  (k false))
  (k false)
theorem zqgw (hΓ : ΓOk Tryz.prog (civil_Valid_X c_civil_Days).Γ) : SpecOk Tryz.prog 101 (zqgu (zqgv c_civil_Days)) :=
  spec_exec (X := (civil_Valid_X c_civil_Days)) (Λ := pick1 []) (rs := [.tmp 2]) (c := bodyOf Tryz.f101) mixed tab_ok hΓ Tryz.func101 (by kernel_rfl) (by kernel_rfl) (by kernel_rfl) (by kernel_rfl) CutsOk_nil (fun x k r h => Eq.trans (b := (zqgu (zqgv c_civil_Days)).run x k) (by kernel_rfl) h)
end
theorem zqgxΓ : ΓOk Tryz.prog (pick1 [(109, .spec (zqdl zqdp))]) := (ΓOk_cons zqdq ΓOk_nil)
def zqgy : zqgt := zqgv zqdp
theorem zqgz : SpecOk Tryz.prog 101 (zqgu zqgy) := zqgw zqdp zqgxΓ
abbrev zqh0 := {β : Type} → (Int × (Int × Int)) → (Int → Option β) → Option β
def zqh1 (c : zqh0) : Spec :=
  ⟨[(true, [.data (.prod (.int .i64) (.prod (.int .i64) (.int .i64)))])], [], [(false, [.data (.int .i64)])], [], fun x k => c x.1.1.1 (fun r0 => k (((r0, ()), ()), ()))⟩
noncomputable def civil_number_p1_code : Code := codeAt 58 (bodyOf Tryz.f102)
abbrev zqh2 (β : Type) := Int → Option β
abbrev zqh3 := {β : Type} → zqh2 β → Int → Int → Int → Int → Int → Option β
def zqh4 : View := ⟨0, [1, 3, 4], [(false, [.ptr 0 0]),  (false, [.data (.int .i64)]), (false, [.data (.int .i64)])], [.cells 120 [.data (.int .i64), .data (.int .i64), .data (.int .i64)]]⟩
def zqh5 : List  (AExit × View) := [(.exit 0, ⟨0, [3], [(false, [.data (.int .i64)])], []⟩)]
@[reducible] def civil_number_p1_G (p : zqh3) {β : Type} (d : zqh4.den) (ks : Outs.K β zqh5) : Option β :=
  p (fun a0 => ks.1 (((a0, ()), ()), ())) d.1.2.1.1 d.1.2.2.1.1 d.2.1.1 d.2.1.2.1 d.2.1.2.2.1
section
variable (c_civil_Days : zqdk) (c_civil_count : zqcv)
@[reducible] def civil_number_X : Ctx := ⟨look tab, pick1 [(109, .spec (zqdl c_civil_Days)), (107, .spec (zqcw c_civil_count))], false, false, false, false⟩
def zqh6 {β : Type} (rec : Int → Int → Int → Int → Int → Option β) (k1 : zqh2 β) (n m d d2 d3 : Int) : Option β :=
  cond (decide (m < d2))
  (c_civil_Days d m (fun rDays =>
  let n2 : Int := (IntKind.i64.wrap (n + rDays));
  let m2 : Int := (IntKind.i64.wrap (m + 1));
  rec n2 m2 d d2 d3))
  (k1 n)
def zqh7 {β : Type} : Nat → zqh2 β → Int → Int → Int → Int → Int → Option β
  | 0 => fun _ _ _ _ _ _ => none
  | i + 1 => fun k1 n m d d2 d3 => zqh6 c_civil_Days (zqh7 i k1) k1 n m d d2 d3
theorem zqh8 (hΓ : ΓOk Tryz.prog (civil_number_X c_civil_Days c_civil_count).Γ) (i : Nat) : PieceOk Tryz.prog 25 0 civil_number_p1_code zqh4 zqh5 (civil_number_p1_G (zqh7 c_civil_Days i)) := by
  rw [show civil_number_p1_code = .loop (loopBody civil_number_p1_code) by kernel_rfl]
  exact piece_loop (X := (civil_number_X c_civil_Days c_civil_count)) (p := 1) (Λ := pick1 []) (G := fun i => @fun β d ks => civil_number_p1_G (zqh7 c_civil_Days i) d ks) mixed tab_ok hΓ rfl (by kernel_rfl) CutsOk_nil (fun _ _ => rfl) (fun i => @fun β d ks r h => Eq.trans (b := civil_number_p1_G (zqh7 c_civil_Days (i + 1)) d ks) (by kernel_rfl) h) i
def zqh9 (p1 : zqh3) {β : Type} (d : (Int × (Int × Int))) (k : (Int → Option β)) : Option β :=
  c_civil_count d.1 (fun rcount =>
  let n : Int := (IntKind.i64.wrap ((IntKind.i64.wrap (rcount + d.2.2)) - 1));
  p1 (fun n2 =>
  k n2) n 1 d.1 d.2.1 d.2.2)
theorem zqha (hΓ : ΓOk Tryz.prog (civil_number_X c_civil_Days c_civil_count).Γ) (p1 : zqh3) (hp1 : PieceOk Tryz.prog 25 0 civil_number_p1_code zqh4 zqh5 (civil_number_p1_G p1)) : SpecOk Tryz.prog 102 (zqh1 (zqh9 c_civil_count p1)) :=
  spec_exec (X := (civil_number_X c_civil_Days c_civil_count)) (Λ := pick1 [(58, pieceCut zqh4 zqh5 (civil_number_p1_G p1))]) (rs := [.tmp 2]) (c := bodyOf Tryz.f102) mixed tab_ok hΓ Tryz.func102 (by kernel_rfl) (by kernel_rfl) (by kernel_rfl) (by kernel_rfl) (CutsOk_cons (q := 58) (c' := civil_number_p1_code) (by kernel_rfl) rfl hp1 CutsOk_nil) (fun x k r h => Eq.trans (b := (zqh1 (zqh9 c_civil_count p1)).run x k) (by kernel_rfl) h)
end
theorem zqhbΓ : ΓOk Tryz.prog (pick1 [(109, .spec (zqdl zqdp)), (107, .spec (zqcw zqd0))]) := (ΓOk_cons zqdq (ΓOk_cons zqd1 ΓOk_nil))
def zqhc (m : Nat) : zqh3 := zqh7 zqdp m
theorem zqhd {β : Type} (i : Nat) (k1 n m d d2 d3) : (zqhc (i + 1) k1 n m d d2 d3 : Option β) = zqh6 zqdp (zqhc i k1) k1 n m d d2 d3 := rfl
def zqhe : zqh3 := zqhc fuel
theorem zqhf : PieceOk Tryz.prog 25 0 civil_number_p1_code zqh4 zqh5 (civil_number_p1_G zqhe) := zqh8 zqdp zqd0 zqhbΓ fuel
def zqhg : zqh0 := zqh9 zqd0 zqhe
theorem zqhh : SpecOk Tryz.prog 102 (zqh1 zqhg) := zqha zqdp zqd0 zqhbΓ zqhe zqhf
abbrev zqhi := {β : Type} → (List zq0) → (Bool → Option β) → Option β
def zqhj (c : zqhi) : Spec :=
  ⟨[(false, [.data (.slice zq1)])], [], [(false, [.data .bool])], [], fun x k => c x.1.1.1 (fun r0 => k (((r0, ()), ()), ()))⟩
noncomputable def syntax_Form_p1_code : Code := codeAt 1018 (bodyOf Tryz.f12)
noncomputable def syntax_Form_p2_code : Code := codeAt 127 (bodyOf Tryz.f12)
noncomputable def syntax_Form_p3_code : Code := codeAt 63 (bodyOf Tryz.f12)
abbrev zqhk (β : Type) := Bool → Option β
abbrev zqhl (β : Type) := Unit → Option β
abbrev zqhm := {β : Type} → zqhk β → zqhl β → (List zq0) → Int → Int → (List UInt8) → (List Int) → Bool → Option β
def zqhn : View := ⟨0, [3, 59, 60, 61], [(false, [.ptr 0 0]),  (false, [.data (.slice zq1)]), (false, [.data (.int .i64)]), (false, [.data (.int .i64)])], [.cells 64 [.data .str, .data (.slice (.int .i64)), .data .bool]]⟩
def zqho : List  (AExit × View) := [(.ret, ⟨0, [2], [(false, [.data .bool])], []⟩), (.exit 0, ⟨0, [], [], []⟩)]
@[reducible] def syntax_Form_p1_G (p : zqhm) {β : Type} (d : zqhn.den) (ks : Outs.K β zqho) : Option β :=
  p (fun a0 => ks.1 (((a0, ()), ()), ())) (fun _ => ks.2.1 ((), ())) d.1.2.1.1 d.1.2.2.1.1 d.1.2.2.2.1.1 d.2.1.1 d.2.1.2.1 d.2.1.2.2.1
abbrev zqhp (β : Type) := Bool → Option β
abbrev zqhq := {β : Type} → zqhp β → (List zq0) → (List UInt8) → (List Int) → Bool → Option β
def zqhr : View := ⟨0, [0, 3], [(false, [.data  (.slice zq1)]), (false, [.ptr 0 0])], [.cells 64 [.data .str, .data (.slice (.int .i64)), .data .bool]]⟩
def zqhs : List  (AExit × View) := [(.ret, ⟨0, [2], [(false, [.data .bool])], []⟩)]
@[reducible] def syntax_Form_p2_G (p : zqhq) {β : Type} (d : zqhr.den) (ks : Outs.K β zqhs) : Option β :=
  p (fun a0 => ks.1 (((a0, ()), ()), ())) d.1.1.1 d.2.1.1 d.2.1.2.1 d.2.1.2.2.1
abbrev zqht (β : Type) := Bool → Option β
abbrev zqhu := {β : Type} → zqht β → (List zq0) → (List UInt8) → (List Int) → Bool → Option β
def zqhv : View := ⟨0, [0, 3], [(false, [.data  (.slice zq1)]), (false, [.ptr 0 0])], [.cells 64 [.data .str, .data (.slice (.int .i64)), .data .bool]]⟩
def zqhw : List  (AExit × View) := [(.ret, ⟨0, [2], [(false, [.data .bool])], []⟩)]
@[reducible] def syntax_Form_p3_G (p : zqhu) {β : Type} (d : zqhv.den) (ks : Outs.K β zqhw) : Option β :=
  p (fun a0 => ks.1 (((a0, ()), ()), ())) d.1.1.1 d.2.1.1 d.2.1.2.1 d.2.1.2.2.1
section
variable (c_syntax_forms : zqeo) (c_syntax_options : zq80)
@[reducible] def syntax_Form_X : Ctx := ⟨look tab, pick1 [(25, .spec (zqep c_syntax_forms)), (26, .spec (zq81 c_syntax_options))], false, false, false, false⟩
def zqhx {β : Type} (rec : (List zq0) → Int → Int → (List UInt8) → (List Int) → Bool → Option β) (k1 : zqhk β) (k2 : zqhl β) (t59 : List zq0) (t60 t61 : Int) (f : List UInt8) (f2 : List Int) (f3 : Bool) : Option β :=
  cond (decide (t61 < t60))
  (cond (decide (0 ≤ t61) && decide (t61 < (List.length t59 : Int)))
  (let e : zq0 := List.getD t59 (Int.toNat t61) (0, (([] : List UInt8), 0));
  cond (decide (0 ≤ (if (IntKind.i64.wrap ((List.length f2 : Int) - 1)) < t61 then (IntKind.i64.wrap ((List.length f2 : Int) - 1)) else t61)) && decide ((if (IntKind.i64.wrap ((List.length f2 : Int) - 1)) < t61 then (IntKind.i64.wrap ((List.length f2 : Int) - 1)) else t61) < (List.length f2 : Int)))
  (let e2 : Int := List.getD f2 (Int.toNat (if (IntKind.i64.wrap ((List.length f2 : Int) - 1)) < t61 then (IntKind.i64.wrap ((List.length f2 : Int) - 1)) else t61)) 0;
  cond (!decide (e.1 = e2))
  (k1 false)
  (rec t59 t60 (IntKind.i64.wrap (t61 + 1)) f f2 f3))
  none)
  none)
  (k2 ())
def zqhy {β : Type} : Nat → zqhk β → zqhl β →  (List zq0) → Int → Int → (List UInt8) → (List Int) → Bool → Option β
  | 0 => fun _ _ _ _ _ _ _ _ => none
  | i + 1 => fun k1 k2 t59 t60 t61 f f2 f3 => zqhx (zqhy i k1 k2) k1 k2 t59 t60 t61 f f2 f3
theorem zqhz (hΓ : ΓOk Tryz.prog (syntax_Form_X c_syntax_forms c_syntax_options).Γ) (i : Nat) : PieceOk Tryz.prog 80 0 syntax_Form_p1_code zqhn zqho (syntax_Form_p1_G (zqhy i)) := by
  rw [show syntax_Form_p1_code = .loop (loopBody syntax_Form_p1_code) by kernel_rfl]
  exact piece_loop (X := (syntax_Form_X c_syntax_forms c_syntax_options)) (p := 1) (Λ := pick1 []) (G := fun i => @fun β d ks => syntax_Form_p1_G (zqhy i) d ks) mixed tab_ok hΓ rfl (by kernel_rfl) CutsOk_nil (fun _ _ => rfl) (fun i => @fun β d ks r h => Eq.trans (b := syntax_Form_p1_G (zqhy (i + 1)) d ks) (by kernel_rfl) h) i
def zqi0 (p1 : zqhm) {β : Type} (k1 : zqhp β) (l : List zq0) (f : List UInt8) (f2 : List Int) (f3 : Bool) : Option β :=
  cond (decide (0 ≤ 1) && (decide (1 ≤ (List.length l : Int)) && decide ((List.length l : Int) ≤ (List.length l : Int))))
  (p1 (fun t2 =>
  k1 t2) (fun _ =>
  k1 true) (List.drop (Int.toNat 1) (List.take (Int.toNat (List.length l : Int)) l)) (List.length (List.drop (Int.toNat 1) (List.take (Int.toNat (List.length l : Int)) l)) : Int) 0 f f2 f3)
  none
def zqi1 (p1 : zqhm) {β : Type} (k1 : zqhp β) (l : List zq0) (f : List UInt8) (f2 : List Int) (f3 : Bool) : Option β := zqi0 p1 k1 l f f2 f3
theorem zqi2 (hΓ : ΓOk Tryz.prog (syntax_Form_X c_syntax_forms c_syntax_options).Γ) (p1 : zqhm) (hp1 : PieceOk Tryz.prog 80 0 syntax_Form_p1_code zqhn zqho (syntax_Form_p1_G p1)) : PieceOk Tryz.prog 80 0 syntax_Form_p2_code zqhr zqhs (syntax_Form_p2_G (zqi1 p1)) :=
  piece_exec (X := (syntax_Form_X c_syntax_forms c_syntax_options)) (p := 127) (Λ := pick1 [(1018, pieceCut zqhn zqho (syntax_Form_p1_G p1))]) mixed tab_ok hΓ (by kernel_rfl) (CutsOk_cons (q := 1018) (c' := syntax_Form_p1_code) (by kernel_rfl) rfl hp1 CutsOk_nil) (fun d ks r h => Eq.trans (b := syntax_Form_p2_G (zqi1 p1) d ks) (by kernel_rfl) h)
def zqi3 (p2 : zqhq) {β : Type} (k1 : zqht β) (l : List zq0) (f : List UInt8) (f2 : List Int) (f3 : Bool) : Option β :=
  cond (decide ((IntKind.i64.wrap ((List.length l : Int) - 1)) < (List.length f2 : Int)))
  (k1 false)
  (cond (decide ((List.length f2 : Int) < (IntKind.i64.wrap ((List.length l : Int) - 1))))
  (cond (!f3)
  (k1 false)
  (p2 (fun t2 =>
  k1 t2) l f f2 f3))
  (p2 (fun t2 =>
  k1 t2) l f f2 f3))
def zqi4 (p2 : zqhq) {β : Type} (k1 : zqht β) (l : List zq0) (f : List UInt8) (f2 : List Int) (f3 : Bool) : Option β := zqi3 p2 k1 l f f2 f3
theorem zqi5 (hΓ : ΓOk Tryz.prog (syntax_Form_X c_syntax_forms c_syntax_options).Γ) (p2 : zqhq) (hp2 : PieceOk Tryz.prog 80 0 syntax_Form_p2_code zqhr zqhs (syntax_Form_p2_G p2)) : PieceOk Tryz.prog 80 0 syntax_Form_p3_code zqhv zqhw (syntax_Form_p3_G (zqi4 p2)) :=
  piece_exec (X := (syntax_Form_X c_syntax_forms c_syntax_options)) (p := 63) (Λ := pick1 [(127, pieceCut zqhr zqhs (syntax_Form_p2_G p2))]) mixed tab_ok hΓ (by kernel_rfl) (CutsOk_cons (q := 127) (c' := syntax_Form_p2_code) (by kernel_rfl) rfl hp2 CutsOk_nil) (fun d ks r h => Eq.trans (b := syntax_Form_p3_G (zqi4 p2) d ks) (by kernel_rfl) h)
def zqi6 (p3 : zqhu) {β : Type} (l : List zq0) (k : (Bool → Option β)) : Option β :=
  cond (decide ((List.length l : Int) = 0))
  (k false)
  (cond (decide (0 ≤ 0) && decide (0 < (List.length l : Int)))
  (let e : zq0 := List.getD l (Int.toNat 0) (0, (([] : List UInt8), 0));
  cond (!decide (e.1 = 0))
  (k false)
  (cond (decide (0 ≤ 0) && decide (0 < (List.length l : Int)))
  (let e2 : zq0 := List.getD l (Int.toNat 0) (0, (([] : List UInt8), 0));
  c_syntax_forms e2.2.1 (fun rforms rforms2 =>
  cond (!rforms2)
  (k false)
  (cond (decide (rforms.1 = ([112, 101, 114, 115, 111, 110] : List UInt8)))
  (c_syntax_options l (fun roptions roptions2 =>
  cond (!roptions2)
  (k false)
  (p3 (fun t2 =>
  k t2) roptions rforms.1 rforms.2.1 rforms.2.2)))
  (p3 (fun t2 =>
  k t2) l rforms.1 rforms.2.1 rforms.2.2))))
  none))
  none)
theorem zqi7 (hΓ : ΓOk Tryz.prog (syntax_Form_X c_syntax_forms c_syntax_options).Γ) (p3 : zqhu) (hp3 : PieceOk Tryz.prog 80 0 syntax_Form_p3_code zqhv zqhw (syntax_Form_p3_G p3)) : SpecOk Tryz.prog 12 (zqhj (zqi6 c_syntax_forms c_syntax_options p3)) :=
  spec_exec (X := (syntax_Form_X c_syntax_forms c_syntax_options)) (Λ := pick1 [(63, pieceCut zqhv zqhw (syntax_Form_p3_G p3))]) (rs := [.tmp 2]) (c := bodyOf Tryz.f12) mixed tab_ok hΓ Tryz.func12 (by kernel_rfl) (by kernel_rfl) (by kernel_rfl) (by kernel_rfl) (CutsOk_cons (q := 63) (c' := syntax_Form_p3_code) (by kernel_rfl) rfl hp3 CutsOk_nil) (fun x k r h => Eq.trans (b := (zqhj (zqi6 c_syntax_forms c_syntax_options p3)).run x k) (by kernel_rfl) h)
end
theorem zqi8Γ : ΓOk Tryz.prog (pick1 [(25, .spec (zqep zqet)), (26, .spec (zq81 zq8g))]) := (ΓOk_cons zqeu (ΓOk_cons zq8h ΓOk_nil))
def zqi9 (m : Nat) : zqhm := zqhy m
theorem zqia {β : Type} (i : Nat) (k1 k2 t59 t60 t61 f f2 f3) : (zqi9 (i + 1) k1 k2 t59 t60 t61 f f2 f3 : Option β) = zqhx (zqi9 i k1 k2) k1 k2 t59 t60 t61 f f2 f3 := rfl
def zqib : zqhm := zqi9 fuel
theorem zqic : PieceOk Tryz.prog 80 0 syntax_Form_p1_code zqhn zqho (syntax_Form_p1_G zqib) := zqhz zqet zq8g zqi8Γ fuel
def zqid : zqhq := zqi1 zqib
theorem zqie : PieceOk Tryz.prog 80 0 syntax_Form_p2_code zqhr zqhs (syntax_Form_p2_G zqid) := zqi2 zqet zq8g zqi8Γ zqib zqic
def zqif : zqhu := zqi4 zqid
theorem zqig : PieceOk Tryz.prog 80 0 syntax_Form_p3_code zqhv zqhw (syntax_Form_p3_G zqif) := zqi5 zqet zq8g zqi8Γ zqid zqie
def zqih : zqhi := zqi6 zqet zq8g zqif
theorem zqii : SpecOk Tryz.prog 12 (zqhj zqih) := zqi7 zqet zq8g zqi8Γ zqif zqig
abbrev zqij := {β : Type} → (List UInt8) → (Int → Bool → Option β) → Option β
def zqik (c : zqij) : Spec :=
  ⟨[(false, [.data .str])], [], [(false, [.data (.int .i64)]), (false, [.data .bool])], [], fun x k => c x.1.1.1 (fun r0 r1 => k (((r0, ()), (r1, ()), ()), ()))⟩
noncomputable def lexer_offset_p1_code : Code := codeAt 15 (bodyOf Tryz.f69)
abbrev zqil (β : Type) := Int → Bool → Option β
abbrev zqim := {β : Type} → zqil β → (List UInt8) → Int → Bool → Option β
def zqin : View := ⟨0, [0, 4, 5], [(false, [.data .str]),  (false, [.data (.int .i64)]), (false, [.data .bool])], []⟩
def zqio : List  (AExit × View) := [(.ret, ⟨0, [2, 3], [(false, [.data (.int .i64)]), (false, [.data .bool])], []⟩)]
@[reducible] def lexer_offset_p1_G (p : zqim) {β : Type} (d : zqin.den) (ks : Outs.K β zqio) : Option β :=
  p (fun a0 a1 => ks.1 (((a0, ()), (a1, ()), ()), ())) d.1.1.1 d.1.2.1.1 d.1.2.2.1.1
section
variable (c_lexer_clock : zqfe)
@[reducible] def lexer_offset_X : Ctx := ⟨look tab, pick1 [(73, .spec (zqff c_lexer_clock))], false, false, false, false⟩
def zqip {β : Type} (k1 : zqil β) (s : List UInt8) (n : Int) (ok : Bool) : Option β :=
  cond ok
  (cond (decide ((List.length s : Int) = 6))
  (cond (decide ((-64800) ≤ n))
  (let t : Bool := (decide (n ≤ 64800));
  k1 n t)
  (k1 n false))
  (k1 n false))
  (k1 n false)
def zqiq {β : Type} (k1 : zqil β) (s : List UInt8) (n : Int) (ok : Bool) : Option β := zqip k1 s n ok
theorem zqir (hΓ : ΓOk Tryz.prog (lexer_offset_X c_lexer_clock).Γ) : PieceOk Tryz.prog 32 0 lexer_offset_p1_code zqin zqio (lexer_offset_p1_G (zqiq)) :=
  piece_exec (X := (lexer_offset_X c_lexer_clock)) (p := 15) (Λ := pick1 []) mixed tab_ok hΓ (by kernel_rfl) CutsOk_nil (fun d ks r h => Eq.trans (b := lexer_offset_p1_G (zqiq) d ks) (by kernel_rfl) h)
def zqis (p1 : zqim) {β : Type} (s : List UInt8) (k : (Int → Bool → Option β)) : Option β :=
  cond (decide (0 ≤ 1) && (decide (1 ≤ (List.length s : Int)) && decide ((List.length s : Int) ≤ (List.length s : Int))))
  (c_lexer_clock (List.drop (Int.toNat 1) (List.take (Int.toNat (List.length s : Int)) s)) (fun rclock rclock2 =>
  cond (decide (0 ≤ 0) && decide (0 < (List.length s : Int)))
  (cond (decide (((List.getD s (Int.toNat 0) 0).toNat : Int) = 45))
  (let n : Int := (IntKind.i64.wrap (0 - rclock));
  p1 (fun t2 t3 =>
  k t2 t3) s n rclock2)
  (p1 (fun t2 t3 =>
  k t2 t3) s rclock rclock2))
  none))
  none
theorem zqit (hΓ : ΓOk Tryz.prog (lexer_offset_X c_lexer_clock).Γ) (p1 : zqim) (hp1 : PieceOk Tryz.prog 32 0 lexer_offset_p1_code zqin zqio (lexer_offset_p1_G p1)) : SpecOk Tryz.prog 69 (zqik (zqis c_lexer_clock p1)) :=
  spec_exec (X := (lexer_offset_X c_lexer_clock)) (Λ := pick1 [(15, pieceCut zqin zqio (lexer_offset_p1_G p1))]) (rs := [.tmp 2, .tmp 3]) (c := bodyOf Tryz.f69) mixed tab_ok hΓ Tryz.func69 (by kernel_rfl) (by kernel_rfl) (by kernel_rfl) (by kernel_rfl) (CutsOk_cons (q := 15) (c' := lexer_offset_p1_code) (by kernel_rfl) rfl hp1 CutsOk_nil) (fun x k r h => Eq.trans (b := (zqik (zqis c_lexer_clock p1)).run x k) (by kernel_rfl) h)
end
theorem zqiuΓ : ΓOk Tryz.prog (pick1 [(73, .spec (zqff zqfv))]) := (ΓOk_cons zqfw ΓOk_nil)
def zqiv : zqim := zqiq
theorem zqiw : PieceOk Tryz.prog 32 0 lexer_offset_p1_code zqin zqio (lexer_offset_p1_G zqiv) := zqir zqfv zqiuΓ
def zqix : zqij := zqis zqfv zqiv
theorem zqiy : SpecOk Tryz.prog 69 (zqik zqix) := zqit zqfv zqiuΓ zqiv zqiw
abbrev zqiz := {β : Type} → Int → ((List UInt8) → Bool → Option β) → Option β
def zqj0 (c : zqiz) : Spec :=
  ⟨[(false, [.data (.int .i64)])], [], [(false, [.data .str]), (false, [.data .bool])], [], fun x k => c x.1.1.1 (fun r0 r1 => k (((r0, ()), (r1, ()), ()), ()))⟩
section
variable (c_civil_DateOf : zqg4) (c_lexer_digits : zqbx)
@[reducible] def lexer_dated_X : Ctx := ⟨look tab, pick1 [(94, .spec (zqg5 c_civil_DateOf)), (93, .spec (zqby c_lexer_digits))], false, false, false, false⟩
def zqj1 {β : Type} (day : Int) (k : ((List UInt8) → Bool → Option β)) : Option β :=
  c_civil_DateOf day (fun rDateOf rDateOf2 =>
  c_lexer_digits rDateOf.1 4 (fun rdigits =>
  cond (decide (List.length rdigits + List.length ([45] : List UInt8) ≤ 9223372036854775807))
  (c_lexer_digits rDateOf.2.1 2 (fun rdigits2 =>
  cond (decide (List.length (rdigits ++ ([45] : List UInt8)) + List.length rdigits2 ≤ 9223372036854775807))
  (cond (decide (List.length ((rdigits ++ ([45] : List UInt8)) ++ rdigits2) + List.length ([45] : List UInt8) ≤ 9223372036854775807))
  (c_lexer_digits rDateOf.2.2 2 (fun rdigits3 =>
  cond (decide (List.length (((rdigits ++ ([45] : List UInt8)) ++ rdigits2) ++ ([45] : List UInt8)) + List.length rdigits3 ≤ 9223372036854775807))
  (let t : List UInt8 := ((((rdigits ++ ([45] : List UInt8)) ++ rdigits2) ++ ([45] : List UInt8)) ++ rdigits3);
  let t2 : Bool := (decide (rDateOf2 = 0));
  k t t2)
  none))
  none)
  none))
  none))
theorem zqj2 (hΓ : ΓOk Tryz.prog (lexer_dated_X c_civil_DateOf c_lexer_digits).Γ) : SpecOk Tryz.prog 78 (zqj0 (zqj1 c_civil_DateOf c_lexer_digits)) :=
  spec_exec (X := (lexer_dated_X c_civil_DateOf c_lexer_digits)) (Λ := pick1 []) (rs := [.tmp 2, .tmp 3]) (c := bodyOf Tryz.f78) mixed tab_ok hΓ Tryz.func78 (by kernel_rfl) (by kernel_rfl) (by kernel_rfl) (by kernel_rfl) CutsOk_nil (fun x k r h => Eq.trans (b := (zqj0 (zqj1 c_civil_DateOf c_lexer_digits)).run x k) (by kernel_rfl) h)
end
theorem zqj3Γ : ΓOk Tryz.prog (pick1 [(94, .spec (zqg5 zqgk)), (93, .spec (zqby zqc2))]) := (ΓOk_cons zqgl (ΓOk_cons zqc3 ΓOk_nil))
def zqj4 : zqiz := zqj1 zqgk zqc2
theorem zqj5 : SpecOk Tryz.prog 78 (zqj0 zqj4) := zqj2 zqgk zqc2 zqj3Γ
abbrev zqj6 := {β : Type} → (Int × (Int × Int)) → (Int → Int → Option β) → Option β
def zqj7 (c : zqj6) : Spec :=
  ⟨[(true, [.data (.prod (.int .i64) (.prod (.int .i64) (.int .i64)))])], [], [(false, [.data (.int .i64)]), (false, [.data (.int .i64)])], [], fun x k => c x.1.1.1 (fun r0 r1 => k (((r0, ()), (r1, ()), ()), ()))⟩
noncomputable def ref01_Day_p1_code : Code := codeAt 122 (bodyOf Tryz.f81)
abbrev zqj8 (β : Type) := Int → Int → Int → Int → Option β
abbrev zqj9 := {β : Type} → zqj8 β → Int → Int → Int → Int → Int → Option β
def zqja : View := ⟨0, [1, 4, 5], [(false, [.ptr 0 0]),  (false, [.data (.int .i64)]), (false, [.data (.int .i64)])], [.cells 120 [.data (.int .i64), .data (.int .i64), .data (.int .i64)]]⟩
def zqjb : List  (AExit × View) := [(.exit 0, ⟨0, [1, 4], [(false, [.ptr 0 0]), (false, [.data (.int .i64)])], [.cells 120 [.data (.int .i64), .data (.int .i64), .data (.int .i64)]]⟩)]
@[reducible] def ref01_Day_p1_G (p : zqj9) {β : Type} (d : zqja.den) (ks : Outs.K β zqjb) : Option β :=
  p (fun a0 a1 a2 a3 => ks.1 (((), (a0, ()), ()), ((a1, a2, a3, ()), ()))) d.1.2.1.1 d.1.2.2.1.1 d.2.1.1 d.2.1.2.1 d.2.1.2.2.1
section
variable (c_ref01_Days : zqc4) (c_ref01_Valid : zqgm) (c_ref01_year : zq72)
@[reducible] def ref01_Day_X : Ctx := ⟨look tab, pick1 [(98, .spec (zqc5 c_ref01_Days)), (96, .spec (zqgn c_ref01_Valid)), (97, .spec (zq73 c_ref01_year))], false, false, false, false⟩
def zqjc {β : Type} (rec : Int → Int → Int → Int → Int → Option β) (k1 : zqj8 β) (n m d d2 d3 : Int) : Option β :=
  cond (decide (m < d2))
  (c_ref01_Days d m (fun rDays =>
  let n2 : Int := (IntKind.i64.wrap (n + rDays));
  let m2 : Int := (IntKind.i64.wrap (m + 1));
  rec n2 m2 d d2 d3))
  (k1 n d d2 d3)
def zqjd {β : Type} : Nat → zqj8 β → Int → Int → Int → Int → Int → Option β
  | 0 => fun _ _ _ _ _ _ => none
  | i + 1 => fun k1 n m d d2 d3 => zqjc c_ref01_Days (zqjd i k1) k1 n m d d2 d3
theorem zqje (hΓ : ΓOk Tryz.prog (ref01_Day_X c_ref01_Days c_ref01_Valid c_ref01_year).Γ) (i : Nat) : PieceOk Tryz.prog 29 0 ref01_Day_p1_code zqja zqjb (ref01_Day_p1_G (zqjd c_ref01_Days i)) := by
  rw [show ref01_Day_p1_code = .loop (loopBody ref01_Day_p1_code) by kernel_rfl]
  exact piece_loop (X := (ref01_Day_X c_ref01_Days c_ref01_Valid c_ref01_year)) (p := 1) (Λ := pick1 []) (G := fun i => @fun β d ks => ref01_Day_p1_G (zqjd c_ref01_Days i) d ks) mixed tab_ok hΓ rfl (by kernel_rfl) CutsOk_nil (fun _ _ => rfl) (fun i => @fun β d ks r h => Eq.trans (b := ref01_Day_p1_G (zqjd c_ref01_Days (i + 1)) d ks) (by kernel_rfl) h) i
def zqjf (p1 : zqj9) {β : Type} (d : (Int × (Int × Int))) (k : (Int → Int → Option β)) : Option β :=
  c_ref01_Valid d (fun rValid =>
  cond (!rValid)
  (k 0 1)
  (c_ref01_year d.1 (fun ryear =>
  p1 (fun n d2 d3 d4 =>
  let t : Int := (IntKind.i64.wrap ((IntKind.i64.wrap (n + d4)) - 1));
  k t 0) ryear 1 d.1 d.2.1 d.2.2)))
theorem zqjg (hΓ : ΓOk Tryz.prog (ref01_Day_X c_ref01_Days c_ref01_Valid c_ref01_year).Γ) (p1 : zqj9) (hp1 : PieceOk Tryz.prog 29 0 ref01_Day_p1_code zqja zqjb (ref01_Day_p1_G p1)) : SpecOk Tryz.prog 81 (zqj7 (zqjf c_ref01_Valid c_ref01_year p1)) :=
  spec_exec (X := (ref01_Day_X c_ref01_Days c_ref01_Valid c_ref01_year)) (Λ := pick1 [(122, pieceCut zqja zqjb (ref01_Day_p1_G p1))]) (rs := [.tmp 2, .tmp 3]) (c := bodyOf Tryz.f81) mixed tab_ok hΓ Tryz.func81 (by kernel_rfl) (by kernel_rfl) (by kernel_rfl) (by kernel_rfl) (CutsOk_cons (q := 122) (c' := ref01_Day_p1_code) (by kernel_rfl) rfl hp1 CutsOk_nil) (fun x k r h => Eq.trans (b := (zqj7 (zqjf c_ref01_Valid c_ref01_year p1)).run x k) (by kernel_rfl) h)
end
theorem zqjhΓ : ΓOk Tryz.prog (pick1 [(98, .spec (zqc5 zqct)), (96, .spec (zqgn zqgr)), (97, .spec (zq73 zq77))]) := (ΓOk_cons zqcu (ΓOk_cons zqgs (ΓOk_cons zq78 ΓOk_nil)))
def zqji (m : Nat) : zqj9 := zqjd zqct m
theorem zqjj {β : Type} (i : Nat) (k1 n m d d2 d3) : (zqji (i + 1) k1 n m d d2 d3 : Option β) = zqjc zqct (zqji i k1) k1 n m d d2 d3 := rfl
def zqjk : zqj9 := zqji fuel
theorem zqjl : PieceOk Tryz.prog 29 0 ref01_Day_p1_code zqja zqjb (ref01_Day_p1_G zqjk) := zqje zqct zqgr zq77 zqjhΓ fuel
def zqjm : zqj6 := zqjf zqgr zq77 zqjk
theorem zqjn : SpecOk Tryz.prog 81 (zqj7 zqjm) := zqjg zqct zqgr zq77 zqjhΓ zqjk zqjl
abbrev zqjo := {β : Type} → (Int × (Int × Int)) → (Int → Int → Option β) → Option β
def zqjp (c : zqjo) : Spec :=
  ⟨[(true, [.data (.prod (.int .i64) (.prod (.int .i64) (.int .i64)))])], [], [(false, [.data (.int .i64)]), (false, [.data (.int .i64)])], [], fun x k => c x.1.1.1 (fun r0 r1 => k (((r0, ()), (r1, ()), ()), ()))⟩
section
variable (c_civil_Valid : zqgt) (c_civil_number : zqh0)
@[reducible] def civil_Day_X : Ctx := ⟨look tab, pick1 [(101, .spec (zqgu c_civil_Valid)), (102, .spec (zqh1 c_civil_number))], false, false, false, false⟩
def zqjq {β : Type} (d : (Int × (Int × Int))) (k : (Int → Int → Option β)) : Option β :=
  c_civil_Valid d (fun rValid =>
  cond (!rValid)
  (k 0 1)
  (c_civil_number d (fun rnumber =>
  k rnumber 0)))
theorem zqjr (hΓ : ΓOk Tryz.prog (civil_Day_X c_civil_Valid c_civil_number).Γ) : SpecOk Tryz.prog 90 (zqjp (zqjq c_civil_Valid c_civil_number)) :=
  spec_exec (X := (civil_Day_X c_civil_Valid c_civil_number)) (Λ := pick1 []) (rs := [.tmp 2, .tmp 3]) (c := bodyOf Tryz.f90) mixed tab_ok hΓ Tryz.func90 (by kernel_rfl) (by kernel_rfl) (by kernel_rfl) (by kernel_rfl) CutsOk_nil (fun x k r h => Eq.trans (b := (zqjp (zqjq c_civil_Valid c_civil_number)).run x k) (by kernel_rfl) h)
end
theorem zqjsΓ : ΓOk Tryz.prog (pick1 [(101, .spec (zqgu zqgy)), (102, .spec (zqh1 zqhg))]) := (ΓOk_cons zqgz (ΓOk_cons zqhh ΓOk_nil))
def zqjt : zqjo := zqjq zqgy zqhg
theorem zqju : SpecOk Tryz.prog 90 (zqjp zqjt) := zqjr zqgy zqhg zqjsΓ
abbrev zqjv := {β : Type} → zq0 → ((List UInt8) → Bool → Option β) → Option β
def zqjw (c : zqjv) : Spec :=
  ⟨[(true, [.data zq1])], [], [(false, [.data .str]), (false, [.data .bool])], [], fun x k => c x.1.1.1 (fun r0 r1 => k (((r0, ()), (r1, ()), ()), ()))⟩
noncomputable def lexer_text_p1_code : Code := codeAt 861 (bodyOf Tryz.f55)
noncomputable def lexer_text_p2_code : Code := codeAt 27643 (bodyOf Tryz.f55)
abbrev zqjx (β : Type) := (List UInt8) → Bool → Option β
abbrev zqjy := {β : Type} → zqjx β → Bool → Int → (List UInt8) → Int → Option β
def zqjz : View := ⟨0, [1, 4], [(false, [.ptr 0 0]),  (false, [.data .bool])], [.cells 51 [.data (.int .i64), .data .str, .data (.int .i64)]]⟩
def zqk0 : List  (AExit × View) := [(.ret, ⟨0, [2, 3], [(false, [.data .str]), (false, [.data .bool])], []⟩)]
@[reducible] def lexer_text_p1_G (p : zqjy) {β : Type} (d : zqjz.den) (ks : Outs.K β zqk0) : Option β :=
  p (fun a0 a1 => ks.1 (((a0, ()), (a1, ()), ()), ())) d.1.2.1.1 d.2.1.1 d.2.1.2.1 d.2.1.2.2.1
abbrev zqk1 (β : Type) := (List UInt8) → Bool → Option β
abbrev zqk2 := {β : Type} → zqk1 β → Int → (List UInt8) → Option β
def zqk3 : View := ⟨0, [5, 6], [(false, [.data  (.int .i64)]), (false, [.data .str])], []⟩
def zqk4 : List  (AExit × View) := [(.ret, ⟨0, [2, 3], [(false, [.data .str]), (false, [.data .bool])], []⟩)]
@[reducible] def lexer_text_p2_G (p : zqk2) {β : Type} (d : zqk3.den) (ks : Outs.K β zqk4) : Option β :=
  p (fun a0 a1 => ks.1 (((a0, ()), (a1, ()), ()), ())) d.1.1.1 d.1.2.1.1
section
variable (c_lexer_dated : zqiz) (c_lexer_hours : zqfx) (c_strconv_Itoa : zq6l)
@[reducible] def lexer_text_X : Ctx := ⟨look tab, pick1 [(78, .spec (zqj0 c_lexer_dated)), (77, .spec (zqfy c_lexer_hours)), (76, .spec (zq6m c_strconv_Itoa))], false, false, false, false⟩
def zqk5 {β : Type} (k1 : zqjx β) (ok : Bool) (t : Int) (t2 : List UInt8) (t3 : Int) : Option β :=
  cond (!decide (60 = 0))
  (c_lexer_hours t3 (!decide ((Int.tmod t3 60) = 0)) (fun rhours =>
  k1 rhours ok))
  none
def zqk6 {β : Type} (k1 : zqjx β) (ok : Bool) (t : Int) (t2 : List UInt8) (t3 : Int) : Option β := zqk5 c_lexer_hours k1 ok t t2 t3
theorem zqk7 (hΓ : ΓOk Tryz.prog (lexer_text_X c_lexer_dated c_lexer_hours c_strconv_Itoa).Γ) : PieceOk Tryz.prog 95 0 lexer_text_p1_code zqjz zqk0 (lexer_text_p1_G (zqk6 c_lexer_hours)) :=
  piece_exec (X := (lexer_text_X c_lexer_dated c_lexer_hours c_strconv_Itoa)) (p := 861) (Λ := pick1 []) mixed tab_ok hΓ (by kernel_rfl) CutsOk_nil (fun d ks r h => Eq.trans (b := lexer_text_p1_G (zqk6 c_lexer_hours) d ks) (by kernel_rfl) h)
def zqk8 {β : Type} (k1 : zqk1 β) (n : Int) (sign : List UInt8) : Option β :=
  c_lexer_hours n false (fun rhours =>
  cond (decide (List.length sign + List.length rhours ≤ 9223372036854775807))
  (cond (decide (0 ≤ n))
  (cond (decide (n ≤ 64800))
  (cond (!decide (60 = 0))
  (let t : Bool := (decide ((Int.tmod n 60) = 0));
  k1 (sign ++ rhours) t)
  none)
  (k1 (sign ++ rhours) false))
  (k1 (sign ++ rhours) false))
  none)
def zqk9 {β : Type} (k1 : zqk1 β) (n : Int) (sign : List UInt8) : Option β := zqk8 c_lexer_hours k1 n sign
theorem zqka (hΓ : ΓOk Tryz.prog (lexer_text_X c_lexer_dated c_lexer_hours c_strconv_Itoa).Γ) : PieceOk Tryz.prog 95 0 lexer_text_p2_code zqk3 zqk4 (lexer_text_p2_G (zqk9 c_lexer_hours)) :=
  piece_exec (X := (lexer_text_X c_lexer_dated c_lexer_hours c_strconv_Itoa)) (p := 27643) (Λ := pick1 []) mixed tab_ok hΓ (by kernel_rfl) CutsOk_nil (fun d ks r h => Eq.trans (b := lexer_text_p2_G (zqk9 c_lexer_hours) d ks) (by kernel_rfl) h)
def zqkb (p1 : zqjy) (p2 : zqk2) {β : Type} (t : zq0) (k : ((List UInt8) → Bool → Option β)) : Option β :=
  let t2 : Bool := (decide (t.1 = 1));
  cond t2
  (c_strconv_Itoa t.2.2 (fun rItoa =>
  cond (decide (0 ≤ t.2.2))
  (let t3 : Bool := (decide (t.2.2 ≤ 999999999));
  k rItoa t3)
  (k rItoa false)))
  (let t3 : Bool := (decide (t.1 = 2));
  cond t3
  (cond (decide (0 ≤ t.2.2))
  (let ok : Bool := (decide (t.2.2 ≤ 86400));
  p1 (fun t22 t32 =>
  k t22 t32) ok t.1 t.2.1 t.2.2)
  (p1 (fun t22 t32 =>
  k t22 t32) false t.1 t.2.1 t.2.2))
  (let t4 : Bool := (decide (t.1 = 3));
  cond t4
  (c_lexer_dated t.2.2 (fun rdated rdated2 =>
  k rdated rdated2))
  (let t5 : Bool := (decide (t.1 = 4));
  cond t5
  (cond (decide (t.2.2 < 0))
  (let n : Int := (IntKind.i64.wrap (0 - t.2.2));
  p2 (fun t22 t32 =>
  k t22 t32) n ([45] : List UInt8))
  (p2 (fun t22 t32 =>
  k t22 t32) t.2.2 ([43] : List UInt8)))
  (let t6 : Bool := (decide (t.1 = 5));
  cond t6
  (cond (!decide (86400 = 0))
  (c_lexer_dated (IntKind.i64.wrap (Int.tdiv t.2.2 86400)) (fun rdated rdated2 =>
  cond (decide (List.length rdated + List.length ([84] : List UInt8) ≤ 9223372036854775807))
  (cond (!decide (86400 = 0))
  (c_lexer_hours (Int.tmod t.2.2 86400) true (fun rhours =>
  cond (decide (List.length (rdated ++ ([84] : List UInt8)) + List.length rhours ≤ 9223372036854775807))
  (cond (decide (List.length ((rdated ++ ([84] : List UInt8)) ++ rhours) + List.length ([90] : List UInt8) ≤ 9223372036854775807))
  (cond rdated2
  (let t7 : List UInt8 := (((rdated ++ ([84] : List UInt8)) ++ rhours) ++ ([90] : List UInt8));
  let t8 : Bool := (decide (0 ≤ t.2.2));
  k t7 t8)
  (let t7 : List UInt8 := (((rdated ++ ([84] : List UInt8)) ++ rhours) ++ ([90] : List UInt8));
  k t7 false))
  none)
  none))
  none)
  none))
  none)
  (k ([] : List UInt8) false)))))
theorem zqkc (hΓ : ΓOk Tryz.prog (lexer_text_X c_lexer_dated c_lexer_hours c_strconv_Itoa).Γ) (p1 : zqjy) (p2 : zqk2) (hp1 : PieceOk Tryz.prog 95 0 lexer_text_p1_code zqjz zqk0 (lexer_text_p1_G p1)) (hp2 : PieceOk Tryz.prog 95 0 lexer_text_p2_code zqk3 zqk4 (lexer_text_p2_G p2)) : SpecOk Tryz.prog 55 (zqjw (zqkb c_lexer_dated c_lexer_hours c_strconv_Itoa p1 p2)) :=
  spec_exec (X := (lexer_text_X c_lexer_dated c_lexer_hours c_strconv_Itoa)) (Λ := pick1 [(861, pieceCut zqjz zqk0 (lexer_text_p1_G p1)), (27643, pieceCut zqk3 zqk4 (lexer_text_p2_G p2))]) (rs := [.tmp 2, .tmp 3]) (c := bodyOf Tryz.f55) mixed tab_ok hΓ Tryz.func55 (by kernel_rfl) (by kernel_rfl) (by kernel_rfl) (by kernel_rfl) (CutsOk_cons (q := 861) (c' := lexer_text_p1_code) (by kernel_rfl) rfl hp1 (CutsOk_cons (q := 27643) (c' := lexer_text_p2_code) (by kernel_rfl) rfl hp2 CutsOk_nil)) (fun x k r h => Eq.trans (b := (zqjw (zqkb c_lexer_dated c_lexer_hours c_strconv_Itoa p1 p2)).run x k) (by kernel_rfl) h)
end
theorem zqkdΓ : ΓOk Tryz.prog (pick1 [(78, .spec (zqj0 zqj4)), (77, .spec (zqfy zqg2)), (76, .spec (zq6m zq6n))]) := (ΓOk_cons zqj5 (ΓOk_cons zqg3 (ΓOk_cons zq6o ΓOk_nil)))
def zqke : zqjy := zqk6 zqg2
theorem zqkf : PieceOk Tryz.prog 95 0 lexer_text_p1_code zqjz zqk0 (lexer_text_p1_G zqke) := zqk7 zqj4 zqg2 zq6n zqkdΓ
def zqkg : zqk2 := zqk9 zqg2
theorem zqkh : PieceOk Tryz.prog 95 0 lexer_text_p2_code zqk3 zqk4 (lexer_text_p2_G zqkg) := zqka zqj4 zqg2 zq6n zqkdΓ
def zqki : zqjv := zqkb zqj4 zqg2 zq6n zqke zqkg
theorem zqkj : SpecOk Tryz.prog 55 (zqjw zqki) := zqkc zqj4 zqg2 zq6n zqkdΓ zqke zqkg zqkf zqkh
abbrev zqkk := {β : Type} → (List UInt8) → (Int → Option β) → Option β
def zqkl (c : zqkk) : Spec :=
  ⟨[(false, [.data .str])], [], [(false, [.data (.int .i64)])], [], fun x k => c x.1.1.1 (fun r0 => k (((r0, ()), ()), ()))⟩
section
variable (c_ref01_Day : zqj6) (c_ref06_number : zq5h)
@[reducible] def ref06_date_X : Ctx := ⟨look tab, pick1 [(81, .spec (zqj7 c_ref01_Day)), (62, .spec (zq5i c_ref06_number))], false, false, false, false⟩
def zqkm {β : Type} (s : List UInt8) (k : (Int → Option β)) : Option β :=
  cond (decide (0 ≤ 0) && (decide (0 ≤ 4) && decide (4 ≤ (List.length s : Int))))
  (c_ref06_number (List.drop (Int.toNat 0) (List.take (Int.toNat 4) s)) (fun rnumber =>
  cond (decide (0 ≤ 5) && (decide (5 ≤ 7) && decide (7 ≤ (List.length s : Int))))
  (c_ref06_number (List.drop (Int.toNat 5) (List.take (Int.toNat 7) s)) (fun rnumber2 =>
  cond (decide (0 ≤ 8) && (decide (8 ≤ 10) && decide (10 ≤ (List.length s : Int))))
  (c_ref06_number (List.drop (Int.toNat 8) (List.take (Int.toNat 10) s)) (fun rnumber3 =>
  c_ref01_Day (rnumber, (rnumber2, rnumber3)) (fun rDay rDay2 =>
  cond (!decide (rDay2 = 0))
  (k (-1))
  (k rDay))))
  none))
  none))
  none
theorem zqkn (hΓ : ΓOk Tryz.prog (ref06_date_X c_ref01_Day c_ref06_number).Γ) : SpecOk Tryz.prog 61 (zqkl (zqkm c_ref01_Day c_ref06_number)) :=
  spec_exec (X := (ref06_date_X c_ref01_Day c_ref06_number)) (Λ := pick1 []) (rs := [.tmp 2]) (c := bodyOf Tryz.f61) mixed tab_ok hΓ Tryz.func61 (by kernel_rfl) (by kernel_rfl) (by kernel_rfl) (by kernel_rfl) CutsOk_nil (fun x k r h => Eq.trans (b := (zqkl (zqkm c_ref01_Day c_ref06_number)).run x k) (by kernel_rfl) h)
end
theorem zqkoΓ : ΓOk Tryz.prog (pick1 [(81, .spec (zqj7 zqjm)), (62, .spec (zq5i zq5x))]) := (ΓOk_cons zqjn (ΓOk_cons zq5y ΓOk_nil))
def zqkp : zqkk := zqkm zqjm zq5x
theorem zqkq : SpecOk Tryz.prog 61 (zqkl zqkp) := zqkn zqjm zq5x zqkoΓ
abbrev zqkr := {β : Type} → (List UInt8) → (Int → Bool → Option β) → Option β
def zqks (c : zqkr) : Spec :=
  ⟨[(false, [.data .str])], [], [(false, [.data (.int .i64)]), (false, [.data .bool])], [], fun x k => c x.1.1.1 (fun r0 r1 => k (((r0, ()), (r1, ()), ()), ()))⟩
section
variable (c_civil_Day : zqjo) (c_lexer_number : zqb7) (c_lexer_two : zqbq)
@[reducible] def lexer_date_X : Ctx := ⟨look tab, pick1 [(90, .spec (zqjp c_civil_Day)), (74, .spec (zqb8 c_lexer_number)), (89, .spec (zqbr c_lexer_two))], false, false, false, false⟩
def zqkt {β : Type} (s : List UInt8) (k : (Int → Bool → Option β)) : Option β :=
  cond (!decide ((List.length s : Int) = 10))
  (k 0 false)
  (cond (decide (0 ≤ 4) && decide (4 < (List.length s : Int)))
  (cond (!decide (((List.getD s (Int.toNat 4) 0).toNat : Int) = 45))
  (k 0 false)
  (cond (decide (0 ≤ 7) && decide (7 < (List.length s : Int)))
  (cond (!decide (((List.getD s (Int.toNat 7) 0).toNat : Int) = 45))
  (k 0 false)
  (cond (decide (0 ≤ 0) && (decide (0 ≤ 4) && decide (4 ≤ (List.length s : Int))))
  (c_lexer_number (List.drop (Int.toNat 0) (List.take (Int.toNat 4) s)) (fun rnumber rnumber2 =>
  cond (decide (0 ≤ 5) && (decide (5 ≤ 7) && decide (7 ≤ (List.length s : Int))))
  (c_lexer_two (List.drop (Int.toNat 5) (List.take (Int.toNat 7) s)) (fun rtwo rtwo2 =>
  cond (decide (0 ≤ 8) && (decide (8 ≤ (List.length s : Int)) && decide ((List.length s : Int) ≤ (List.length s : Int))))
  (c_lexer_two (List.drop (Int.toNat 8) (List.take (Int.toNat (List.length s : Int)) s)) (fun rtwo3 rtwo4 =>
  c_civil_Day (rnumber, (rtwo, rtwo3)) (fun rDay rDay2 =>
  cond rnumber2
  (cond rtwo2
  (cond rtwo4
  (let t : Bool := (decide (rDay2 = 0));
  k rDay t)
  (k rDay false))
  (k rDay false))
  (k rDay false))))
  none))
  none))
  none))
  none))
  none)
theorem zqku (hΓ : ΓOk Tryz.prog (lexer_date_X c_civil_Day c_lexer_number c_lexer_two).Γ) : SpecOk Tryz.prog 72 (zqks (zqkt c_civil_Day c_lexer_number c_lexer_two)) :=
  spec_exec (X := (lexer_date_X c_civil_Day c_lexer_number c_lexer_two)) (Λ := pick1 []) (rs := [.tmp 2, .tmp 3]) (c := bodyOf Tryz.f72) mixed tab_ok hΓ Tryz.func72 (by kernel_rfl) (by kernel_rfl) (by kernel_rfl) (by kernel_rfl) CutsOk_nil (fun x k r h => Eq.trans (b := (zqks (zqkt c_civil_Day c_lexer_number c_lexer_two)).run x k) (by kernel_rfl) h)
end
theorem zqkvΓ : ΓOk Tryz.prog (pick1 [(90, .spec (zqjp zqjt)), (74, .spec (zqb8 zqbo)), (89, .spec (zqbr zqbv))]) := (ΓOk_cons zqju (ΓOk_cons zqbp (ΓOk_cons zqbw ΓOk_nil)))
def zqkw : zqkr := zqkt zqjt zqbo zqbv
theorem zqkx : SpecOk Tryz.prog 72 (zqks zqkw) := zqku zqjt zqbo zqbv zqkvΓ
abbrev zqky := {β : Type} → zq0 → ((List UInt8) → Int → Option β) → Option β
def zqkz (c : zqky) : Spec :=
  ⟨[(true, [.data zq1])], [], [(false, [.data .str]), (false, [.data (.int .i64)])], [], fun x k => c x.1.1.1 (fun r0 r1 => k (((r0, ()), (r1, ()), ()), ()))⟩
section
variable (c_lexer_Name : zq97) (c_lexer_text : zqjv)
@[reducible] def lexer_Text_X : Ctx := ⟨look tab, pick1 [(54, .spec (zq98 c_lexer_Name)), (55, .spec (zqjw c_lexer_text))], false, false, false, false⟩
def zql0 {β : Type} (t : zq0) (k : ((List UInt8) → Int → Option β)) : Option β :=
  cond (decide (t.1 = 0))
  (c_lexer_Name t.2.1 (fun rName =>
  cond (!rName)
  (k ([] : List UInt8) 8)
  (cond (!decide (t.2.2 = 0))
  (k ([] : List UInt8) 8)
  (k t.2.1 0))))
  (c_lexer_text t (fun rtext rtext2 =>
  cond (!rtext2)
  (k ([] : List UInt8) 8)
  (cond (!decide (t.2.1 = ([] : List UInt8)))
  (k ([] : List UInt8) 8)
  (k rtext 0))))
theorem zql1 (hΓ : ΓOk Tryz.prog (lexer_Text_X c_lexer_Name c_lexer_text).Γ) : SpecOk Tryz.prog 34 (zqkz (zql0 c_lexer_Name c_lexer_text)) :=
  spec_exec (X := (lexer_Text_X c_lexer_Name c_lexer_text)) (Λ := pick1 []) (rs := [.tmp 2, .tmp 3]) (c := bodyOf Tryz.f34) mixed tab_ok hΓ Tryz.func34 (by kernel_rfl) (by kernel_rfl) (by kernel_rfl) (by kernel_rfl) CutsOk_nil (fun x k r h => Eq.trans (b := (zqkz (zql0 c_lexer_Name c_lexer_text)).run x k) (by kernel_rfl) h)
end
theorem zql2Γ : ΓOk Tryz.prog (pick1 [(54, .spec (zq98 zq9o)), (55, .spec (zqjw zqki))]) := (ΓOk_cons zq9p (ΓOk_cons zqkj ΓOk_nil))
def zql3 : zqky := zql0 zq9o zqki
theorem zql4 : SpecOk Tryz.prog 34 (zqkz zql3) := zql1 zq9o zqki zql2Γ
end
end Go.Lift
