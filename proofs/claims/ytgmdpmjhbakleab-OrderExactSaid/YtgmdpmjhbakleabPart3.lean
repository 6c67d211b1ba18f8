/- Part3: Fn0. -/
import Derived.Test.YtgmdpmjhbakleabProg
import Derived.Test.YtgmdpmjhbakleabPart2
namespace Go.Lift
open Go.Proofs
noncomputable section
set_option maxRecDepth 100000
set_option linter.unusedVariables false

abbrev zq0 := (Int × (Int × List UInt8))
abbrev zq1 : Ty := (.prod (.int .i64) (.prod (.int .i64) .str))
abbrev zq2 := (Int × (Int × (Int × Int)))
abbrev zq3 : Ty := (.prod (.int .i64) (.prod (.int .i64) (.prod (.int .i64) (.int .i64))))
abbrev zq4 := (List (List UInt8 × Int) × (List zq2 × (List zq0 × List (Int × (Int × Int)))))
abbrev zq5 : Ty := (.prod (.slice (.prod .str (.int .i64))) (.prod (.slice zq3) (.prod (.slice zq1) (.slice (.prod (.int .i64) (.prod (.int .i64) (.int .i64)))))))

def tab : List (Nat × TI) := [
  (3, ⟨false, 1, 8, [.int .i64 (0 : Int)], [], none, none, (some (.int .i64)), (some .i64), false, false, none, none⟩),
  (4, ⟨false, 1, 1, [.bool false], [], none, none, (some .bool), none, true, false, none, none⟩),
  (9, ⟨false, 1, 16, [.str ([] : List UInt8)], [], none, none, (some .str), none, false, true, none, none⟩),
  (22, ⟨false, 1, 24, [.nils], [], (some 3), none, (some (.slice (.int .i64))), none, false, false, none, none⟩),
  (23, ⟨false, 1, 24, [.nils], [], (some 72), none, (some (.slice (.prod .str (.int .i64)))), none, false, false, none, none⟩),
  (24, ⟨false, 1, 24, [.nils], [], (some 74), none, (some (.slice zq3)), none, false, false, none, none⟩),
  (25, ⟨false, 1, 24, [.nils], [], (some 76), none, (some (.slice zq1)), none, false, false, none, none⟩),
  (26, ⟨false, 1, 24, [.nils], [], (some 66), none, (some (.slice (.prod (.int .i64) (.prod (.int .i64) (.int .i64))))), none, false, false, none, none⟩),
  (28, ⟨true, 4, 96, [.nils, .nils, .nils, .nils], [(0, 1, false), (1, 1, false), (2, 1, false), (3, 1, false)], none, none, (some zq5), none, false, false, none, none⟩),
  (36, ⟨false, 1, 24, [.nils], [], (some 28), none, (some (.slice zq5)), none, false, false, none, none⟩),
  (37, ⟨false, 1, 24, [.nils], [], (some 42), none, (some (.slice (.prod (.int .i64) (.prod (.int .i64) (.int .i64))))), none, false, false, none, none⟩),
  (42, ⟨true, 3, 24, [.int .i64 (0 : Int), .int .i64 (0 : Int), .int .i64 (0 : Int)], [(0, 1, false), (1, 1, false), (2, 1, false)], none, none, (some (.prod (.int .i64) (.prod (.int .i64) (.int .i64)))), none, false, false, (some [.i, .i, .i]), none⟩),
  (43, ⟨false, 1, 24, [.nils], [], (some 56), none, (some (.slice (.prod (.int .i64) (.int .i64)))), none, false, false, none, none⟩),
  (51, ⟨false, 1, 24, [.nils], [], (some 53), none, (some (.slice (.prod (.int .i64) (.int .i64)))), none, false, false, none, none⟩),
  (53, ⟨true, 2, 16, [.int .i64 (0 : Int), .int .i64 (0 : Int)], [], (some 3), (some 2), (some (.prod (.int .i64) (.int .i64))), none, false, false, (some [.i, .i]), none⟩),
  (56, ⟨true, 2, 16, [.int .i64 (0 : Int), .int .i64 (0 : Int)], [(0, 1, false), (1, 1, false)], none, none, (some (.prod (.int .i64) (.int .i64))), none, false, false, (some [.i, .i]), none⟩),
  (61, ⟨false, 1, 24, [.nils], [], (some 22), none, (some (.slice (.slice (.int .i64)))), none, false, false, none, none⟩),
  (66, ⟨true, 3, 24, [.int .i64 (0 : Int), .int .i64 (0 : Int), .int .i64 (0 : Int)], [(0, 1, false), (1, 1, false), (2, 1, false)], none, none, (some (.prod (.int .i64) (.prod (.int .i64) (.int .i64)))), none, false, false, (some [.i, .i, .i]), none⟩),
  (68, ⟨true, 2, 32, [.nils, .int .i64 (0 : Int)], [(0, 1, false), (1, 1, false)], none, none, (some (.prod (.slice (.int .i64)) (.int .i64))), none, false, false, none, none⟩),
  (69, ⟨false, 1, 24, [.nils], [], (some 9), none, (some (.slice .str)), none, false, false, none, none⟩),
  (72, ⟨true, 2, 24, [.str ([] : List UInt8), .int .i64 (0 : Int)], [(0, 1, false), (1, 1, false)], none, none, (some (.prod .str (.int .i64))), none, false, false, (some [.s, .i]), none⟩),
  (74, ⟨true, 4, 32, [.int .i64 (0 : Int), .int .i64 (0 : Int), .int .i64 (0 : Int), .int .i64 (0 : Int)], [(0, 1, false), (1, 1, false), (2, 1, false), (3, 1, false)], none, none, (some zq3), none, false, false, (some [.i, .i, .i, .i]), none⟩),
  (76, ⟨true, 3, 32, [.int .i64 (0 : Int), .int .i64 (0 : Int), .str ([] : List UInt8)], [(0, 1, false), (1, 1, false), (2, 1, false)], none, none, (some zq1), none, false, false, (some [.i, .i, .s]), none⟩),
  (80, ⟨false, 1, 24, [.nils], [], (some 22), none, (some (.slice (.slice (.int .i64)))), none, false, false, none, none⟩),
  (86, ⟨false, 1, 8, [.junk], [], none, none, none, none, false, false, none, (some (3, 4))⟩)]

theorem tab_ok : TOk Try.prog (look tab) := TOk_of (by kernel_rfl)
theorem mixed : Try.prog.follows .mixedOrders = true := by kernel_rfl

/-- pagewatch/pagewatchmade.Light -/
abbrev zq6 := {β : Type} → (List Int) → (Bool → Option β) → Option β
def zq7 (c : zq6) : Spec :=
  ⟨[(false, [.data (.slice (.int .i64))])], [], [(false, [.data .bool])], [], fun x k => c x.1.1.1 (fun r0 => k (((r0, ()), ()), ()))⟩
section
@[reducible] def made_Light_X : Ctx := ⟨look tab, pick1 [], false⟩
def zq8 {β : Type} (l : List Int) (k : (Bool → Option β)) : Option β :=
  let t : Bool := (decide ((List.length l : Int) ≤ (500 : Int)));
  k t
theorem zq9 (hΓ : ΓOk Try.prog made_Light_X.Γ) : SpecOk Try.prog 4 (zq7 (zq8)) :=
  spec_exec (X := made_Light_X) (Λ := pick1 []) (rs := [.tmp 2]) (c := bodyOf Try.f4) mixed tab_ok hΓ Try.func4 (by kernel_rfl) (by kernel_rfl) (by kernel_rfl) (by kernel_rfl) CutsOk_nil (fun x k r h => Eq.trans (b := (zq7 (zq8)).run x k) (by kernel_rfl) h)
end
theorem zqaΓ : ΓOk Try.prog (pick1 []) := ΓOk_nil
def zqb : zq6 := zq8
theorem zqc : SpecOk Try.prog 4 (zq7 zqb) := zq9 zqaΓ

/-- pagewatch/pagewatchmade.Roll -/
abbrev zqd := {β : Type} → (List Int) → ((List Int × Int) → Option β) → Option β
def zqe (c : zqd) : Spec :=
  ⟨[(false, [.data (.slice (.int .i64))])], [], [(false, [.ptr 0 0])], [.cells 68 [.data (.prod (.slice (.int .i64)) (.int .i64))]], fun x k => c x.1.1.1 (fun r0 => k (((), ()), ((r0, ()), ())))⟩
section
@[reducible] def made_Roll_X : Ctx := ⟨look tab, pick1 [], false⟩
def zqf {β : Type} (l : List Int) (k : ((List Int × Int) → Option β)) : Option β :=
  k (l, (0 : Int))
theorem zqg (hΓ : ΓOk Try.prog made_Roll_X.Γ) : SpecOk Try.prog 6 (zqe (zqf)) :=
  spec_exec (X := made_Roll_X) (Λ := pick1 []) (rs := [.tmp 2]) (c := bodyOf Try.f6) mixed tab_ok hΓ Try.func6 (by kernel_rfl) (by kernel_rfl) (by kernel_rfl) (by kernel_rfl) CutsOk_nil (fun x k r h => Eq.trans (b := (zqe (zqf)).run x k) (by kernel_rfl) h)
end
theorem zqhΓ : ΓOk Try.prog (pick1 []) := ΓOk_nil
def zqi : zqd := zqf
theorem zqj : SpecOk Try.prog 6 (zqe zqi) := zqg zqhΓ

/-- pagewatch/pagewatchref40.SameRanges -/
abbrev zqk := {β : Type} → (List (Int × Int)) → (List (Int × Int)) → (Bool → Option β) → Option β
def zql (c : zqk) : Spec :=
  ⟨[(false, [.data (.slice (.prod (.int .i64) (.int .i64)))]), (false, [.data (.slice (.prod (.int .i64) (.int .i64)))])], [], [(false, [.data .bool])], [], fun x k => c x.1.1.1 x.1.2.1.1 (fun r0 => k (((r0, ()), ()), ()))⟩
noncomputable def ref40_SameRanges_p1_code : Code := codeAt 58 (bodyOf Try.f17)
abbrev zqm (β : Type) := Bool → Option β
abbrev zqn (β : Type) := Unit → Option β
abbrev zqo := {β : Type} → zqm β → zqn β → (List (Int × Int)) → (List (Int × Int)) → Int → Option β
def zqp : View := ⟨0, [0, 1, 5], [(false, [.data (.slice (.prod (.int .i64) (.int .i64)))]), (false, [.data (.slice (.prod (.int .i64) (.int .i64)))]), (false, [.data (.int .i64)])], []⟩
def zqq : List (AExit × View) := [(.ret, ⟨0, [4], [(false, [.data .bool])], []⟩), (.exit 0, ⟨0, [], [], []⟩)]
@[reducible] def ref40_SameRanges_p1_G (p : zqo) {β : Type} (d : zqp.den) (ks : Outs.K β zqq) : Option β :=
  p (fun a0 => ks.1 (((a0, ()), ()), ())) (fun _ => ks.2.1 ((), ())) d.1.1.1 d.1.2.1.1 d.1.2.2.1.1
section
@[reducible] def ref40_SameRanges_X : Ctx := ⟨look tab, pick1 [], false⟩
def zqr {β : Type} (rec : (List (Int × Int)) → (List (Int × Int)) → Int → Option β) (k1 : zqm β) (k2 : zqn β) (a : List (Int × Int)) (b : List (Int × Int)) (i_ : Int) : Option β :=
  cond (decide (i_ < (List.length a : Int)))
  (cond (decide (0 ≤ i_) && decide (i_ < (List.length a : Int)))
  (let e : (Int × Int) := List.getD a (Int.toNat i_) ((0 : Int), (0 : Int));
  cond (decide (0 ≤ i_) && decide (i_ < (List.length b : Int)))
  (let e2 : (Int × Int) := List.getD b (Int.toNat i_) ((0 : Int), (0 : Int));
  cond (!(decide (e.1 = e2.1) && (decide (e.2 = e2.2) && true)))
  (k1 false)
  (let i_2 : Int := (IntKind.i64.wrap (i_ + (1 : Int)));
  rec a b i_2))
  none)
  none)
  (k2 ())
def zqs {β : Type} : Nat → zqm β → zqn β → (List (Int × Int)) → (List (Int × Int)) → Int → Option β
  | 0 => fun _ _ _ _ _ => none
  | i + 1 => fun k1 k2 a b i_ => zqr (zqs i k1 k2) k1 k2 a b i_
theorem zqt (hΓ : ΓOk Try.prog ref40_SameRanges_X.Γ) (i : Nat) : PieceOk Try.prog 26 0 ref40_SameRanges_p1_code zqp zqq (ref40_SameRanges_p1_G (zqs i)) := by
  rw [show ref40_SameRanges_p1_code = .loop (loopBody ref40_SameRanges_p1_code) by kernel_rfl]
  exact piece_loop (X := ref40_SameRanges_X) (p := 1) (Λ := pick1 []) (G := fun i => @fun β d ks => ref40_SameRanges_p1_G (zqs i) d ks) mixed tab_ok hΓ rfl (by kernel_rfl) CutsOk_nil (fun _ _ => rfl) (fun i => @fun β d ks r h => Eq.trans (b := ref40_SameRanges_p1_G (zqs (i + 1)) d ks) (by kernel_rfl) h) i
def zqu (p1 : zqo) {β : Type} (a : List (Int × Int)) (b : List (Int × Int)) (k : (Bool → Option β)) : Option β :=
  cond (!decide ((List.length a : Int) = (List.length b : Int)))
  (k false)
  (p1 (fun (t4 : Bool) =>
  k t4) (fun (_ : Unit) =>
  k true) a b (0 : Int))
theorem zqv (hΓ : ΓOk Try.prog ref40_SameRanges_X.Γ) (p1 : zqo) (hp1 : PieceOk Try.prog 26 0 ref40_SameRanges_p1_code zqp zqq (ref40_SameRanges_p1_G p1)) : SpecOk Try.prog 17 (zql (zqu p1)) :=
  spec_exec (X := ref40_SameRanges_X) (Λ := pick1 [(58, pieceCut zqp zqq (ref40_SameRanges_p1_G p1))]) (rs := [.tmp 4]) (c := bodyOf Try.f17) mixed tab_ok hΓ Try.func17 (by kernel_rfl) (by kernel_rfl) (by kernel_rfl) (by kernel_rfl) (CutsOk_cons (q := 58) (c' := ref40_SameRanges_p1_code) (by kernel_rfl) rfl hp1 CutsOk_nil) (fun x k r h => Eq.trans (b := (zql (zqu p1)).run x k) (by kernel_rfl) h)
end
theorem zqwΓ : ΓOk Try.prog (pick1 []) := ΓOk_nil
def zqx (m : Nat) : zqo := zqs m
theorem zqy {β : Type} (i : Nat) (k1 k2 a b i_) : (zqx (i + 1) k1 k2 a b i_ : Option β) = zqr (zqx i k1 k2) k1 k2 a b i_ := rfl
def zqz : zqo := zqx fuel
theorem zq10 : PieceOk Try.prog 26 0 ref40_SameRanges_p1_code zqp zqq (ref40_SameRanges_p1_G zqz) := zqt zqwΓ fuel
def zq11 : zqk := zqu zqz
theorem zq12 : SpecOk Try.prog 17 (zql zq11) := zqv zqwΓ zqz zq10

/-- pagewatch/pagewatchref25.Same -/
abbrev zq13 := {β : Type} → (List Int) → (List Int) → (Bool → Option β) → Option β
def zq14 (c : zq13) : Spec :=
  ⟨[(false, [.data (.slice (.int .i64))]), (false, [.data (.slice (.int .i64))])], [], [(false, [.data .bool])], [], fun x k => c x.1.1.1 x.1.2.1.1 (fun r0 => k (((r0, ()), ()), ()))⟩
noncomputable def ref25_Same_p1_code : Code := codeAt 58 (bodyOf Try.f18)
abbrev zq15 (β : Type) := Bool → Option β
abbrev zq16 (β : Type) := Unit → Option β
abbrev zq17 := {β : Type} → zq15 β → zq16 β → (List Int) → (List Int) → Int → Option β
def zq18 : View := ⟨0, [0, 1, 5], [(false, [.data (.slice (.int .i64))]), (false, [.data (.slice (.int .i64))]), (false, [.data (.int .i64)])], []⟩
def zq19 : List (AExit × View) := [(.ret, ⟨0, [4], [(false, [.data .bool])], []⟩), (.exit 0, ⟨0, [], [], []⟩)]
@[reducible] def ref25_Same_p1_G (p : zq17) {β : Type} (d : zq18.den) (ks : Outs.K β zq19) : Option β :=
  p (fun a0 => ks.1 (((a0, ()), ()), ())) (fun _ => ks.2.1 ((), ())) d.1.1.1 d.1.2.1.1 d.1.2.2.1.1
section
@[reducible] def ref25_Same_X : Ctx := ⟨look tab, pick1 [], false⟩
def zq1a {β : Type} (rec : (List Int) → (List Int) → Int → Option β) (k1 : zq15 β) (k2 : zq16 β) (a : List Int) (b : List Int) (i_ : Int) : Option β :=
  cond (decide (i_ < (List.length a : Int)))
  (cond (decide (0 ≤ i_) && decide (i_ < (List.length a : Int)))
  (let e : Int := List.getD a (Int.toNat i_) (0 : Int);
  cond (decide (0 ≤ i_) && decide (i_ < (List.length b : Int)))
  (let e2 : Int := List.getD b (Int.toNat i_) (0 : Int);
  cond (!decide (e = e2))
  (k1 false)
  (let i_2 : Int := (IntKind.i64.wrap (i_ + (1 : Int)));
  rec a b i_2))
  none)
  none)
  (k2 ())
def zq1b {β : Type} : Nat → zq15 β → zq16 β → (List Int) → (List Int) → Int → Option β
  | 0 => fun _ _ _ _ _ => none
  | i + 1 => fun k1 k2 a b i_ => zq1a (zq1b i k1 k2) k1 k2 a b i_
theorem zq1c (hΓ : ΓOk Try.prog ref25_Same_X.Γ) (i : Nat) : PieceOk Try.prog 26 0 ref25_Same_p1_code zq18 zq19 (ref25_Same_p1_G (zq1b i)) := by
  rw [show ref25_Same_p1_code = .loop (loopBody ref25_Same_p1_code) by kernel_rfl]
  exact piece_loop (X := ref25_Same_X) (p := 1) (Λ := pick1 []) (G := fun i => @fun β d ks => ref25_Same_p1_G (zq1b i) d ks) mixed tab_ok hΓ rfl (by kernel_rfl) CutsOk_nil (fun _ _ => rfl) (fun i => @fun β d ks r h => Eq.trans (b := ref25_Same_p1_G (zq1b (i + 1)) d ks) (by kernel_rfl) h) i
def zq1d (p1 : zq17) {β : Type} (a : List Int) (b : List Int) (k : (Bool → Option β)) : Option β :=
  cond (!decide ((List.length a : Int) = (List.length b : Int)))
  (k false)
  (p1 (fun (t4 : Bool) =>
  k t4) (fun (_ : Unit) =>
  k true) a b (0 : Int))
theorem zq1e (hΓ : ΓOk Try.prog ref25_Same_X.Γ) (p1 : zq17) (hp1 : PieceOk Try.prog 26 0 ref25_Same_p1_code zq18 zq19 (ref25_Same_p1_G p1)) : SpecOk Try.prog 18 (zq14 (zq1d p1)) :=
  spec_exec (X := ref25_Same_X) (Λ := pick1 [(58, pieceCut zq18 zq19 (ref25_Same_p1_G p1))]) (rs := [.tmp 4]) (c := bodyOf Try.f18) mixed tab_ok hΓ Try.func18 (by kernel_rfl) (by kernel_rfl) (by kernel_rfl) (by kernel_rfl) (CutsOk_cons (q := 58) (c' := ref25_Same_p1_code) (by kernel_rfl) rfl hp1 CutsOk_nil) (fun x k r h => Eq.trans (b := (zq14 (zq1d p1)).run x k) (by kernel_rfl) h)
end
theorem zq1fΓ : ΓOk Try.prog (pick1 []) := ΓOk_nil
def zq1g (m : Nat) : zq17 := zq1b m
theorem zq1h {β : Type} (i : Nat) (k1 k2 a b i_) : (zq1g (i + 1) k1 k2 a b i_ : Option β) = zq1a (zq1g i k1 k2) k1 k2 a b i_ := rfl
def zq1i : zq17 := zq1g fuel
theorem zq1j : PieceOk Try.prog 26 0 ref25_Same_p1_code zq18 zq19 (ref25_Same_p1_G zq1i) := zq1c zq1fΓ fuel
def zq1k : zq13 := zq1d zq1i
theorem zq1l : SpecOk Try.prog 18 (zq14 zq1k) := zq1e zq1fΓ zq1i zq1j

/-- pagewatch/pagewatchlaw40.pairs -/
abbrev zq1m := {β : Type} → (List (Int × Int)) → (List (Int × Int)) → (Bool → Option β) → Option β
def zq1n (c : zq1m) : Spec :=
  ⟨[(false, [.data (.slice (.prod (.int .i64) (.int .i64)))]), (false, [.data (.slice (.prod (.int .i64) (.int .i64)))])], [], [(false, [.data .bool])], [], fun x k => c x.1.1.1 x.1.2.1.1 (fun r0 => k (((r0, ()), ()), ()))⟩
noncomputable def law40_pairs_p1_code : Code := codeAt 58 (bodyOf Try.f19)
abbrev zq1o (β : Type) := Bool → Option β
abbrev zq1p (β : Type) := Unit → Option β
abbrev zq1q := {β : Type} → zq1o β → zq1p β → (List (Int × Int)) → (List (Int × Int)) → Int → Int → Option β
def zq1r : View := ⟨0, [0, 1, 12, 13], [(false, [.data (.slice (.prod (.int .i64) (.int .i64)))]), (false, [.data (.slice (.prod (.int .i64) (.int .i64)))]), (false, [.data (.int .i64)]), (false, [.data (.int .i64)])], []⟩
def zq1s : List (AExit × View) := [(.ret, ⟨0, [4], [(false, [.data .bool])], []⟩), (.exit 0, ⟨0, [], [], []⟩)]
@[reducible] def law40_pairs_p1_G (p : zq1q) {β : Type} (d : zq1r.den) (ks : Outs.K β zq1s) : Option β :=
  p (fun a0 => ks.1 (((a0, ()), ()), ())) (fun _ => ks.2.1 ((), ())) d.1.1.1 d.1.2.1.1 d.1.2.2.1.1 d.1.2.2.2.1.1
section
@[reducible] def law40_pairs_X : Ctx := ⟨look tab, pick1 [], false⟩
def zq1t {β : Type} (rec : (List (Int × Int)) → (List (Int × Int)) → Int → Int → Option β) (k1 : zq1o β) (k2 : zq1p β) (a : List (Int × Int)) (b : List (Int × Int)) (t12 : Int) (t13 : Int) : Option β :=
  cond (decide (t13 < t12))
  (cond (decide (0 ≤ t13) && decide (t13 < (List.length a : Int)))
  (let e : (Int × Int) := List.getD a (Int.toNat t13) ((0 : Int), (0 : Int));
  cond (decide (0 ≤ t13) && decide (t13 < (List.length b : Int)))
  (let e2 : (Int × Int) := List.getD b (Int.toNat t13) ((0 : Int), (0 : Int));
  cond (!(decide (e.1 = e2.1) && (decide (e.2 = e2.2) && true)))
  (k1 false)
  (rec a b t12 (IntKind.i64.wrap (t13 + (1 : Int)))))
  none)
  none)
  (k2 ())
def zq1u {β : Type} : Nat → zq1o β → zq1p β → (List (Int × Int)) → (List (Int × Int)) → Int → Int → Option β
  | 0 => fun _ _ _ _ _ _ => none
  | i + 1 => fun k1 k2 a b t12 t13 => zq1t (zq1u i k1 k2) k1 k2 a b t12 t13
theorem zq1v (hΓ : ΓOk Try.prog law40_pairs_X.Γ) (i : Nat) : PieceOk Try.prog 26 0 law40_pairs_p1_code zq1r zq1s (law40_pairs_p1_G (zq1u i)) := by
  rw [show law40_pairs_p1_code = .loop (loopBody law40_pairs_p1_code) by kernel_rfl]
  exact piece_loop (X := law40_pairs_X) (p := 1) (Λ := pick1 []) (G := fun i => @fun β d ks => law40_pairs_p1_G (zq1u i) d ks) mixed tab_ok hΓ rfl (by kernel_rfl) CutsOk_nil (fun _ _ => rfl) (fun i => @fun β d ks r h => Eq.trans (b := law40_pairs_p1_G (zq1u (i + 1)) d ks) (by kernel_rfl) h) i
def zq1w (p1 : zq1q) {β : Type} (a : List (Int × Int)) (b : List (Int × Int)) (k : (Bool → Option β)) : Option β :=
  cond (!decide ((List.length a : Int) = (List.length b : Int)))
  (k false)
  (p1 (fun (t4 : Bool) =>
  k t4) (fun (_ : Unit) =>
  k true) a b (List.length a : Int) (0 : Int))
theorem zq1x (hΓ : ΓOk Try.prog law40_pairs_X.Γ) (p1 : zq1q) (hp1 : PieceOk Try.prog 26 0 law40_pairs_p1_code zq1r zq1s (law40_pairs_p1_G p1)) : SpecOk Try.prog 19 (zq1n (zq1w p1)) :=
  spec_exec (X := law40_pairs_X) (Λ := pick1 [(58, pieceCut zq1r zq1s (law40_pairs_p1_G p1))]) (rs := [.tmp 4]) (c := bodyOf Try.f19) mixed tab_ok hΓ Try.func19 (by kernel_rfl) (by kernel_rfl) (by kernel_rfl) (by kernel_rfl) (CutsOk_cons (q := 58) (c' := law40_pairs_p1_code) (by kernel_rfl) rfl hp1 CutsOk_nil) (fun x k r h => Eq.trans (b := (zq1n (zq1w p1)).run x k) (by kernel_rfl) h)
end
theorem zq1yΓ : ΓOk Try.prog (pick1 []) := ΓOk_nil
def zq1z (m : Nat) : zq1q := zq1u m
theorem zq20 {β : Type} (i : Nat) (k1 k2 a b t12 t13) : (zq1z (i + 1) k1 k2 a b t12 t13 : Option β) = zq1t (zq1z i k1 k2) k1 k2 a b t12 t13 := rfl
def zq21 : zq1q := zq1z fuel
theorem zq22 : PieceOk Try.prog 26 0 law40_pairs_p1_code zq1r zq1s (law40_pairs_p1_G zq21) := zq1v zq1yΓ fuel
def zq23 : zq1m := zq1w zq21
theorem zq24 : SpecOk Try.prog 19 (zq1n zq23) := zq1x zq1yΓ zq21 zq22

/-- (*pagewatch/pagewatchmade.Dice).Next -/
abbrev zq25 := {β : Type} → Int → (List Int × Int) → (Int → (List Int × Int) → Option β) → Option β
def zq26 (c : zq25) : Spec :=
  ⟨[(false, [.ptr 0 0]), (false, [.data (.int .i64)])], [.cells 68 [.data (.prod (.slice (.int .i64)) (.int .i64))]], [(false, [.data (.int .i64)])], [.cells 68 [.data (.prod (.slice (.int .i64)) (.int .i64))]], fun x k => c x.1.2.1.1 x.2.1.1 (fun r0 r1 => k (((r0, ()), ()), ((r1, ()), ())))⟩
section
@[reducible] def made_Dice_Next_X : Ctx := ⟨look tab, pick1 [], false⟩
def zq27 {β : Type} (n : Int) (d : (List Int × Int)) (k : (Int → (List Int × Int) → Option β)) : Option β :=
  cond (decide ((List.length d.1 : Int) ≤ d.2))
  (k (0 : Int) d)
  (cond (decide (n < (1 : Int)))
  (k (0 : Int) d)
  (cond (decide (0 ≤ d.2) && decide (d.2 < (List.length d.1 : Int)))
  (let e : Int := List.getD d.1 (Int.toNat d.2) (0 : Int);
  cond (!decide (n = 0))
  (cond (decide ((Int.tmod e n) < (0 : Int)))
  (let x : Int := (IntKind.i64.wrap ((Int.tmod e n) + n));
  k x (d.1, (IntKind.i64.wrap (d.2 + (1 : Int)))))
  (k (Int.tmod e n) (d.1, (IntKind.i64.wrap (d.2 + (1 : Int))))))
  none)
  none))
theorem zq28 (hΓ : ΓOk Try.prog made_Dice_Next_X.Γ) : SpecOk Try.prog 22 (zq26 (zq27)) :=
  spec_exec (X := made_Dice_Next_X) (Λ := pick1 []) (rs := [.tmp 4]) (c := bodyOf Try.f22) mixed tab_ok hΓ Try.func22 (by kernel_rfl) (by kernel_rfl) (by kernel_rfl) (by kernel_rfl) CutsOk_nil (fun x k r h => Eq.trans (b := (zq26 (zq27)).run x k) (by kernel_rfl) h)
end
theorem zq29Γ : ΓOk Try.prog (pick1 []) := ΓOk_nil
def zq2a : zq25 := zq27
theorem zq2b : SpecOk Try.prog 22 (zq26 zq2a) := zq28 zq29Γ

/-- pagewatch/pagewatchlaw40.two -/
abbrev zq2c := {β : Type} → (zq4 → Option β) → Option β
def zq2d (c : zq2c) : Spec :=
  ⟨[], [], [(true, [.data zq5])], [], fun x k => c  (fun r0 => k (((r0, ()), ()), ()))⟩
section
@[reducible] def law40_two_X : Ctx := ⟨look tab, pick1 [], false⟩
def zq2e {β : Type} (k : (zq4 → Option β)) : Option β :=
  let l : List (List UInt8 × Int) := ([(([97] : List UInt8), (0 : Int)), (([98] : List UInt8), (0 : Int))] : List (List UInt8 × Int));
  let l2 : List zq2 := ([((0 : Int), ((100 : Int), ((1000 : Int), (1010 : Int)))), ((1 : Int), ((100 : Int), ((1000 : Int), (1010 : Int))))] : List zq2);
  let l3 : List zq0 := ([((0 : Int), ((100 : Int), ([120] : List UInt8))), ((1 : Int), ((105 : Int), ([121] : List UInt8)))] : List zq0);
  k (l, (l2, (l3, ([] : List (Int × (Int × Int))))))
theorem zq2f (hΓ : ΓOk Try.prog law40_two_X.Γ) : SpecOk Try.prog 31 (zq2d (zq2e)) :=
  spec_exec (X := law40_two_X) (Λ := pick1 []) (rs := [.cell 0 28]) (c := bodyOf Try.f31) mixed tab_ok hΓ Try.func31 (by kernel_rfl) (by kernel_rfl) (by kernel_rfl) (by kernel_rfl) CutsOk_nil (fun x k r h => Eq.trans (b := (zq2d (zq2e)).run x k) (by kernel_rfl) h)
end
theorem zq2gΓ : ΓOk Try.prog (pick1 []) := ΓOk_nil
def zq2h : zq2c := zq2e
theorem zq2i : SpecOk Try.prog 31 (zq2d zq2h) := zq2f zq2gΓ

/-- (*pagewatch/pagewatchmade.Dice).One -/
abbrev zq2j := {β : Type} → (List Int) → (List Int × Int) → (Int → (List Int × Int) → Option β) → Option β
def zq2k (c : zq2j) : Spec :=
  ⟨[(false, [.ptr 0 0]), (false, [.data (.slice (.int .i64))])], [.cells 68 [.data (.prod (.slice (.int .i64)) (.int .i64))]], [(false, [.data (.int .i64)])], [.cells 68 [.data (.prod (.slice (.int .i64)) (.int .i64))]], fun x k => c x.1.2.1.1 x.2.1.1 (fun r0 r1 => k (((r0, ()), ()), ((r1, ()), ())))⟩
section
variable (c_made_Dice_Next : zq25)
@[reducible] def made_Dice_One_X : Ctx := ⟨look tab, pick1 [(22, .spec (zq26 c_made_Dice_Next))], false⟩
def zq2l {β : Type} (l : List Int) (d : (List Int × Int)) (k : (Int → (List Int × Int) → Option β)) : Option β :=
  c_made_Dice_Next (List.length l : Int) d (fun (rNext : Int) (mrNext : (List Int × Int)) =>
  cond (decide (0 ≤ rNext) && decide (rNext < (List.length l : Int)))
  (let e : Int := List.getD l (Int.toNat rNext) (0 : Int);
  k e mrNext)
  none)
theorem zq2m (hΓ : ΓOk Try.prog (made_Dice_One_X c_made_Dice_Next).Γ) : SpecOk Try.prog 32 (zq2k (zq2l c_made_Dice_Next)) :=
  spec_exec (X := (made_Dice_One_X c_made_Dice_Next)) (Λ := pick1 []) (rs := [.tmp 4]) (c := bodyOf Try.f32) mixed tab_ok hΓ Try.func32 (by kernel_rfl) (by kernel_rfl) (by kernel_rfl) (by kernel_rfl) CutsOk_nil (fun x k r h => Eq.trans (b := (zq2k (zq2l c_made_Dice_Next)).run x k) (by kernel_rfl) h)
end
theorem zq2nΓ : ΓOk Try.prog (pick1 [(22, .spec (zq26 zq2a))]) := (ΓOk_cons zq2b ΓOk_nil)
def zq2o : zq2j := zq2l zq2a
theorem zq2p : SpecOk Try.prog 32 (zq2k zq2o) := zq2m zq2a zq2nΓ

/-- (pagewatch/order.matrix).when -/
abbrev zq2q := {β : Type} → (List (List Int)) → Int → ((Int × Int) → Option β) → Option β
def zq2r (c : zq2q) : Spec :=
  ⟨[(false, [.data (.slice (.slice (.int .i64)))]), (false, [.data (.int .i64)])], [], [(true, [.data (.prod (.int .i64) (.int .i64))])], [], fun x k => c x.1.1.1 x.1.2.1.1 (fun r0 => k (((r0, ()), ()), ()))⟩
section
@[reducible] def order_matrix_when_X : Ctx := ⟨look tab, pick1 [], false⟩
def zq2s {β : Type} (m : List (List Int)) (i_ : Int) (k : ((Int × Int) → Option β)) : Option β :=
  cond (decide (0 ≤ (IntKind.i64.wrap (i_ + (1 : Int)))) && decide ((IntKind.i64.wrap (i_ + (1 : Int))) < (List.length m : Int)))
  (let e : List Int := List.getD m (Int.toNat (IntKind.i64.wrap (i_ + (1 : Int)))) ([] : List Int);
  cond (decide (0 ≤ (0 : Int)) && decide ((0 : Int) < (List.length e : Int)))
  (let e2 : Int := List.getD e (Int.toNat (0 : Int)) (0 : Int);
  cond (decide (0 ≤ (0 : Int)) && decide ((0 : Int) < (List.length m : Int)))
  (let e3 : List Int := List.getD m (Int.toNat (0 : Int)) ([] : List Int);
  cond (decide (0 ≤ (IntKind.i64.wrap (i_ + (1 : Int)))) && decide ((IntKind.i64.wrap (i_ + (1 : Int))) < (List.length e3 : Int)))
  (let e4 : Int := List.getD e3 (Int.toNat (IntKind.i64.wrap (i_ + (1 : Int)))) (0 : Int);
  k ((IntKind.i64.wrap (0 - e2)), e4))
  none)
  none)
  none)
  none
theorem zq2t (hΓ : ΓOk Try.prog order_matrix_when_X.Γ) : SpecOk Try.prog 41 (zq2r (zq2s)) :=
  spec_exec (X := order_matrix_when_X) (Λ := pick1 []) (rs := [.cell 4 56]) (c := bodyOf Try.f41) mixed tab_ok hΓ Try.func41 (by kernel_rfl) (by kernel_rfl) (by kernel_rfl) (by kernel_rfl) CutsOk_nil (fun x k r h => Eq.trans (b := (zq2r (zq2s)).run x k) (by kernel_rfl) h)
end
theorem zq2uΓ : ΓOk Try.prog (pick1 []) := ΓOk_nil
def zq2v : zq2q := zq2s
theorem zq2w : SpecOk Try.prog 41 (zq2r zq2v) := zq2t zq2uΓ

/-- (pagewatch/order.matrix).before -/
abbrev zq2x := {β : Type} → (List (List Int)) → Int → Int → (Bool → Option β) → Option β
def zq2y (c : zq2x) : Spec :=
  ⟨[(false, [.data (.slice (.slice (.int .i64)))]), (false, [.data (.int .i64)]), (false, [.data (.int .i64)])], [], [(false, [.data .bool])], [], fun x k => c x.1.1.1 x.1.2.1.1 x.1.2.2.1.1 (fun r0 => k (((r0, ()), ()), ()))⟩
section
@[reducible] def order_matrix_before_X : Ctx := ⟨look tab, pick1 [], false⟩
def zq2z {β : Type} (m : List (List Int)) (a : Int) (b : Int) (k : (Bool → Option β)) : Option β :=
  cond (decide (0 ≤ (IntKind.i64.wrap (b + (1 : Int)))) && decide ((IntKind.i64.wrap (b + (1 : Int))) < (List.length m : Int)))
  (let e : List Int := List.getD m (Int.toNat (IntKind.i64.wrap (b + (1 : Int)))) ([] : List Int);
  cond (decide (0 ≤ (IntKind.i64.wrap (a + (1 : Int)))) && decide ((IntKind.i64.wrap (a + (1 : Int))) < (List.length e : Int)))
  (let e2 : Int := List.getD e (Int.toNat (IntKind.i64.wrap (a + (1 : Int)))) (0 : Int);
  let t : Bool := (decide (e2 ≤ (-1 : Int)));
  k t)
  none)
  none
theorem zq30 (hΓ : ΓOk Try.prog order_matrix_before_X.Γ) : SpecOk Try.prog 42 (zq2y (zq2z)) :=
  spec_exec (X := order_matrix_before_X) (Λ := pick1 []) (rs := [.tmp 6]) (c := bodyOf Try.f42) mixed tab_ok hΓ Try.func42 (by kernel_rfl) (by kernel_rfl) (by kernel_rfl) (by kernel_rfl) CutsOk_nil (fun x k r h => Eq.trans (b := (zq2y (zq2z)).run x k) (by kernel_rfl) h)
end
theorem zq31Γ : ΓOk Try.prog (pick1 []) := ΓOk_nil
def zq32 : zq2x := zq2z
theorem zq33 : SpecOk Try.prog 42 (zq2y zq32) := zq30 zq31Γ

/-- (pagewatch/order.matrix).earlier -/
abbrev zq34 := {β : Type} → (List (List Int)) → Int → Int → (Bool → Option β) → Option β
def zq35 (c : zq34) : Spec :=
  ⟨[(false, [.data (.slice (.slice (.int .i64)))]), (false, [.data (.int .i64)]), (false, [.data (.int .i64)])], [], [(false, [.data .bool])], [], fun x k => c x.1.1.1 x.1.2.1.1 x.1.2.2.1.1 (fun r0 => k (((r0, ()), ()), ()))⟩
section
variable (c_order_matrix_when : zq2q)
@[reducible] def order_matrix_earlier_X : Ctx := ⟨look tab, pick1 [(41, .spec (zq2r c_order_matrix_when))], false⟩
def zq36 {β : Type} (m : List (List Int)) (a : Int) (b : Int) (k : (Bool → Option β)) : Option β :=
  c_order_matrix_when m a (fun (rwhen : (Int × Int)) =>
  c_order_matrix_when m b (fun (rwhen2 : (Int × Int)) =>
  cond (decide (rwhen.1 < rwhen2.1))
  (k true)
  (cond (decide (rwhen.1 = rwhen2.1))
  (let t : Bool := (decide (rwhen.2 < rwhen2.2));
  k t)
  (k false))))
theorem zq37 (hΓ : ΓOk Try.prog (order_matrix_earlier_X c_order_matrix_when).Γ) : SpecOk Try.prog 43 (zq35 (zq36 c_order_matrix_when)) :=
  spec_exec (X := (order_matrix_earlier_X c_order_matrix_when)) (Λ := pick1 []) (rs := [.tmp 6]) (c := bodyOf Try.f43) mixed tab_ok hΓ Try.func43 (by kernel_rfl) (by kernel_rfl) (by kernel_rfl) (by kernel_rfl) CutsOk_nil (fun x k r h => Eq.trans (b := (zq35 (zq36 c_order_matrix_when)).run x k) (by kernel_rfl) h)
end
theorem zq38Γ : ΓOk Try.prog (pick1 [(41, .spec (zq2r zq2v))]) := (ΓOk_cons zq2w ΓOk_nil)
def zq39 : zq34 := zq36 zq2v
theorem zq3a : SpecOk Try.prog 43 (zq35 zq39) := zq37 zq2v zq38Γ

/-- pagewatch/pagewatchref25.Has -/
abbrev zq3b := {β : Type} → (List Int) → Int → (Bool → Option β) → Option β
def zq3c (c : zq3b) : Spec :=
  ⟨[(false, [.data (.slice (.int .i64))]), (false, [.data (.int .i64)])], [], [(false, [.data .bool])], [], fun x k => c x.1.1.1 x.1.2.1.1 (fun r0 => k (((r0, ()), ()), ()))⟩
noncomputable def ref25_Has_p1_code : Code := codeAt 26 (bodyOf Try.f44)
abbrev zq3d (β : Type) := Bool → Option β
abbrev zq3e (β : Type) := Unit → Option β
abbrev zq3f := {β : Type} → zq3d β → zq3e β → (List Int) → Int → Int → Option β
def zq3g : View := ⟨0, [0, 1, 5], [(false, [.data (.slice (.int .i64))]), (false, [.data (.int .i64)]), (false, [.data (.int .i64)])], []⟩
def zq3h : List (AExit × View) := [(.ret, ⟨0, [4], [(false, [.data .bool])], []⟩), (.exit 0, ⟨0, [], [], []⟩)]
@[reducible] def ref25_Has_p1_G (p : zq3f) {β : Type} (d : zq3g.den) (ks : Outs.K β zq3h) : Option β :=
  p (fun a0 => ks.1 (((a0, ()), ()), ())) (fun _ => ks.2.1 ((), ())) d.1.1.1 d.1.2.1.1 d.1.2.2.1.1
section
@[reducible] def ref25_Has_X : Ctx := ⟨look tab, pick1 [], false⟩
def zq3i {β : Type} (rec : (List Int) → Int → Int → Option β) (k1 : zq3d β) (k2 : zq3e β) (l : List Int) (x : Int) (i_ : Int) : Option β :=
  cond (decide (i_ < (List.length l : Int)))
  (cond (decide (0 ≤ i_) && decide (i_ < (List.length l : Int)))
  (let e : Int := List.getD l (Int.toNat i_) (0 : Int);
  cond (decide (e = x))
  (k1 true)
  (let i_2 : Int := (IntKind.i64.wrap (i_ + (1 : Int)));
  rec l x i_2))
  none)
  (k2 ())
def zq3j {β : Type} : Nat → zq3d β → zq3e β → (List Int) → Int → Int → Option β
  | 0 => fun _ _ _ _ _ => none
  | i + 1 => fun k1 k2 l x i_ => zq3i (zq3j i k1 k2) k1 k2 l x i_
theorem zq3k (hΓ : ΓOk Try.prog ref25_Has_X.Γ) (i : Nat) : PieceOk Try.prog 18 0 ref25_Has_p1_code zq3g zq3h (ref25_Has_p1_G (zq3j i)) := by
  rw [show ref25_Has_p1_code = .loop (loopBody ref25_Has_p1_code) by kernel_rfl]
  exact piece_loop (X := ref25_Has_X) (p := 1) (Λ := pick1 []) (G := fun i => @fun β d ks => ref25_Has_p1_G (zq3j i) d ks) mixed tab_ok hΓ rfl (by kernel_rfl) CutsOk_nil (fun _ _ => rfl) (fun i => @fun β d ks r h => Eq.trans (b := ref25_Has_p1_G (zq3j (i + 1)) d ks) (by kernel_rfl) h) i
def zq3l (p1 : zq3f) {β : Type} (l : List Int) (x : Int) (k : (Bool → Option β)) : Option β :=
  p1 (fun (t4 : Bool) =>
  k t4) (fun (_ : Unit) =>
  k false) l x (0 : Int)
theorem zq3m (hΓ : ΓOk Try.prog ref25_Has_X.Γ) (p1 : zq3f) (hp1 : PieceOk Try.prog 18 0 ref25_Has_p1_code zq3g zq3h (ref25_Has_p1_G p1)) : SpecOk Try.prog 44 (zq3c (zq3l p1)) :=
  spec_exec (X := ref25_Has_X) (Λ := pick1 [(26, pieceCut zq3g zq3h (ref25_Has_p1_G p1))]) (rs := [.tmp 4]) (c := bodyOf Try.f44) mixed tab_ok hΓ Try.func44 (by kernel_rfl) (by kernel_rfl) (by kernel_rfl) (by kernel_rfl) (CutsOk_cons (q := 26) (c' := ref25_Has_p1_code) (by kernel_rfl) rfl hp1 CutsOk_nil) (fun x k r h => Eq.trans (b := (zq3c (zq3l p1)).run x k) (by kernel_rfl) h)
end
theorem zq3nΓ : ΓOk Try.prog (pick1 []) := ΓOk_nil
def zq3o (m : Nat) : zq3f := zq3j m
theorem zq3p {β : Type} (i : Nat) (k1 k2 l x i_) : (zq3o (i + 1) k1 k2 l x i_ : Option β) = zq3i (zq3o i k1 k2) k1 k2 l x i_ := rfl
def zq3q : zq3f := zq3o fuel
theorem zq3r : PieceOk Try.prog 18 0 ref25_Has_p1_code zq3g zq3h (ref25_Has_p1_G zq3q) := zq3k zq3nΓ fuel
def zq3s : zq3b := zq3l zq3q
theorem zq3t : SpecOk Try.prog 44 (zq3c zq3s) := zq3m zq3nΓ zq3q zq3r

/-- pagewatch/pagewatchref40.compare -/
abbrev zq3u := {β : Type} → (List (List Int)) → Int → Int → (Int → Option β) → Option β
def zq3v (c : zq3u) : Spec :=
  ⟨[(false, [.data (.slice (.slice (.int .i64)))]), (false, [.data (.int .i64)]), (false, [.data (.int .i64)])], [], [(false, [.data (.int .i64)])], [], fun x k => c x.1.1.1 x.1.2.1.1 x.1.2.2.1.1 (fun r0 => k (((r0, ()), ()), ()))⟩
section
@[reducible] def ref40_compare_X : Ctx := ⟨look tab, pick1 [], false⟩
def zq3w {β : Type} (d : List (List Int)) (a : Int) (b : Int) (k : (Int → Option β)) : Option β :=
  cond (decide (0 ≤ (IntKind.i64.wrap (b + (1 : Int)))) && decide ((IntKind.i64.wrap (b + (1 : Int))) < (List.length d : Int)))
  (let e : List Int := List.getD d (Int.toNat (IntKind.i64.wrap (b + (1 : Int)))) ([] : List Int);
  cond (decide (0 ≤ (IntKind.i64.wrap (a + (1 : Int)))) && decide ((IntKind.i64.wrap (a + (1 : Int))) < (List.length e : Int)))
  (let e2 : Int := List.getD e (Int.toNat (IntKind.i64.wrap (a + (1 : Int)))) (0 : Int);
  let t : Bool := (decide (e2 ≤ (-1 : Int)));
  cond t
  (k (-1 : Int))
  (cond (decide (0 ≤ (IntKind.i64.wrap (a + (1 : Int)))) && decide ((IntKind.i64.wrap (a + (1 : Int))) < (List.length d : Int)))
  (let e3 : List Int := List.getD d (Int.toNat (IntKind.i64.wrap (a + (1 : Int)))) ([] : List Int);
  cond (decide (0 ≤ (IntKind.i64.wrap (b + (1 : Int)))) && decide ((IntKind.i64.wrap (b + (1 : Int))) < (List.length e3 : Int)))
  (let e4 : Int := List.getD e3 (Int.toNat (IntKind.i64.wrap (b + (1 : Int)))) (0 : Int);
  let t2 : Bool := (decide (e4 ≤ (-1 : Int)));
  cond t2
  (k (1 : Int))
  (k (0 : Int)))
  none)
  none))
  none)
  none
theorem zq3x (hΓ : ΓOk Try.prog ref40_compare_X.Γ) : SpecOk Try.prog 45 (zq3v (zq3w)) :=
  spec_exec (X := ref40_compare_X) (Λ := pick1 []) (rs := [.tmp 6]) (c := bodyOf Try.f45) mixed tab_ok hΓ Try.func45 (by kernel_rfl) (by kernel_rfl) (by kernel_rfl) (by kernel_rfl) CutsOk_nil (fun x k r h => Eq.trans (b := (zq3v (zq3w)).run x k) (by kernel_rfl) h)
end
theorem zq3yΓ : ΓOk Try.prog (pick1 []) := ΓOk_nil
def zq3z : zq3u := zq3w
theorem zq40 : SpecOk Try.prog 45 (zq3v zq3z) := zq3x zq3yΓ

/-- (pagewatch/order.matrix).open -/
abbrev zq41 := {β : Type} → (List (List Int)) → Int → Int → (Bool → Option β) → Option β
def zq42 (c : zq41) : Spec :=
  ⟨[(false, [.data (.slice (.slice (.int .i64)))]), (false, [.data (.int .i64)]), (false, [.data (.int .i64)])], [], [(false, [.data .bool])], [], fun x k => c x.1.1.1 x.1.2.1.1 x.1.2.2.1.1 (fun r0 => k (((r0, ()), ()), ()))⟩
section
variable (c_order_matrix_before : zq2x)
@[reducible] def order_matrix_open_X : Ctx := ⟨look tab, pick1 [(42, .spec (zq2y c_order_matrix_before))], false⟩
def zq43 {β : Type} (m : List (List Int)) (a : Int) (b : Int) (k : (Bool → Option β)) : Option β :=
  c_order_matrix_before m a b (fun (rbefore : Bool) =>
  cond (!rbefore)
  (c_order_matrix_before m b a (fun (rbefore2 : Bool) =>
  k (!rbefore2)))
  (k false))
theorem zq44 (hΓ : ΓOk Try.prog (order_matrix_open_X c_order_matrix_before).Γ) : SpecOk Try.prog 46 (zq42 (zq43 c_order_matrix_before)) :=
  spec_exec (X := (order_matrix_open_X c_order_matrix_before)) (Λ := pick1 []) (rs := [.tmp 6]) (c := bodyOf Try.f46) mixed tab_ok hΓ Try.func46 (by kernel_rfl) (by kernel_rfl) (by kernel_rfl) (by kernel_rfl) CutsOk_nil (fun x k r h => Eq.trans (b := (zq42 (zq43 c_order_matrix_before)).run x k) (by kernel_rfl) h)
end
theorem zq45Γ : ΓOk Try.prog (pick1 [(42, .spec (zq2y zq32))]) := (ΓOk_cons zq33 ΓOk_nil)
def zq46 : zq41 := zq43 zq32
theorem zq47 : SpecOk Try.prog 46 (zq42 zq46) := zq44 zq32 zq45Γ

/-- pagewatch/pagewatchref25.In -/
abbrev zq48 := {β : Type} → Int → Int → Int → (Bool → Option β) → Option β
def zq49 (c : zq48) : Spec :=
  ⟨[(false, [.data (.int .i64)]), (false, [.data (.int .i64)]), (false, [.data (.int .i64)])], [], [(false, [.data .bool])], [], fun x k => c x.1.1.1 x.1.2.1.1 x.1.2.2.1.1 (fun r0 => k (((r0, ()), ()), ()))⟩
section
@[reducible] def ref25_In_X : Ctx := ⟨look tab, pick1 [], false⟩
def zq4a {β : Type} (n : Int) (lo : Int) (hi : Int) (k : (Bool → Option β)) : Option β :=
  cond (decide (lo ≤ n))
  (k (decide (n ≤ hi)))
  (k false)
theorem zq4b (hΓ : ΓOk Try.prog ref25_In_X.Γ) : SpecOk Try.prog 48 (zq49 (zq4a)) :=
  spec_exec (X := ref25_In_X) (Λ := pick1 []) (rs := [.tmp 6]) (c := bodyOf Try.f48) mixed tab_ok hΓ Try.func48 (by kernel_rfl) (by kernel_rfl) (by kernel_rfl) (by kernel_rfl) CutsOk_nil (fun x k r h => Eq.trans (b := (zq49 (zq4a)).run x k) (by kernel_rfl) h)
end
theorem zq4cΓ : ΓOk Try.prog (pick1 []) := ΓOk_nil
def zq4d : zq48 := zq4a
theorem zq4e : SpecOk Try.prog 48 (zq49 zq4d) := zq4b zq4cΓ

/-- pagewatch/order.in -/
abbrev zq4f := {β : Type} → Int → Int → Int → (Bool → Option β) → Option β
def zq4g (c : zq4f) : Spec :=
  ⟨[(false, [.data (.int .i64)]), (false, [.data (.int .i64)]), (false, [.data (.int .i64)])], [], [(false, [.data .bool])], [], fun x k => c x.1.1.1 x.1.2.1.1 x.1.2.2.1.1 (fun r0 => k (((r0, ()), ()), ()))⟩
section
@[reducible] def order_in_X : Ctx := ⟨look tab, pick1 [], false⟩
def zq4h {β : Type} (n : Int) (low : Int) (high : Int) (k : (Bool → Option β)) : Option β :=
  cond (decide (low ≤ n))
  (k (decide (n ≤ high)))
  (k false)
theorem zq4i (hΓ : ΓOk Try.prog order_in_X.Γ) : SpecOk Try.prog 49 (zq4g (zq4h)) :=
  spec_exec (X := order_in_X) (Λ := pick1 []) (rs := [.tmp 6]) (c := bodyOf Try.f49) mixed tab_ok hΓ Try.func49 (by kernel_rfl) (by kernel_rfl) (by kernel_rfl) (by kernel_rfl) CutsOk_nil (fun x k r h => Eq.trans (b := (zq4g (zq4h)).run x k) (by kernel_rfl) h)
end
theorem zq4jΓ : ΓOk Try.prog (pick1 []) := ΓOk_nil
def zq4k : zq4f := zq4h
theorem zq4l : SpecOk Try.prog 49 (zq4g zq4k) := zq4i zq4jΓ

/-- pagewatch/order.Allows$1 -/
abbrev zq4m := {β : Type} → Int → (List (List Int)) → Int → (Bool → (List (List Int)) → Int → Option β) → Option β
def zq4n (c : zq4m) : Spec :=
  ⟨[(false, [.data (.int .i64)]), (false, [.ptr 0 0]), (false, [.ptr 1 0])], [.cells 80 [.data (.slice (.slice (.int .i64)))], .cells 3 [.data (.int .i64)]], [(false, [.data .bool])], [.cells 80 [.data (.slice (.slice (.int .i64)))], .cells 3 [.data (.int .i64)]], fun x k => c x.1.1.1 x.2.1.1 x.2.2.1.1 (fun r0 r1 r2 => k (((r0, ()), ()), ((r1, ()), (r2, ()), ())))⟩
section
variable (c_order_matrix_before : zq2x)
@[reducible] def order_Allows_f1_X : Ctx := ⟨look tab, pick1 [(42, .spec (zq2y c_order_matrix_before))], false⟩
def zq4o {β : Type} (y : Int) (t1 : List (List Int)) (t2 : Int) (k : (Bool → (List (List Int)) → Int → Option β)) : Option β :=
  c_order_matrix_before t1 t2 y (fun (rbefore : Bool) =>
  k rbefore t1 t2)
theorem zq4p (hΓ : ΓOk Try.prog (order_Allows_f1_X c_order_matrix_before).Γ) : SpecOk Try.prog 52 (zq4n (zq4o c_order_matrix_before)) :=
  spec_exec (X := (order_Allows_f1_X c_order_matrix_before)) (Λ := pick1 []) (rs := [.tmp 4]) (c := bodyOf Try.f52) mixed tab_ok hΓ Try.func52 (by kernel_rfl) (by kernel_rfl) (by kernel_rfl) (by kernel_rfl) CutsOk_nil (fun x k r h => Eq.trans (b := (zq4n (zq4o c_order_matrix_before)).run x k) (by kernel_rfl) h)
end
theorem zq4qΓ : ΓOk Try.prog (pick1 [(42, .spec (zq2y zq32))]) := (ΓOk_cons zq33 ΓOk_nil)
def zq4r : zq4m := zq4o zq32
theorem zq4s : SpecOk Try.prog 52 (zq4n zq4r) := zq4p zq32 zq4qΓ

/-- pagewatch/order.Fits$1 -/
abbrev zq4t := {β : Type} → Int → (Bool → Option β) → Option β
def zq4u (c : zq4t) : Spec :=
  ⟨[(false, [.data (.int .i64)])], [], [(false, [.data .bool])], [], fun x k => c x.1.1.1 (fun r0 => k (((r0, ()), ()), ()))⟩
section
variable (c_order_in : zq4f)
@[reducible] def order_Fits_f1_X : Ctx := ⟨look tab, pick1 [(49, .spec (zq4g c_order_in))], false⟩
def zq4v {β : Type} (t : Int) (k : (Bool → Option β)) : Option β :=
  c_order_in t (0 : Int) (8589934592 : Int) (fun (rin : Bool) =>
  k (!rin))
theorem zq4w (hΓ : ΓOk Try.prog (order_Fits_f1_X c_order_in).Γ) : SpecOk Try.prog 53 (zq4u (zq4v c_order_in)) :=
  spec_exec (X := (order_Fits_f1_X c_order_in)) (Λ := pick1 []) (rs := [.tmp 2]) (c := bodyOf Try.f53) mixed tab_ok hΓ Try.func53 (by kernel_rfl) (by kernel_rfl) (by kernel_rfl) (by kernel_rfl) CutsOk_nil (fun x k r h => Eq.trans (b := (zq4u (zq4v c_order_in)).run x k) (by kernel_rfl) h)
end
theorem zq4xΓ : ΓOk Try.prog (pick1 [(49, .spec (zq4g zq4k))]) := (ΓOk_cons zq4l ΓOk_nil)
def zq4y : zq4t := zq4v zq4k
theorem zq4z : SpecOk Try.prog 53 (zq4u zq4y) := zq4w zq4k zq4xΓ

/-- pagewatch/clock.in -/
abbrev zq50 := {β : Type} → Int → Int → Int → (Bool → Option β) → Option β
def zq51 (c : zq50) : Spec :=
  ⟨[(false, [.data (.int .i64)]), (false, [.data (.int .i64)]), (false, [.data (.int .i64)])], [], [(false, [.data .bool])], [], fun x k => c x.1.1.1 x.1.2.1.1 x.1.2.2.1.1 (fun r0 => k (((r0, ()), ()), ()))⟩
section
@[reducible] def clock_in_X : Ctx := ⟨look tab, pick1 [], false⟩
def zq52 {β : Type} (n : Int) (low : Int) (high : Int) (k : (Bool → Option β)) : Option β :=
  cond (decide (low ≤ n))
  (k (decide (n ≤ high)))
  (k false)
theorem zq53 (hΓ : ΓOk Try.prog clock_in_X.Γ) : SpecOk Try.prog 56 (zq51 (zq52)) :=
  spec_exec (X := clock_in_X) (Λ := pick1 []) (rs := [.tmp 6]) (c := bodyOf Try.f56) mixed tab_ok hΓ Try.func56 (by kernel_rfl) (by kernel_rfl) (by kernel_rfl) (by kernel_rfl) CutsOk_nil (fun x k r h => Eq.trans (b := (zq51 (zq52)).run x k) (by kernel_rfl) h)
end
theorem zq54Γ : ΓOk Try.prog (pick1 []) := ΓOk_nil
def zq55 : zq50 := zq52
theorem zq56 : SpecOk Try.prog 56 (zq51 zq55) := zq53 zq54Γ

/-- pagewatch/clock.instant -/
abbrev zq57 := {β : Type} → Int → (Bool → Option β) → Option β
def zq58 (c : zq57) : Spec :=
  ⟨[(false, [.data (.int .i64)])], [], [(false, [.data .bool])], [], fun x k => c x.1.1.1 (fun r0 => k (((r0, ()), ()), ()))⟩
section
variable (c_clock_in : zq50)
@[reducible] def clock_instant_X : Ctx := ⟨look tab, pick1 [(56, .spec (zq51 c_clock_in))], false⟩
def zq59 {β : Type} (n : Int) (k : (Bool → Option β)) : Option β :=
  c_clock_in n (0 : Int) (8589934592 : Int) (fun (rin : Bool) =>
  k rin)
theorem zq5a (hΓ : ΓOk Try.prog (clock_instant_X c_clock_in).Γ) : SpecOk Try.prog 58 (zq58 (zq59 c_clock_in)) :=
  spec_exec (X := (clock_instant_X c_clock_in)) (Λ := pick1 []) (rs := [.tmp 2]) (c := bodyOf Try.f58) mixed tab_ok hΓ Try.func58 (by kernel_rfl) (by kernel_rfl) (by kernel_rfl) (by kernel_rfl) CutsOk_nil (fun x k r h => Eq.trans (b := (zq58 (zq59 c_clock_in)).run x k) (by kernel_rfl) h)
end
theorem zq5bΓ : ΓOk Try.prog (pick1 [(56, .spec (zq51 zq55))]) := (ΓOk_cons zq56 ΓOk_nil)
def zq5c : zq57 := zq59 zq55
theorem zq5d : SpecOk Try.prog 58 (zq58 zq5c) := zq5a zq55 zq5bΓ

/-- pagewatch/clock.Meet -/
abbrev zq5e := {β : Type} → (Int × Int) → (Int × Int) → ((Int × Int) → Option β) → Option β
def zq5f (c : zq5e) : Spec :=
  ⟨[(true, [.data (.prod (.int .i64) (.int .i64))]), (true, [.data (.prod (.int .i64) (.int .i64))])], [], [(true, [.data (.prod (.int .i64) (.int .i64))])], [], fun x k => c x.1.1.1 x.1.2.1.1 (fun r0 => k (((r0, ()), ()), ()))⟩
section
@[reducible] def clock_Meet_X : Ctx := ⟨look tab, pick1 [], false⟩
def zq5g {β : Type} (a : (Int × Int)) (b : (Int × Int)) (k : ((Int × Int) → Option β)) : Option β :=
  k ((if b.1 > a.1 then b.1 else a.1), (if b.2 < a.2 then b.2 else a.2))
theorem zq5h (hΓ : ΓOk Try.prog clock_Meet_X.Γ) : SpecOk Try.prog 59 (zq5f (zq5g)) :=
  spec_exec (X := clock_Meet_X) (Λ := pick1 []) (rs := [.cell 4 56]) (c := bodyOf Try.f59) mixed tab_ok hΓ Try.func59 (by kernel_rfl) (by kernel_rfl) (by kernel_rfl) (by kernel_rfl) CutsOk_nil (fun x k r h => Eq.trans (b := (zq5f (zq5g)).run x k) (by kernel_rfl) h)
end
theorem zq5iΓ : ΓOk Try.prog (pick1 []) := ΓOk_nil
def zq5j : zq5e := zq5g
theorem zq5k : SpecOk Try.prog 59 (zq5f zq5j) := zq5h zq5iΓ

/-- pagewatch/clock.Empty -/
abbrev zq5l := {β : Type} → (Int × Int) → (Bool → Option β) → Option β
def zq5m (c : zq5l) : Spec :=
  ⟨[(true, [.data (.prod (.int .i64) (.int .i64))])], [], [(false, [.data .bool])], [], fun x k => c x.1.1.1 (fun r0 => k (((r0, ()), ()), ()))⟩
section
@[reducible] def clock_Empty_X : Ctx := ⟨look tab, pick1 [], false⟩
def zq5n {β : Type} (a : (Int × Int)) (k : (Bool → Option β)) : Option β :=
  k (decide (a.2 < a.1))
theorem zq5o (hΓ : ΓOk Try.prog clock_Empty_X.Γ) : SpecOk Try.prog 61 (zq5m (zq5n)) :=
  spec_exec (X := clock_Empty_X) (Λ := pick1 []) (rs := [.tmp 2]) (c := bodyOf Try.f61) mixed tab_ok hΓ Try.func61 (by kernel_rfl) (by kernel_rfl) (by kernel_rfl) (by kernel_rfl) CutsOk_nil (fun x k r h => Eq.trans (b := (zq5m (zq5n)).run x k) (by kernel_rfl) h)
end
theorem zq5pΓ : ΓOk Try.prog (pick1 []) := ΓOk_nil
def zq5q : zq5l := zq5n
theorem zq5r : SpecOk Try.prog 61 (zq5m zq5q) := zq5o zq5pΓ

/-- pagewatch/pagewatchref38.Meet -/
abbrev zq5s := {β : Type} → (Int × Int) → (Int × Int) → ((Int × Int) → Option β) → Option β
def zq5t (c : zq5s) : Spec :=
  ⟨[(true, [.data (.prod (.int .i64) (.int .i64))]), (true, [.data (.prod (.int .i64) (.int .i64))])], [], [(true, [.data (.prod (.int .i64) (.int .i64))])], [], fun x k => c x.1.1.1 x.1.2.1.1 (fun r0 => k (((r0, ()), ()), ()))⟩
section
@[reducible] def ref38_Meet_X : Ctx := ⟨look tab, pick1 [], false⟩
def zq5u {β : Type} (a : (Int × Int)) (b : (Int × Int)) (k : ((Int × Int) → Option β)) : Option β :=
  k ((if b.1 > a.1 then b.1 else a.1), (if b.2 < a.2 then b.2 else a.2))
theorem zq5v (hΓ : ΓOk Try.prog ref38_Meet_X.Γ) : SpecOk Try.prog 63 (zq5t (zq5u)) :=
  spec_exec (X := ref38_Meet_X) (Λ := pick1 []) (rs := [.cell 4 56]) (c := bodyOf Try.f63) mixed tab_ok hΓ Try.func63 (by kernel_rfl) (by kernel_rfl) (by kernel_rfl) (by kernel_rfl) CutsOk_nil (fun x k r h => Eq.trans (b := (zq5t (zq5u)).run x k) (by kernel_rfl) h)
end
theorem zq5wΓ : ΓOk Try.prog (pick1 []) := ΓOk_nil
def zq5x : zq5s := zq5u
theorem zq5y : SpecOk Try.prog 63 (zq5t zq5x) := zq5v zq5wΓ

/-- pagewatch/pagewatchref38.Empty -/
abbrev zq5z := {β : Type} → (Int × Int) → (Bool → Option β) → Option β
def zq60 (c : zq5z) : Spec :=
  ⟨[(true, [.data (.prod (.int .i64) (.int .i64))])], [], [(false, [.data .bool])], [], fun x k => c x.1.1.1 (fun r0 => k (((r0, ()), ()), ()))⟩
section
@[reducible] def ref38_Empty_X : Ctx := ⟨look tab, pick1 [], false⟩
def zq61 {β : Type} (a : (Int × Int)) (k : (Bool → Option β)) : Option β :=
  k (decide (a.2 < a.1))
theorem zq62 (hΓ : ΓOk Try.prog ref38_Empty_X.Γ) : SpecOk Try.prog 65 (zq60 (zq61)) :=
  spec_exec (X := ref38_Empty_X) (Λ := pick1 []) (rs := [.tmp 2]) (c := bodyOf Try.f65) mixed tab_ok hΓ Try.func65 (by kernel_rfl) (by kernel_rfl) (by kernel_rfl) (by kernel_rfl) CutsOk_nil (fun x k r h => Eq.trans (b := (zq60 (zq61)).run x k) (by kernel_rfl) h)
end
theorem zq63Γ : ΓOk Try.prog (pick1 []) := ΓOk_nil
def zq64 : zq5z := zq61
theorem zq65 : SpecOk Try.prog 65 (zq60 zq64) := zq62 zq63Γ

/-- slices.Index[[]int,int] -/
abbrev zq66 := {β : Type} → (List Int) → Int → (Int → Option β) → Option β
def zq67 (c : zq66) : Spec :=
  ⟨[(false, [.data (.slice (.int .i64))]), (false, [.data (.int .i64)])], [], [(false, [.data (.int .i64)])], [], fun x k => c x.1.1.1 x.1.2.1.1 (fun r0 => k (((r0, ()), ()), ()))⟩
noncomputable def slices_Index_int_int_p1_code : Code := codeAt 26 (bodyOf Try.f68)
abbrev zq68 (β : Type) := Int → Option β
abbrev zq69 (β : Type) := Unit → Option β
abbrev zq6a := {β : Type} → zq68 β → zq69 β → (List Int) → Int → Int → Int → Option β
def zq6b : View := ⟨0, [0, 1, 7, 8], [(false, [.data (.slice (.int .i64))]), (false, [.data (.int .i64)]), (false, [.data (.int .i64)]), (false, [.data (.int .i64)])], []⟩
def zq6c : List (AExit × View) := [(.ret, ⟨0, [4], [(false, [.data (.int .i64)])], []⟩), (.exit 0, ⟨0, [], [], []⟩)]
@[reducible] def slices_Index_int_int_p1_G (p : zq6a) {β : Type} (d : zq6b.den) (ks : Outs.K β zq6c) : Option β :=
  p (fun a0 => ks.1 (((a0, ()), ()), ())) (fun _ => ks.2.1 ((), ())) d.1.1.1 d.1.2.1.1 d.1.2.2.1.1 d.1.2.2.2.1.1
section
@[reducible] def slices_Index_int_int_X : Ctx := ⟨look tab, pick1 [], false⟩
def zq6d {β : Type} (rec : (List Int) → Int → Int → Int → Option β) (k1 : zq68 β) (k2 : zq69 β) (s : List Int) (v : Int) (t7 : Int) (t8 : Int) : Option β :=
  cond (decide (t8 < t7))
  (cond (decide (0 ≤ t8) && decide (t8 < (List.length s : Int)))
  (let e : Int := List.getD s (Int.toNat t8) (0 : Int);
  cond (decide (v = e))
  (k1 t8)
  (rec s v t7 (IntKind.i64.wrap (t8 + (1 : Int)))))
  none)
  (k2 ())
def zq6e {β : Type} : Nat → zq68 β → zq69 β → (List Int) → Int → Int → Int → Option β
  | 0 => fun _ _ _ _ _ _ => none
  | i + 1 => fun k1 k2 s v t7 t8 => zq6d (zq6e i k1 k2) k1 k2 s v t7 t8
theorem zq6f (hΓ : ΓOk Try.prog slices_Index_int_int_X.Γ) (i : Nat) : PieceOk Try.prog 19 0 slices_Index_int_int_p1_code zq6b zq6c (slices_Index_int_int_p1_G (zq6e i)) := by
  rw [show slices_Index_int_int_p1_code = .loop (loopBody slices_Index_int_int_p1_code) by kernel_rfl]
  exact piece_loop (X := slices_Index_int_int_X) (p := 1) (Λ := pick1 []) (G := fun i => @fun β d ks => slices_Index_int_int_p1_G (zq6e i) d ks) mixed tab_ok hΓ rfl (by kernel_rfl) CutsOk_nil (fun _ _ => rfl) (fun i => @fun β d ks r h => Eq.trans (b := slices_Index_int_int_p1_G (zq6e (i + 1)) d ks) (by kernel_rfl) h) i
def zq6g (p1 : zq6a) {β : Type} (s : List Int) (v : Int) (k : (Int → Option β)) : Option β :=
  p1 (fun (t4 : Int) =>
  k t4) (fun (_ : Unit) =>
  k (-1 : Int)) s v (List.length s : Int) (0 : Int)
theorem zq6h (hΓ : ΓOk Try.prog slices_Index_int_int_X.Γ) (p1 : zq6a) (hp1 : PieceOk Try.prog 19 0 slices_Index_int_int_p1_code zq6b zq6c (slices_Index_int_int_p1_G p1)) : SpecOk Try.prog 68 (zq67 (zq6g p1)) :=
  spec_exec (X := slices_Index_int_int_X) (Λ := pick1 [(26, pieceCut zq6b zq6c (slices_Index_int_int_p1_G p1))]) (rs := [.tmp 4]) (c := bodyOf Try.f68) mixed tab_ok hΓ Try.func68 (by kernel_rfl) (by kernel_rfl) (by kernel_rfl) (by kernel_rfl) (CutsOk_cons (q := 26) (c' := slices_Index_int_int_p1_code) (by kernel_rfl) rfl hp1 CutsOk_nil) (fun x k r h => Eq.trans (b := (zq67 (zq6g p1)).run x k) (by kernel_rfl) h)
end
theorem zq6iΓ : ΓOk Try.prog (pick1 []) := ΓOk_nil
def zq6j (m : Nat) : zq6a := zq6e m
theorem zq6k {β : Type} (i : Nat) (k1 k2 s v t7 t8) : (zq6j (i + 1) k1 k2 s v t7 t8 : Option β) = zq6d (zq6j i k1 k2) k1 k2 s v t7 t8 := rfl
def zq6l : zq6a := zq6j fuel
theorem zq6m : PieceOk Try.prog 19 0 slices_Index_int_int_p1_code zq6b zq6c (slices_Index_int_int_p1_G zq6l) := zq6f zq6iΓ fuel
def zq6n : zq66 := zq6g zq6l
theorem zq6o : SpecOk Try.prog 68 (zq67 zq6n) := zq6h zq6iΓ zq6l zq6m

/-- pagewatch/constraint.in -/
abbrev zq6p := {β : Type} → Int → Int → Int → (Bool → Option β) → Option β
def zq6q (c : zq6p) : Spec :=
  ⟨[(false, [.data (.int .i64)]), (false, [.data (.int .i64)]), (false, [.data (.int .i64)])], [], [(false, [.data .bool])], [], fun x k => c x.1.1.1 x.1.2.1.1 x.1.2.2.1.1 (fun r0 => k (((r0, ()), ()), ()))⟩
section
@[reducible] def constraint_in_X : Ctx := ⟨look tab, pick1 [], false⟩
def zq6r {β : Type} (n : Int) (low : Int) (high : Int) (k : (Bool → Option β)) : Option β :=
  cond (decide (low ≤ n))
  (k (decide (n ≤ high)))
  (k false)
theorem zq6s (hΓ : ΓOk Try.prog constraint_in_X.Γ) : SpecOk Try.prog 72 (zq6q (zq6r)) :=
  spec_exec (X := constraint_in_X) (Λ := pick1 []) (rs := [.tmp 6]) (c := bodyOf Try.f72) mixed tab_ok hΓ Try.func72 (by kernel_rfl) (by kernel_rfl) (by kernel_rfl) (by kernel_rfl) CutsOk_nil (fun x k r h => Eq.trans (b := (zq6q (zq6r)).run x k) (by kernel_rfl) h)
end
theorem zq6tΓ : ΓOk Try.prog (pick1 []) := ΓOk_nil
def zq6u : zq6p := zq6r
theorem zq6v : SpecOk Try.prog 72 (zq6q zq6u) := zq6s zq6tΓ

/-- pagewatch/constraint.Fits$2 -/
abbrev zq6w := {β : Type} → (Int × (Int × Int)) → (List Int) → (Bool → (List Int) → Option β) → Option β
def zq6x (c : zq6w) : Spec :=
  ⟨[(true, [.data (.prod (.int .i64) (.prod (.int .i64) (.int .i64)))]), (false, [.ptr 0 0])], [.cells 22 [.data (.slice (.int .i64))]], [(false, [.data .bool])], [.cells 22 [.data (.slice (.int .i64))]], fun x k => c x.1.1.1 x.2.1.1 (fun r0 r1 => k (((r0, ()), ()), ((r1, ()), ())))⟩
section
@[reducible] def constraint_Fits_f2_X : Ctx := ⟨look tab, pick1 [], false⟩
def zq6y {β : Type} (d : (Int × (Int × Int))) (t1 : List Int) (k : (Bool → (List Int) → Option β)) : Option β :=
  cond (decide (0 ≤ d.2.1) && decide (d.2.1 < (List.length t1 : Int)))
  (let e : Int := List.getD t1 (Int.toNat d.2.1) (0 : Int);
  cond (decide (0 ≤ d.1) && decide (d.1 < (List.length t1 : Int)))
  (let e2 : Int := List.getD t1 (Int.toNat d.1) (0 : Int);
  let t : Bool := (decide (d.2.2 < (IntKind.i64.wrap (e - e2))));
  k t t1)
  none)
  none
theorem zq6z (hΓ : ΓOk Try.prog constraint_Fits_f2_X.Γ) : SpecOk Try.prog 74 (zq6x (zq6y)) :=
  spec_exec (X := constraint_Fits_f2_X) (Λ := pick1 []) (rs := [.tmp 3]) (c := bodyOf Try.f74) mixed tab_ok hΓ Try.func74 (by kernel_rfl) (by kernel_rfl) (by kernel_rfl) (by kernel_rfl) CutsOk_nil (fun x k r h => Eq.trans (b := (zq6x (zq6y)).run x k) (by kernel_rfl) h)
end
theorem zq70Γ : ΓOk Try.prog (pick1 []) := ΓOk_nil
def zq71 : zq6w := zq6y
theorem zq72 : SpecOk Try.prog 74 (zq6x zq71) := zq6z zq70Γ

/-- pagewatch/pagewatchref39.Valid -/
abbrev zq73 := {β : Type} → Int → (List (Int × (Int × Int))) → (Bool → Option β) → Option β
def zq74 (c : zq73) : Spec :=
  ⟨[(false, [.data (.int .i64)]), (false, [.data (.slice (.prod (.int .i64) (.prod (.int .i64) (.int .i64))))])], [], [(false, [.data .bool])], [], fun x k => c x.1.1.1 x.1.2.1.1 (fun r0 => k (((r0, ()), ()), ()))⟩
noncomputable def ref39_Valid_p1_code : Code := codeAt 58 (bodyOf Try.f75)
abbrev zq75 (β : Type) := Bool → Option β
abbrev zq76 (β : Type) := Unit → Option β
abbrev zq77 := {β : Type} → zq75 β → zq76 β → Int → (List (Int × (Int × Int))) → Int → Option β
def zq78 : View := ⟨0, [0, 1, 5], [(false, [.data (.int .i64)]), (false, [.data (.slice (.prod (.int .i64) (.prod (.int .i64) (.int .i64))))]), (false, [.data (.int .i64)])], []⟩
def zq79 : List (AExit × View) := [(.ret, ⟨0, [4], [(false, [.data .bool])], []⟩), (.exit 0, ⟨0, [], [], []⟩)]
@[reducible] def ref39_Valid_p1_G (p : zq77) {β : Type} (d : zq78.den) (ks : Outs.K β zq79) : Option β :=
  p (fun a0 => ks.1 (((a0, ()), ()), ())) (fun _ => ks.2.1 ((), ())) d.1.1.1 d.1.2.1.1 d.1.2.2.1.1
section
variable (c_ref25_In : zq48)
@[reducible] def ref39_Valid_X : Ctx := ⟨look tab, pick1 [(48, .spec (zq49 c_ref25_In))], false⟩
def zq7a {β : Type} (rec : Int → (List (Int × (Int × Int))) → Int → Option β) (k1 : zq75 β) (k2 : zq76 β) (n : Int) (l : List (Int × (Int × Int))) (i_ : Int) : Option β :=
  cond (decide (i_ < (List.length l : Int)))
  (cond (decide (0 ≤ i_) && decide (i_ < (List.length l : Int)))
  (let e : (Int × (Int × Int)) := List.getD l (Int.toNat i_) ((0 : Int), ((0 : Int), (0 : Int)));
  c_ref25_In e.1 (0 : Int) (IntKind.i64.wrap (n - (1 : Int))) (fun (rIn : Bool) =>
  cond (!rIn)
  (k1 false)
  (cond (decide (0 ≤ i_) && decide (i_ < (List.length l : Int)))
  (let e2 : (Int × (Int × Int)) := List.getD l (Int.toNat i_) ((0 : Int), ((0 : Int), (0 : Int)));
  c_ref25_In e2.2.1 (0 : Int) (IntKind.i64.wrap (n - (1 : Int))) (fun (rIn2 : Bool) =>
  cond (!rIn2)
  (k1 false)
  (cond (decide (0 ≤ i_) && decide (i_ < (List.length l : Int)))
  (let e3 : (Int × (Int × Int)) := List.getD l (Int.toNat i_) ((0 : Int), ((0 : Int), (0 : Int)));
  c_ref25_In e3.2.2 (-17179869184 : Int) (17179869184 : Int) (fun (rIn3 : Bool) =>
  cond (!rIn3)
  (k1 false)
  (let i_2 : Int := (IntKind.i64.wrap (i_ + (1 : Int)));
  rec n l i_2)))
  none)))
  none)))
  none)
  (k2 ())
def zq7b {β : Type} : Nat → zq75 β → zq76 β → Int → (List (Int × (Int × Int))) → Int → Option β
  | 0 => fun _ _ _ _ _ => none
  | i + 1 => fun k1 k2 n l i_ => zq7a c_ref25_In (zq7b i k1 k2) k1 k2 n l i_
theorem zq7c (hΓ : ΓOk Try.prog (ref39_Valid_X c_ref25_In).Γ) (i : Nat) : PieceOk Try.prog 49 0 ref39_Valid_p1_code zq78 zq79 (ref39_Valid_p1_G (zq7b c_ref25_In i)) := by
  rw [show ref39_Valid_p1_code = .loop (loopBody ref39_Valid_p1_code) by kernel_rfl]
  exact piece_loop (X := (ref39_Valid_X c_ref25_In)) (p := 1) (Λ := pick1 []) (G := fun i => @fun β d ks => ref39_Valid_p1_G (zq7b c_ref25_In i) d ks) mixed tab_ok hΓ rfl (by kernel_rfl) CutsOk_nil (fun _ _ => rfl) (fun i => @fun β d ks r h => Eq.trans (b := ref39_Valid_p1_G (zq7b c_ref25_In (i + 1)) d ks) (by kernel_rfl) h) i
def zq7d (p1 : zq77) {β : Type} (n : Int) (l : List (Int × (Int × Int))) (k : (Bool → Option β)) : Option β :=
  c_ref25_In n (1 : Int) (41 : Int) (fun (rIn : Bool) =>
  cond (!rIn)
  (k false)
  (cond (decide ((4000 : Int) < (List.length l : Int)))
  (k false)
  (p1 (fun (t4 : Bool) =>
  k t4) (fun (_ : Unit) =>
  k true) n l (0 : Int))))
theorem zq7e (hΓ : ΓOk Try.prog (ref39_Valid_X c_ref25_In).Γ) (p1 : zq77) (hp1 : PieceOk Try.prog 49 0 ref39_Valid_p1_code zq78 zq79 (ref39_Valid_p1_G p1)) : SpecOk Try.prog 75 (zq74 (zq7d c_ref25_In p1)) :=
  spec_exec (X := (ref39_Valid_X c_ref25_In)) (Λ := pick1 [(58, pieceCut zq78 zq79 (ref39_Valid_p1_G p1))]) (rs := [.tmp 4]) (c := bodyOf Try.f75) mixed tab_ok hΓ Try.func75 (by kernel_rfl) (by kernel_rfl) (by kernel_rfl) (by kernel_rfl) (CutsOk_cons (q := 58) (c' := ref39_Valid_p1_code) (by kernel_rfl) rfl hp1 CutsOk_nil) (fun x k r h => Eq.trans (b := (zq74 (zq7d c_ref25_In p1)).run x k) (by kernel_rfl) h)
end
theorem zq7fΓ : ΓOk Try.prog (pick1 [(48, .spec (zq49 zq4d))]) := (ΓOk_cons zq4e ΓOk_nil)
def zq7g (m : Nat) : zq77 := zq7b zq4d m
theorem zq7h {β : Type} (i : Nat) (k1 k2 n l i_) : (zq7g (i + 1) k1 k2 n l i_ : Option β) = zq7a zq4d (zq7g i k1 k2) k1 k2 n l i_ := rfl
def zq7i : zq77 := zq7g fuel
theorem zq7j : PieceOk Try.prog 49 0 ref39_Valid_p1_code zq78 zq79 (ref39_Valid_p1_G zq7i) := zq7c zq4d zq7fΓ fuel
def zq7k : zq73 := zq7d zq4d zq7i
theorem zq7l : SpecOk Try.prog 75 (zq74 zq7k) := zq7e zq4d zq7fΓ zq7i zq7j

/-- pagewatch/clock.Elapsed$1 -/
abbrev zq7m := {β : Type} → Int → Int → (Int → Option β) → Option β
def zq7n (c : zq7m) : Spec :=
  ⟨[(false, [.data (.int .i64)]), (false, [.data (.int .i64)])], [], [(false, [.data (.int .i64)])], [], fun x k => c x.1.1.1 x.1.2.1.1 (fun r0 => k (((r0, ()), ()), ()))⟩
section
@[reducible] def clock_Elapsed_f1_X : Ctx := ⟨look tab, pick1 [], false⟩
def zq7o {β : Type} (a : Int) (b : Int) (k : (Int → Option β)) : Option β :=
  cond (!decide (b = 0))
  (let t : Int := (IntKind.i64.wrap (Int.tdiv (IntKind.i64.wrap ((IntKind.i64.wrap (a + b)) - (1 : Int))) b));
  k t)
  none
theorem zq7p (hΓ : ΓOk Try.prog clock_Elapsed_f1_X.Γ) : SpecOk Try.prog 76 (zq7n (zq7o)) :=
  spec_exec (X := clock_Elapsed_f1_X) (Λ := pick1 []) (rs := [.tmp 4]) (c := bodyOf Try.f76) mixed tab_ok hΓ Try.func76 (by kernel_rfl) (by kernel_rfl) (by kernel_rfl) (by kernel_rfl) CutsOk_nil (fun x k r h => Eq.trans (b := (zq7n (zq7o)).run x k) (by kernel_rfl) h)
end
theorem zq7qΓ : ΓOk Try.prog (pick1 []) := ΓOk_nil
def zq7r : zq7m := zq7o
theorem zq7s : SpecOk Try.prog 76 (zq7n zq7r) := zq7p zq7qΓ

/-- pagewatch/constraint.direct -/
abbrev zq7t := {β : Type} → Int → (List (Int × (Int × Int))) → ((List (List Int)) → Option β) → Option β
def zq7u (c : zq7t) : Spec :=
  ⟨[(false, [.data (.int .i64)]), (false, [.data (.slice (.prod (.int .i64) (.prod (.int .i64) (.int .i64))))])], [], [(false, [.math 0])], [.mat 22 3 (.int .i64)], fun x k => c x.1.1.1 x.1.2.1.1 (fun r0 => k (((), ()), (r0, ())))⟩
noncomputable def constraint_direct_p2_code : Code := codeAt 58 (bodyOf Try.f77)
noncomputable def constraint_direct_p3_code : Code := codeAt 122 (bodyOf Try.f77)
noncomputable def constraint_direct_p1_code : Code := codeAt 462 (loopBody constraint_direct_p2_code)
abbrev zq7v (β : Type) := Int → (List (Int × (Int × Int))) → Int → Int → (List (List Int)) → Option β
abbrev zq7w := {β : Type} → zq7v β → Int → (List (Int × (Int × Int))) → Int → Int → Int → Int → Int → (List (List Int)) → Option β
def zq7x : View := ⟨0, [0, 1, 5, 6, 13, 14, 26, 27], [(false, [.data (.int .i64)]), (false, [.data (.slice (.prod (.int .i64) (.prod (.int .i64) (.int .i64))))]), (false, [.math 0]), (false, [.data (.int .i64)]), (false, [.data (.int .i64)]), (false, [.data (.int .i64)]), (false, [.data (.int .i64)]), (false, [.data (.int .i64)])], [.mat 22 3 (.int .i64)]⟩
def zq7y : List (AExit × View) := [(.exit 2, ⟨0, [0, 1, 5, 13, 14], [(false, [.data (.int .i64)]), (false, [.data (.slice (.prod (.int .i64) (.prod (.int .i64) (.int .i64))))]), (false, [.math 0]), (false, [.data (.int .i64)]), (false, [.data (.int .i64)])], [.mat 22 3 (.int .i64)]⟩)]
@[reducible] def constraint_direct_p1_G (p : zq7w) {β : Type} (d : zq7x.den) (ks : Outs.K β zq7y) : Option β :=
  p (fun a0 a1 a2 a3 a4 => ks.1 (((a0, ()), (a1, ()), (), (a2, ()), (a3, ()), ()), (a4, ()))) d.1.1.1 d.1.2.1.1 d.1.2.2.2.1.1 d.1.2.2.2.2.1.1 d.1.2.2.2.2.2.1.1 d.1.2.2.2.2.2.2.1.1 d.1.2.2.2.2.2.2.2.1.1 d.2.1
abbrev zq7z (β : Type) := (List (Int × (Int × Int))) → (List (List Int)) → Option β
abbrev zq80 := {β : Type} → zq7z β → Int → (List (Int × (Int × Int))) → Int → Int → (List (List Int)) → Option β
def zq81 : View := ⟨0, [0, 1, 5, 13, 14], [(false, [.data (.int .i64)]), (false, [.data (.slice (.prod (.int .i64) (.prod (.int .i64) (.int .i64))))]), (false, [.math 0]), (false, [.data (.int .i64)]), (false, [.data (.int .i64)])], [.mat 22 3 (.int .i64)]⟩
def zq82 : List (AExit × View) := [(.exit 0, ⟨0, [1, 5], [(false, [.data (.slice (.prod (.int .i64) (.prod (.int .i64) (.int .i64))))]), (false, [.math 0])], [.mat 22 3 (.int .i64)]⟩)]
@[reducible] def constraint_direct_p2_G (p : zq80) {β : Type} (d : zq81.den) (ks : Outs.K β zq82) : Option β :=
  p (fun a0 a1 => ks.1 (((a0, ()), (), ()), (a1, ()))) d.1.1.1 d.1.2.1.1 d.1.2.2.2.1.1 d.1.2.2.2.2.1.1 d.2.1
abbrev zq83 (β : Type) := (List (List Int)) → Option β
abbrev zq84 := {β : Type} → zq83 β → (List (Int × (Int × Int))) → Int → Int → (List (List Int)) → Option β
def zq85 : View := ⟨0, [5, 38, 39, 40], [(false, [.math 0]), (false, [.data (.slice (.prod (.int .i64) (.prod (.int .i64) (.int .i64))))]), (false, [.data (.int .i64)]), (false, [.data (.int .i64)])], [.mat 22 3 (.int .i64)]⟩
def zq86 : List (AExit × View) := [(.exit 4, ⟨0, [5], [(false, [.math 0])], [.mat 22 3 (.int .i64)]⟩)]
@[reducible] def constraint_direct_p3_G (p : zq84) {β : Type} (d : zq85.den) (ks : Outs.K β zq86) : Option β :=
  p (fun a0 => ks.1 (((), ()), (a0, ()))) d.1.2.1.1 d.1.2.2.1.1 d.1.2.2.2.1.1 d.2.1
section
@[reducible] def constraint_direct_X : Ctx := ⟨look tab, pick1 [], true⟩
def zq87 {β : Type} (rec : Int → (List (Int × (Int × Int))) → Int → Int → Int → Int → Int → (List (List Int)) → Option β) (k1 : zq7v β) (n : Int) (l : List (Int × (Int × Int))) (i_ : Int) (t13 : Int) (t14 : Int) (t26 : Int) (t27 : Int) (out : List (List Int)) : Option β :=
  cond (decide (t27 < t26))
  (cond (decide (0 ≤ i_) && decide (i_ < (List.length out : Int)))
  (cond (decide (0 ≤ t27) && decide (t27 < (List.length (List.getD out (Int.toNat i_) []) : Int)))
  (let m_ : List (List Int) := (List.set out (Int.toNat i_) (List.set (List.getD out (Int.toNat i_) []) (Int.toNat t27) (1099511627776 : Int)));
  rec n l i_ t13 t14 t26 (IntKind.i64.wrap (t27 + (1 : Int))) m_)
  none)
  none)
  (k1 n l t13 t14 out)
def zq88 {β : Type} : Nat → zq7v β → Int → (List (Int × (Int × Int))) → Int → Int → Int → Int → Int → (List (List Int)) → Option β
  | 0 => fun _ _ _ _ _ _ _ _ _ => none
  | i + 1 => fun k1 n l i_ t13 t14 t26 t27 out => zq87 (zq88 i k1) k1 n l i_ t13 t14 t26 t27 out
theorem zq89 (hΓ : ΓOk Try.prog constraint_direct_X.Γ) (i : Nat) : PieceOk Try.prog 66 0 constraint_direct_p1_code zq7x zq7y (constraint_direct_p1_G (zq88 i)) := by
  rw [show constraint_direct_p1_code = .loop (loopBody constraint_direct_p1_code) by kernel_rfl]
  exact piece_loop (X := constraint_direct_X) (p := 1) (Λ := pick1 []) (G := fun i => @fun β d ks => constraint_direct_p1_G (zq88 i) d ks) mixed tab_ok hΓ rfl (by kernel_rfl) CutsOk_nil (fun _ _ => rfl) (fun i => @fun β d ks r h => Eq.trans (b := constraint_direct_p1_G (zq88 (i + 1)) d ks) (by kernel_rfl) h) i
def zq8a (p1 : zq7w) {β : Type} (rec : Int → (List (Int × (Int × Int))) → Int → Int → (List (List Int)) → Option β) (k1 : zq7z β) (n : Int) (l : List (Int × (Int × Int))) (t13 : Int) (t14 : Int) (out : List (List Int)) : Option β :=
  cond (decide (t14 < t13))
  (cond (decide (0 ≤ n) && (decide (n = n) && (decide (Int.toNat n * 8 ≤ roomMax) && decide (n ≤ 9223372036854775807))))
  (let l2 : List Int := (List.replicate (Int.toNat n) (0 : Int));
  cond (decide (0 ≤ t14) && decide (t14 < (List.length out : Int)))
  (let m_ : List (List Int) := (List.set out (Int.toNat t14) l2);
  cond (decide (0 ≤ t14) && decide (t14 < (List.length m_ : Int)))
  (p1 (fun (n2 : Int) (l3 : List (Int × (Int × Int))) (t132 : Int) (t142 : Int) (out2 : List (List Int)) =>
  rec n2 l3 t132 (IntKind.i64.wrap (t142 + (1 : Int))) out2) n l t14 t13 t14 (List.length (List.getD m_ (Int.toNat t14) []) : Int) (0 : Int) m_)
  none)
  none)
  none)
  (k1 l out)
def zq8b (p1 : zq7w) {β : Type} : Nat → zq7z β → Int → (List (Int × (Int × Int))) → Int → Int → (List (List Int)) → Option β
  | 0 => fun _ _ _ _ _ _ => none
  | i + 1 => fun k1 n l t13 t14 out => zq8a p1 (zq8b p1 i k1) k1 n l t13 t14 out
theorem zq8c (hΓ : ΓOk Try.prog constraint_direct_X.Γ) (p1 : zq7w) (hp1 : PieceOk Try.prog 66 0 constraint_direct_p1_code zq7x zq7y (constraint_direct_p1_G p1)) (i : Nat) : PieceOk Try.prog 66 0 constraint_direct_p2_code zq81 zq82 (constraint_direct_p2_G (zq8b p1 i)) := by
  rw [show constraint_direct_p2_code = .loop (loopBody constraint_direct_p2_code) by kernel_rfl]
  exact piece_loop (X := constraint_direct_X) (p := 1) (Λ := pick1 [(462, pieceCut zq7x zq7y (constraint_direct_p1_G p1))]) (G := fun i => @fun β d ks => constraint_direct_p2_G (zq8b p1 i) d ks) mixed tab_ok hΓ rfl (by kernel_rfl) (CutsOk_cons (q := 462) (c' := constraint_direct_p1_code) (by kernel_rfl) rfl hp1 CutsOk_nil) (fun _ _ => rfl) (fun i => @fun β d ks r h => Eq.trans (b := constraint_direct_p2_G (zq8b p1 (i + 1)) d ks) (by kernel_rfl) h) i
def zq8d {β : Type} (rec : (List (Int × (Int × Int))) → Int → Int → (List (List Int)) → Option β) (k1 : zq83 β) (t38 : List (Int × (Int × Int))) (t39 : Int) (t40 : Int) (out : List (List Int)) : Option β :=
  cond (decide (t40 < t39))
  (cond (decide (0 ≤ t40) && decide (t40 < (List.length t38 : Int)))
  (let e : (Int × (Int × Int)) := List.getD t38 (Int.toNat t40) ((0 : Int), ((0 : Int), (0 : Int)));
  cond (decide (0 ≤ e.1) && decide (e.1 < (List.length out : Int)))
  (cond (decide (0 ≤ e.1) && decide (e.1 < (List.length out : Int)))
  (cond (decide (0 ≤ e.2.1) && decide (e.2.1 < (List.length (List.getD out (Int.toNat e.1) []) : Int)))
  (cond (decide (0 ≤ e.2.1) && decide (e.2.1 < (List.length (List.getD out (Int.toNat e.1) []) : Int)))
  (let m_ : List (List Int) := (List.set out (Int.toNat e.1) (List.set (List.getD out (Int.toNat e.1) []) (Int.toNat e.2.1) (if e.2.2 < (List.getD (List.getD out (Int.toNat e.1) []) (Int.toNat e.2.1) (0 : Int)) then e.2.2 else (List.getD (List.getD out (Int.toNat e.1) []) (Int.toNat e.2.1) (0 : Int)))));
  rec t38 t39 (IntKind.i64.wrap (t40 + (1 : Int))) m_)
  none)
  none)
  none)
  none)
  none)
  (k1 out)
def zq8e {β : Type} : Nat → zq83 β → (List (Int × (Int × Int))) → Int → Int → (List (List Int)) → Option β
  | 0 => fun _ _ _ _ _ => none
  | i + 1 => fun k1 t38 t39 t40 out => zq8d (zq8e i k1) k1 t38 t39 t40 out
theorem zq8f (hΓ : ΓOk Try.prog constraint_direct_X.Γ) (i : Nat) : PieceOk Try.prog 66 0 constraint_direct_p3_code zq85 zq86 (constraint_direct_p3_G (zq8e i)) := by
  rw [show constraint_direct_p3_code = .loop (loopBody constraint_direct_p3_code) by kernel_rfl]
  exact piece_loop (X := constraint_direct_X) (p := 1) (Λ := pick1 []) (G := fun i => @fun β d ks => constraint_direct_p3_G (zq8e i) d ks) mixed tab_ok hΓ rfl (by kernel_rfl) CutsOk_nil (fun _ _ => rfl) (fun i => @fun β d ks r h => Eq.trans (b := constraint_direct_p3_G (zq8e (i + 1)) d ks) (by kernel_rfl) h) i
def zq8g (p2 : zq80) (p3 : zq84) {β : Type} (n : Int) (l : List (Int × (Int × Int))) (k : ((List (List Int)) → Option β)) : Option β :=
  cond (decide (0 ≤ n) && (decide (n = n) && (decide (Int.toNat n * 24 ≤ roomMax) && decide (n ≤ 9223372036854775807))))
  (let m_ : List (List Int) := (List.replicate (Int.toNat n) ([] : List Int));
  p2 (fun (l2 : List (Int × (Int × Int))) (out : List (List Int)) =>
  p3 (fun (out2 : List (List Int)) =>
  k out2) l2 (List.length l2 : Int) (0 : Int) out) n l (List.length m_ : Int) (0 : Int) m_)
  none
theorem zq8h (hΓ : ΓOk Try.prog constraint_direct_X.Γ) (p2 : zq80) (p3 : zq84) (hp2 : PieceOk Try.prog 66 0 constraint_direct_p2_code zq81 zq82 (constraint_direct_p2_G p2)) (hp3 : PieceOk Try.prog 66 0 constraint_direct_p3_code zq85 zq86 (constraint_direct_p3_G p3)) : SpecOk Try.prog 77 (zq7u (zq8g p2 p3)) :=
  spec_exec (X := constraint_direct_X) (Λ := pick1 [(58, pieceCut zq81 zq82 (constraint_direct_p2_G p2)), (122, pieceCut zq85 zq86 (constraint_direct_p3_G p3))]) (rs := [.tmp 4]) (c := bodyOf Try.f77) mixed tab_ok hΓ Try.func77 (by kernel_rfl) (by kernel_rfl) (by kernel_rfl) (by kernel_rfl) (CutsOk_cons (q := 58) (c' := constraint_direct_p2_code) (by kernel_rfl) rfl hp2 (CutsOk_cons (q := 122) (c' := constraint_direct_p3_code) (by kernel_rfl) rfl hp3 CutsOk_nil)) (fun x k r h => Eq.trans (b := (zq7u (zq8g p2 p3)).run x k) (by kernel_rfl) h)
end
theorem zq8iΓ : ΓOk Try.prog (pick1 []) := ΓOk_nil
def zq8j (m : Nat) : zq7w := zq88 m
theorem zq8k {β : Type} (i : Nat) (k1 n l i_ t13 t14 t26 t27 out) : (zq8j (i + 1) k1 n l i_ t13 t14 t26 t27 out : Option β) = zq87 (zq8j i k1) k1 n l i_ t13 t14 t26 t27 out := rfl
def zq8l : zq7w := zq8j fuel
theorem zq8m : PieceOk Try.prog 66 0 constraint_direct_p1_code zq7x zq7y (constraint_direct_p1_G zq8l) := zq89 zq8iΓ fuel
def zq8n (m : Nat) : zq80 := zq8b zq8l m
theorem zq8o {β : Type} (i : Nat) (k1 n l t13 t14 out) : (zq8n (i + 1) k1 n l t13 t14 out : Option β) = zq8a zq8l (zq8n i k1) k1 n l t13 t14 out := rfl
def zq8p : zq80 := zq8n fuel
theorem zq8q : PieceOk Try.prog 66 0 constraint_direct_p2_code zq81 zq82 (constraint_direct_p2_G zq8p) := zq8c zq8iΓ zq8l zq8m fuel
def zq8r (m : Nat) : zq84 := zq8e m
theorem zq8s {β : Type} (i : Nat) (k1 t38 t39 t40 out) : (zq8r (i + 1) k1 t38 t39 t40 out : Option β) = zq8d (zq8r i k1) k1 t38 t39 t40 out := rfl
def zq8t : zq84 := zq8r fuel
theorem zq8u : PieceOk Try.prog 66 0 constraint_direct_p3_code zq85 zq86 (constraint_direct_p3_G zq8t) := zq8f zq8iΓ fuel
def zq8v : zq7t := zq8g zq8p zq8t
theorem zq8w : SpecOk Try.prog 77 (zq7u zq8v) := zq8h zq8iΓ zq8p zq8t zq8q zq8u

/-- pagewatch/constraint.Valid$1 -/
abbrev zq8x := {β : Type} → (Int × (Int × Int)) → Int → (Bool → Int → Option β) → Option β
def zq8y (c : zq8x) : Spec :=
  ⟨[(true, [.data (.prod (.int .i64) (.prod (.int .i64) (.int .i64)))]), (false, [.ptr 0 0])], [.cells 3 [.data (.int .i64)]], [(false, [.data .bool])], [.cells 3 [.data (.int .i64)]], fun x k => c x.1.1.1 x.2.1.1 (fun r0 r1 => k (((r0, ()), ()), ((r1, ()), ())))⟩
section
variable (c_constraint_in : zq6p)
@[reducible] def constraint_Valid_f1_X : Ctx := ⟨look tab, pick1 [(72, .spec (zq6q c_constraint_in))], false⟩
def zq8z {β : Type} (d : (Int × (Int × Int))) (t1 : Int) (k : (Bool → Int → Option β)) : Option β :=
  c_constraint_in d.1 (0 : Int) (IntKind.i64.wrap (t1 - (1 : Int))) (fun (rin : Bool) =>
  cond (!rin)
  (k true t1)
  (c_constraint_in d.2.1 (0 : Int) (IntKind.i64.wrap (t1 - (1 : Int))) (fun (rin2 : Bool) =>
  cond (!rin2)
  (k true t1)
  (c_constraint_in d.2.2 (-17179869184 : Int) (17179869184 : Int) (fun (rin3 : Bool) =>
  k (!rin3) t1)))))
theorem zq90 (hΓ : ΓOk Try.prog (constraint_Valid_f1_X c_constraint_in).Γ) : SpecOk Try.prog 78 (zq8y (zq8z c_constraint_in)) :=
  spec_exec (X := (constraint_Valid_f1_X c_constraint_in)) (Λ := pick1 []) (rs := [.tmp 3]) (c := bodyOf Try.f78) mixed tab_ok hΓ Try.func78 (by kernel_rfl) (by kernel_rfl) (by kernel_rfl) (by kernel_rfl) CutsOk_nil (fun x k r h => Eq.trans (b := (zq8y (zq8z c_constraint_in)).run x k) (by kernel_rfl) h)
end
theorem zq91Γ : ΓOk Try.prog (pick1 [(72, .spec (zq6q zq6u))]) := (ΓOk_cons zq6v ΓOk_nil)
def zq92 : zq8x := zq8z zq6u
theorem zq93 : SpecOk Try.prog 78 (zq8y zq92) := zq90 zq6u zq91Γ

/-- (*pagewatch/pagewatchmade.Dice).Record -/
abbrev zq94 := {β : Type} → Int → (List Int × Int) → (zq4 → (List Int × Int) → (List Int) → Option β) → Option β
def zq95 (c : zq94) : Spec :=
  ⟨[(false, [.ptr 0 0]), (false, [.data (.int .i64)])], [.cells 68 [.data (.prod (.slice (.int .i64)) (.int .i64))]], [(true, [.data zq5]), (false, [.rowh 1])], [.cells 68 [.data (.prod (.slice (.int .i64)) (.int .i64))], .row 3 (.int .i64)], fun x k => c x.1.2.1.1 x.2.1.1 (fun r0 r1 r2 => k (((r0, ()), (), ()), ((r1, ()), r2, ())))⟩
noncomputable def made_Dice_Record_p1_code : Code := codeAt 122 (bodyOf Try.f7)
noncomputable def made_Dice_Record_p2_code : Code := codeAt 250 (bodyOf Try.f7)
noncomputable def made_Dice_Record_p3_code : Code := codeAt 1018 (bodyOf Try.f7)
noncomputable def made_Dice_Record_p5_code : Code := codeAt 2042 (bodyOf Try.f7)
noncomputable def made_Dice_Record_p4_code : Code := codeAt 51 (loopBody made_Dice_Record_p5_code)
abbrev zq96 (β : Type) := Int → (List Int) → Int → (List Int) → (List (List UInt8 × Int)) → (List zq2) → (List zq0) → (List (Int × (Int × Int))) → (List (List UInt8 × Int)) → (List zq2) → (List zq0) → (List (Int × (Int × Int))) → Option β
abbrev zq97 := {β : Type} → zq96 β → Int → Int → (List Int) → Int → (List Int) → (List (List UInt8 × Int)) → (List zq2) → (List zq0) → (List (Int × (Int × Int))) → (List (List UInt8 × Int)) → (List zq2) → (List zq0) → (List (Int × (Int × Int))) → Option β
def zq98 : View := ⟨1, [0, 1, 4, 6, 7, 8], [(false, [.ptr 0 0]), (false, [.data (.int .i64)]), (false, [.ptr 1 0]), (false, [.ptr 2 0]), (false, [.rowh 3]), (false, [.data (.int .i64)])], [.cells 68 [.data (.slice (.int .i64)), .data (.int .i64)], .cells 28 [.rowh 4, .rowh 5, .rowh 6, .rowh 7], .cells 28 [.rowh 8, .rowh 9, .rowh 10, .rowh 11], .row 3 (.int .i64), .row 72 (.prod .str (.int .i64)), .row 74 zq3, .row 76 zq1, .row 66 (.prod (.int .i64) (.prod (.int .i64) (.int .i64))), .row 72 (.prod .str (.int .i64)), .row 74 zq3, .row 76 zq1, .row 66 (.prod (.int .i64) (.prod (.int .i64) (.int .i64)))]⟩
def zq99 : List (AExit × View) := [(.exit 0, ⟨1, [0, 1, 4, 6, 7], [(false, [.ptr 0 0]), (false, [.data (.int .i64)]), (false, [.ptr 1 0]), (false, [.ptr 2 0]), (false, [.rowh 3])], [.cells 68 [.data (.slice (.int .i64)), .data (.int .i64)], .cells 28 [.rowh 4, .rowh 5, .rowh 6, .rowh 7], .cells 28 [.rowh 8, .rowh 9, .rowh 10, .rowh 11], .row 3 (.int .i64), .row 72 (.prod .str (.int .i64)), .row 74 zq3, .row 76 zq1, .row 66 (.prod (.int .i64) (.prod (.int .i64) (.int .i64))), .row 72 (.prod .str (.int .i64)), .row 74 zq3, .row 76 zq1, .row 66 (.prod (.int .i64) (.prod (.int .i64) (.int .i64)))]⟩)]
@[reducible] def made_Dice_Record_p1_G (p : zq97) {β : Type} (d : zq98.den) (ks : Outs.K β zq99) : Option β :=
  p (fun a0 a1 a2 a3 a4 a5 a6 a7 a8 a9 a10 a11 => ks.1 (((), (a0, ()), (), (), (), ()), ((a1, a2, ()), (), (), a3, a4, a5, a6, a7, a8, a9, a10, a11, ()))) d.1.2.1.1 d.1.2.2.2.2.2.1.1 d.2.1.1 d.2.1.2.1 d.2.2.2.2.1 d.2.2.2.2.2.1 d.2.2.2.2.2.2.1 d.2.2.2.2.2.2.2.1 d.2.2.2.2.2.2.2.2.1 d.2.2.2.2.2.2.2.2.2.1 d.2.2.2.2.2.2.2.2.2.2.1 d.2.2.2.2.2.2.2.2.2.2.2.1 d.2.2.2.2.2.2.2.2.2.2.2.2.1
abbrev zq9a (β : Type) := Int → (List Int) → Int → (List Int) → (List (List UInt8 × Int)) → (List zq2) → (List zq0) → (List (Int × (Int × Int))) → (List (List UInt8 × Int)) → (List zq2) → (List zq0) → (List (Int × (Int × Int))) → Option β
abbrev zq9b := {β : Type} → zq9a β → Int → Int → (List Int) → Int → (List Int) → (List (List UInt8 × Int)) → (List zq2) → (List zq0) → (List (Int × (Int × Int))) → (List (List UInt8 × Int)) → (List zq2) → (List zq0) → (List (Int × (Int × Int))) → Option β
def zq9c : View := ⟨1, [0, 1, 4, 6, 7, 9], [(false, [.ptr 0 0]), (false, [.data (.int .i64)]), (false, [.ptr 1 0]), (false, [.ptr 2 0]), (false, [.rowh 3]), (false, [.data (.int .i64)])], [.cells 68 [.data (.slice (.int .i64)), .data (.int .i64)], .cells 28 [.rowh 4, .rowh 5, .rowh 6, .rowh 7], .cells 28 [.rowh 8, .rowh 9, .rowh 10, .rowh 11], .row 3 (.int .i64), .row 72 (.prod .str (.int .i64)), .row 74 zq3, .row 76 zq1, .row 66 (.prod (.int .i64) (.prod (.int .i64) (.int .i64))), .row 72 (.prod .str (.int .i64)), .row 74 zq3, .row 76 zq1, .row 66 (.prod (.int .i64) (.prod (.int .i64) (.int .i64)))]⟩
def zq9d : List (AExit × View) := [(.exit 2, ⟨1, [0, 1, 4, 6, 7], [(false, [.ptr 0 0]), (false, [.data (.int .i64)]), (false, [.ptr 1 0]), (false, [.ptr 2 0]), (false, [.rowh 3])], [.cells 68 [.data (.slice (.int .i64)), .data (.int .i64)], .cells 28 [.rowh 4, .rowh 5, .rowh 6, .rowh 7], .cells 28 [.rowh 8, .rowh 9, .rowh 10, .rowh 11], .row 3 (.int .i64), .row 72 (.prod .str (.int .i64)), .row 74 zq3, .row 76 zq1, .row 66 (.prod (.int .i64) (.prod (.int .i64) (.int .i64))), .row 72 (.prod .str (.int .i64)), .row 74 zq3, .row 76 zq1, .row 66 (.prod (.int .i64) (.prod (.int .i64) (.int .i64)))]⟩)]
@[reducible] def made_Dice_Record_p2_G (p : zq9b) {β : Type} (d : zq9c.den) (ks : Outs.K β zq9d) : Option β :=
  p (fun a0 a1 a2 a3 a4 a5 a6 a7 a8 a9 a10 a11 => ks.1 (((), (a0, ()), (), (), (), ()), ((a1, a2, ()), (), (), a3, a4, a5, a6, a7, a8, a9, a10, a11, ()))) d.1.2.1.1 d.1.2.2.2.2.2.1.1 d.2.1.1 d.2.1.2.1 d.2.2.2.2.1 d.2.2.2.2.2.1 d.2.2.2.2.2.2.1 d.2.2.2.2.2.2.2.1 d.2.2.2.2.2.2.2.2.1 d.2.2.2.2.2.2.2.2.2.1 d.2.2.2.2.2.2.2.2.2.2.1 d.2.2.2.2.2.2.2.2.2.2.2.1 d.2.2.2.2.2.2.2.2.2.2.2.2.1
abbrev zq9e (β : Type) := (List Int) → Int → (List Int) → (List (List UInt8 × Int)) → (List zq2) → (List zq0) → (List (Int × (Int × Int))) → (List (List UInt8 × Int)) → (List zq2) → (List zq0) → (List (Int × (Int × Int))) → Option β
abbrev zq9f := {β : Type} → zq9e β → Int → (List Int) → Int → (List Int) → (List Int) → (List (List UInt8 × Int)) → (List zq2) → (List zq0) → (List (Int × (Int × Int))) → (List (List UInt8 × Int)) → (List zq2) → (List zq0) → (List (Int × (Int × Int))) → Option β
def zq9g : View := ⟨1, [0, 4, 6, 7, 12, 13], [(false, [.ptr 0 0]), (false, [.ptr 1 0]), (false, [.ptr 2 0]), (false, [.rowh 3]), (false, [.rowh 4]), (false, [.data (.int .i64)])], [.cells 68 [.data (.slice (.int .i64)), .data (.int .i64)], .cells 28 [.rowh 5, .rowh 6, .rowh 7, .rowh 8], .cells 28 [.rowh 9, .rowh 10, .rowh 11, .rowh 12], .row 3 (.int .i64), .row 3 (.int .i64), .row 72 (.prod .str (.int .i64)), .row 74 zq3, .row 76 zq1, .row 66 (.prod (.int .i64) (.prod (.int .i64) (.int .i64))), .row 72 (.prod .str (.int .i64)), .row 74 zq3, .row 76 zq1, .row 66 (.prod (.int .i64) (.prod (.int .i64) (.int .i64)))]⟩
def zq9h : List (AExit × View) := [(.exit 4, ⟨1, [0, 4, 6, 12], [(false, [.ptr 0 0]), (false, [.ptr 1 0]), (false, [.ptr 2 0]), (false, [.rowh 3])], [.cells 68 [.data (.slice (.int .i64)), .data (.int .i64)], .cells 28 [.rowh 4, .rowh 5, .rowh 6, .rowh 7], .cells 28 [.rowh 8, .rowh 9, .rowh 10, .rowh 11], .row 3 (.int .i64), .row 72 (.prod .str (.int .i64)), .row 74 zq3, .row 76 zq1, .row 66 (.prod (.int .i64) (.prod (.int .i64) (.int .i64))), .row 72 (.prod .str (.int .i64)), .row 74 zq3, .row 76 zq1, .row 66 (.prod (.int .i64) (.prod (.int .i64) (.int .i64)))]⟩)]
@[reducible] def made_Dice_Record_p3_G (p : zq9f) {β : Type} (d : zq9g.den) (ks : Outs.K β zq9h) : Option β :=
  p (fun a0 a1 a2 a3 a4 a5 a6 a7 a8 a9 a10 => ks.1 (((), (), (), (), ()), ((a0, a1, ()), (), (), a2, a3, a4, a5, a6, a7, a8, a9, a10, ()))) d.1.2.2.2.2.2.1.1 d.2.1.1 d.2.1.2.1 d.2.2.2.2.1 d.2.2.2.2.2.1 d.2.2.2.2.2.2.1 d.2.2.2.2.2.2.2.1 d.2.2.2.2.2.2.2.2.1 d.2.2.2.2.2.2.2.2.2.1 d.2.2.2.2.2.2.2.2.2.2.1 d.2.2.2.2.2.2.2.2.2.2.2.1 d.2.2.2.2.2.2.2.2.2.2.2.2.1 d.2.2.2.2.2.2.2.2.2.2.2.2.2.1
abbrev zq9i (β : Type) := Int → (List Int) → Int → (List Int) → (List (List UInt8 × Int)) → (List zq2) → (List zq0) → (List (Int × (Int × Int))) → (List (List UInt8 × Int)) → (List zq2) → (List zq0) → (List (Int × (Int × Int))) → Option β
abbrev zq9j := {β : Type} → zq9i β → Int → Int → Int → Bool → (List Int) → Int → (List Int) → (List (List UInt8 × Int)) → (List zq2) → (List zq0) → (List (Int × (Int × Int))) → (List (List UInt8 × Int)) → (List zq2) → (List zq0) → (List (Int × (Int × Int))) → Option β
def zq9k : View := ⟨1, [0, 4, 6, 12, 16, 17, 18, 154], [(false, [.ptr 0 0]), (false, [.ptr 1 0]), (false, [.ptr 2 0]), (false, [.rowh 3]), (false, [.data (.int .i64)]), (false, [.data (.int .i64)]), (false, [.data (.int .i64)]), (false, [.data .bool])], [.cells 68 [.data (.slice (.int .i64)), .data (.int .i64)], .cells 28 [.rowh 4, .rowh 5, .rowh 6, .rowh 7], .cells 28 [.rowh 8, .rowh 9, .rowh 10, .rowh 11], .row 3 (.int .i64), .row 72 (.prod .str (.int .i64)), .row 74 zq3, .row 76 zq1, .row 66 (.prod (.int .i64) (.prod (.int .i64) (.int .i64))), .row 72 (.prod .str (.int .i64)), .row 74 zq3, .row 76 zq1, .row 66 (.prod (.int .i64) (.prod (.int .i64) (.int .i64)))]⟩
def zq9l : List (AExit × View) := [(.normal, ⟨1, [0, 4, 6, 12, 16], [(false, [.ptr 0 0]), (false, [.ptr 1 0]), (false, [.ptr 2 0]), (false, [.rowh 3]), (false, [.data (.int .i64)])], [.cells 68 [.data (.slice (.int .i64)), .data (.int .i64)], .cells 28 [.rowh 4, .rowh 5, .rowh 6, .rowh 7], .cells 28 [.rowh 8, .rowh 9, .rowh 10, .rowh 11], .row 3 (.int .i64), .row 72 (.prod .str (.int .i64)), .row 74 zq3, .row 76 zq1, .row 66 (.prod (.int .i64) (.prod (.int .i64) (.int .i64))), .row 72 (.prod .str (.int .i64)), .row 74 zq3, .row 76 zq1, .row 66 (.prod (.int .i64) (.prod (.int .i64) (.int .i64)))]⟩)]
@[reducible] def made_Dice_Record_p4_G (p : zq9j) {β : Type} (d : zq9k.den) (ks : Outs.K β zq9l) : Option β :=
  p (fun a0 a1 a2 a3 a4 a5 a6 a7 a8 a9 a10 a11 => ks.1 (((), (), (), (), (a0, ()), ()), ((a1, a2, ()), (), (), a3, a4, a5, a6, a7, a8, a9, a10, a11, ()))) d.1.2.2.2.2.1.1 d.1.2.2.2.2.2.1.1 d.1.2.2.2.2.2.2.1.1 d.1.2.2.2.2.2.2.2.1.1 d.2.1.1 d.2.1.2.1 d.2.2.2.2.1 d.2.2.2.2.2.1 d.2.2.2.2.2.2.1 d.2.2.2.2.2.2.2.1 d.2.2.2.2.2.2.2.2.1 d.2.2.2.2.2.2.2.2.2.1 d.2.2.2.2.2.2.2.2.2.2.1 d.2.2.2.2.2.2.2.2.2.2.2.1 d.2.2.2.2.2.2.2.2.2.2.2.2.1
abbrev zq9m (β : Type) := (List Int) → Int → (List Int) → (List (List UInt8 × Int)) → (List zq2) → (List zq0) → (List (Int × (Int × Int))) → (List (List UInt8 × Int)) → (List zq2) → (List zq0) → (List (Int × (Int × Int))) → Option β
abbrev zq9n := {β : Type} → zq9m β → Int → (List Int) → Int → (List Int) → (List (List UInt8 × Int)) → (List zq2) → (List zq0) → (List (Int × (Int × Int))) → (List (List UInt8 × Int)) → (List zq2) → (List zq0) → (List (Int × (Int × Int))) → Option β
def zq9o : View := ⟨1, [0, 4, 6, 12, 16], [(false, [.ptr 0 0]), (false, [.ptr 1 0]), (false, [.ptr 2 0]), (false, [.rowh 3]), (false, [.data (.int .i64)])], [.cells 68 [.data (.slice (.int .i64)), .data (.int .i64)], .cells 28 [.rowh 4, .rowh 5, .rowh 6, .rowh 7], .cells 28 [.rowh 8, .rowh 9, .rowh 10, .rowh 11], .row 3 (.int .i64), .row 72 (.prod .str (.int .i64)), .row 74 zq3, .row 76 zq1, .row 66 (.prod (.int .i64) (.prod (.int .i64) (.int .i64))), .row 72 (.prod .str (.int .i64)), .row 74 zq3, .row 76 zq1, .row 66 (.prod (.int .i64) (.prod (.int .i64) (.int .i64)))]⟩
def zq9p : List (AExit × View) := [(.exit 6, ⟨1, [4, 6, 12], [(false, [.ptr 1 0]), (false, [.ptr 2 0]), (false, [.rowh 3])], [.cells 68 [.data (.slice (.int .i64)), .data (.int .i64)], .cells 28 [.rowh 4, .rowh 5, .rowh 6, .rowh 7], .cells 28 [.rowh 8, .rowh 9, .rowh 10, .rowh 11], .row 3 (.int .i64), .row 72 (.prod .str (.int .i64)), .row 74 zq3, .row 76 zq1, .row 66 (.prod (.int .i64) (.prod (.int .i64) (.int .i64))), .row 72 (.prod .str (.int .i64)), .row 74 zq3, .row 76 zq1, .row 66 (.prod (.int .i64) (.prod (.int .i64) (.int .i64)))]⟩)]
@[reducible] def made_Dice_Record_p5_G (p : zq9n) {β : Type} (d : zq9o.den) (ks : Outs.K β zq9p) : Option β :=
  p (fun a0 a1 a2 a3 a4 a5 a6 a7 a8 a9 a10 => ks.1 (((), (), (), ()), ((a0, a1, ()), (), (), a2, a3, a4, a5, a6, a7, a8, a9, a10, ()))) d.1.2.2.2.2.1.1 d.2.1.1 d.2.1.2.1 d.2.2.2.2.1 d.2.2.2.2.2.1 d.2.2.2.2.2.2.1 d.2.2.2.2.2.2.2.1 d.2.2.2.2.2.2.2.2.1 d.2.2.2.2.2.2.2.2.2.1 d.2.2.2.2.2.2.2.2.2.2.1 d.2.2.2.2.2.2.2.2.2.2.2.1 d.2.2.2.2.2.2.2.2.2.2.2.2.1
section
variable (c_made_Dice_Next : zq25) (c_made_Dice_One : zq2j)
@[reducible] def made_Dice_Record_X : Ctx := ⟨look tab, pick1 [(22, .spec (zq26 c_made_Dice_Next)), (32, .spec (zq2k c_made_Dice_One))], false⟩
def zq9q {β : Type} (rec : Int → Int → (List Int) → Int → (List Int) → (List (List UInt8 × Int)) → (List zq2) → (List zq0) → (List (Int × (Int × Int))) → (List (List UInt8 × Int)) → (List zq2) → (List zq0) → (List (Int × (Int × Int))) → Option β) (k1 : zq96 β) (n : Int) (i_ : Int) (d : List Int) (d2 : Int) (ahead : List Int) (b4_ : List (List UInt8 × Int)) (b5_ : List zq2) (b6_ : List zq0) (b7_ : List (Int × (Int × Int))) (b8_ : List (List UInt8 × Int)) (b9_ : List zq2) (b10_ : List zq0) (b11_ : List (Int × (Int × Int))) : Option β :=
  cond (decide ((0 : Int) < i_))
  (let l : List (List UInt8) := ([([100, 98] : List UInt8), ([119, 101, 98] : List UInt8), ([108, 98] : List UInt8)] : List (List UInt8));
  cond (decide (0 ≤ (List.length b8_ : Int)) && decide ((List.length b8_ : Int) < (List.length l : Int)))
  (let l2 : List Int := ([(0 : Int), (0 : Int), (100 : Int), (50000 : Int), (500000 : Int)] : List Int);
  c_made_Dice_One l2 (d, d2) (fun (rOne : Int) (mrOne : (List Int × Int)) =>
  let l3 : List (List UInt8 × Int) := ([((List.getD l (Int.toNat (List.length b8_ : Int)) ([] : List UInt8)), rOne)] : List (List UInt8 × Int));
  cond (decide ((List.length b8_ + List.length l3) * 24 ≤ roomMax))
  (let l4 : List (List UInt8 × Int) := (b8_ ++ l3);
  let l5 : List Int := ([(0 : Int), (7 : Int), (100 : Int)] : List Int);
  c_made_Dice_One l5 mrOne (fun (rOne2 : Int) (mrOne2 : (List Int × Int)) =>
  let l6 : List Int := ([rOne2] : List Int);
  cond (decide ((List.length ahead + List.length l6) * 8 ≤ roomMax))
  (let l7 : List Int := (ahead ++ l6);
  let i_2 : Int := (IntKind.i64.wrap (i_ - (1 : Int)));
  rec n i_2 mrOne2.1 mrOne2.2 l7 b4_ b5_ b6_ b7_ l4 b9_ b10_ b11_)
  none))
  none))
  none)
  (k1 n d d2 ahead b4_ b5_ b6_ b7_ b8_ b9_ b10_ b11_)
def zq9r {β : Type} : Nat → zq96 β → Int → Int → (List Int) → Int → (List Int) → (List (List UInt8 × Int)) → (List zq2) → (List zq0) → (List (Int × (Int × Int))) → (List (List UInt8 × Int)) → (List zq2) → (List zq0) → (List (Int × (Int × Int))) → Option β
  | 0 => fun _ _ _ _ _ _ _ _ _ _ _ _ _ _ => none
  | i + 1 => fun k1 n i_ d d2 ahead b4_ b5_ b6_ b7_ b8_ b9_ b10_ b11_ => zq9q c_made_Dice_One (zq9r i k1) k1 n i_ d d2 ahead b4_ b5_ b6_ b7_ b8_ b9_ b10_ b11_
theorem zq9s (hΓ : ΓOk Try.prog (made_Dice_Record_X c_made_Dice_Next c_made_Dice_One).Γ) (i : Nat) : PieceOk Try.prog 177 1 made_Dice_Record_p1_code zq98 zq99 (made_Dice_Record_p1_G (zq9r c_made_Dice_One i)) := by
  rw [show made_Dice_Record_p1_code = .loop (loopBody made_Dice_Record_p1_code) by kernel_rfl]
  exact piece_loop (X := (made_Dice_Record_X c_made_Dice_Next c_made_Dice_One)) (p := 1) (Λ := pick1 []) (G := fun i => @fun β d ks => made_Dice_Record_p1_G (zq9r c_made_Dice_One i) d ks) mixed tab_ok hΓ rfl (by kernel_rfl) CutsOk_nil (fun _ _ => rfl) (fun i => @fun β d ks r h => Eq.trans (b := made_Dice_Record_p1_G (zq9r c_made_Dice_One (i + 1)) d ks) (by kernel_rfl) h) i
def zq9t {β : Type} (rec : Int → Int → (List Int) → Int → (List Int) → (List (List UInt8 × Int)) → (List zq2) → (List zq0) → (List (Int × (Int × Int))) → (List (List UInt8 × Int)) → (List zq2) → (List zq0) → (List (Int × (Int × Int))) → Option β) (k1 : zq9a β) (n : Int) (i_ : Int) (d : List Int) (d2 : Int) (ahead : List Int) (b4_ : List (List UInt8 × Int)) (b5_ : List zq2) (b6_ : List zq0) (b7_ : List (Int × (Int × Int))) (b8_ : List (List UInt8 × Int)) (b9_ : List zq2) (b10_ : List zq0) (b11_ : List (Int × (Int × Int))) : Option β :=
  cond (decide ((0 : Int) < i_))
  (c_made_Dice_Next (List.length b8_ : Int) (d, d2) (fun (rNext : Int) (mrNext : (List Int × Int)) =>
  c_made_Dice_Next (400 : Int) mrNext (fun (rNext2 : Int) (mrNext2 : (List Int × Int)) =>
  let t : Int := (IntKind.i64.wrap ((864000 : Int) + rNext2));
  cond (decide (0 ≤ rNext) && decide (rNext < (List.length ahead : Int)))
  (let l : List Int := ([(0 : Int), (3 : Int), (20 : Int)] : List Int);
  c_made_Dice_One l mrNext2 (fun (rOne : Int) (mrOne : (List Int × Int)) =>
  let l2 : List Int := ([(0 : Int), (2 : Int), (15 : Int)] : List Int);
  c_made_Dice_One l2 mrOne (fun (rOne2 : Int) (mrOne2 : (List Int × Int)) =>
  let l3 : List zq2 := ([(rNext, ((IntKind.i64.wrap (t + (List.getD ahead (Int.toNat rNext) (0 : Int)))), ((IntKind.i64.wrap (t - rOne)), (IntKind.i64.wrap (t + rOne2)))))] : List zq2);
  cond (decide ((List.length b9_ + List.length l3) * 32 ≤ roomMax))
  (let l4 : List zq2 := (b9_ ++ l3);
  let i_2 : Int := (IntKind.i64.wrap (i_ - (1 : Int)));
  rec n i_2 mrOne2.1 mrOne2.2 ahead b4_ b5_ b6_ b7_ b8_ l4 b10_ b11_)
  none)))
  none)))
  (k1 n d d2 ahead b4_ b5_ b6_ b7_ b8_ b9_ b10_ b11_)
def zq9u {β : Type} : Nat → zq9a β → Int → Int → (List Int) → Int → (List Int) → (List (List UInt8 × Int)) → (List zq2) → (List zq0) → (List (Int × (Int × Int))) → (List (List UInt8 × Int)) → (List zq2) → (List zq0) → (List (Int × (Int × Int))) → Option β
  | 0 => fun _ _ _ _ _ _ _ _ _ _ _ _ _ _ => none
  | i + 1 => fun k1 n i_ d d2 ahead b4_ b5_ b6_ b7_ b8_ b9_ b10_ b11_ => zq9t c_made_Dice_Next c_made_Dice_One (zq9u i k1) k1 n i_ d d2 ahead b4_ b5_ b6_ b7_ b8_ b9_ b10_ b11_
theorem zq9v (hΓ : ΓOk Try.prog (made_Dice_Record_X c_made_Dice_Next c_made_Dice_One).Γ) (i : Nat) : PieceOk Try.prog 177 1 made_Dice_Record_p2_code zq9c zq9d (made_Dice_Record_p2_G (zq9u c_made_Dice_Next c_made_Dice_One i)) := by
  rw [show made_Dice_Record_p2_code = .loop (loopBody made_Dice_Record_p2_code) by kernel_rfl]
  exact piece_loop (X := (made_Dice_Record_X c_made_Dice_Next c_made_Dice_One)) (p := 1) (Λ := pick1 []) (G := fun i => @fun β d ks => made_Dice_Record_p2_G (zq9u c_made_Dice_Next c_made_Dice_One i) d ks) mixed tab_ok hΓ rfl (by kernel_rfl) CutsOk_nil (fun _ _ => rfl) (fun i => @fun β d ks r h => Eq.trans (b := made_Dice_Record_p2_G (zq9u c_made_Dice_Next c_made_Dice_One (i + 1)) d ks) (by kernel_rfl) h) i
def zq9w {β : Type} (rec : Int → (List Int) → Int → (List Int) → (List Int) → (List (List UInt8 × Int)) → (List zq2) → (List zq0) → (List (Int × (Int × Int))) → (List (List UInt8 × Int)) → (List zq2) → (List zq0) → (List (Int × (Int × Int))) → Option β) (k1 : zq9e β) (i_ : Int) (d : List Int) (d2 : Int) (ahead : List Int) (times : List Int) (b5_ : List (List UInt8 × Int)) (b6_ : List zq2) (b7_ : List zq0) (b8_ : List (Int × (Int × Int))) (b9_ : List (List UInt8 × Int)) (b10_ : List zq2) (b11_ : List zq0) (b12_ : List (Int × (Int × Int))) : Option β :=
  cond (decide ((0 : Int) < i_))
  (c_made_Dice_Next (List.length b9_ : Int) (d, d2) (fun (rNext : Int) (mrNext : (List Int × Int)) =>
  c_made_Dice_Next (300 : Int) mrNext (fun (rNext2 : Int) (mrNext2 : (List Int × Int)) =>
  let t : Int := (IntKind.i64.wrap ((864000 : Int) + rNext2));
  cond (decide (0 ≤ rNext) && decide (rNext < (List.length ahead : Int)))
  (let l : List (List UInt8) := ([([117, 112] : List UInt8), ([100, 111, 119, 110] : List UInt8), ([115, 108, 111, 119] : List UInt8)] : List (List UInt8));
  c_made_Dice_Next (3 : Int) mrNext2 (fun (rNext3 : Int) (mrNext3 : (List Int × Int)) =>
  cond (decide (0 ≤ rNext3) && decide (rNext3 < (List.length l : Int)))
  (let l2 : List zq0 := ([(rNext, ((IntKind.i64.wrap (t + (List.getD ahead (Int.toNat rNext) (0 : Int)))), (List.getD l (Int.toNat rNext3) ([] : List UInt8))))] : List zq0);
  cond (decide ((List.length b11_ + List.length l2) * 32 ≤ roomMax))
  (let l3 : List zq0 := (b11_ ++ l2);
  let l4 : List Int := ([t] : List Int);
  cond (decide ((List.length times + List.length l4) * 8 ≤ roomMax))
  (let l5 : List Int := (times ++ l4);
  let i_2 : Int := (IntKind.i64.wrap (i_ - (1 : Int)));
  rec i_2 mrNext3.1 mrNext3.2 ahead l5 b5_ b6_ b7_ b8_ b9_ b10_ l3 b12_)
  none)
  none)
  none))
  none)))
  (k1 d d2 times b5_ b6_ b7_ b8_ b9_ b10_ b11_ b12_)
def zq9x {β : Type} : Nat → zq9e β → Int → (List Int) → Int → (List Int) → (List Int) → (List (List UInt8 × Int)) → (List zq2) → (List zq0) → (List (Int × (Int × Int))) → (List (List UInt8 × Int)) → (List zq2) → (List zq0) → (List (Int × (Int × Int))) → Option β
  | 0 => fun _ _ _ _ _ _ _ _ _ _ _ _ _ _ => none
  | i + 1 => fun k1 i_ d d2 ahead times b5_ b6_ b7_ b8_ b9_ b10_ b11_ b12_ => zq9w c_made_Dice_Next (zq9x i k1) k1 i_ d d2 ahead times b5_ b6_ b7_ b8_ b9_ b10_ b11_ b12_
theorem zq9y (hΓ : ΓOk Try.prog (made_Dice_Record_X c_made_Dice_Next c_made_Dice_One).Γ) (i : Nat) : PieceOk Try.prog 177 1 made_Dice_Record_p3_code zq9g zq9h (made_Dice_Record_p3_G (zq9x c_made_Dice_Next i)) := by
  rw [show made_Dice_Record_p3_code = .loop (loopBody made_Dice_Record_p3_code) by kernel_rfl]
  exact piece_loop (X := (made_Dice_Record_X c_made_Dice_Next c_made_Dice_One)) (p := 1) (Λ := pick1 []) (G := fun i => @fun β d ks => made_Dice_Record_p3_G (zq9x c_made_Dice_Next i) d ks) mixed tab_ok hΓ rfl (by kernel_rfl) CutsOk_nil (fun _ _ => rfl) (fun i => @fun β d ks r h => Eq.trans (b := made_Dice_Record_p3_G (zq9x c_made_Dice_Next (i + 1)) d ks) (by kernel_rfl) h) i
def zq9z {β : Type} (k1 : zq9i β) (i_ : Int) (a : Int) (b : Int) (t154 : Bool) (d : List Int) (d2 : Int) (times : List Int) (b4_ : List (List UInt8 × Int)) (b5_ : List zq2) (b6_ : List zq0) (b7_ : List (Int × (Int × Int))) (b8_ : List (List UInt8 × Int)) (b9_ : List zq2) (b10_ : List zq0) (b11_ : List (Int × (Int × Int))) : Option β :=
  cond t154
  (cond (decide (0 ≤ b) && decide (b < (List.length times : Int)))
  (cond (decide (0 ≤ a) && decide (a < (List.length times : Int)))
  (c_made_Dice_Next (IntKind.i64.wrap ((IntKind.i64.wrap ((List.getD times (Int.toNat b) (0 : Int)) - (List.getD times (Int.toNat a) (0 : Int)))) + (1 : Int))) (d, d2) (fun (rNext : Int) (mrNext : (List Int × Int)) =>
  let l : List (Int × (Int × Int)) := ([(a, (b, rNext))] : List (Int × (Int × Int)));
  cond (decide ((List.length b11_ + List.length l) * 24 ≤ roomMax))
  (let l2 : List (Int × (Int × Int)) := (b11_ ++ l);
  k1 i_ mrNext.1 mrNext.2 times b4_ b5_ b6_ b7_ b8_ b9_ b10_ l2)
  none))
  none)
  none)
  (k1 i_ d d2 times b4_ b5_ b6_ b7_ b8_ b9_ b10_ b11_)
def zqa0 {β : Type} (k1 : zq9i β) (i_ : Int) (a : Int) (b : Int) (t154 : Bool) (d : List Int) (d2 : Int) (times : List Int) (b4_ : List (List UInt8 × Int)) (b5_ : List zq2) (b6_ : List zq0) (b7_ : List (Int × (Int × Int))) (b8_ : List (List UInt8 × Int)) (b9_ : List zq2) (b10_ : List zq0) (b11_ : List (Int × (Int × Int))) : Option β := zq9z c_made_Dice_Next k1 i_ a b t154 d d2 times b4_ b5_ b6_ b7_ b8_ b9_ b10_ b11_
theorem zqa1 (hΓ : ΓOk Try.prog (made_Dice_Record_X c_made_Dice_Next c_made_Dice_One).Γ) : PieceOk Try.prog 177 1 made_Dice_Record_p4_code zq9k zq9l (made_Dice_Record_p4_G (zqa0 c_made_Dice_Next)) :=
  piece_exec (X := (made_Dice_Record_X c_made_Dice_Next c_made_Dice_One)) (p := 51) (Λ := pick1 []) mixed tab_ok hΓ (by kernel_rfl) CutsOk_nil (fun d ks r h => Eq.trans (b := made_Dice_Record_p4_G (zqa0 c_made_Dice_Next) d ks) (by kernel_rfl) h)
def zqa2 (p4 : zq9j) {β : Type} (rec : Int → (List Int) → Int → (List Int) → (List (List UInt8 × Int)) → (List zq2) → (List zq0) → (List (Int × (Int × Int))) → (List (List UInt8 × Int)) → (List zq2) → (List zq0) → (List (Int × (Int × Int))) → Option β) (k1 : zq9m β) (i_ : Int) (d : List Int) (d2 : Int) (times : List Int) (b4_ : List (List UInt8 × Int)) (b5_ : List zq2) (b6_ : List zq0) (b7_ : List (Int × (Int × Int))) (b8_ : List (List UInt8 × Int)) (b9_ : List zq2) (b10_ : List zq0) (b11_ : List (Int × (Int × Int))) : Option β :=
  cond (decide ((0 : Int) < i_))
  (cond (decide ((1 : Int) < (List.length times : Int)))
  (c_made_Dice_Next (List.length times : Int) (d, d2) (fun (rNext : Int) (mrNext : (List Int × Int)) =>
  c_made_Dice_Next (List.length times : Int) mrNext (fun (rNext2 : Int) (mrNext2 : (List Int × Int)) =>
  cond (!decide (rNext = rNext2))
  (cond (decide (0 ≤ rNext) && decide (rNext < (List.length times : Int)))
  (cond (decide (0 ≤ rNext2) && decide (rNext2 < (List.length times : Int)))
  (p4 (fun (i_2 : Int) (d3 : List Int) (d4 : Int) (times2 : List Int) (b4_2 : List (List UInt8 × Int)) (b5_2 : List zq2) (b6_2 : List zq0) (b7_2 : List (Int × (Int × Int))) (b8_2 : List (List UInt8 × Int)) (b9_2 : List zq2) (b10_2 : List zq0) (b11_2 : List (Int × (Int × Int))) =>
  let i_3 : Int := (IntKind.i64.wrap (i_2 - (1 : Int)));
  rec i_3 d3 d4 times2 b4_2 b5_2 b6_2 b7_2 b8_2 b9_2 b10_2 b11_2) i_ rNext rNext2 (decide ((List.getD times (Int.toNat rNext) (0 : Int)) ≤ (List.getD times (Int.toNat rNext2) (0 : Int)))) mrNext2.1 mrNext2.2 times b4_ b5_ b6_ b7_ b8_ b9_ b10_ b11_)
  none)
  none)
  (p4 (fun (i_2 : Int) (d3 : List Int) (d4 : Int) (times2 : List Int) (b4_2 : List (List UInt8 × Int)) (b5_2 : List zq2) (b6_2 : List zq0) (b7_2 : List (Int × (Int × Int))) (b8_2 : List (List UInt8 × Int)) (b9_2 : List zq2) (b10_2 : List zq0) (b11_2 : List (Int × (Int × Int))) =>
  let i_3 : Int := (IntKind.i64.wrap (i_2 - (1 : Int)));
  rec i_3 d3 d4 times2 b4_2 b5_2 b6_2 b7_2 b8_2 b9_2 b10_2 b11_2) i_ rNext rNext2 false mrNext2.1 mrNext2.2 times b4_ b5_ b6_ b7_ b8_ b9_ b10_ b11_))))
  (k1 d d2 times b4_ b5_ b6_ b7_ b8_ b9_ b10_ b11_))
  (k1 d d2 times b4_ b5_ b6_ b7_ b8_ b9_ b10_ b11_)
def zqa3 (p4 : zq9j) {β : Type} : Nat → zq9m β → Int → (List Int) → Int → (List Int) → (List (List UInt8 × Int)) → (List zq2) → (List zq0) → (List (Int × (Int × Int))) → (List (List UInt8 × Int)) → (List zq2) → (List zq0) → (List (Int × (Int × Int))) → Option β
  | 0 => fun _ _ _ _ _ _ _ _ _ _ _ _ _ => none
  | i + 1 => fun k1 i_ d d2 times b4_ b5_ b6_ b7_ b8_ b9_ b10_ b11_ => zqa2 c_made_Dice_Next p4 (zqa3 p4 i k1) k1 i_ d d2 times b4_ b5_ b6_ b7_ b8_ b9_ b10_ b11_
theorem zqa4 (hΓ : ΓOk Try.prog (made_Dice_Record_X c_made_Dice_Next c_made_Dice_One).Γ) (p4 : zq9j) (hp4 : PieceOk Try.prog 177 1 made_Dice_Record_p4_code zq9k zq9l (made_Dice_Record_p4_G p4)) (i : Nat) : PieceOk Try.prog 177 1 made_Dice_Record_p5_code zq9o zq9p (made_Dice_Record_p5_G (zqa3 c_made_Dice_Next p4 i)) := by
  rw [show made_Dice_Record_p5_code = .loop (loopBody made_Dice_Record_p5_code) by kernel_rfl]
  exact piece_loop (X := (made_Dice_Record_X c_made_Dice_Next c_made_Dice_One)) (p := 1) (Λ := pick1 [(51, pieceCut zq9k zq9l (made_Dice_Record_p4_G p4))]) (G := fun i => @fun β d ks => made_Dice_Record_p5_G (zqa3 c_made_Dice_Next p4 i) d ks) mixed tab_ok hΓ rfl (by kernel_rfl) (CutsOk_cons (q := 51) (c' := made_Dice_Record_p4_code) (by kernel_rfl) rfl hp4 CutsOk_nil) (fun _ _ => rfl) (fun i => @fun β d ks r h => Eq.trans (b := made_Dice_Record_p5_G (zqa3 c_made_Dice_Next p4 (i + 1)) d ks) (by kernel_rfl) h) i
def zqa5 (p1 : zq97) (p2 : zq9b) (p3 : zq9f) (p5 : zq9n) {β : Type} (n : Int) (d : (List Int × Int)) (k : (zq4 → (List Int × Int) → (List Int) → Option β)) : Option β :=
  c_made_Dice_Next (3 : Int) d (fun (rNext : Int) (mrNext : (List Int × Int)) =>
  let i_ : Int := (IntKind.i64.wrap ((1 : Int) + rNext));
  p1 (fun (n2 : Int) (d2 : List Int) (d3 : Int) (ahead : List Int) (b4_ : List (List UInt8 × Int)) (b5_ : List zq2) (b6_ : List zq0) (b7_ : List (Int × (Int × Int))) (b8_ : List (List UInt8 × Int)) (b9_ : List zq2) (b10_ : List zq0) (b11_ : List (Int × (Int × Int))) =>
  c_made_Dice_Next (5 : Int) (d2, d3) (fun (rNext2 : Int) (mrNext2 : (List Int × Int)) =>
  p2 (fun (n3 : Int) (d4 : List Int) (d5 : Int) (ahead2 : List Int) (b4_2 : List (List UInt8 × Int)) (b5_2 : List zq2) (b6_2 : List zq0) (b7_2 : List (Int × (Int × Int))) (b8_2 : List (List UInt8 × Int)) (b9_2 : List zq2) (b10_2 : List zq0) (b11_2 : List (Int × (Int × Int))) =>
  c_made_Dice_Next (IntKind.i64.wrap (n3 + (1 : Int))) (d4, d5) (fun (rNext3 : Int) (mrNext3 : (List Int × Int)) =>
  p3 (fun (d6 : List Int) (d7 : Int) (times : List Int) (b4_3 : List (List UInt8 × Int)) (b5_3 : List zq2) (b6_3 : List zq0) (b7_3 : List (Int × (Int × Int))) (b8_3 : List (List UInt8 × Int)) (b9_3 : List zq2) (b10_3 : List zq0) (b11_3 : List (Int × (Int × Int))) =>
  c_made_Dice_Next (4 : Int) (d6, d7) (fun (rNext4 : Int) (mrNext4 : (List Int × Int)) =>
  p5 (fun (b0_ : List Int) (b0_2 : Int) (times2 : List Int) (b4_4 : List (List UInt8 × Int)) (b5_4 : List zq2) (b6_4 : List zq0) (b7_4 : List (Int × (Int × Int))) (b8_4 : List (List UInt8 × Int)) (b9_4 : List zq2) (b10_4 : List zq0) (b11_4 : List (Int × (Int × Int))) =>
  k (b8_4, (b9_4, (b10_4, b11_4))) (b0_, b0_2) times2) rNext4 mrNext4.1 mrNext4.2 times b4_3 b5_3 b6_3 b7_3 b8_3 b9_3 b10_3 b11_3)) rNext3 mrNext3.1 mrNext3.2 ahead2 ([] : List Int) b4_2 b5_2 b6_2 b7_2 b8_2 b9_2 b10_2 b11_2)) n2 rNext2 mrNext2.1 mrNext2.2 ahead b4_ b5_ b6_ b7_ b8_ b9_ b10_ b11_)) n i_ mrNext.1 mrNext.2 ([] : List Int) ([] : List (List UInt8 × Int)) ([] : List zq2) ([] : List zq0) ([] : List (Int × (Int × Int))) ([] : List (List UInt8 × Int)) ([] : List zq2) ([] : List zq0) ([] : List (Int × (Int × Int))))
theorem zqa6 (hΓ : ΓOk Try.prog (made_Dice_Record_X c_made_Dice_Next c_made_Dice_One).Γ) (p1 : zq97) (p2 : zq9b) (p3 : zq9f) (p5 : zq9n) (hp1 : PieceOk Try.prog 177 1 made_Dice_Record_p1_code zq98 zq99 (made_Dice_Record_p1_G p1)) (hp2 : PieceOk Try.prog 177 1 made_Dice_Record_p2_code zq9c zq9d (made_Dice_Record_p2_G p2)) (hp3 : PieceOk Try.prog 177 1 made_Dice_Record_p3_code zq9g zq9h (made_Dice_Record_p3_G p3)) (hp5 : PieceOk Try.prog 177 1 made_Dice_Record_p5_code zq9o zq9p (made_Dice_Record_p5_G p5)) : SpecOk Try.prog 7 (zq95 (zqa5 c_made_Dice_Next p1 p2 p3 p5)) :=
  spec_exec (X := (made_Dice_Record_X c_made_Dice_Next c_made_Dice_One)) (Λ := pick1 [(122, pieceCut zq98 zq99 (made_Dice_Record_p1_G p1)), (250, pieceCut zq9c zq9d (made_Dice_Record_p2_G p2)), (1018, pieceCut zq9g zq9h (made_Dice_Record_p3_G p3)), (2042, pieceCut zq9o zq9p (made_Dice_Record_p5_G p5))]) (rs := [.cell 4 28, .tmp 5]) (c := bodyOf Try.f7) mixed tab_ok hΓ Try.func7 (by kernel_rfl) (by kernel_rfl) (by kernel_rfl) (by kernel_rfl) (CutsOk_cons (q := 122) (c' := made_Dice_Record_p1_code) (by kernel_rfl) rfl hp1 (CutsOk_cons (q := 250) (c' := made_Dice_Record_p2_code) (by kernel_rfl) rfl hp2 (CutsOk_cons (q := 1018) (c' := made_Dice_Record_p3_code) (by kernel_rfl) rfl hp3 (CutsOk_cons (q := 2042) (c' := made_Dice_Record_p5_code) (by kernel_rfl) rfl hp5 CutsOk_nil)))) (fun x k r h => Eq.trans (b := (zq95 (zqa5 c_made_Dice_Next p1 p2 p3 p5)).run x k) (by kernel_rfl) h)
end
theorem zqa7Γ : ΓOk Try.prog (pick1 [(22, .spec (zq26 zq2a)), (32, .spec (zq2k zq2o))]) := (ΓOk_cons zq2b (ΓOk_cons zq2p ΓOk_nil))
def zqa8 (m : Nat) : zq97 := zq9r zq2o m
theorem zqa9 {β : Type} (i : Nat) (k1 n i_ d d2 ahead b4_ b5_ b6_ b7_ b8_ b9_ b10_ b11_) : (zqa8 (i + 1) k1 n i_ d d2 ahead b4_ b5_ b6_ b7_ b8_ b9_ b10_ b11_ : Option β) = zq9q zq2o (zqa8 i k1) k1 n i_ d d2 ahead b4_ b5_ b6_ b7_ b8_ b9_ b10_ b11_ := rfl
def zqaa : zq97 := zqa8 fuel
theorem zqab : PieceOk Try.prog 177 1 made_Dice_Record_p1_code zq98 zq99 (made_Dice_Record_p1_G zqaa) := zq9s zq2a zq2o zqa7Γ fuel
def zqac (m : Nat) : zq9b := zq9u zq2a zq2o m
theorem zqad {β : Type} (i : Nat) (k1 n i_ d d2 ahead b4_ b5_ b6_ b7_ b8_ b9_ b10_ b11_) : (zqac (i + 1) k1 n i_ d d2 ahead b4_ b5_ b6_ b7_ b8_ b9_ b10_ b11_ : Option β) = zq9t zq2a zq2o (zqac i k1) k1 n i_ d d2 ahead b4_ b5_ b6_ b7_ b8_ b9_ b10_ b11_ := rfl
def zqae : zq9b := zqac fuel
theorem zqaf : PieceOk Try.prog 177 1 made_Dice_Record_p2_code zq9c zq9d (made_Dice_Record_p2_G zqae) := zq9v zq2a zq2o zqa7Γ fuel
def zqag (m : Nat) : zq9f := zq9x zq2a m
theorem zqah {β : Type} (i : Nat) (k1 i_ d d2 ahead times b5_ b6_ b7_ b8_ b9_ b10_ b11_ b12_) : (zqag (i + 1) k1 i_ d d2 ahead times b5_ b6_ b7_ b8_ b9_ b10_ b11_ b12_ : Option β) = zq9w zq2a (zqag i k1) k1 i_ d d2 ahead times b5_ b6_ b7_ b8_ b9_ b10_ b11_ b12_ := rfl
def zqai : zq9f := zqag fuel
theorem zqaj : PieceOk Try.prog 177 1 made_Dice_Record_p3_code zq9g zq9h (made_Dice_Record_p3_G zqai) := zq9y zq2a zq2o zqa7Γ fuel
def zqak : zq9j := zqa0 zq2a
theorem zqal : PieceOk Try.prog 177 1 made_Dice_Record_p4_code zq9k zq9l (made_Dice_Record_p4_G zqak) := zqa1 zq2a zq2o zqa7Γ
def zqam (m : Nat) : zq9n := zqa3 zq2a zqak m
theorem zqan {β : Type} (i : Nat) (k1 i_ d d2 times b4_ b5_ b6_ b7_ b8_ b9_ b10_ b11_) : (zqam (i + 1) k1 i_ d d2 times b4_ b5_ b6_ b7_ b8_ b9_ b10_ b11_ : Option β) = zqa2 zq2a zqak (zqam i k1) k1 i_ d d2 times b4_ b5_ b6_ b7_ b8_ b9_ b10_ b11_ := rfl
def zqao : zq9n := zqam fuel
theorem zqap : PieceOk Try.prog 177 1 made_Dice_Record_p5_code zq9o zq9p (made_Dice_Record_p5_G zqao) := zqa4 zq2a zq2o zqa7Γ zqak zqal fuel
def zqaq : zq94 := zqa5 zq2a zqaa zqae zqai zqao
theorem zqar : SpecOk Try.prog 7 (zq95 zqaq) := zqa6 zq2a zq2o zqa7Γ zqaa zqae zqai zqao zqab zqaf zqaj zqap

/-- (*pagewatch/pagewatchmade.Dice).OddRecord -/
abbrev zqas := {β : Type} → zq4 → (List Int × Int) → (zq4 → (List Int × Int) → Option β) → Option β
def zqat (c : zqas) : Spec :=
  ⟨[(false, [.ptr 0 0]), (true, [.data zq5])], [.cells 68 [.data (.prod (.slice (.int .i64)) (.int .i64))]], [(true, [.data zq5])], [.cells 68 [.data (.prod (.slice (.int .i64)) (.int .i64))]], fun x k => c x.1.2.1.1 x.2.1.1 (fun r0 r1 => k (((r0, ()), ()), ((r1, ()), ())))⟩
noncomputable def made_Dice_OddRecord_p1_code : Code := codeAt 7551 (bodyOf Try.f8)
abbrev zqau (β : Type) := (List Int) → Int → (List (List UInt8 × Int)) → (List zq2) → (List zq0) → (List (Int × (Int × Int))) → (List (List UInt8 × Int)) → (List zq2) → (List zq0) → (List (Int × (Int × Int))) → Option β
abbrev zqav := {β : Type} → zqau β → Bool → (List Int) → Int → (List (List UInt8 × Int)) → (List zq2) → (List zq0) → (List (Int × (Int × Int))) → (List (List UInt8 × Int)) → (List zq2) → (List zq0) → (List (Int × (Int × Int))) → Option β
def zqaw : View := ⟨1, [0, 4, 5, 64], [(false, [.ptr 0 0]), (false, [.ptr 1 0]), (false, [.ptr 2 0]), (false, [.data .bool])], [.cells 68 [.data (.slice (.int .i64)), .data (.int .i64)], .cells 28 [.rowh 7, .rowh 8, .rowh 9, .rowh 10], .cells 28 [.rowh 3, .rowh 4, .rowh 5, .rowh 6], .row 72 (.prod .str (.int .i64)), .row 74 zq3, .row 76 zq1, .row 66 (.prod (.int .i64) (.prod (.int .i64) (.int .i64))), .row 72 (.prod .str (.int .i64)), .row 74 zq3, .row 76 zq1, .row 66 (.prod (.int .i64) (.prod (.int .i64) (.int .i64)))]⟩
def zqax : List (AExit × View) := [(.normal, ⟨1, [4, 5], [(false, [.ptr 1 0]), (false, [.ptr 2 0])], [.cells 68 [.data (.slice (.int .i64)), .data (.int .i64)], .cells 28 [.rowh 3, .rowh 4, .rowh 5, .rowh 6], .cells 28 [.rowh 7, .rowh 8, .rowh 9, .rowh 10], .row 72 (.prod .str (.int .i64)), .row 74 zq3, .row 76 zq1, .row 66 (.prod (.int .i64) (.prod (.int .i64) (.int .i64))), .row 72 (.prod .str (.int .i64)), .row 74 zq3, .row 76 zq1, .row 66 (.prod (.int .i64) (.prod (.int .i64) (.int .i64)))]⟩)]
@[reducible] def made_Dice_OddRecord_p1_G (p : zqav) {β : Type} (d : zqaw.den) (ks : Outs.K β zqax) : Option β :=
  p (fun a0 a1 a2 a3 a4 a5 a6 a7 a8 a9 => ks.1 (((), (), ()), ((a0, a1, ()), (), (), a2, a3, a4, a5, a6, a7, a8, a9, ()))) d.1.2.2.2.1.1 d.2.1.1 d.2.1.2.1 d.2.2.2.2.1 d.2.2.2.2.2.1 d.2.2.2.2.2.2.1 d.2.2.2.2.2.2.2.1 d.2.2.2.2.2.2.2.2.1 d.2.2.2.2.2.2.2.2.2.1 d.2.2.2.2.2.2.2.2.2.2.1 d.2.2.2.2.2.2.2.2.2.2.2.1
section
variable (c_made_Dice_Next : zq25) (c_made_Dice_One : zq2j)
@[reducible] def made_Dice_OddRecord_X : Ctx := ⟨look tab, pick1 [(22, .spec (zq26 c_made_Dice_Next)), (32, .spec (zq2k c_made_Dice_One))], false⟩
def zqay {β : Type} (k1 : zqau β) (t64 : Bool) (d : List Int) (d2 : Int) (b3_ : List (List UInt8 × Int)) (b4_ : List zq2) (b5_ : List zq0) (b6_ : List (Int × (Int × Int))) (b7_ : List (List UInt8 × Int)) (b8_ : List zq2) (b9_ : List zq0) (b10_ : List (Int × (Int × Int))) : Option β :=
  cond t64
  (c_made_Dice_Next (5 : Int) (d, d2) (fun (rNext : Int) (mrNext : (List Int × Int)) =>
  c_made_Dice_Next (5 : Int) mrNext (fun (rNext2 : Int) (mrNext2 : (List Int × Int)) =>
  let l : List Int := ([(-1 : Int), (0 : Int), (1 : Int), (100 : Int), (400 : Int)] : List Int);
  c_made_Dice_One l mrNext2 (fun (rOne : Int) (mrOne : (List Int × Int)) =>
  let l2 : List (Int × (Int × Int)) := ([((IntKind.i64.wrap (rNext - (1 : Int))), (rNext2, rOne))] : List (Int × (Int × Int)));
  cond (decide ((List.length b6_ + List.length l2) * 24 ≤ roomMax))
  (let l3 : List (Int × (Int × Int)) := (b6_ ++ l2);
  k1 mrOne.1 mrOne.2 b7_ b8_ b9_ b10_ b3_ b4_ b5_ l3)
  none))))
  (k1 d d2 b7_ b8_ b9_ b10_ b3_ b4_ b5_ b6_)
def zqaz {β : Type} (k1 : zqau β) (t64 : Bool) (d : List Int) (d2 : Int) (b3_ : List (List UInt8 × Int)) (b4_ : List zq2) (b5_ : List zq0) (b6_ : List (Int × (Int × Int))) (b7_ : List (List UInt8 × Int)) (b8_ : List zq2) (b9_ : List zq0) (b10_ : List (Int × (Int × Int))) : Option β := zqay c_made_Dice_Next c_made_Dice_One k1 t64 d d2 b3_ b4_ b5_ b6_ b7_ b8_ b9_ b10_
theorem zqb0 (hΓ : ΓOk Try.prog (made_Dice_OddRecord_X c_made_Dice_Next c_made_Dice_One).Γ) : PieceOk Try.prog 82 1 made_Dice_OddRecord_p1_code zqaw zqax (made_Dice_OddRecord_p1_G (zqaz c_made_Dice_Next c_made_Dice_One)) :=
  piece_exec (X := (made_Dice_OddRecord_X c_made_Dice_Next c_made_Dice_One)) (p := 7551) (Λ := pick1 []) mixed tab_ok hΓ (by kernel_rfl) CutsOk_nil (fun d ks r h => Eq.trans (b := made_Dice_OddRecord_p1_G (zqaz c_made_Dice_Next c_made_Dice_One) d ks) (by kernel_rfl) h)
def zqb1 (p1 : zqav) {β : Type} (r_ : zq4) (d : (List Int × Int)) (k : (zq4 → (List Int × Int) → Option β)) : Option β :=
  cond (decide (List.length r_.1 * 24 ≤ roomMax))
  (cond (decide (List.length r_.2.1 * 32 ≤ roomMax))
  (cond (decide (List.length r_.2.2.1 * 32 ≤ roomMax))
  (cond (decide (List.length r_.2.2.2 * 24 ≤ roomMax))
  (c_made_Dice_Next (7 : Int) d (fun (rNext : Int) (mrNext : (List Int × Int)) =>
  let t : Bool := (decide (rNext = (0 : Int)));
  cond t
  (let l : List Int := ([(-1 : Int), (500001 : Int)] : List Int);
  c_made_Dice_One l mrNext (fun (rOne : Int) (mrOne : (List Int × Int)) =>
  cond (decide (0 ≤ (0 : Int)) && decide ((0 : Int) < (List.length r_.1 : Int)))
  (let l2 : List (List UInt8 × Int) := (List.set r_.1 (Int.toNat (0 : Int)) ((List.getD r_.1 (Int.toNat (0 : Int)) (([] : List UInt8), (0 : Int))).1, rOne));
  k (l2, r_.2) mrOne)
  none))
  (let t2 : Bool := (decide (rNext = (1 : Int)));
  cond t2
  (c_made_Dice_Next (4 : Int) mrNext (fun (rNext2 : Int) (mrNext2 : (List Int × Int)) =>
  c_made_Dice_Next (300 : Int) mrNext2 (fun (rNext3 : Int) (mrNext3 : (List Int × Int)) =>
  c_made_Dice_Next (300 : Int) mrNext3 (fun (rNext4 : Int) (mrNext4 : (List Int × Int)) =>
  c_made_Dice_Next (300 : Int) mrNext4 (fun (rNext5 : Int) (mrNext5 : (List Int × Int)) =>
  let l : List zq2 := ([((IntKind.i64.wrap (rNext2 - (1 : Int))), ((IntKind.i64.wrap ((864000 : Int) + rNext3)), ((IntKind.i64.wrap ((864000 : Int) + rNext4)), (IntKind.i64.wrap ((864000 : Int) + rNext5)))))] : List zq2);
  cond (decide ((List.length r_.2.1 + List.length l) * 32 ≤ roomMax))
  (let l2 : List zq2 := (r_.2.1 ++ l);
  k (r_.1, (l2, r_.2.2)) mrNext5)
  none)))))
  (let t3 : Bool := (decide (rNext = (2 : Int)));
  cond t3
  (c_made_Dice_Next (4 : Int) mrNext (fun (rNext2 : Int) (mrNext2 : (List Int × Int)) =>
  let l : List Int := ([(-1 : Int), (0 : Int), (864000 : Int), (8589934592 : Int), (8589934593 : Int)] : List Int);
  c_made_Dice_One l mrNext2 (fun (rOne : Int) (mrOne : (List Int × Int)) =>
  let l2 : List zq0 := ([((IntKind.i64.wrap (rNext2 - (1 : Int))), (rOne, ([] : List UInt8)))] : List zq0);
  cond (decide ((List.length r_.2.2.1 + List.length l2) * 32 ≤ roomMax))
  (let l3 : List zq0 := (r_.2.2.1 ++ l2);
  k (r_.1, (r_.2.1, (l3, r_.2.2.2))) mrOne)
  none)))
  (let t4 : Bool := (decide (rNext = (3 : Int)));
  cond t4
  (p1 (fun (b0_ : List Int) (b0_2 : Int) (b3_ : List (List UInt8 × Int)) (b4_ : List zq2) (b5_ : List zq0) (b6_ : List (Int × (Int × Int))) (b7_ : List (List UInt8 × Int)) (b8_ : List zq2) (b9_ : List zq0) (b10_ : List (Int × (Int × Int))) =>
  k (b7_, (b8_, (b9_, b10_))) (b0_, b0_2)) t4 mrNext.1 mrNext.2 r_.1 r_.2.1 r_.2.2.1 r_.2.2.2 ([] : List (List UInt8 × Int)) ([] : List zq2) ([] : List zq0) ([] : List (Int × (Int × Int))))
  (let t5 : Bool := (decide (rNext = (4 : Int)));
  p1 (fun (b0_ : List Int) (b0_2 : Int) (b3_ : List (List UInt8 × Int)) (b4_ : List zq2) (b5_ : List zq0) (b6_ : List (Int × (Int × Int))) (b7_ : List (List UInt8 × Int)) (b8_ : List zq2) (b9_ : List zq0) (b10_ : List (Int × (Int × Int))) =>
  k (b7_, (b8_, (b9_, b10_))) (b0_, b0_2)) t5 mrNext.1 mrNext.2 r_.1 r_.2.1 r_.2.2.1 r_.2.2.2 ([] : List (List UInt8 × Int)) ([] : List zq2) ([] : List zq0) ([] : List (Int × (Int × Int)))))))))
  none)
  none)
  none)
  none
theorem zqb2 (hΓ : ΓOk Try.prog (made_Dice_OddRecord_X c_made_Dice_Next c_made_Dice_One).Γ) (p1 : zqav) (hp1 : PieceOk Try.prog 82 1 made_Dice_OddRecord_p1_code zqaw zqax (made_Dice_OddRecord_p1_G p1)) : SpecOk Try.prog 8 (zqat (zqb1 c_made_Dice_Next c_made_Dice_One p1)) :=
  spec_exec (X := (made_Dice_OddRecord_X c_made_Dice_Next c_made_Dice_One)) (Λ := pick1 [(7551, pieceCut zqaw zqax (made_Dice_OddRecord_p1_G p1))]) (rs := [.cell 4 28]) (c := bodyOf Try.f8) mixed tab_ok hΓ Try.func8 (by kernel_rfl) (by kernel_rfl) (by kernel_rfl) (by kernel_rfl) (CutsOk_cons (q := 7551) (c' := made_Dice_OddRecord_p1_code) (by kernel_rfl) rfl hp1 CutsOk_nil) (fun x k r h => Eq.trans (b := (zqat (zqb1 c_made_Dice_Next c_made_Dice_One p1)).run x k) (by kernel_rfl) h)
end
theorem zqb3Γ : ΓOk Try.prog (pick1 [(22, .spec (zq26 zq2a)), (32, .spec (zq2k zq2o))]) := (ΓOk_cons zq2b (ΓOk_cons zq2p ΓOk_nil))
def zqb4 : zqav := zqaz zq2a zq2o
theorem zqb5 : PieceOk Try.prog 82 1 made_Dice_OddRecord_p1_code zqaw zqax (made_Dice_OddRecord_p1_G zqb4) := zqb0 zq2a zq2o zqb3Γ
def zqb6 : zqas := zqb1 zq2a zq2o zqb4
theorem zqb7 : SpecOk Try.prog 8 (zqat zqb6) := zqb2 zq2a zq2o zqb3Γ zqb4 zqb5

/-- pagewatch/pagewatchref38.Valid -/
abbrev zqb8 := {β : Type} → zq4 → (Bool → Option β) → Option β
def zqb9 (c : zqb8) : Spec :=
  ⟨[(true, [.data zq5])], [], [(false, [.data .bool])], [], fun x k => c x.1.1.1 (fun r0 => k (((r0, ()), ()), ()))⟩
noncomputable def ref38_Valid_p1_code : Code := codeAt 58 (bodyOf Try.f36)
noncomputable def ref38_Valid_p2_code : Code := codeAt 122 (bodyOf Try.f36)
noncomputable def ref38_Valid_p3_code : Code := codeAt 250 (bodyOf Try.f36)
noncomputable def ref38_Valid_p4_code : Code := codeAt 506 (bodyOf Try.f36)
abbrev zqba (β : Type) := Bool → Option β
abbrev zqbb (β : Type) := (List (List UInt8 × Int)) → (List zq2) → (List zq0) → (List (Int × (Int × Int))) → Option β
abbrev zqbc := {β : Type} → zqba β → zqbb β → Int → (List (List UInt8 × Int)) → (List zq2) → (List zq0) → (List (Int × (Int × Int))) → Option β
def zqbd : View := ⟨0, [1, 3], [(false, [.ptr 0 0]), (false, [.data (.int .i64)])], [.cells 28 [.data (.slice (.prod .str (.int .i64))), .data (.slice zq3), .data (.slice zq1), .data (.slice (.prod (.int .i64) (.prod (.int .i64) (.int .i64))))]]⟩
def zqbe : List (AExit × View) := [(.ret, ⟨0, [2], [(false, [.data .bool])], []⟩), (.exit 0, ⟨0, [1], [(false, [.ptr 0 0])], [.cells 28 [.data (.slice (.prod .str (.int .i64))), .data (.slice zq3), .data (.slice zq1), .data (.slice (.prod (.int .i64) (.prod (.int .i64) (.int .i64))))]]⟩)]
@[reducible] def ref38_Valid_p1_G (p : zqbc) {β : Type} (d : zqbd.den) (ks : Outs.K β zqbe) : Option β :=
  p (fun a0 => ks.1 (((a0, ()), ()), ())) (fun a0 a1 a2 a3 => ks.2.1 (((), ()), ((a0, a1, a2, a3, ()), ()))) d.1.2.1.1 d.2.1.1 d.2.1.2.1 d.2.1.2.2.1 d.2.1.2.2.2.1
abbrev zqbf (β : Type) := Bool → Option β
abbrev zqbg (β : Type) := (List (List UInt8 × Int)) → (List zq2) → (List zq0) → (List (Int × (Int × Int))) → Option β
abbrev zqbh := {β : Type} → zqbf β → zqbg β → Int → (List (List UInt8 × Int)) → (List zq2) → (List zq0) → (List (Int × (Int × Int))) → Option β
def zqbi : View := ⟨0, [1, 4], [(false, [.ptr 0 0]), (false, [.data (.int .i64)])], [.cells 28 [.data (.slice (.prod .str (.int .i64))), .data (.slice zq3), .data (.slice zq1), .data (.slice (.prod (.int .i64) (.prod (.int .i64) (.int .i64))))]]⟩
def zqbj : List (AExit × View) := [(.ret, ⟨0, [2], [(false, [.data .bool])], []⟩), (.exit 2, ⟨0, [1], [(false, [.ptr 0 0])], [.cells 28 [.data (.slice (.prod .str (.int .i64))), .data (.slice zq3), .data (.slice zq1), .data (.slice (.prod (.int .i64) (.prod (.int .i64) (.int .i64))))]]⟩)]
@[reducible] def ref38_Valid_p2_G (p : zqbh) {β : Type} (d : zqbi.den) (ks : Outs.K β zqbj) : Option β :=
  p (fun a0 => ks.1 (((a0, ()), ()), ())) (fun a0 a1 a2 a3 => ks.2.1 (((), ()), ((a0, a1, a2, a3, ()), ()))) d.1.2.1.1 d.2.1.1 d.2.1.2.1 d.2.1.2.2.1 d.2.1.2.2.2.1
abbrev zqbk (β : Type) := Bool → Option β
abbrev zqbl (β : Type) := (List (List UInt8 × Int)) → (List zq2) → (List zq0) → (List (Int × (Int × Int))) → Option β
abbrev zqbm := {β : Type} → zqbk β → zqbl β → Int → (List (List UInt8 × Int)) → (List zq2) → (List zq0) → (List (Int × (Int × Int))) → Option β
def zqbn : View := ⟨0, [1, 6], [(false, [.ptr 0 0]), (false, [.data (.int .i64)])], [.cells 28 [.data (.slice (.prod .str (.int .i64))), .data (.slice zq3), .data (.slice zq1), .data (.slice (.prod (.int .i64) (.prod (.int .i64) (.int .i64))))]]⟩
def zqbo : List (AExit × View) := [(.ret, ⟨0, [2], [(false, [.data .bool])], []⟩), (.exit 4, ⟨0, [1], [(false, [.ptr 0 0])], [.cells 28 [.data (.slice (.prod .str (.int .i64))), .data (.slice zq3), .data (.slice zq1), .data (.slice (.prod (.int .i64) (.prod (.int .i64) (.int .i64))))]]⟩)]
@[reducible] def ref38_Valid_p3_G (p : zqbm) {β : Type} (d : zqbn.den) (ks : Outs.K β zqbo) : Option β :=
  p (fun a0 => ks.1 (((a0, ()), ()), ())) (fun a0 a1 a2 a3 => ks.2.1 (((), ()), ((a0, a1, a2, a3, ()), ()))) d.1.2.1.1 d.2.1.1 d.2.1.2.1 d.2.1.2.2.1 d.2.1.2.2.2.1
abbrev zqbp (β : Type) := Bool → Option β
abbrev zqbq (β : Type) := Unit → Option β
abbrev zqbr := {β : Type} → zqbp β → zqbq β → Int → (List (List UInt8 × Int)) → (List zq2) → (List zq0) → (List (Int × (Int × Int))) → Option β
def zqbs : View := ⟨0, [1, 8], [(false, [.ptr 0 0]), (false, [.data (.int .i64)])], [.cells 28 [.data (.slice (.prod .str (.int .i64))), .data (.slice zq3), .data (.slice zq1), .data (.slice (.prod (.int .i64) (.prod (.int .i64) (.int .i64))))]]⟩
def zqbt : List (AExit × View) := [(.ret, ⟨0, [2], [(false, [.data .bool])], []⟩), (.exit 6, ⟨0, [], [], []⟩)]
@[reducible] def ref38_Valid_p4_G (p : zqbr) {β : Type} (d : zqbs.den) (ks : Outs.K β zqbt) : Option β :=
  p (fun a0 => ks.1 (((a0, ()), ()), ())) (fun _ => ks.2.1 ((), ())) d.1.2.1.1 d.2.1.1 d.2.1.2.1 d.2.1.2.2.1 d.2.1.2.2.2.1
section
variable (c_ref25_In : zq48)
@[reducible] def ref38_Valid_X : Ctx := ⟨look tab, pick1 [(48, .spec (zq49 c_ref25_In))], false⟩
def zqbu {β : Type} (rec : Int → (List (List UInt8 × Int)) → (List zq2) → (List zq0) → (List (Int × (Int × Int))) → Option β) (k1 : zqba β) (k2 : zqbb β) (i_ : Int) (r_ : List (List UInt8 × Int)) (r_2 : List zq2) (r_3 : List zq0) (r_4 : List (Int × (Int × Int))) : Option β :=
  cond (decide (i_ < (List.length r_ : Int)))
  (cond (decide (0 ≤ i_) && decide (i_ < (List.length r_ : Int)))
  (let e : (List UInt8 × Int) := List.getD r_ (Int.toNat i_) (([] : List UInt8), (0 : Int));
  c_ref25_In e.2 (0 : Int) (500000 : Int) (fun (rIn : Bool) =>
  cond (!rIn)
  (k1 false)
  (let i_2 : Int := (IntKind.i64.wrap (i_ + (1 : Int)));
  rec i_2 r_ r_2 r_3 r_4)))
  none)
  (k2 r_ r_2 r_3 r_4)
def zqbv {β : Type} : Nat → zqba β → zqbb β → Int → (List (List UInt8 × Int)) → (List zq2) → (List zq0) → (List (Int × (Int × Int))) → Option β
  | 0 => fun _ _ _ _ _ _ _ => none
  | i + 1 => fun k1 k2 i_ r_ r_2 r_3 r_4 => zqbu c_ref25_In (zqbv i k1 k2) k1 k2 i_ r_ r_2 r_3 r_4
theorem zqbw (hΓ : ΓOk Try.prog (ref38_Valid_X c_ref25_In).Γ) (i : Nat) : PieceOk Try.prog 155 0 ref38_Valid_p1_code zqbd zqbe (ref38_Valid_p1_G (zqbv c_ref25_In i)) := by
  rw [show ref38_Valid_p1_code = .loop (loopBody ref38_Valid_p1_code) by kernel_rfl]
  exact piece_loop (X := (ref38_Valid_X c_ref25_In)) (p := 1) (Λ := pick1 []) (G := fun i => @fun β d ks => ref38_Valid_p1_G (zqbv c_ref25_In i) d ks) mixed tab_ok hΓ rfl (by kernel_rfl) CutsOk_nil (fun _ _ => rfl) (fun i => @fun β d ks r h => Eq.trans (b := ref38_Valid_p1_G (zqbv c_ref25_In (i + 1)) d ks) (by kernel_rfl) h) i
def zqbx {β : Type} (rec : Int → (List (List UInt8 × Int)) → (List zq2) → (List zq0) → (List (Int × (Int × Int))) → Option β) (k1 : zqbf β) (k2 : zqbg β) (i_ : Int) (r_ : List (List UInt8 × Int)) (r_2 : List zq2) (r_3 : List zq0) (r_4 : List (Int × (Int × Int))) : Option β :=
  cond (decide (i_ < (List.length r_2 : Int)))
  (cond (decide (0 ≤ i_) && decide (i_ < (List.length r_2 : Int)))
  (let e : zq2 := List.getD r_2 (Int.toNat i_) ((0 : Int), ((0 : Int), ((0 : Int), (0 : Int))));
  c_ref25_In e.1 (0 : Int) (IntKind.i64.wrap ((List.length r_ : Int) - (1 : Int))) (fun (rIn : Bool) =>
  cond (!rIn)
  (k1 false)
  (c_ref25_In e.2.1 (0 : Int) (8589934592 : Int) (fun (rIn2 : Bool) =>
  cond (!rIn2)
  (k1 false)
  (c_ref25_In e.2.2.1 (0 : Int) e.2.2.2 (fun (rIn3 : Bool) =>
  cond (!rIn3)
  (k1 false)
  (cond (decide ((8589934592 : Int) < e.2.2.2))
  (k1 false)
  (let i_2 : Int := (IntKind.i64.wrap (i_ + (1 : Int)));
  rec i_2 r_ r_2 r_3 r_4))))))))
  none)
  (k2 r_ r_2 r_3 r_4)
def zqby {β : Type} : Nat → zqbf β → zqbg β → Int → (List (List UInt8 × Int)) → (List zq2) → (List zq0) → (List (Int × (Int × Int))) → Option β
  | 0 => fun _ _ _ _ _ _ _ => none
  | i + 1 => fun k1 k2 i_ r_ r_2 r_3 r_4 => zqbx c_ref25_In (zqby i k1 k2) k1 k2 i_ r_ r_2 r_3 r_4
theorem zqbz (hΓ : ΓOk Try.prog (ref38_Valid_X c_ref25_In).Γ) (i : Nat) : PieceOk Try.prog 155 0 ref38_Valid_p2_code zqbi zqbj (ref38_Valid_p2_G (zqby c_ref25_In i)) := by
  rw [show ref38_Valid_p2_code = .loop (loopBody ref38_Valid_p2_code) by kernel_rfl]
  exact piece_loop (X := (ref38_Valid_X c_ref25_In)) (p := 1) (Λ := pick1 []) (G := fun i => @fun β d ks => ref38_Valid_p2_G (zqby c_ref25_In i) d ks) mixed tab_ok hΓ rfl (by kernel_rfl) CutsOk_nil (fun _ _ => rfl) (fun i => @fun β d ks r h => Eq.trans (b := ref38_Valid_p2_G (zqby c_ref25_In (i + 1)) d ks) (by kernel_rfl) h) i
def zqc0 {β : Type} (rec : Int → (List (List UInt8 × Int)) → (List zq2) → (List zq0) → (List (Int × (Int × Int))) → Option β) (k1 : zqbk β) (k2 : zqbl β) (i_ : Int) (r_ : List (List UInt8 × Int)) (r_2 : List zq2) (r_3 : List zq0) (r_4 : List (Int × (Int × Int))) : Option β :=
  cond (decide (i_ < (List.length r_3 : Int)))
  (cond (decide (0 ≤ i_) && decide (i_ < (List.length r_3 : Int)))
  (let e : zq0 := List.getD r_3 (Int.toNat i_) ((0 : Int), ((0 : Int), ([] : List UInt8)));
  c_ref25_In e.1 (0 : Int) (IntKind.i64.wrap ((List.length r_ : Int) - (1 : Int))) (fun (rIn : Bool) =>
  cond (!rIn)
  (k1 false)
  (c_ref25_In e.2.1 (0 : Int) (8589934592 : Int) (fun (rIn2 : Bool) =>
  cond (!rIn2)
  (k1 false)
  (let i_2 : Int := (IntKind.i64.wrap (i_ + (1 : Int)));
  rec i_2 r_ r_2 r_3 r_4)))))
  none)
  (k2 r_ r_2 r_3 r_4)
def zqc1 {β : Type} : Nat → zqbk β → zqbl β → Int → (List (List UInt8 × Int)) → (List zq2) → (List zq0) → (List (Int × (Int × Int))) → Option β
  | 0 => fun _ _ _ _ _ _ _ => none
  | i + 1 => fun k1 k2 i_ r_ r_2 r_3 r_4 => zqc0 c_ref25_In (zqc1 i k1 k2) k1 k2 i_ r_ r_2 r_3 r_4
theorem zqc2 (hΓ : ΓOk Try.prog (ref38_Valid_X c_ref25_In).Γ) (i : Nat) : PieceOk Try.prog 155 0 ref38_Valid_p3_code zqbn zqbo (ref38_Valid_p3_G (zqc1 c_ref25_In i)) := by
  rw [show ref38_Valid_p3_code = .loop (loopBody ref38_Valid_p3_code) by kernel_rfl]
  exact piece_loop (X := (ref38_Valid_X c_ref25_In)) (p := 1) (Λ := pick1 []) (G := fun i => @fun β d ks => ref38_Valid_p3_G (zqc1 c_ref25_In i) d ks) mixed tab_ok hΓ rfl (by kernel_rfl) CutsOk_nil (fun _ _ => rfl) (fun i => @fun β d ks r h => Eq.trans (b := ref38_Valid_p3_G (zqc1 c_ref25_In (i + 1)) d ks) (by kernel_rfl) h) i
def zqc3 {β : Type} (rec : Int → (List (List UInt8 × Int)) → (List zq2) → (List zq0) → (List (Int × (Int × Int))) → Option β) (k1 : zqbp β) (k2 : zqbq β) (i_ : Int) (r_ : List (List UInt8 × Int)) (r_2 : List zq2) (r_3 : List zq0) (r_4 : List (Int × (Int × Int))) : Option β :=
  cond (decide (i_ < (List.length r_4 : Int)))
  (cond (decide (0 ≤ i_) && decide (i_ < (List.length r_4 : Int)))
  (let e : (Int × (Int × Int)) := List.getD r_4 (Int.toNat i_) ((0 : Int), ((0 : Int), (0 : Int)));
  c_ref25_In e.1 (0 : Int) (IntKind.i64.wrap ((List.length r_3 : Int) - (1 : Int))) (fun (rIn : Bool) =>
  cond (!rIn)
  (k1 false)
  (c_ref25_In e.2.1 (0 : Int) (IntKind.i64.wrap ((List.length r_3 : Int) - (1 : Int))) (fun (rIn2 : Bool) =>
  cond (!rIn2)
  (k1 false)
  (cond (decide (e.1 = e.2.1))
  (k1 false)
  (c_ref25_In e.2.2 (0 : Int) (8589934592 : Int) (fun (rIn3 : Bool) =>
  cond (!rIn3)
  (k1 false)
  (let i_2 : Int := (IntKind.i64.wrap (i_ + (1 : Int)));
  rec i_2 r_ r_2 r_3 r_4))))))))
  none)
  (k2 ())
def zqc4 {β : Type} : Nat → zqbp β → zqbq β → Int → (List (List UInt8 × Int)) → (List zq2) → (List zq0) → (List (Int × (Int × Int))) → Option β
  | 0 => fun _ _ _ _ _ _ _ => none
  | i + 1 => fun k1 k2 i_ r_ r_2 r_3 r_4 => zqc3 c_ref25_In (zqc4 i k1 k2) k1 k2 i_ r_ r_2 r_3 r_4
theorem zqc5 (hΓ : ΓOk Try.prog (ref38_Valid_X c_ref25_In).Γ) (i : Nat) : PieceOk Try.prog 155 0 ref38_Valid_p4_code zqbs zqbt (ref38_Valid_p4_G (zqc4 c_ref25_In i)) := by
  rw [show ref38_Valid_p4_code = .loop (loopBody ref38_Valid_p4_code) by kernel_rfl]
  exact piece_loop (X := (ref38_Valid_X c_ref25_In)) (p := 1) (Λ := pick1 []) (G := fun i => @fun β d ks => ref38_Valid_p4_G (zqc4 c_ref25_In i) d ks) mixed tab_ok hΓ rfl (by kernel_rfl) CutsOk_nil (fun _ _ => rfl) (fun i => @fun β d ks r h => Eq.trans (b := ref38_Valid_p4_G (zqc4 c_ref25_In (i + 1)) d ks) (by kernel_rfl) h) i
def zqc6 (p1 : zqbc) (p2 : zqbh) (p3 : zqbm) (p4 : zqbr) {β : Type} (r_ : zq4) (k : (Bool → Option β)) : Option β :=
  cond (decide ((8 : Int) < (List.length r_.1 : Int)))
  (k false)
  (cond (decide ((64 : Int) < (List.length r_.2.1 : Int)))
  (k false)
  (cond (decide ((40 : Int) < (List.length r_.2.2.1 : Int)))
  (k false)
  (cond (decide ((64 : Int) < (List.length r_.2.2.2 : Int)))
  (k false)
  (p1 (fun (t2 : Bool) =>
  k t2) (fun (r_2 : List (List UInt8 × Int)) (r_3 : List zq2) (r_4 : List zq0) (r_5 : List (Int × (Int × Int))) =>
  p2 (fun (t2 : Bool) =>
  k t2) (fun (r_6 : List (List UInt8 × Int)) (r_7 : List zq2) (r_8 : List zq0) (r_9 : List (Int × (Int × Int))) =>
  p3 (fun (t2 : Bool) =>
  k t2) (fun (r_10 : List (List UInt8 × Int)) (r_11 : List zq2) (r_12 : List zq0) (r_13 : List (Int × (Int × Int))) =>
  p4 (fun (t2 : Bool) =>
  k t2) (fun (_ : Unit) =>
  k true) (0 : Int) r_10 r_11 r_12 r_13) (0 : Int) r_6 r_7 r_8 r_9) (0 : Int) r_2 r_3 r_4 r_5) (0 : Int) r_.1 r_.2.1 r_.2.2.1 r_.2.2.2))))
theorem zqc7 (hΓ : ΓOk Try.prog (ref38_Valid_X c_ref25_In).Γ) (p1 : zqbc) (p2 : zqbh) (p3 : zqbm) (p4 : zqbr) (hp1 : PieceOk Try.prog 155 0 ref38_Valid_p1_code zqbd zqbe (ref38_Valid_p1_G p1)) (hp2 : PieceOk Try.prog 155 0 ref38_Valid_p2_code zqbi zqbj (ref38_Valid_p2_G p2)) (hp3 : PieceOk Try.prog 155 0 ref38_Valid_p3_code zqbn zqbo (ref38_Valid_p3_G p3)) (hp4 : PieceOk Try.prog 155 0 ref38_Valid_p4_code zqbs zqbt (ref38_Valid_p4_G p4)) : SpecOk Try.prog 36 (zqb9 (zqc6 p1 p2 p3 p4)) :=
  spec_exec (X := (ref38_Valid_X c_ref25_In)) (Λ := pick1 [(58, pieceCut zqbd zqbe (ref38_Valid_p1_G p1)), (122, pieceCut zqbi zqbj (ref38_Valid_p2_G p2)), (250, pieceCut zqbn zqbo (ref38_Valid_p3_G p3)), (506, pieceCut zqbs zqbt (ref38_Valid_p4_G p4))]) (rs := [.tmp 2]) (c := bodyOf Try.f36) mixed tab_ok hΓ Try.func36 (by kernel_rfl) (by kernel_rfl) (by kernel_rfl) (by kernel_rfl) (CutsOk_cons (q := 58) (c' := ref38_Valid_p1_code) (by kernel_rfl) rfl hp1 (CutsOk_cons (q := 122) (c' := ref38_Valid_p2_code) (by kernel_rfl) rfl hp2 (CutsOk_cons (q := 250) (c' := ref38_Valid_p3_code) (by kernel_rfl) rfl hp3 (CutsOk_cons (q := 506) (c' := ref38_Valid_p4_code) (by kernel_rfl) rfl hp4 CutsOk_nil)))) (fun x k r h => Eq.trans (b := (zqb9 (zqc6 p1 p2 p3 p4)).run x k) (by kernel_rfl) h)
end
theorem zqc8Γ : ΓOk Try.prog (pick1 [(48, .spec (zq49 zq4d))]) := (ΓOk_cons zq4e ΓOk_nil)
def zqc9 (m : Nat) : zqbc := zqbv zq4d m
theorem zqca {β : Type} (i : Nat) (k1 k2 i_ r_ r_2 r_3 r_4) : (zqc9 (i + 1) k1 k2 i_ r_ r_2 r_3 r_4 : Option β) = zqbu zq4d (zqc9 i k1 k2) k1 k2 i_ r_ r_2 r_3 r_4 := rfl
def zqcb : zqbc := zqc9 fuel
theorem zqcc : PieceOk Try.prog 155 0 ref38_Valid_p1_code zqbd zqbe (ref38_Valid_p1_G zqcb) := zqbw zq4d zqc8Γ fuel
def zqcd (m : Nat) : zqbh := zqby zq4d m
theorem zqce {β : Type} (i : Nat) (k1 k2 i_ r_ r_2 r_3 r_4) : (zqcd (i + 1) k1 k2 i_ r_ r_2 r_3 r_4 : Option β) = zqbx zq4d (zqcd i k1 k2) k1 k2 i_ r_ r_2 r_3 r_4 := rfl
def zqcf : zqbh := zqcd fuel
theorem zqcg : PieceOk Try.prog 155 0 ref38_Valid_p2_code zqbi zqbj (ref38_Valid_p2_G zqcf) := zqbz zq4d zqc8Γ fuel
def zqch (m : Nat) : zqbm := zqc1 zq4d m
theorem zqci {β : Type} (i : Nat) (k1 k2 i_ r_ r_2 r_3 r_4) : (zqch (i + 1) k1 k2 i_ r_ r_2 r_3 r_4 : Option β) = zqc0 zq4d (zqch i k1 k2) k1 k2 i_ r_ r_2 r_3 r_4 := rfl
def zqcj : zqbm := zqch fuel
theorem zqck : PieceOk Try.prog 155 0 ref38_Valid_p3_code zqbn zqbo (ref38_Valid_p3_G zqcj) := zqc2 zq4d zqc8Γ fuel
def zqcl (m : Nat) : zqbr := zqc4 zq4d m
theorem zqcm {β : Type} (i : Nat) (k1 k2 i_ r_ r_2 r_3 r_4) : (zqcl (i + 1) k1 k2 i_ r_ r_2 r_3 r_4 : Option β) = zqc3 zq4d (zqcl i k1 k2) k1 k2 i_ r_ r_2 r_3 r_4 := rfl
def zqcn : zqbr := zqcl fuel
theorem zqco : PieceOk Try.prog 155 0 ref38_Valid_p4_code zqbs zqbt (ref38_Valid_p4_G zqcn) := zqc5 zq4d zqc8Γ fuel
def zqcp : zqb8 := zqc6 zqcb zqcf zqcj zqcn
theorem zqcq : SpecOk Try.prog 36 (zqb9 zqcp) := zqc7 zq4d zqc8Γ zqcb zqcf zqcj zqcn zqcc zqcg zqck zqco

/-- pagewatch/pagewatchref38.Elapsed -/
abbrev zqcr := {β : Type} → Int → Int → (Int → Int → Option β) → Option β
def zqcs (c : zqcr) : Spec :=
  ⟨[(false, [.data (.int .i64)]), (false, [.data (.int .i64)])], [], [(false, [.data (.int .i64)]), (false, [.data (.int .i64)])], [], fun x k => c x.1.1.1 x.1.2.1.1 (fun r0 r1 => k (((r0, ()), (r1, ()), ()), ()))⟩
section
variable (c_ref25_In : zq48)
@[reducible] def ref38_Elapsed_X : Ctx := ⟨look tab, pick1 [(48, .spec (zq49 c_ref25_In))], false⟩
def zqct {β : Type} (drift : Int) (d : Int) (k : (Int → Int → Option β)) : Option β :=
  c_ref25_In drift (0 : Int) (500000 : Int) (fun (rIn : Bool) =>
  cond (!rIn)
  (k (0 : Int) (0 : Int))
  (c_ref25_In d (0 : Int) (8589934592 : Int) (fun (rIn2 : Bool) =>
  cond (!rIn2)
  (k (0 : Int) (0 : Int))
  (cond (!decide ((IntKind.i64.wrap ((1000000 : Int) + drift)) = 0))
  (cond (!decide ((IntKind.i64.wrap ((1000000 : Int) - drift)) = 0))
  (let low : Int := (IntKind.i64.wrap (Int.tdiv (IntKind.i64.wrap (d * (1000000 : Int))) (IntKind.i64.wrap ((1000000 : Int) + drift))));
  let high : Int := (IntKind.i64.wrap (Int.tdiv (IntKind.i64.wrap ((IntKind.i64.wrap ((IntKind.i64.wrap ((IntKind.i64.wrap (d * (1000000 : Int))) + (1000000 : Int))) - drift)) - (1 : Int))) (IntKind.i64.wrap ((1000000 : Int) - drift))));
  k low high)
  none)
  none))))
theorem zqcu (hΓ : ΓOk Try.prog (ref38_Elapsed_X c_ref25_In).Γ) : SpecOk Try.prog 38 (zqcs (zqct c_ref25_In)) :=
  spec_exec (X := (ref38_Elapsed_X c_ref25_In)) (Λ := pick1 []) (rs := [.tmp 4, .tmp 5]) (c := bodyOf Try.f38) mixed tab_ok hΓ Try.func38 (by kernel_rfl) (by kernel_rfl) (by kernel_rfl) (by kernel_rfl) CutsOk_nil (fun x k r h => Eq.trans (b := (zqcs (zqct c_ref25_In)).run x k) (by kernel_rfl) h)
end
theorem zqcvΓ : ΓOk Try.prog (pick1 [(48, .spec (zq49 zq4d))]) := (ΓOk_cons zq4e ΓOk_nil)
def zqcw : zqcr := zqct zq4d
theorem zqcx : SpecOk Try.prog 38 (zqcs zqcw) := zqcu zq4d zqcvΓ

/-- slices.Contains[[]int,int] -/
abbrev zqcy := {β : Type} → (List Int) → Int → (Bool → Option β) → Option β
def zqcz (c : zqcy) : Spec :=
  ⟨[(false, [.data (.slice (.int .i64))]), (false, [.data (.int .i64)])], [], [(false, [.data .bool])], [], fun x k => c x.1.1.1 x.1.2.1.1 (fun r0 => k (((r0, ()), ()), ()))⟩
section
variable (c_slices_Index_int_int : zq66)
@[reducible] def slices_Contains_int_int_X : Ctx := ⟨look tab, pick1 [(68, .spec (zq67 c_slices_Index_int_int))], false⟩
def zqd0 {β : Type} (s : List Int) (v : Int) (k : (Bool → Option β)) : Option β :=
  c_slices_Index_int_int s v (fun (rIndexintint : Int) =>
  let t : Bool := (decide ((0 : Int) ≤ rIndexintint));
  k t)
theorem zqd1 (hΓ : ΓOk Try.prog (slices_Contains_int_int_X c_slices_Index_int_int).Γ) : SpecOk Try.prog 50 (zqcz (zqd0 c_slices_Index_int_int)) :=
  spec_exec (X := (slices_Contains_int_int_X c_slices_Index_int_int)) (Λ := pick1 []) (rs := [.tmp 4]) (c := bodyOf Try.f50) mixed tab_ok hΓ Try.func50 (by kernel_rfl) (by kernel_rfl) (by kernel_rfl) (by kernel_rfl) CutsOk_nil (fun x k r h => Eq.trans (b := (zqcz (zqd0 c_slices_Index_int_int)).run x k) (by kernel_rfl) h)
end
theorem zqd2Γ : ΓOk Try.prog (pick1 [(68, .spec (zq67 zq6n))]) := (ΓOk_cons zq6o ΓOk_nil)
def zqd3 : zqcy := zqd0 zq6n
theorem zqd4 : SpecOk Try.prog 50 (zqcz zqd3) := zqd1 zq6n zqd2Γ

/-- pagewatch/pagewatchref39.Fits -/
abbrev zqd5 := {β : Type} → Int → (List (Int × (Int × Int))) → (List Int) → (Bool → Option β) → Option β
def zqd6 (c : zqd5) : Spec :=
  ⟨[(false, [.data (.int .i64)]), (false, [.data (.slice (.prod (.int .i64) (.prod (.int .i64) (.int .i64))))]), (false, [.data (.slice (.int .i64))])], [], [(false, [.data .bool])], [], fun x k => c x.1.1.1 x.1.2.1.1 x.1.2.2.1.1 (fun r0 => k (((r0, ()), ()), ()))⟩
noncomputable def ref39_Fits_p1_code : Code := codeAt 58 (bodyOf Try.f55)
noncomputable def ref39_Fits_p2_code : Code := codeAt 122 (bodyOf Try.f55)
abbrev zqd7 (β : Type) := Bool → Option β
abbrev zqd8 (β : Type) := (List (Int × (Int × Int))) → (List Int) → Option β
abbrev zqd9 := {β : Type} → zqd7 β → zqd8 β → Int → (List (Int × (Int × Int))) → (List Int) → Int → Option β
def zqda : View := ⟨0, [0, 1, 2, 7], [(false, [.data (.int .i64)]), (false, [.data (.slice (.prod (.int .i64) (.prod (.int .i64) (.int .i64))))]), (false, [.data (.slice (.int .i64))]), (false, [.data (.int .i64)])], []⟩
def zqdb : List (AExit × View) := [(.ret, ⟨0, [6], [(false, [.data .bool])], []⟩), (.exit 0, ⟨0, [1, 2], [(false, [.data (.slice (.prod (.int .i64) (.prod (.int .i64) (.int .i64))))]), (false, [.data (.slice (.int .i64))])], []⟩)]
@[reducible] def ref39_Fits_p1_G (p : zqd9) {β : Type} (d : zqda.den) (ks : Outs.K β zqdb) : Option β :=
  p (fun a0 => ks.1 (((a0, ()), ()), ())) (fun a0 a1 => ks.2.1 (((a0, ()), (a1, ()), ()), ())) d.1.1.1 d.1.2.1.1 d.1.2.2.1.1 d.1.2.2.2.1.1
abbrev zqdc (β : Type) := Bool → Option β
abbrev zqdd (β : Type) := Unit → Option β
abbrev zqde := {β : Type} → zqdc β → zqdd β → (List (Int × (Int × Int))) → (List Int) → Int → Option β
def zqdf : View := ⟨0, [1, 2, 8], [(false, [.data (.slice (.prod (.int .i64) (.prod (.int .i64) (.int .i64))))]), (false, [.data (.slice (.int .i64))]), (false, [.data (.int .i64)])], []⟩
def zqdg : List (AExit × View) := [(.ret, ⟨0, [6], [(false, [.data .bool])], []⟩), (.exit 2, ⟨0, [], [], []⟩)]
@[reducible] def ref39_Fits_p2_G (p : zqde) {β : Type} (d : zqdf.den) (ks : Outs.K β zqdg) : Option β :=
  p (fun a0 => ks.1 (((a0, ()), ()), ())) (fun _ => ks.2.1 ((), ())) d.1.1.1 d.1.2.1.1 d.1.2.2.1.1
section
variable (c_ref25_In : zq48) (c_ref39_Valid : zq73)
@[reducible] def ref39_Fits_X : Ctx := ⟨look tab, pick1 [(48, .spec (zq49 c_ref25_In)), (75, .spec (zq74 c_ref39_Valid))], false⟩
def zqdh {β : Type} (rec : Int → (List (Int × (Int × Int))) → (List Int) → Int → Option β) (k1 : zqd7 β) (k2 : zqd8 β) (n : Int) (l : List (Int × (Int × Int))) (x : List Int) (i_ : Int) : Option β :=
  cond (decide (i_ < n))
  (cond (decide (0 ≤ i_) && decide (i_ < (List.length x : Int)))
  (let e : Int := List.getD x (Int.toNat i_) (0 : Int);
  c_ref25_In e (-1099511627776 : Int) (1099511627776 : Int) (fun (rIn : Bool) =>
  cond (!rIn)
  (k1 false)
  (let i_2 : Int := (IntKind.i64.wrap (i_ + (1 : Int)));
  rec n l x i_2)))
  none)
  (k2 l x)
def zqdi {β : Type} : Nat → zqd7 β → zqd8 β → Int → (List (Int × (Int × Int))) → (List Int) → Int → Option β
  | 0 => fun _ _ _ _ _ _ => none
  | i + 1 => fun k1 k2 n l x i_ => zqdh c_ref25_In (zqdi i k1 k2) k1 k2 n l x i_
theorem zqdj (hΓ : ΓOk Try.prog (ref39_Fits_X c_ref25_In c_ref39_Valid).Γ) (i : Nat) : PieceOk Try.prog 59 0 ref39_Fits_p1_code zqda zqdb (ref39_Fits_p1_G (zqdi c_ref25_In i)) := by
  rw [show ref39_Fits_p1_code = .loop (loopBody ref39_Fits_p1_code) by kernel_rfl]
  exact piece_loop (X := (ref39_Fits_X c_ref25_In c_ref39_Valid)) (p := 1) (Λ := pick1 []) (G := fun i => @fun β d ks => ref39_Fits_p1_G (zqdi c_ref25_In i) d ks) mixed tab_ok hΓ rfl (by kernel_rfl) CutsOk_nil (fun _ _ => rfl) (fun i => @fun β d ks r h => Eq.trans (b := ref39_Fits_p1_G (zqdi c_ref25_In (i + 1)) d ks) (by kernel_rfl) h) i
def zqdk {β : Type} (rec : (List (Int × (Int × Int))) → (List Int) → Int → Option β) (k1 : zqdc β) (k2 : zqdd β) (l : List (Int × (Int × Int))) (x : List Int) (i_ : Int) : Option β :=
  cond (decide (i_ < (List.length l : Int)))
  (cond (decide (0 ≤ i_) && decide (i_ < (List.length l : Int)))
  (let e : (Int × (Int × Int)) := List.getD l (Int.toNat i_) ((0 : Int), ((0 : Int), (0 : Int)));
  cond (decide (0 ≤ e.2.1) && decide (e.2.1 < (List.length x : Int)))
  (let e2 : Int := List.getD x (Int.toNat e.2.1) (0 : Int);
  cond (decide (0 ≤ i_) && decide (i_ < (List.length l : Int)))
  (let e3 : (Int × (Int × Int)) := List.getD l (Int.toNat i_) ((0 : Int), ((0 : Int), (0 : Int)));
  cond (decide (0 ≤ e3.1) && decide (e3.1 < (List.length x : Int)))
  (let e4 : Int := List.getD x (Int.toNat e3.1) (0 : Int);
  cond (decide (0 ≤ i_) && decide (i_ < (List.length l : Int)))
  (let e5 : (Int × (Int × Int)) := List.getD l (Int.toNat i_) ((0 : Int), ((0 : Int), (0 : Int)));
  cond (decide (e5.2.2 < (IntKind.i64.wrap (e2 - e4))))
  (k1 false)
  (let i_2 : Int := (IntKind.i64.wrap (i_ + (1 : Int)));
  rec l x i_2))
  none)
  none)
  none)
  none)
  none)
  (k2 ())
def zqdl {β : Type} : Nat → zqdc β → zqdd β → (List (Int × (Int × Int))) → (List Int) → Int → Option β
  | 0 => fun _ _ _ _ _ => none
  | i + 1 => fun k1 k2 l x i_ => zqdk (zqdl i k1 k2) k1 k2 l x i_
theorem zqdm (hΓ : ΓOk Try.prog (ref39_Fits_X c_ref25_In c_ref39_Valid).Γ) (i : Nat) : PieceOk Try.prog 59 0 ref39_Fits_p2_code zqdf zqdg (ref39_Fits_p2_G (zqdl i)) := by
  rw [show ref39_Fits_p2_code = .loop (loopBody ref39_Fits_p2_code) by kernel_rfl]
  exact piece_loop (X := (ref39_Fits_X c_ref25_In c_ref39_Valid)) (p := 1) (Λ := pick1 []) (G := fun i => @fun β d ks => ref39_Fits_p2_G (zqdl i) d ks) mixed tab_ok hΓ rfl (by kernel_rfl) CutsOk_nil (fun _ _ => rfl) (fun i => @fun β d ks r h => Eq.trans (b := ref39_Fits_p2_G (zqdl (i + 1)) d ks) (by kernel_rfl) h) i
def zqdn (p1 : zqd9) (p2 : zqde) {β : Type} (n : Int) (l : List (Int × (Int × Int))) (x : List Int) (k : (Bool → Option β)) : Option β :=
  c_ref39_Valid n l (fun (rValid : Bool) =>
  cond (!rValid)
  (k false)
  (cond (!decide ((List.length x : Int) = n))
  (k false)
  (p1 (fun (t6 : Bool) =>
  k t6) (fun (l2 : List (Int × (Int × Int))) (x2 : List Int) =>
  p2 (fun (t6 : Bool) =>
  k t6) (fun (_ : Unit) =>
  k true) l2 x2 (0 : Int)) n l x (0 : Int))))
theorem zqdo (hΓ : ΓOk Try.prog (ref39_Fits_X c_ref25_In c_ref39_Valid).Γ) (p1 : zqd9) (p2 : zqde) (hp1 : PieceOk Try.prog 59 0 ref39_Fits_p1_code zqda zqdb (ref39_Fits_p1_G p1)) (hp2 : PieceOk Try.prog 59 0 ref39_Fits_p2_code zqdf zqdg (ref39_Fits_p2_G p2)) : SpecOk Try.prog 55 (zqd6 (zqdn c_ref39_Valid p1 p2)) :=
  spec_exec (X := (ref39_Fits_X c_ref25_In c_ref39_Valid)) (Λ := pick1 [(58, pieceCut zqda zqdb (ref39_Fits_p1_G p1)), (122, pieceCut zqdf zqdg (ref39_Fits_p2_G p2))]) (rs := [.tmp 6]) (c := bodyOf Try.f55) mixed tab_ok hΓ Try.func55 (by kernel_rfl) (by kernel_rfl) (by kernel_rfl) (by kernel_rfl) (CutsOk_cons (q := 58) (c' := ref39_Fits_p1_code) (by kernel_rfl) rfl hp1 (CutsOk_cons (q := 122) (c' := ref39_Fits_p2_code) (by kernel_rfl) rfl hp2 CutsOk_nil)) (fun x k r h => Eq.trans (b := (zqd6 (zqdn c_ref39_Valid p1 p2)).run x k) (by kernel_rfl) h)
end
theorem zqdpΓ : ΓOk Try.prog (pick1 [(48, .spec (zq49 zq4d)), (75, .spec (zq74 zq7k))]) := (ΓOk_cons zq4e (ΓOk_cons zq7l ΓOk_nil))
def zqdq (m : Nat) : zqd9 := zqdi zq4d m
theorem zqdr {β : Type} (i : Nat) (k1 k2 n l x i_) : (zqdq (i + 1) k1 k2 n l x i_ : Option β) = zqdh zq4d (zqdq i k1 k2) k1 k2 n l x i_ := rfl
def zqds : zqd9 := zqdq fuel
theorem zqdt : PieceOk Try.prog 59 0 ref39_Fits_p1_code zqda zqdb (ref39_Fits_p1_G zqds) := zqdj zq4d zq7k zqdpΓ fuel
def zqdu (m : Nat) : zqde := zqdl m
theorem zqdv {β : Type} (i : Nat) (k1 k2 l x i_) : (zqdu (i + 1) k1 k2 l x i_ : Option β) = zqdk (zqdu i k1 k2) k1 k2 l x i_ := rfl
def zqdw : zqde := zqdu fuel
theorem zqdx : PieceOk Try.prog 59 0 ref39_Fits_p2_code zqdf zqdg (ref39_Fits_p2_G zqdw) := zqdm zq4d zq7k zqdpΓ fuel
def zqdy : zqd5 := zqdn zq7k zqds zqdw
theorem zqdz : SpecOk Try.prog 55 (zqd6 zqdy) := zqdo zq4d zq7k zqdpΓ zqds zqdw zqdt zqdx

/-- pagewatch/clock.compared -/
abbrev zqe0 := {β : Type} → zq2 → (Bool → Option β) → Option β
def zqe1 (c : zqe0) : Spec :=
  ⟨[(true, [.data zq3])], [], [(false, [.data .bool])], [], fun x k => c x.1.1.1 (fun r0 => k (((r0, ()), ()), ()))⟩
section
variable (c_clock_instant : zq57)
@[reducible] def clock_compared_X : Ctx := ⟨look tab, pick1 [(58, .spec (zq58 c_clock_instant))], false⟩
def zqe2 {β : Type} (s : zq2) (k : (Bool → Option β)) : Option β :=
  c_clock_instant s.2.1 (fun (rinstant : Bool) =>
  cond rinstant
  (c_clock_instant s.2.2.1 (fun (rinstant2 : Bool) =>
  cond rinstant2
  (c_clock_instant s.2.2.2 (fun (rinstant3 : Bool) =>
  cond rinstant3
  (let t : Bool := (decide (s.2.2.1 ≤ s.2.2.2));
  k t)
  (k false)))
  (k false)))
  (k false))
theorem zqe3 (hΓ : ΓOk Try.prog (clock_compared_X c_clock_instant).Γ) : SpecOk Try.prog 57 (zqe1 (zqe2 c_clock_instant)) :=
  spec_exec (X := (clock_compared_X c_clock_instant)) (Λ := pick1 []) (rs := [.tmp 2]) (c := bodyOf Try.f57) mixed tab_ok hΓ Try.func57 (by kernel_rfl) (by kernel_rfl) (by kernel_rfl) (by kernel_rfl) CutsOk_nil (fun x k r h => Eq.trans (b := (zqe1 (zqe2 c_clock_instant)).run x k) (by kernel_rfl) h)
end
theorem zqe4Γ : ΓOk Try.prog (pick1 [(58, .spec (zq58 zq5c))]) := (ΓOk_cons zq5d ΓOk_nil)
def zqe5 : zqe0 := zqe2 zq5c
theorem zqe6 : SpecOk Try.prog 57 (zqe1 zqe5) := zqe3 zq5c zqe4Γ

/-- pagewatch/clock.Elapsed -/
abbrev zqe7 := {β : Type} → Int → Int → (Int → Int → Option β) → Option β
def zqe8 (c : zqe7) : Spec :=
  ⟨[(false, [.data (.int .i64)]), (false, [.data (.int .i64)])], [], [(false, [.data (.int .i64)]), (false, [.data (.int .i64)])], [], fun x k => c x.1.1.1 x.1.2.1.1 (fun r0 r1 => k (((r0, ()), (r1, ()), ()), ()))⟩
section
variable (c_clock_Elapsed_f1 : zq7m) (c_clock_in : zq50) (c_clock_instant : zq57)
@[reducible] def clock_Elapsed_X : Ctx := ⟨look tab, pick1 [(76, .spec (zq7n c_clock_Elapsed_f1)), (56, .spec (zq51 c_clock_in)), (58, .spec (zq58 c_clock_instant))], false⟩
def zqe9 {β : Type} (drift : Int) (d : Int) (k : (Int → Int → Option β)) : Option β :=
  c_clock_in drift (0 : Int) (500000 : Int) (fun (rin : Bool) =>
  cond (!rin)
  (k (0 : Int) (0 : Int))
  (c_clock_instant d (fun (rinstant : Bool) =>
  cond (!rinstant)
  (k (0 : Int) (0 : Int))
  (cond (!decide ((IntKind.i64.wrap ((1000000 : Int) + drift)) = 0))
  (c_clock_Elapsed_f1 (IntKind.i64.wrap (d * (1000000 : Int))) (IntKind.i64.wrap ((1000000 : Int) - drift)) (fun (rElapsed1 : Int) =>
  let low : Int := (IntKind.i64.wrap (Int.tdiv (IntKind.i64.wrap (d * (1000000 : Int))) (IntKind.i64.wrap ((1000000 : Int) + drift))));
  k low rElapsed1))
  none))))
theorem zqea (hΓ : ΓOk Try.prog (clock_Elapsed_X c_clock_Elapsed_f1 c_clock_in c_clock_instant).Γ) : SpecOk Try.prog 62 (zqe8 (zqe9 c_clock_Elapsed_f1 c_clock_in c_clock_instant)) :=
  spec_exec (X := (clock_Elapsed_X c_clock_Elapsed_f1 c_clock_in c_clock_instant)) (Λ := pick1 []) (rs := [.tmp 4, .tmp 5]) (c := bodyOf Try.f62) mixed tab_ok hΓ Try.func62 (by kernel_rfl) (by kernel_rfl) (by kernel_rfl) (by kernel_rfl) CutsOk_nil (fun x k r h => Eq.trans (b := (zqe8 (zqe9 c_clock_Elapsed_f1 c_clock_in c_clock_instant)).run x k) (by kernel_rfl) h)
end
theorem zqebΓ : ΓOk Try.prog (pick1 [(76, .spec (zq7n zq7r)), (56, .spec (zq51 zq55)), (58, .spec (zq58 zq5c))]) := (ΓOk_cons zq7s (ΓOk_cons zq56 (ΓOk_cons zq5d ΓOk_nil)))
def zqec : zqe7 := zqe9 zq7r zq55 zq5c
theorem zqed : SpecOk Try.prog 62 (zqe8 zqec) := zqea zq7r zq55 zq5c zqebΓ

/-- pagewatch/pagewatchref38.From -/
abbrev zqee := {β : Type} → (List UInt8 × Int) → zq2 → Int → ((Int × Int) → Option β) → Option β
def zqef (c : zqee) : Spec :=
  ⟨[(true, [.data (.prod .str (.int .i64))]), (true, [.data zq3]), (false, [.data (.int .i64)])], [], [(true, [.data (.prod (.int .i64) (.int .i64))])], [], fun x k => c x.1.1.1 x.1.2.1.1 x.1.2.2.1.1 (fun r0 => k (((r0, ()), ()), ()))⟩
section
variable (c_ref25_In : zq48) (c_ref38_Elapsed : zqcr)
@[reducible] def ref38_From_X : Ctx := ⟨look tab, pick1 [(48, .spec (zq49 c_ref25_In)), (38, .spec (zqcs c_ref38_Elapsed))], false⟩
def zqeg {β : Type} (h : (List UInt8 × Int)) (s : zq2) (clock : Int) (k : ((Int × Int) → Option β)) : Option β :=
  c_ref25_In h.2 (0 : Int) (500000 : Int) (fun (rIn : Bool) =>
  cond (!rIn)
  (k ((-1099511627776 : Int), (1099511627776 : Int)))
  (c_ref25_In s.2.1 (0 : Int) (8589934592 : Int) (fun (rIn2 : Bool) =>
  cond (!rIn2)
  (k ((-1099511627776 : Int), (1099511627776 : Int)))
  (c_ref25_In s.2.2.1 (0 : Int) s.2.2.2 (fun (rIn3 : Bool) =>
  cond (!rIn3)
  (k ((-1099511627776 : Int), (1099511627776 : Int)))
  (cond (decide ((8589934592 : Int) < s.2.2.2))
  (k ((-1099511627776 : Int), (1099511627776 : Int)))
  (c_ref25_In clock (0 : Int) (8589934592 : Int) (fun (rIn4 : Bool) =>
  cond (!rIn4)
  (k ((-1099511627776 : Int), (1099511627776 : Int)))
  (cond (decide (s.2.1 ≤ clock))
  (c_ref38_Elapsed h.2 (IntKind.i64.wrap (clock - s.2.1)) (fun (rElapsed : Int) (rElapsed2 : Int) =>
  k ((IntKind.i64.wrap (s.2.2.1 + rElapsed)), (IntKind.i64.wrap (s.2.2.2 + rElapsed2)))))
  (c_ref38_Elapsed h.2 (IntKind.i64.wrap (s.2.1 - clock)) (fun (rElapsed : Int) (rElapsed2 : Int) =>
  k ((IntKind.i64.wrap (s.2.2.1 - rElapsed2)), (IntKind.i64.wrap (s.2.2.2 - rElapsed))))))))))))))
theorem zqeh (hΓ : ΓOk Try.prog (ref38_From_X c_ref25_In c_ref38_Elapsed).Γ) : SpecOk Try.prog 64 (zqef (zqeg c_ref25_In c_ref38_Elapsed)) :=
  spec_exec (X := (ref38_From_X c_ref25_In c_ref38_Elapsed)) (Λ := pick1 []) (rs := [.cell 6 56]) (c := bodyOf Try.f64) mixed tab_ok hΓ Try.func64 (by kernel_rfl) (by kernel_rfl) (by kernel_rfl) (by kernel_rfl) CutsOk_nil (fun x k r h => Eq.trans (b := (zqef (zqeg c_ref25_In c_ref38_Elapsed)).run x k) (by kernel_rfl) h)
end
theorem zqeiΓ : ΓOk Try.prog (pick1 [(48, .spec (zq49 zq4d)), (38, .spec (zqcs zqcw))]) := (ΓOk_cons zq4e (ΓOk_cons zqcx ΓOk_nil))
def zqej : zqee := zqeg zq4d zqcw
theorem zqek : SpecOk Try.prog 64 (zqef zqej) := zqeh zq4d zqcw zqeiΓ

/-- pagewatch/pagewatchref39.Close -/
abbrev zqel := {β : Type} → Int → (List (Int × (Int × Int))) → ((List (List Int)) → Bool → Option β) → Option β
def zqem (c : zqel) : Spec :=
  ⟨[(false, [.data (.int .i64)]), (false, [.data (.slice (.prod (.int .i64) (.prod (.int .i64) (.int .i64))))])], [], [(false, [.data (.slice (.slice (.int .i64)))]), (false, [.data .bool])], [], fun x k => c x.1.1.1 x.1.2.1.1 (fun r0 r1 => k (((r0, ()), (r1, ()), ()), ()))⟩
noncomputable def ref39_Close_p2_code : Code := codeAt 122 (bodyOf Try.f67)
noncomputable def ref39_Close_p3_code : Code := codeAt 250 (bodyOf Try.f67)
noncomputable def ref39_Close_p8_code : Code := codeAt 506 (bodyOf Try.f67)
noncomputable def ref39_Close_p1_code : Code := codeAt 202 (loopBody ref39_Close_p2_code)
noncomputable def ref39_Close_p6_code : Code := codeAt 98 (loopBody ref39_Close_p8_code)
noncomputable def ref39_Close_p7_code : Code := codeAt 102 (loopBody ref39_Close_p8_code)
noncomputable def ref39_Close_p5_code : Code := codeAt 50 (loopBody ref39_Close_p6_code)
noncomputable def ref39_Close_p4_code : Code := codeAt 25 (loopBody ref39_Close_p5_code)
abbrev zqen (β : Type) := Int → (List (Int × (Int × Int))) → Int → (List (List Int)) → (List Int) → Option β
abbrev zqeo := {β : Type} → zqen β → Int → (List (Int × (Int × Int))) → Int → Int → (List (List Int)) → (List Int) → Option β
def zqep : View := ⟨0, [0, 1, 6, 7, 8, 9], [(false, [.data (.int .i64)]), (false, [.data (.slice (.prod (.int .i64) (.prod (.int .i64) (.int .i64))))]), (false, [.math 0]), (false, [.data (.int .i64)]), (false, [.rowh 1]), (false, [.data (.int .i64)])], [.mat 22 3 (.int .i64), .row 3 (.int .i64)]⟩
def zqeq : List (AExit × View) := [(.exit 2, ⟨0, [0, 1, 6, 7, 8], [(false, [.data (.int .i64)]), (false, [.data (.slice (.prod (.int .i64) (.prod (.int .i64) (.int .i64))))]), (false, [.math 0]), (false, [.data (.int .i64)]), (false, [.rowh 1])], [.mat 22 3 (.int .i64), .row 3 (.int .i64)]⟩)]
@[reducible] def ref39_Close_p1_G (p : zqeo) {β : Type} (d : zqep.den) (ks : Outs.K β zqeq) : Option β :=
  p (fun a0 a1 a2 a3 a4 => ks.1 (((a0, ()), (a1, ()), (), (a2, ()), (), ()), (a3, a4, ()))) d.1.1.1 d.1.2.1.1 d.1.2.2.2.1.1 d.1.2.2.2.2.2.1.1 d.2.1 d.2.2.1
abbrev zqer (β : Type) := Int → (List (Int × (Int × Int))) → (List (List Int)) → Option β
abbrev zqes := {β : Type} → zqer β → Int → (List (Int × (Int × Int))) → Int → (List (List Int)) → Option β
def zqet : View := ⟨0, [0, 1, 6, 7], [(false, [.data (.int .i64)]), (false, [.data (.slice (.prod (.int .i64) (.prod (.int .i64) (.int .i64))))]), (false, [.math 0]), (false, [.data (.int .i64)])], [.mat 22 3 (.int .i64)]⟩
def zqeu : List (AExit × View) := [(.exit 0, ⟨0, [0, 1, 6], [(false, [.data (.int .i64)]), (false, [.data (.slice (.prod (.int .i64) (.prod (.int .i64) (.int .i64))))]), (false, [.math 0])], [.mat 22 3 (.int .i64)]⟩)]
@[reducible] def ref39_Close_p2_G (p : zqes) {β : Type} (d : zqet.den) (ks : Outs.K β zqeu) : Option β :=
  p (fun a0 a1 a2 => ks.1 (((a0, ()), (a1, ()), (), ()), (a2, ()))) d.1.1.1 d.1.2.1.1 d.1.2.2.2.1.1 d.2.1
abbrev zqev (β : Type) := Bool → (List (List Int)) → Option β
abbrev zqew (β : Type) := Int → (List (List Int)) → Option β
abbrev zqex := {β : Type} → zqev β → zqew β → Int → (List (Int × (Int × Int))) → Int → (List (List Int)) → Option β
def zqey : View := ⟨0, [0, 1, 6, 10], [(false, [.data (.int .i64)]), (false, [.data (.slice (.prod (.int .i64) (.prod (.int .i64) (.int .i64))))]), (false, [.math 0]), (false, [.data (.int .i64)])], [.mat 22 3 (.int .i64)]⟩
def zqez : List (AExit × View) := [(.ret, ⟨0, [4, 5], [(false, [.math 0]), (false, [.data .bool])], [.mat 22 3 (.int .i64)]⟩), (.exit 4, ⟨0, [0, 6], [(false, [.data (.int .i64)]), (false, [.math 0])], [.mat 22 3 (.int .i64)]⟩)]
@[reducible] def ref39_Close_p3_G (p : zqex) {β : Type} (d : zqey.den) (ks : Outs.K β zqez) : Option β :=
  p (fun a0 a1 => ks.1 (((), (a0, ()), ()), (a1, ()))) (fun a0 a1 => ks.2.1 (((a0, ()), (), ()), (a1, ()))) d.1.1.1 d.1.2.1.1 d.1.2.2.2.1.1 d.2.1
abbrev zqf0 (β : Type) := Int → Int → Int → Int → (List (List Int)) → Option β
abbrev zqf1 := {β : Type} → zqf0 β → Int → Int → Int → Int → Bool → (List (List Int)) → Option β
def zqf2 : View := ⟨0, [0, 6, 11, 12, 13, 131], [(false, [.data (.int .i64)]), (false, [.math 0]), (false, [.data (.int .i64)]), (false, [.data (.int .i64)]), (false, [.data (.int .i64)]), (false, [.data .bool])], [.mat 22 3 (.int .i64)]⟩
def zqf3 : List (AExit × View) := [(.normal, ⟨0, [0, 6, 11, 12, 13], [(false, [.data (.int .i64)]), (false, [.math 0]), (false, [.data (.int .i64)]), (false, [.data (.int .i64)]), (false, [.data (.int .i64)])], [.mat 22 3 (.int .i64)]⟩)]
@[reducible] def ref39_Close_p4_G (p : zqf1) {β : Type} (d : zqf2.den) (ks : Outs.K β zqf3) : Option β :=
  p (fun a0 a1 a2 a3 a4 => ks.1 (((a0, ()), (), (a1, ()), (a2, ()), (a3, ()), ()), (a4, ()))) d.1.1.1 d.1.2.2.1.1 d.1.2.2.2.1.1 d.1.2.2.2.2.1.1 d.1.2.2.2.2.2.1.1 d.2.1
abbrev zqf4 (β : Type) := Int → Int → Int → (List (List Int)) → Option β
abbrev zqf5 := {β : Type} → zqf4 β → Int → Int → Int → Int → (List (List Int)) → Option β
def zqf6 : View := ⟨0, [0, 6, 11, 12, 13], [(false, [.data (.int .i64)]), (false, [.math 0]), (false, [.data (.int .i64)]), (false, [.data (.int .i64)]), (false, [.data (.int .i64)])], [.mat 22 3 (.int .i64)]⟩
def zqf7 : List (AExit × View) := [(.exit 10, ⟨0, [0, 6, 11, 12], [(false, [.data (.int .i64)]), (false, [.math 0]), (false, [.data (.int .i64)]), (false, [.data (.int .i64)])], [.mat 22 3 (.int .i64)]⟩)]
@[reducible] def ref39_Close_p5_G (p : zqf5) {β : Type} (d : zqf6.den) (ks : Outs.K β zqf7) : Option β :=
  p (fun a0 a1 a2 a3 => ks.1 (((a0, ()), (), (a1, ()), (a2, ()), ()), (a3, ()))) d.1.1.1 d.1.2.2.1.1 d.1.2.2.2.1.1 d.1.2.2.2.2.1.1 d.2.1
abbrev zqf8 (β : Type) := Int → Int → (List (List Int)) → Option β
abbrev zqf9 := {β : Type} → zqf8 β → Int → Int → Int → (List (List Int)) → Option β
def zqfa : View := ⟨0, [0, 6, 11, 12], [(false, [.data (.int .i64)]), (false, [.math 0]), (false, [.data (.int .i64)]), (false, [.data (.int .i64)])], [.mat 22 3 (.int .i64)]⟩
def zqfb : List (AExit × View) := [(.exit 8, ⟨0, [0, 6, 11], [(false, [.data (.int .i64)]), (false, [.math 0]), (false, [.data (.int .i64)])], [.mat 22 3 (.int .i64)]⟩)]
@[reducible] def ref39_Close_p6_G (p : zqf9) {β : Type} (d : zqfa.den) (ks : Outs.K β zqfb) : Option β :=
  p (fun a0 a1 a2 => ks.1 (((a0, ()), (), (a1, ()), ()), (a2, ()))) d.1.1.1 d.1.2.2.1.1 d.1.2.2.2.1.1 d.2.1
abbrev zqfc (β : Type) := Bool → (List (List Int)) → Option β
abbrev zqfd (β : Type) := Int → Int → (List (List Int)) → Option β
abbrev zqfe := {β : Type} → zqfc β → zqfd β → Int → Int → Int → (List (List Int)) → Option β
def zqff : View := ⟨0, [0, 6, 11, 14], [(false, [.data (.int .i64)]), (false, [.math 0]), (false, [.data (.int .i64)]), (false, [.data (.int .i64)])], [.mat 22 3 (.int .i64)]⟩
def zqfg : List (AExit × View) := [(.ret, ⟨0, [4, 5], [(false, [.math 0]), (false, [.data .bool])], [.mat 22 3 (.int .i64)]⟩), (.exit 12, ⟨0, [0, 6, 11], [(false, [.data (.int .i64)]), (false, [.math 0]), (false, [.data (.int .i64)])], [.mat 22 3 (.int .i64)]⟩)]
@[reducible] def ref39_Close_p7_G (p : zqfe) {β : Type} (d : zqff.den) (ks : Outs.K β zqfg) : Option β :=
  p (fun a0 a1 => ks.1 (((), (a0, ()), ()), (a1, ()))) (fun a0 a1 a2 => ks.2.1 (((a0, ()), (), (a1, ()), ()), (a2, ()))) d.1.1.1 d.1.2.2.1.1 d.1.2.2.2.1.1 d.2.1
abbrev zqfh (β : Type) := Bool → (List (List Int)) → Option β
abbrev zqfi (β : Type) := (List (List Int)) → Option β
abbrev zqfj := {β : Type} → zqfh β → zqfi β → Int → Int → (List (List Int)) → Option β
def zqfk : View := ⟨0, [0, 6, 11], [(false, [.data (.int .i64)]), (false, [.math 0]), (false, [.data (.int .i64)])], [.mat 22 3 (.int .i64)]⟩
def zqfl : List (AExit × View) := [(.ret, ⟨0, [4, 5], [(false, [.math 0]), (false, [.data .bool])], [.mat 22 3 (.int .i64)]⟩), (.exit 6, ⟨0, [6], [(false, [.math 0])], [.mat 22 3 (.int .i64)]⟩)]
@[reducible] def ref39_Close_p8_G (p : zqfj) {β : Type} (d : zqfk.den) (ks : Outs.K β zqfl) : Option β :=
  p (fun a0 a1 => ks.1 (((), (a0, ()), ()), (a1, ()))) (fun a0 => ks.2.1 (((), ()), (a0, ()))) d.1.1.1 d.1.2.2.1.1 d.2.1
section
variable (c_ref39_Valid : zq73)
@[reducible] def ref39_Close_X : Ctx := ⟨look tab, pick1 [(75, .spec (zq74 c_ref39_Valid))], true⟩
def zqfm {β : Type} (rec : Int → (List (Int × (Int × Int))) → Int → Int → (List (List Int)) → (List Int) → Option β) (k1 : zqen β) (n : Int) (l : List (Int × (Int × Int))) (i_ : Int) (j : Int) (d : List (List Int)) (row : List Int) : Option β :=
  cond (decide (j < n))
  (let l2 : List Int := ([(1099511627776 : Int)] : List Int);
  cond (decide ((List.length row + List.length l2) * 8 ≤ roomMax))
  (let l3 : List Int := (row ++ l2);
  let j2 : Int := (IntKind.i64.wrap (j + (1 : Int)));
  rec n l i_ j2 d l3)
  none)
  (k1 n l i_ d row)
def zqfn {β : Type} : Nat → zqen β → Int → (List (Int × (Int × Int))) → Int → Int → (List (List Int)) → (List Int) → Option β
  | 0 => fun _ _ _ _ _ _ _ => none
  | i + 1 => fun k1 n l i_ j d row => zqfm (zqfn i k1) k1 n l i_ j d row
theorem zqfo (hΓ : ΓOk Try.prog (ref39_Close_X c_ref39_Valid).Γ) (i : Nat) : PieceOk Try.prog 175 0 ref39_Close_p1_code zqep zqeq (ref39_Close_p1_G (zqfn i)) := by
  rw [show ref39_Close_p1_code = .loop (loopBody ref39_Close_p1_code) by kernel_rfl]
  exact piece_loop (X := (ref39_Close_X c_ref39_Valid)) (p := 1) (Λ := pick1 []) (G := fun i => @fun β d ks => ref39_Close_p1_G (zqfn i) d ks) mixed tab_ok hΓ rfl (by kernel_rfl) CutsOk_nil (fun _ _ => rfl) (fun i => @fun β d ks r h => Eq.trans (b := ref39_Close_p1_G (zqfn (i + 1)) d ks) (by kernel_rfl) h) i
def zqfp (p1 : zqeo) {β : Type} (rec : Int → (List (Int × (Int × Int))) → Int → (List (List Int)) → Option β) (k1 : zqer β) (n : Int) (l : List (Int × (Int × Int))) (i_ : Int) (d : List (List Int)) : Option β :=
  cond (decide (i_ < n))
  (p1 (fun (n2 : Int) (l2 : List (Int × (Int × Int))) (i_2 : Int) (d2 : List (List Int)) (row : List Int) =>
  cond (decide (0 ≤ i_2) && decide (i_2 < (List.length row : Int)))
  (let l3 : List Int := (List.set row (Int.toNat i_2) (0 : Int));
  let m_ : List (List Int) := ([l3] : List (List Int));
  cond (decide ((List.length d2 + List.length m_) * 24 ≤ roomMax))
  (let m_2 : List (List Int) := (d2 ++ m_);
  let i_3 : Int := (IntKind.i64.wrap (i_2 + (1 : Int)));
  rec n2 l2 i_3 m_2)
  none)
  none) n l i_ (0 : Int) d ([] : List Int))
  (k1 n l d)
def zqfq (p1 : zqeo) {β : Type} : Nat → zqer β → Int → (List (Int × (Int × Int))) → Int → (List (List Int)) → Option β
  | 0 => fun _ _ _ _ _ => none
  | i + 1 => fun k1 n l i_ d => zqfp p1 (zqfq p1 i k1) k1 n l i_ d
theorem zqfr (hΓ : ΓOk Try.prog (ref39_Close_X c_ref39_Valid).Γ) (p1 : zqeo) (hp1 : PieceOk Try.prog 175 0 ref39_Close_p1_code zqep zqeq (ref39_Close_p1_G p1)) (i : Nat) : PieceOk Try.prog 175 0 ref39_Close_p2_code zqet zqeu (ref39_Close_p2_G (zqfq p1 i)) := by
  rw [show ref39_Close_p2_code = .loop (loopBody ref39_Close_p2_code) by kernel_rfl]
  exact piece_loop (X := (ref39_Close_X c_ref39_Valid)) (p := 1) (Λ := pick1 [(202, pieceCut zqep zqeq (ref39_Close_p1_G p1))]) (G := fun i => @fun β d ks => ref39_Close_p2_G (zqfq p1 i) d ks) mixed tab_ok hΓ rfl (by kernel_rfl) (CutsOk_cons (q := 202) (c' := ref39_Close_p1_code) (by kernel_rfl) rfl hp1 CutsOk_nil) (fun _ _ => rfl) (fun i => @fun β d ks r h => Eq.trans (b := ref39_Close_p2_G (zqfq p1 (i + 1)) d ks) (by kernel_rfl) h) i
def zqfs {β : Type} (rec : Int → (List (Int × (Int × Int))) → Int → (List (List Int)) → Option β) (k1 : zqev β) (k2 : zqew β) (n : Int) (l : List (Int × (Int × Int))) (i_ : Int) (d : List (List Int)) : Option β :=
  cond (decide (i_ < (List.length l : Int)))
  (cond (decide (0 ≤ i_) && decide (i_ < (List.length l : Int)))
  (let e : (Int × (Int × Int)) := List.getD l (Int.toNat i_) ((0 : Int), ((0 : Int), (0 : Int)));
  cond (decide (0 ≤ e.1) && decide (e.1 < (List.length d : Int)))
  (cond (decide (0 ≤ i_) && decide (i_ < (List.length l : Int)))
  (let e2 : (Int × (Int × Int)) := List.getD l (Int.toNat i_) ((0 : Int), ((0 : Int), (0 : Int)));
  cond (decide (0 ≤ i_) && decide (i_ < (List.length l : Int)))
  (let e3 : (Int × (Int × Int)) := List.getD l (Int.toNat i_) ((0 : Int), ((0 : Int), (0 : Int)));
  cond (decide (0 ≤ e3.1) && decide (e3.1 < (List.length d : Int)))
  (cond (decide (0 ≤ i_) && decide (i_ < (List.length l : Int)))
  (let e4 : (Int × (Int × Int)) := List.getD l (Int.toNat i_) ((0 : Int), ((0 : Int), (0 : Int)));
  cond (decide (0 ≤ e4.2.1) && decide (e4.2.1 < (List.length (List.getD d (Int.toNat e3.1) []) : Int)))
  (cond (decide (0 ≤ i_) && decide (i_ < (List.length l : Int)))
  (let e5 : (Int × (Int × Int)) := List.getD l (Int.toNat i_) ((0 : Int), ((0 : Int), (0 : Int)));
  cond (decide (0 ≤ e2.2.1) && decide (e2.2.1 < (List.length (List.getD d (Int.toNat e.1) []) : Int)))
  (let m_ : List (List Int) := (List.set d (Int.toNat e.1) (List.set (List.getD d (Int.toNat e.1) []) (Int.toNat e2.2.1) (if e5.2.2 < (List.getD (List.getD d (Int.toNat e3.1) []) (Int.toNat e4.2.1) (0 : Int)) then e5.2.2 else (List.getD (List.getD d (Int.toNat e3.1) []) (Int.toNat e4.2.1) (0 : Int)))));
  cond (decide (0 ≤ i_) && decide (i_ < (List.length l : Int)))
  (let e6 : (Int × (Int × Int)) := List.getD l (Int.toNat i_) ((0 : Int), ((0 : Int), (0 : Int)));
  cond (decide (0 ≤ i_) && decide (i_ < (List.length l : Int)))
  (let e7 : (Int × (Int × Int)) := List.getD l (Int.toNat i_) ((0 : Int), ((0 : Int), (0 : Int)));
  cond (decide (e6.1 = e7.2.1))
  (cond (decide (0 ≤ i_) && decide (i_ < (List.length l : Int)))
  (let e8 : (Int × (Int × Int)) := List.getD l (Int.toNat i_) ((0 : Int), ((0 : Int), (0 : Int)));
  cond (decide (e8.2.2 < (0 : Int)))
  (k1 false ([] : List (List Int)))
  (let i_2 : Int := (IntKind.i64.wrap (i_ + (1 : Int)));
  rec n l i_2 m_))
  none)
  (let i_2 : Int := (IntKind.i64.wrap (i_ + (1 : Int)));
  rec n l i_2 m_))
  none)
  none)
  none)
  none)
  none)
  none)
  none)
  none)
  none)
  none)
  none)
  (k2 n d)
def zqft {β : Type} : Nat → zqev β → zqew β → Int → (List (Int × (Int × Int))) → Int → (List (List Int)) → Option β
  | 0 => fun _ _ _ _ _ _ => none
  | i + 1 => fun k1 k2 n l i_ d => zqfs (zqft i k1 k2) k1 k2 n l i_ d
theorem zqfu (hΓ : ΓOk Try.prog (ref39_Close_X c_ref39_Valid).Γ) (i : Nat) : PieceOk Try.prog 175 0 ref39_Close_p3_code zqey zqez (ref39_Close_p3_G (zqft i)) := by
  rw [show ref39_Close_p3_code = .loop (loopBody ref39_Close_p3_code) by kernel_rfl]
  exact piece_loop (X := (ref39_Close_X c_ref39_Valid)) (p := 1) (Λ := pick1 []) (G := fun i => @fun β d ks => ref39_Close_p3_G (zqft i) d ks) mixed tab_ok hΓ rfl (by kernel_rfl) CutsOk_nil (fun _ _ => rfl) (fun i => @fun β d ks r h => Eq.trans (b := ref39_Close_p3_G (zqft (i + 1)) d ks) (by kernel_rfl) h) i
def zqfv {β : Type} (k1 : zqf0 β) (n : Int) (k_ : Int) (i_ : Int) (j : Int) (t131 : Bool) (d : List (List Int)) : Option β :=
  cond t131
  (cond (decide (0 ≤ i_) && decide (i_ < (List.length d : Int)))
  (cond (decide (0 ≤ i_) && decide (i_ < (List.length d : Int)))
  (cond (decide (0 ≤ j) && decide (j < (List.length (List.getD d (Int.toNat i_) []) : Int)))
  (cond (decide (0 ≤ i_) && decide (i_ < (List.length d : Int)))
  (cond (decide (0 ≤ k_) && decide (k_ < (List.length (List.getD d (Int.toNat i_) []) : Int)))
  (cond (decide (0 ≤ k_) && decide (k_ < (List.length d : Int)))
  (cond (decide (0 ≤ j) && decide (j < (List.length (List.getD d (Int.toNat k_) []) : Int)))
  (cond (decide (0 ≤ j) && decide (j < (List.length (List.getD d (Int.toNat i_) []) : Int)))
  (let m_ : List (List Int) := (List.set d (Int.toNat i_) (List.set (List.getD d (Int.toNat i_) []) (Int.toNat j) (if (IntKind.i64.wrap ((List.getD (List.getD d (Int.toNat i_) []) (Int.toNat k_) (0 : Int)) + (List.getD (List.getD d (Int.toNat k_) []) (Int.toNat j) (0 : Int)))) < (List.getD (List.getD d (Int.toNat i_) []) (Int.toNat j) (0 : Int)) then (IntKind.i64.wrap ((List.getD (List.getD d (Int.toNat i_) []) (Int.toNat k_) (0 : Int)) + (List.getD (List.getD d (Int.toNat k_) []) (Int.toNat j) (0 : Int)))) else (List.getD (List.getD d (Int.toNat i_) []) (Int.toNat j) (0 : Int)))));
  k1 n k_ i_ j m_)
  none)
  none)
  none)
  none)
  none)
  none)
  none)
  none)
  (k1 n k_ i_ j d)
def zqfw {β : Type} (k1 : zqf0 β) (n : Int) (k_ : Int) (i_ : Int) (j : Int) (t131 : Bool) (d : List (List Int)) : Option β := zqfv k1 n k_ i_ j t131 d
theorem zqfx (hΓ : ΓOk Try.prog (ref39_Close_X c_ref39_Valid).Γ) : PieceOk Try.prog 175 0 ref39_Close_p4_code zqf2 zqf3 (ref39_Close_p4_G (zqfw)) :=
  piece_exec (X := (ref39_Close_X c_ref39_Valid)) (p := 25) (Λ := pick1 []) mixed tab_ok hΓ (by kernel_rfl) CutsOk_nil (fun d ks r h => Eq.trans (b := ref39_Close_p4_G (zqfw) d ks) (by kernel_rfl) h)
def zqfy (p4 : zqf1) {β : Type} (rec : Int → Int → Int → Int → (List (List Int)) → Option β) (k1 : zqf4 β) (n : Int) (k_ : Int) (i_ : Int) (j : Int) (d : List (List Int)) : Option β :=
  cond (decide (j < n))
  (cond (decide (0 ≤ i_) && decide (i_ < (List.length d : Int)))
  (cond (decide (0 ≤ k_) && decide (k_ < (List.length (List.getD d (Int.toNat i_) []) : Int)))
  (cond (decide ((List.getD (List.getD d (Int.toNat i_) []) (Int.toNat k_) (0 : Int)) < (1099511627776 : Int)))
  (cond (decide (0 ≤ k_) && decide (k_ < (List.length d : Int)))
  (cond (decide (0 ≤ j) && decide (j < (List.length (List.getD d (Int.toNat k_) []) : Int)))
  (p4 (fun (n2 : Int) (k_2 : Int) (i_2 : Int) (j2 : Int) (d2 : List (List Int)) =>
  let j3 : Int := (IntKind.i64.wrap (j2 + (1 : Int)));
  rec n2 k_2 i_2 j3 d2) n k_ i_ j (decide ((List.getD (List.getD d (Int.toNat k_) []) (Int.toNat j) (0 : Int)) < (1099511627776 : Int))) d)
  none)
  none)
  (p4 (fun (n2 : Int) (k_2 : Int) (i_2 : Int) (j2 : Int) (d2 : List (List Int)) =>
  let j3 : Int := (IntKind.i64.wrap (j2 + (1 : Int)));
  rec n2 k_2 i_2 j3 d2) n k_ i_ j false d))
  none)
  none)
  (k1 n k_ i_ d)
def zqfz (p4 : zqf1) {β : Type} : Nat → zqf4 β → Int → Int → Int → Int → (List (List Int)) → Option β
  | 0 => fun _ _ _ _ _ _ => none
  | i + 1 => fun k1 n k_ i_ j d => zqfy p4 (zqfz p4 i k1) k1 n k_ i_ j d
theorem zqg0 (hΓ : ΓOk Try.prog (ref39_Close_X c_ref39_Valid).Γ) (p4 : zqf1) (hp4 : PieceOk Try.prog 175 0 ref39_Close_p4_code zqf2 zqf3 (ref39_Close_p4_G p4)) (i : Nat) : PieceOk Try.prog 175 0 ref39_Close_p5_code zqf6 zqf7 (ref39_Close_p5_G (zqfz p4 i)) := by
  rw [show ref39_Close_p5_code = .loop (loopBody ref39_Close_p5_code) by kernel_rfl]
  exact piece_loop (X := (ref39_Close_X c_ref39_Valid)) (p := 1) (Λ := pick1 [(25, pieceCut zqf2 zqf3 (ref39_Close_p4_G p4))]) (G := fun i => @fun β d ks => ref39_Close_p5_G (zqfz p4 i) d ks) mixed tab_ok hΓ rfl (by kernel_rfl) (CutsOk_cons (q := 25) (c' := ref39_Close_p4_code) (by kernel_rfl) rfl hp4 CutsOk_nil) (fun _ _ => rfl) (fun i => @fun β d ks r h => Eq.trans (b := ref39_Close_p5_G (zqfz p4 (i + 1)) d ks) (by kernel_rfl) h) i
def zqg1 (p5 : zqf5) {β : Type} (rec : Int → Int → Int → (List (List Int)) → Option β) (k1 : zqf8 β) (n : Int) (k_ : Int) (i_ : Int) (d : List (List Int)) : Option β :=
  cond (decide (i_ < n))
  (p5 (fun (n2 : Int) (k_2 : Int) (i_2 : Int) (d2 : List (List Int)) =>
  let i_3 : Int := (IntKind.i64.wrap (i_2 + (1 : Int)));
  rec n2 k_2 i_3 d2) n k_ i_ (0 : Int) d)
  (k1 n k_ d)
def zqg2 (p5 : zqf5) {β : Type} : Nat → zqf8 β → Int → Int → Int → (List (List Int)) → Option β
  | 0 => fun _ _ _ _ _ => none
  | i + 1 => fun k1 n k_ i_ d => zqg1 p5 (zqg2 p5 i k1) k1 n k_ i_ d
theorem zqg3 (hΓ : ΓOk Try.prog (ref39_Close_X c_ref39_Valid).Γ) (p5 : zqf5) (hp5 : PieceOk Try.prog 175 0 ref39_Close_p5_code zqf6 zqf7 (ref39_Close_p5_G p5)) (i : Nat) : PieceOk Try.prog 175 0 ref39_Close_p6_code zqfa zqfb (ref39_Close_p6_G (zqg2 p5 i)) := by
  rw [show ref39_Close_p6_code = .loop (loopBody ref39_Close_p6_code) by kernel_rfl]
  exact piece_loop (X := (ref39_Close_X c_ref39_Valid)) (p := 1) (Λ := pick1 [(50, pieceCut zqf6 zqf7 (ref39_Close_p5_G p5))]) (G := fun i => @fun β d ks => ref39_Close_p6_G (zqg2 p5 i) d ks) mixed tab_ok hΓ rfl (by kernel_rfl) (CutsOk_cons (q := 50) (c' := ref39_Close_p5_code) (by kernel_rfl) rfl hp5 CutsOk_nil) (fun _ _ => rfl) (fun i => @fun β d ks r h => Eq.trans (b := ref39_Close_p6_G (zqg2 p5 (i + 1)) d ks) (by kernel_rfl) h) i
def zqg4 {β : Type} (rec : Int → Int → Int → (List (List Int)) → Option β) (k1 : zqfc β) (k2 : zqfd β) (n : Int) (k_ : Int) (i_ : Int) (d : List (List Int)) : Option β :=
  cond (decide (i_ < n))
  (cond (decide (0 ≤ i_) && decide (i_ < (List.length d : Int)))
  (cond (decide (0 ≤ i_) && decide (i_ < (List.length (List.getD d (Int.toNat i_) []) : Int)))
  (cond (decide ((List.getD (List.getD d (Int.toNat i_) []) (Int.toNat i_) (0 : Int)) < (0 : Int)))
  (k1 false ([] : List (List Int)))
  (let i_2 : Int := (IntKind.i64.wrap (i_ + (1 : Int)));
  rec n k_ i_2 d))
  none)
  none)
  (k2 n k_ d)
def zqg5 {β : Type} : Nat → zqfc β → zqfd β → Int → Int → Int → (List (List Int)) → Option β
  | 0 => fun _ _ _ _ _ _ => none
  | i + 1 => fun k1 k2 n k_ i_ d => zqg4 (zqg5 i k1 k2) k1 k2 n k_ i_ d
theorem zqg6 (hΓ : ΓOk Try.prog (ref39_Close_X c_ref39_Valid).Γ) (i : Nat) : PieceOk Try.prog 175 0 ref39_Close_p7_code zqff zqfg (ref39_Close_p7_G (zqg5 i)) := by
  rw [show ref39_Close_p7_code = .loop (loopBody ref39_Close_p7_code) by kernel_rfl]
  exact piece_loop (X := (ref39_Close_X c_ref39_Valid)) (p := 1) (Λ := pick1 []) (G := fun i => @fun β d ks => ref39_Close_p7_G (zqg5 i) d ks) mixed tab_ok hΓ rfl (by kernel_rfl) CutsOk_nil (fun _ _ => rfl) (fun i => @fun β d ks r h => Eq.trans (b := ref39_Close_p7_G (zqg5 (i + 1)) d ks) (by kernel_rfl) h) i
def zqg7 (p6 : zqf9) (p7 : zqfe) {β : Type} (rec : Int → Int → (List (List Int)) → Option β) (k1 : zqfh β) (k2 : zqfi β) (n : Int) (k_ : Int) (d : List (List Int)) : Option β :=
  cond (decide (k_ < n))
  (p6 (fun (n2 : Int) (k_2 : Int) (d2 : List (List Int)) =>
  p7 (fun (t5 : Bool) (t4 : List (List Int)) =>
  k1 t5 t4) (fun (n3 : Int) (k_3 : Int) (d3 : List (List Int)) =>
  let k_4 : Int := (IntKind.i64.wrap (k_3 + (1 : Int)));
  rec n3 k_4 d3) n2 k_2 (0 : Int) d2) n k_ (0 : Int) d)
  (k2 d)
def zqg8 (p6 : zqf9) (p7 : zqfe) {β : Type} : Nat → zqfh β → zqfi β → Int → Int → (List (List Int)) → Option β
  | 0 => fun _ _ _ _ _ => none
  | i + 1 => fun k1 k2 n k_ d => zqg7 p6 p7 (zqg8 p6 p7 i k1 k2) k1 k2 n k_ d
theorem zqg9 (hΓ : ΓOk Try.prog (ref39_Close_X c_ref39_Valid).Γ) (p6 : zqf9) (p7 : zqfe) (hp6 : PieceOk Try.prog 175 0 ref39_Close_p6_code zqfa zqfb (ref39_Close_p6_G p6)) (hp7 : PieceOk Try.prog 175 0 ref39_Close_p7_code zqff zqfg (ref39_Close_p7_G p7)) (i : Nat) : PieceOk Try.prog 175 0 ref39_Close_p8_code zqfk zqfl (ref39_Close_p8_G (zqg8 p6 p7 i)) := by
  rw [show ref39_Close_p8_code = .loop (loopBody ref39_Close_p8_code) by kernel_rfl]
  exact piece_loop (X := (ref39_Close_X c_ref39_Valid)) (p := 1) (Λ := pick1 [(98, pieceCut zqfa zqfb (ref39_Close_p6_G p6)), (102, pieceCut zqff zqfg (ref39_Close_p7_G p7))]) (G := fun i => @fun β d ks => ref39_Close_p8_G (zqg8 p6 p7 i) d ks) mixed tab_ok hΓ rfl (by kernel_rfl) (CutsOk_cons (q := 98) (c' := ref39_Close_p6_code) (by kernel_rfl) rfl hp6 (CutsOk_cons (q := 102) (c' := ref39_Close_p7_code) (by kernel_rfl) rfl hp7 CutsOk_nil)) (fun _ _ => rfl) (fun i => @fun β d ks r h => Eq.trans (b := ref39_Close_p8_G (zqg8 p6 p7 (i + 1)) d ks) (by kernel_rfl) h) i
def zqga (p2 : zqes) (p3 : zqex) (p8 : zqfj) {β : Type} (n : Int) (l : List (Int × (Int × Int))) (k : ((List (List Int)) → Bool → Option β)) : Option β :=
  c_ref39_Valid n l (fun (rValid : Bool) =>
  cond (!rValid)
  (k ([] : List (List Int)) false)
  (p2 (fun (n2 : Int) (l2 : List (Int × (Int × Int))) (d : List (List Int)) =>
  p3 (fun (t5 : Bool) (t4 : List (List Int)) =>
  k t4 t5) (fun (n3 : Int) (d2 : List (List Int)) =>
  p8 (fun (t5 : Bool) (t4 : List (List Int)) =>
  k t4 t5) (fun (d3 : List (List Int)) =>
  k d3 true) n3 (0 : Int) d2) n2 l2 (0 : Int) d) n l (0 : Int) ([] : List (List Int))))
theorem zqgb (hΓ : ΓOk Try.prog (ref39_Close_X c_ref39_Valid).Γ) (p2 : zqes) (p3 : zqex) (p8 : zqfj) (hp2 : PieceOk Try.prog 175 0 ref39_Close_p2_code zqet zqeu (ref39_Close_p2_G p2)) (hp3 : PieceOk Try.prog 175 0 ref39_Close_p3_code zqey zqez (ref39_Close_p3_G p3)) (hp8 : PieceOk Try.prog 175 0 ref39_Close_p8_code zqfk zqfl (ref39_Close_p8_G p8)) : SpecOk Try.prog 67 (zqem (zqga c_ref39_Valid p2 p3 p8)) :=
  spec_exec (X := (ref39_Close_X c_ref39_Valid)) (Λ := pick1 [(122, pieceCut zqet zqeu (ref39_Close_p2_G p2)), (250, pieceCut zqey zqez (ref39_Close_p3_G p3)), (506, pieceCut zqfk zqfl (ref39_Close_p8_G p8))]) (rs := [.tmp 4, .tmp 5]) (c := bodyOf Try.f67) mixed tab_ok hΓ Try.func67 (by kernel_rfl) (by kernel_rfl) (by kernel_rfl) (by kernel_rfl) (CutsOk_cons (q := 122) (c' := ref39_Close_p2_code) (by kernel_rfl) rfl hp2 (CutsOk_cons (q := 250) (c' := ref39_Close_p3_code) (by kernel_rfl) rfl hp3 (CutsOk_cons (q := 506) (c' := ref39_Close_p8_code) (by kernel_rfl) rfl hp8 CutsOk_nil))) (fun x k r h => Eq.trans (b := (zqem (zqga c_ref39_Valid p2 p3 p8)).run x k) (by kernel_rfl) h)
end
theorem zqgcΓ : ΓOk Try.prog (pick1 [(75, .spec (zq74 zq7k))]) := (ΓOk_cons zq7l ΓOk_nil)
def zqgd (m : Nat) : zqeo := zqfn m
theorem zqge {β : Type} (i : Nat) (k1 n l i_ j d row) : (zqgd (i + 1) k1 n l i_ j d row : Option β) = zqfm (zqgd i k1) k1 n l i_ j d row := rfl
def zqgf : zqeo := zqgd fuel
theorem zqgg : PieceOk Try.prog 175 0 ref39_Close_p1_code zqep zqeq (ref39_Close_p1_G zqgf) := zqfo zq7k zqgcΓ fuel
def zqgh (m : Nat) : zqes := zqfq zqgf m
theorem zqgi {β : Type} (i : Nat) (k1 n l i_ d) : (zqgh (i + 1) k1 n l i_ d : Option β) = zqfp zqgf (zqgh i k1) k1 n l i_ d := rfl
def zqgj : zqes := zqgh fuel
theorem zqgk : PieceOk Try.prog 175 0 ref39_Close_p2_code zqet zqeu (ref39_Close_p2_G zqgj) := zqfr zq7k zqgcΓ zqgf zqgg fuel
def zqgl (m : Nat) : zqex := zqft m
theorem zqgm {β : Type} (i : Nat) (k1 k2 n l i_ d) : (zqgl (i + 1) k1 k2 n l i_ d : Option β) = zqfs (zqgl i k1 k2) k1 k2 n l i_ d := rfl
def zqgn : zqex := zqgl fuel
theorem zqgo : PieceOk Try.prog 175 0 ref39_Close_p3_code zqey zqez (ref39_Close_p3_G zqgn) := zqfu zq7k zqgcΓ fuel
def zqgp : zqf1 := zqfw
theorem zqgq : PieceOk Try.prog 175 0 ref39_Close_p4_code zqf2 zqf3 (ref39_Close_p4_G zqgp) := zqfx zq7k zqgcΓ
def zqgr (m : Nat) : zqf5 := zqfz zqgp m
theorem zqgs {β : Type} (i : Nat) (k1 n k_ i_ j d) : (zqgr (i + 1) k1 n k_ i_ j d : Option β) = zqfy zqgp (zqgr i k1) k1 n k_ i_ j d := rfl
def zqgt : zqf5 := zqgr fuel
theorem zqgu : PieceOk Try.prog 175 0 ref39_Close_p5_code zqf6 zqf7 (ref39_Close_p5_G zqgt) := zqg0 zq7k zqgcΓ zqgp zqgq fuel
def zqgv (m : Nat) : zqf9 := zqg2 zqgt m
theorem zqgw {β : Type} (i : Nat) (k1 n k_ i_ d) : (zqgv (i + 1) k1 n k_ i_ d : Option β) = zqg1 zqgt (zqgv i k1) k1 n k_ i_ d := rfl
def zqgx : zqf9 := zqgv fuel
theorem zqgy : PieceOk Try.prog 175 0 ref39_Close_p6_code zqfa zqfb (ref39_Close_p6_G zqgx) := zqg3 zq7k zqgcΓ zqgt zqgu fuel
def zqgz (m : Nat) : zqfe := zqg5 m
theorem zqh0 {β : Type} (i : Nat) (k1 k2 n k_ i_ d) : (zqgz (i + 1) k1 k2 n k_ i_ d : Option β) = zqg4 (zqgz i k1 k2) k1 k2 n k_ i_ d := rfl
def zqh1 : zqfe := zqgz fuel
theorem zqh2 : PieceOk Try.prog 175 0 ref39_Close_p7_code zqff zqfg (ref39_Close_p7_G zqh1) := zqg6 zq7k zqgcΓ fuel
def zqh3 (m : Nat) : zqfj := zqg8 zqgx zqh1 m
theorem zqh4 {β : Type} (i : Nat) (k1 k2 n k_ d) : (zqh3 (i + 1) k1 k2 n k_ d : Option β) = zqg7 zqgx zqh1 (zqh3 i k1 k2) k1 k2 n k_ d := rfl
def zqh5 : zqfj := zqh3 fuel
theorem zqh6 : PieceOk Try.prog 175 0 ref39_Close_p8_code zqfk zqfl (ref39_Close_p8_G zqh5) := zqg9 zq7k zqgcΓ zqgx zqh1 zqgy zqh2 fuel
def zqh7 : zqel := zqga zq7k zqgj zqgn zqh5
theorem zqh8 : SpecOk Try.prog 67 (zqem zqh7) := zqgb zq7k zqgcΓ zqgj zqgn zqh5 zqgk zqgo zqh6

/-- pagewatch/constraint.Fits$1 -/
abbrev zqh9 := {β : Type} → Int → (Bool → Option β) → Option β
def zqha (c : zqh9) : Spec :=
  ⟨[(false, [.data (.int .i64)])], [], [(false, [.data .bool])], [], fun x k => c x.1.1.1 (fun r0 => k (((r0, ()), ()), ()))⟩
section
variable (c_constraint_in : zq6p)
@[reducible] def constraint_Fits_f1_X : Ctx := ⟨look tab, pick1 [(72, .spec (zq6q c_constraint_in))], false⟩
def zqhb {β : Type} (v : Int) (k : (Bool → Option β)) : Option β :=
  c_constraint_in v (-1099511627776 : Int) (1099511627776 : Int) (fun (rin : Bool) =>
  k (!rin))
theorem zqhc (hΓ : ΓOk Try.prog (constraint_Fits_f1_X c_constraint_in).Γ) : SpecOk Try.prog 71 (zqha (zqhb c_constraint_in)) :=
  spec_exec (X := (constraint_Fits_f1_X c_constraint_in)) (Λ := pick1 []) (rs := [.tmp 2]) (c := bodyOf Try.f71) mixed tab_ok hΓ Try.func71 (by kernel_rfl) (by kernel_rfl) (by kernel_rfl) (by kernel_rfl) CutsOk_nil (fun x k r h => Eq.trans (b := (zqha (zqhb c_constraint_in)).run x k) (by kernel_rfl) h)
end
theorem zqhdΓ : ΓOk Try.prog (pick1 [(72, .spec (zq6q zq6u))]) := (ΓOk_cons zq6v ΓOk_nil)
def zqhe : zqh9 := zqhb zq6u
theorem zqhf : SpecOk Try.prog 71 (zqha zqhe) := zqhc zq6u zqhdΓ

/-- pagewatch/clock.Valid -/
abbrev zqhg := {β : Type} → zq4 → (Bool → Option β) → Option β
def zqhh (c : zqhg) : Spec :=
  ⟨[(true, [.data zq5])], [], [(false, [.data .bool])], [], fun x k => c x.1.1.1 (fun r0 => k (((r0, ()), ()), ()))⟩
noncomputable def clock_Valid_p1_code : Code := codeAt 58 (bodyOf Try.f33)
noncomputable def clock_Valid_p2_code : Code := codeAt 122 (bodyOf Try.f33)
noncomputable def clock_Valid_p3_code : Code := codeAt 250 (bodyOf Try.f33)
noncomputable def clock_Valid_p4_code : Code := codeAt 506 (bodyOf Try.f33)
abbrev zqhi (β : Type) := Bool → Option β
abbrev zqhj (β : Type) := (List (List UInt8 × Int)) → (List zq2) → (List zq0) → (List (Int × (Int × Int))) → Option β
abbrev zqhk := {β : Type} → zqhi β → zqhj β → (List (List UInt8 × Int)) → Int → Int → (List (List UInt8 × Int)) → (List zq2) → (List zq0) → (List (Int × (Int × Int))) → Option β
def zqhl : View := ⟨0, [1, 34, 35, 36], [(false, [.ptr 0 0]), (false, [.data (.slice (.prod .str (.int .i64)))]), (false, [.data (.int .i64)]), (false, [.data (.int .i64)])], [.cells 28 [.data (.slice (.prod .str (.int .i64))), .data (.slice zq3), .data (.slice zq1), .data (.slice (.prod (.int .i64) (.prod (.int .i64) (.int .i64))))]]⟩
def zqhm : List (AExit × View) := [(.ret, ⟨0, [2], [(false, [.data .bool])], []⟩), (.exit 0, ⟨0, [1], [(false, [.ptr 0 0])], [.cells 28 [.data (.slice (.prod .str (.int .i64))), .data (.slice zq3), .data (.slice zq1), .data (.slice (.prod (.int .i64) (.prod (.int .i64) (.int .i64))))]]⟩)]
@[reducible] def clock_Valid_p1_G (p : zqhk) {β : Type} (d : zqhl.den) (ks : Outs.K β zqhm) : Option β :=
  p (fun a0 => ks.1 (((a0, ()), ()), ())) (fun a0 a1 a2 a3 => ks.2.1 (((), ()), ((a0, a1, a2, a3, ()), ()))) d.1.2.1.1 d.1.2.2.1.1 d.1.2.2.2.1.1 d.2.1.1 d.2.1.2.1 d.2.1.2.2.1 d.2.1.2.2.2.1
abbrev zqhn (β : Type) := Bool → Option β
abbrev zqho (β : Type) := (List (List UInt8 × Int)) → (List zq2) → (List zq0) → (List (Int × (Int × Int))) → Option β
abbrev zqhp := {β : Type} → zqhn β → zqho β → (List zq2) → Int → Int → (List (List UInt8 × Int)) → (List zq2) → (List zq0) → (List (Int × (Int × Int))) → Option β
def zqhq : View := ⟨0, [1, 46, 47, 48], [(false, [.ptr 0 0]), (false, [.data (.slice zq3)]), (false, [.data (.int .i64)]), (false, [.data (.int .i64)])], [.cells 28 [.data (.slice (.prod .str (.int .i64))), .data (.slice zq3), .data (.slice zq1), .data (.slice (.prod (.int .i64) (.prod (.int .i64) (.int .i64))))]]⟩
def zqhr : List (AExit × View) := [(.ret, ⟨0, [2], [(false, [.data .bool])], []⟩), (.exit 2, ⟨0, [1], [(false, [.ptr 0 0])], [.cells 28 [.data (.slice (.prod .str (.int .i64))), .data (.slice zq3), .data (.slice zq1), .data (.slice (.prod (.int .i64) (.prod (.int .i64) (.int .i64))))]]⟩)]
@[reducible] def clock_Valid_p2_G (p : zqhp) {β : Type} (d : zqhq.den) (ks : Outs.K β zqhr) : Option β :=
  p (fun a0 => ks.1 (((a0, ()), ()), ())) (fun a0 a1 a2 a3 => ks.2.1 (((), ()), ((a0, a1, a2, a3, ()), ()))) d.1.2.1.1 d.1.2.2.1.1 d.1.2.2.2.1.1 d.2.1.1 d.2.1.2.1 d.2.1.2.2.1 d.2.1.2.2.2.1
abbrev zqhs (β : Type) := Bool → Option β
abbrev zqht (β : Type) := (List (List UInt8 × Int)) → (List zq2) → (List zq0) → (List (Int × (Int × Int))) → Option β
abbrev zqhu := {β : Type} → zqhs β → zqht β → (List zq0) → Int → Int → (List (List UInt8 × Int)) → (List zq2) → (List zq0) → (List (Int × (Int × Int))) → Option β
def zqhv : View := ⟨0, [1, 67, 68, 69], [(false, [.ptr 0 0]), (false, [.data (.slice zq1)]), (false, [.data (.int .i64)]), (false, [.data (.int .i64)])], [.cells 28 [.data (.slice (.prod .str (.int .i64))), .data (.slice zq3), .data (.slice zq1), .data (.slice (.prod (.int .i64) (.prod (.int .i64) (.int .i64))))]]⟩
def zqhw : List (AExit × View) := [(.ret, ⟨0, [2], [(false, [.data .bool])], []⟩), (.exit 4, ⟨0, [1], [(false, [.ptr 0 0])], [.cells 28 [.data (.slice (.prod .str (.int .i64))), .data (.slice zq3), .data (.slice zq1), .data (.slice (.prod (.int .i64) (.prod (.int .i64) (.int .i64))))]]⟩)]
@[reducible] def clock_Valid_p3_G (p : zqhu) {β : Type} (d : zqhv.den) (ks : Outs.K β zqhw) : Option β :=
  p (fun a0 => ks.1 (((a0, ()), ()), ())) (fun a0 a1 a2 a3 => ks.2.1 (((), ()), ((a0, a1, a2, a3, ()), ()))) d.1.2.1.1 d.1.2.2.1.1 d.1.2.2.2.1.1 d.2.1.1 d.2.1.2.1 d.2.1.2.2.1 d.2.1.2.2.2.1
abbrev zqhx (β : Type) := Bool → Option β
abbrev zqhy (β : Type) := Unit → Option β
abbrev zqhz := {β : Type} → zqhx β → zqhy β → (List (Int × (Int × Int))) → Int → Int → (List (List UInt8 × Int)) → (List zq2) → (List zq0) → (List (Int × (Int × Int))) → Option β
def zqi0 : View := ⟨0, [1, 89, 90, 91], [(false, [.ptr 0 0]), (false, [.data (.slice (.prod (.int .i64) (.prod (.int .i64) (.int .i64))))]), (false, [.data (.int .i64)]), (false, [.data (.int .i64)])], [.cells 28 [.data (.slice (.prod .str (.int .i64))), .data (.slice zq3), .data (.slice zq1), .data (.slice (.prod (.int .i64) (.prod (.int .i64) (.int .i64))))]]⟩
def zqi1 : List (AExit × View) := [(.ret, ⟨0, [2], [(false, [.data .bool])], []⟩), (.exit 6, ⟨0, [], [], []⟩)]
@[reducible] def clock_Valid_p4_G (p : zqhz) {β : Type} (d : zqi0.den) (ks : Outs.K β zqi1) : Option β :=
  p (fun a0 => ks.1 (((a0, ()), ()), ())) (fun _ => ks.2.1 ((), ())) d.1.2.1.1 d.1.2.2.1.1 d.1.2.2.2.1.1 d.2.1.1 d.2.1.2.1 d.2.1.2.2.1 d.2.1.2.2.2.1
section
variable (c_clock_compared : zqe0) (c_clock_in : zq50) (c_clock_instant : zq57)
@[reducible] def clock_Valid_X : Ctx := ⟨look tab, pick1 [(57, .spec (zqe1 c_clock_compared)), (56, .spec (zq51 c_clock_in)), (58, .spec (zq58 c_clock_instant))], false⟩
def zqi2 {β : Type} (rec : (List (List UInt8 × Int)) → Int → Int → (List (List UInt8 × Int)) → (List zq2) → (List zq0) → (List (Int × (Int × Int))) → Option β) (k1 : zqhi β) (k2 : zqhj β) (t34 : List (List UInt8 × Int)) (t35 : Int) (t36 : Int) (r_ : List (List UInt8 × Int)) (r_2 : List zq2) (r_3 : List zq0) (r_4 : List (Int × (Int × Int))) : Option β :=
  cond (decide (t36 < t35))
  (cond (decide (0 ≤ t36) && decide (t36 < (List.length t34 : Int)))
  (let e : (List UInt8 × Int) := List.getD t34 (Int.toNat t36) (([] : List UInt8), (0 : Int));
  c_clock_in e.2 (0 : Int) (500000 : Int) (fun (rin : Bool) =>
  cond (!rin)
  (k1 false)
  (rec t34 t35 (IntKind.i64.wrap (t36 + (1 : Int))) r_ r_2 r_3 r_4)))
  none)
  (k2 r_ r_2 r_3 r_4)
def zqi3 {β : Type} : Nat → zqhi β → zqhj β → (List (List UInt8 × Int)) → Int → Int → (List (List UInt8 × Int)) → (List zq2) → (List zq0) → (List (Int × (Int × Int))) → Option β
  | 0 => fun _ _ _ _ _ _ _ _ _ => none
  | i + 1 => fun k1 k2 t34 t35 t36 r_ r_2 r_3 r_4 => zqi2 c_clock_in (zqi3 i k1 k2) k1 k2 t34 t35 t36 r_ r_2 r_3 r_4
theorem zqi4 (hΓ : ΓOk Try.prog (clock_Valid_X c_clock_compared c_clock_in c_clock_instant).Γ) (i : Nat) : PieceOk Try.prog 127 0 clock_Valid_p1_code zqhl zqhm (clock_Valid_p1_G (zqi3 c_clock_in i)) := by
  rw [show clock_Valid_p1_code = .loop (loopBody clock_Valid_p1_code) by kernel_rfl]
  exact piece_loop (X := (clock_Valid_X c_clock_compared c_clock_in c_clock_instant)) (p := 1) (Λ := pick1 []) (G := fun i => @fun β d ks => clock_Valid_p1_G (zqi3 c_clock_in i) d ks) mixed tab_ok hΓ rfl (by kernel_rfl) CutsOk_nil (fun _ _ => rfl) (fun i => @fun β d ks r h => Eq.trans (b := clock_Valid_p1_G (zqi3 c_clock_in (i + 1)) d ks) (by kernel_rfl) h) i
def zqi5 {β : Type} (rec : (List zq2) → Int → Int → (List (List UInt8 × Int)) → (List zq2) → (List zq0) → (List (Int × (Int × Int))) → Option β) (k1 : zqhn β) (k2 : zqho β) (t46 : List zq2) (t47 : Int) (t48 : Int) (r_ : List (List UInt8 × Int)) (r_2 : List zq2) (r_3 : List zq0) (r_4 : List (Int × (Int × Int))) : Option β :=
  cond (decide (t48 < t47))
  (cond (decide (0 ≤ t48) && decide (t48 < (List.length t46 : Int)))
  (let e : zq2 := List.getD t46 (Int.toNat t48) ((0 : Int), ((0 : Int), ((0 : Int), (0 : Int))));
  c_clock_in e.1 (0 : Int) (IntKind.i64.wrap ((List.length r_ : Int) - (1 : Int))) (fun (rin : Bool) =>
  cond (!rin)
  (k1 false)
  (c_clock_compared e (fun (rcompared : Bool) =>
  cond (!rcompared)
  (k1 false)
  (rec t46 t47 (IntKind.i64.wrap (t48 + (1 : Int))) r_ r_2 r_3 r_4)))))
  none)
  (k2 r_ r_2 r_3 r_4)
def zqi6 {β : Type} : Nat → zqhn β → zqho β → (List zq2) → Int → Int → (List (List UInt8 × Int)) → (List zq2) → (List zq0) → (List (Int × (Int × Int))) → Option β
  | 0 => fun _ _ _ _ _ _ _ _ _ => none
  | i + 1 => fun k1 k2 t46 t47 t48 r_ r_2 r_3 r_4 => zqi5 c_clock_compared c_clock_in (zqi6 i k1 k2) k1 k2 t46 t47 t48 r_ r_2 r_3 r_4
theorem zqi7 (hΓ : ΓOk Try.prog (clock_Valid_X c_clock_compared c_clock_in c_clock_instant).Γ) (i : Nat) : PieceOk Try.prog 127 0 clock_Valid_p2_code zqhq zqhr (clock_Valid_p2_G (zqi6 c_clock_compared c_clock_in i)) := by
  rw [show clock_Valid_p2_code = .loop (loopBody clock_Valid_p2_code) by kernel_rfl]
  exact piece_loop (X := (clock_Valid_X c_clock_compared c_clock_in c_clock_instant)) (p := 1) (Λ := pick1 []) (G := fun i => @fun β d ks => clock_Valid_p2_G (zqi6 c_clock_compared c_clock_in i) d ks) mixed tab_ok hΓ rfl (by kernel_rfl) CutsOk_nil (fun _ _ => rfl) (fun i => @fun β d ks r h => Eq.trans (b := clock_Valid_p2_G (zqi6 c_clock_compared c_clock_in (i + 1)) d ks) (by kernel_rfl) h) i
def zqi8 {β : Type} (rec : (List zq0) → Int → Int → (List (List UInt8 × Int)) → (List zq2) → (List zq0) → (List (Int × (Int × Int))) → Option β) (k1 : zqhs β) (k2 : zqht β) (t67 : List zq0) (t68 : Int) (t69 : Int) (r_ : List (List UInt8 × Int)) (r_2 : List zq2) (r_3 : List zq0) (r_4 : List (Int × (Int × Int))) : Option β :=
  cond (decide (t69 < t68))
  (cond (decide (0 ≤ t69) && decide (t69 < (List.length t67 : Int)))
  (let e : zq0 := List.getD t67 (Int.toNat t69) ((0 : Int), ((0 : Int), ([] : List UInt8)));
  c_clock_in e.1 (0 : Int) (IntKind.i64.wrap ((List.length r_ : Int) - (1 : Int))) (fun (rin : Bool) =>
  cond (!rin)
  (k1 false)
  (c_clock_instant e.2.1 (fun (rinstant : Bool) =>
  cond (!rinstant)
  (k1 false)
  (rec t67 t68 (IntKind.i64.wrap (t69 + (1 : Int))) r_ r_2 r_3 r_4)))))
  none)
  (k2 r_ r_2 r_3 r_4)
def zqi9 {β : Type} : Nat → zqhs β → zqht β → (List zq0) → Int → Int → (List (List UInt8 × Int)) → (List zq2) → (List zq0) → (List (Int × (Int × Int))) → Option β
  | 0 => fun _ _ _ _ _ _ _ _ _ => none
  | i + 1 => fun k1 k2 t67 t68 t69 r_ r_2 r_3 r_4 => zqi8 c_clock_in c_clock_instant (zqi9 i k1 k2) k1 k2 t67 t68 t69 r_ r_2 r_3 r_4
theorem zqia (hΓ : ΓOk Try.prog (clock_Valid_X c_clock_compared c_clock_in c_clock_instant).Γ) (i : Nat) : PieceOk Try.prog 127 0 clock_Valid_p3_code zqhv zqhw (clock_Valid_p3_G (zqi9 c_clock_in c_clock_instant i)) := by
  rw [show clock_Valid_p3_code = .loop (loopBody clock_Valid_p3_code) by kernel_rfl]
  exact piece_loop (X := (clock_Valid_X c_clock_compared c_clock_in c_clock_instant)) (p := 1) (Λ := pick1 []) (G := fun i => @fun β d ks => clock_Valid_p3_G (zqi9 c_clock_in c_clock_instant i) d ks) mixed tab_ok hΓ rfl (by kernel_rfl) CutsOk_nil (fun _ _ => rfl) (fun i => @fun β d ks r h => Eq.trans (b := clock_Valid_p3_G (zqi9 c_clock_in c_clock_instant (i + 1)) d ks) (by kernel_rfl) h) i
def zqib {β : Type} (rec : (List (Int × (Int × Int))) → Int → Int → (List (List UInt8 × Int)) → (List zq2) → (List zq0) → (List (Int × (Int × Int))) → Option β) (k1 : zqhx β) (k2 : zqhy β) (t89 : List (Int × (Int × Int))) (t90 : Int) (t91 : Int) (r_ : List (List UInt8 × Int)) (r_2 : List zq2) (r_3 : List zq0) (r_4 : List (Int × (Int × Int))) : Option β :=
  cond (decide (t91 < t90))
  (cond (decide (0 ≤ t91) && decide (t91 < (List.length t89 : Int)))
  (let e : (Int × (Int × Int)) := List.getD t89 (Int.toNat t91) ((0 : Int), ((0 : Int), (0 : Int)));
  c_clock_in e.1 (0 : Int) (IntKind.i64.wrap ((List.length r_3 : Int) - (1 : Int))) (fun (rin : Bool) =>
  cond (!rin)
  (k1 false)
  (c_clock_in e.2.1 (0 : Int) (IntKind.i64.wrap ((List.length r_3 : Int) - (1 : Int))) (fun (rin2 : Bool) =>
  cond (!rin2)
  (k1 false)
  (cond (decide (e.1 = e.2.1))
  (k1 false)
  (c_clock_instant e.2.2 (fun (rinstant : Bool) =>
  cond (!rinstant)
  (k1 false)
  (rec t89 t90 (IntKind.i64.wrap (t91 + (1 : Int))) r_ r_2 r_3 r_4))))))))
  none)
  (k2 ())
def zqic {β : Type} : Nat → zqhx β → zqhy β → (List (Int × (Int × Int))) → Int → Int → (List (List UInt8 × Int)) → (List zq2) → (List zq0) → (List (Int × (Int × Int))) → Option β
  | 0 => fun _ _ _ _ _ _ _ _ _ => none
  | i + 1 => fun k1 k2 t89 t90 t91 r_ r_2 r_3 r_4 => zqib c_clock_in c_clock_instant (zqic i k1 k2) k1 k2 t89 t90 t91 r_ r_2 r_3 r_4
theorem zqid (hΓ : ΓOk Try.prog (clock_Valid_X c_clock_compared c_clock_in c_clock_instant).Γ) (i : Nat) : PieceOk Try.prog 127 0 clock_Valid_p4_code zqi0 zqi1 (clock_Valid_p4_G (zqic c_clock_in c_clock_instant i)) := by
  rw [show clock_Valid_p4_code = .loop (loopBody clock_Valid_p4_code) by kernel_rfl]
  exact piece_loop (X := (clock_Valid_X c_clock_compared c_clock_in c_clock_instant)) (p := 1) (Λ := pick1 []) (G := fun i => @fun β d ks => clock_Valid_p4_G (zqic c_clock_in c_clock_instant i) d ks) mixed tab_ok hΓ rfl (by kernel_rfl) CutsOk_nil (fun _ _ => rfl) (fun i => @fun β d ks r h => Eq.trans (b := clock_Valid_p4_G (zqic c_clock_in c_clock_instant (i + 1)) d ks) (by kernel_rfl) h) i
def zqie (p1 : zqhk) (p2 : zqhp) (p3 : zqhu) (p4 : zqhz) {β : Type} (r_ : zq4) (k : (Bool → Option β)) : Option β :=
  cond (decide ((8 : Int) < (List.length r_.1 : Int)))
  (k false)
  (cond (decide ((64 : Int) < (List.length r_.2.1 : Int)))
  (k false)
  (cond (decide ((40 : Int) < (List.length r_.2.2.1 : Int)))
  (k false)
  (cond (decide ((64 : Int) < (List.length r_.2.2.2 : Int)))
  (k false)
  (p1 (fun (t2 : Bool) =>
  k t2) (fun (r_2 : List (List UInt8 × Int)) (r_3 : List zq2) (r_4 : List zq0) (r_5 : List (Int × (Int × Int))) =>
  p2 (fun (t2 : Bool) =>
  k t2) (fun (r_6 : List (List UInt8 × Int)) (r_7 : List zq2) (r_8 : List zq0) (r_9 : List (Int × (Int × Int))) =>
  p3 (fun (t2 : Bool) =>
  k t2) (fun (r_10 : List (List UInt8 × Int)) (r_11 : List zq2) (r_12 : List zq0) (r_13 : List (Int × (Int × Int))) =>
  p4 (fun (t2 : Bool) =>
  k t2) (fun (_ : Unit) =>
  k true) r_13 (List.length r_13 : Int) (0 : Int) r_10 r_11 r_12 r_13) r_8 (List.length r_8 : Int) (0 : Int) r_6 r_7 r_8 r_9) r_3 (List.length r_3 : Int) (0 : Int) r_2 r_3 r_4 r_5) r_.1 (List.length r_.1 : Int) (0 : Int) r_.1 r_.2.1 r_.2.2.1 r_.2.2.2))))
theorem zqif (hΓ : ΓOk Try.prog (clock_Valid_X c_clock_compared c_clock_in c_clock_instant).Γ) (p1 : zqhk) (p2 : zqhp) (p3 : zqhu) (p4 : zqhz) (hp1 : PieceOk Try.prog 127 0 clock_Valid_p1_code zqhl zqhm (clock_Valid_p1_G p1)) (hp2 : PieceOk Try.prog 127 0 clock_Valid_p2_code zqhq zqhr (clock_Valid_p2_G p2)) (hp3 : PieceOk Try.prog 127 0 clock_Valid_p3_code zqhv zqhw (clock_Valid_p3_G p3)) (hp4 : PieceOk Try.prog 127 0 clock_Valid_p4_code zqi0 zqi1 (clock_Valid_p4_G p4)) : SpecOk Try.prog 33 (zqhh (zqie p1 p2 p3 p4)) :=
  spec_exec (X := (clock_Valid_X c_clock_compared c_clock_in c_clock_instant)) (Λ := pick1 [(58, pieceCut zqhl zqhm (clock_Valid_p1_G p1)), (122, pieceCut zqhq zqhr (clock_Valid_p2_G p2)), (250, pieceCut zqhv zqhw (clock_Valid_p3_G p3)), (506, pieceCut zqi0 zqi1 (clock_Valid_p4_G p4))]) (rs := [.tmp 2]) (c := bodyOf Try.f33) mixed tab_ok hΓ Try.func33 (by kernel_rfl) (by kernel_rfl) (by kernel_rfl) (by kernel_rfl) (CutsOk_cons (q := 58) (c' := clock_Valid_p1_code) (by kernel_rfl) rfl hp1 (CutsOk_cons (q := 122) (c' := clock_Valid_p2_code) (by kernel_rfl) rfl hp2 (CutsOk_cons (q := 250) (c' := clock_Valid_p3_code) (by kernel_rfl) rfl hp3 (CutsOk_cons (q := 506) (c' := clock_Valid_p4_code) (by kernel_rfl) rfl hp4 CutsOk_nil)))) (fun x k r h => Eq.trans (b := (zqhh (zqie p1 p2 p3 p4)).run x k) (by kernel_rfl) h)
end
theorem zqigΓ : ΓOk Try.prog (pick1 [(57, .spec (zqe1 zqe5)), (56, .spec (zq51 zq55)), (58, .spec (zq58 zq5c))]) := (ΓOk_cons zqe6 (ΓOk_cons zq56 (ΓOk_cons zq5d ΓOk_nil)))
def zqih (m : Nat) : zqhk := zqi3 zq55 m
theorem zqii {β : Type} (i : Nat) (k1 k2 t34 t35 t36 r_ r_2 r_3 r_4) : (zqih (i + 1) k1 k2 t34 t35 t36 r_ r_2 r_3 r_4 : Option β) = zqi2 zq55 (zqih i k1 k2) k1 k2 t34 t35 t36 r_ r_2 r_3 r_4 := rfl
def zqij : zqhk := zqih fuel
theorem zqik : PieceOk Try.prog 127 0 clock_Valid_p1_code zqhl zqhm (clock_Valid_p1_G zqij) := zqi4 zqe5 zq55 zq5c zqigΓ fuel
def zqil (m : Nat) : zqhp := zqi6 zqe5 zq55 m
theorem zqim {β : Type} (i : Nat) (k1 k2 t46 t47 t48 r_ r_2 r_3 r_4) : (zqil (i + 1) k1 k2 t46 t47 t48 r_ r_2 r_3 r_4 : Option β) = zqi5 zqe5 zq55 (zqil i k1 k2) k1 k2 t46 t47 t48 r_ r_2 r_3 r_4 := rfl
def zqin : zqhp := zqil fuel
theorem zqio : PieceOk Try.prog 127 0 clock_Valid_p2_code zqhq zqhr (clock_Valid_p2_G zqin) := zqi7 zqe5 zq55 zq5c zqigΓ fuel
def zqip (m : Nat) : zqhu := zqi9 zq55 zq5c m
theorem zqiq {β : Type} (i : Nat) (k1 k2 t67 t68 t69 r_ r_2 r_3 r_4) : (zqip (i + 1) k1 k2 t67 t68 t69 r_ r_2 r_3 r_4 : Option β) = zqi8 zq55 zq5c (zqip i k1 k2) k1 k2 t67 t68 t69 r_ r_2 r_3 r_4 := rfl
def zqir : zqhu := zqip fuel
theorem zqis : PieceOk Try.prog 127 0 clock_Valid_p3_code zqhv zqhw (clock_Valid_p3_G zqir) := zqia zqe5 zq55 zq5c zqigΓ fuel
def zqit (m : Nat) : zqhz := zqic zq55 zq5c m
theorem zqiu {β : Type} (i : Nat) (k1 k2 t89 t90 t91 r_ r_2 r_3 r_4) : (zqit (i + 1) k1 k2 t89 t90 t91 r_ r_2 r_3 r_4 : Option β) = zqib zq55 zq5c (zqit i k1 k2) k1 k2 t89 t90 t91 r_ r_2 r_3 r_4 := rfl
def zqiv : zqhz := zqit fuel
theorem zqiw : PieceOk Try.prog 127 0 clock_Valid_p4_code zqi0 zqi1 (clock_Valid_p4_G zqiv) := zqid zqe5 zq55 zq5c zqigΓ fuel
def zqix : zqhg := zqie zqij zqin zqir zqiv
theorem zqiy : SpecOk Try.prog 33 (zqhh zqix) := zqif zqe5 zq55 zq5c zqigΓ zqij zqin zqir zqiv zqik zqio zqis zqiw

/-- pagewatch/order.pair -/
abbrev zqiz := {β : Type} → zq4 → Int → Int → ((List (Int × (Int × Int))) → Option β) → Option β
def zqj0 (c : zqiz) : Spec :=
  ⟨[(true, [.data zq5]), (false, [.data (.int .i64)]), (false, [.data (.int .i64)])], [], [(false, [.rowh 0])], [.row 42 (.prod (.int .i64) (.prod (.int .i64) (.int .i64)))], fun x k => c x.1.1.1 x.1.2.1.1 x.1.2.2.1.1 (fun r0 => k (((), ()), (r0, ())))⟩
noncomputable def order_pair_p1_code : Code := codeAt 15 (bodyOf Try.f35)
abbrev zqj1 (β : Type) := (List (Int × (Int × Int))) → Option β
abbrev zqj2 := {β : Type} → zqj1 β → Int → Int → (List (List UInt8 × Int)) → (List zq2) → (List zq0) → (List (Int × (Int × Int))) → Int → Int → (List UInt8) → Int → Int → (List UInt8) → Option β
def zqj3 : View := ⟨0, [1, 2, 3, 7, 8], [(false, [.data (.int .i64)]), (false, [.data (.int .i64)]), (false, [.ptr 0 0]), (false, [.ptr 1 0]), (false, [.ptr 2 0])], [.cells 28 [.data (.slice (.prod .str (.int .i64))), .data (.slice zq3), .data (.slice zq1), .data (.slice (.prod (.int .i64) (.prod (.int .i64) (.int .i64))))], .cells 76 [.data (.int .i64), .data (.int .i64), .data .str], .cells 76 [.data (.int .i64), .data (.int .i64), .data .str]]⟩
def zqj4 : List (AExit × View) := [(.ret, ⟨0, [6], [(false, [.rowh 0])], [.row 42 (.prod (.int .i64) (.prod (.int .i64) (.int .i64)))]⟩)]
@[reducible] def order_pair_p1_G (p : zqj2) {β : Type} (d : zqj3.den) (ks : Outs.K β zqj4) : Option β :=
  p (fun a0 => ks.1 (((), ()), (a0, ()))) d.1.1.1 d.1.2.1.1 d.2.1.1 d.2.1.2.1 d.2.1.2.2.1 d.2.1.2.2.2.1 d.2.2.1.1 d.2.2.1.2.1 d.2.2.1.2.2.1 d.2.2.2.1.1 d.2.2.2.1.2.1 d.2.2.2.1.2.2.1
section
variable (c_clock_Elapsed : zqe7)
@[reducible] def order_pair_X : Ctx := ⟨look tab, pick1 [(62, .spec (zqe8 c_clock_Elapsed))], false⟩
def zqj5 {β : Type} (k1 : zqj1 β) (i_ : Int) (j : Int) (r_ : List (List UInt8 × Int)) (r_2 : List zq2) (r_3 : List zq0) (r_4 : List (Int × (Int × Int))) (a : Int) (a2 : Int) (a3 : List UInt8) (b : Int) (b2 : Int) (b3 : List UInt8) : Option β :=
  cond (decide (0 ≤ a) && decide (a < (List.length r_ : Int)))
  (let e : (List UInt8 × Int) := List.getD r_ (Int.toNat a) (([] : List UInt8), (0 : Int));
  c_clock_Elapsed e.2 (IntKind.i64.wrap (b2 - a2)) (fun (rElapsed : Int) (rElapsed2 : Int) =>
  let l : List (Int × (Int × Int)) := ([((IntKind.i64.wrap (i_ + (1 : Int))), ((IntKind.i64.wrap (j + (1 : Int))), rElapsed2)), ((IntKind.i64.wrap (j + (1 : Int))), ((IntKind.i64.wrap (i_ + (1 : Int))), (IntKind.i64.wrap (0 - rElapsed))))] : List (Int × (Int × Int)));
  k1 l))
  none
def zqj6 {β : Type} (k1 : zqj1 β) (i_ : Int) (j : Int) (r_ : List (List UInt8 × Int)) (r_2 : List zq2) (r_3 : List zq0) (r_4 : List (Int × (Int × Int))) (a : Int) (a2 : Int) (a3 : List UInt8) (b : Int) (b2 : Int) (b3 : List UInt8) : Option β := zqj5 c_clock_Elapsed k1 i_ j r_ r_2 r_3 r_4 a a2 a3 b b2 b3
theorem zqj7 (hΓ : ΓOk Try.prog (order_pair_X c_clock_Elapsed).Γ) : PieceOk Try.prog 60 0 order_pair_p1_code zqj3 zqj4 (order_pair_p1_G (zqj6 c_clock_Elapsed)) :=
  piece_exec (X := (order_pair_X c_clock_Elapsed)) (p := 15) (Λ := pick1 []) mixed tab_ok hΓ (by kernel_rfl) CutsOk_nil (fun d ks r h => Eq.trans (b := order_pair_p1_G (zqj6 c_clock_Elapsed) d ks) (by kernel_rfl) h)
def zqj8 (p1 : zqj2) {β : Type} (r_ : zq4) (i_ : Int) (j : Int) (k : ((List (Int × (Int × Int))) → Option β)) : Option β :=
  cond (decide (0 ≤ i_) && decide (i_ < (List.length r_.2.2.1 : Int)))
  (let e : zq0 := List.getD r_.2.2.1 (Int.toNat i_) ((0 : Int), ((0 : Int), ([] : List UInt8)));
  cond (decide (0 ≤ j) && decide (j < (List.length r_.2.2.1 : Int)))
  (let e2 : zq0 := List.getD r_.2.2.1 (Int.toNat j) ((0 : Int), ((0 : Int), ([] : List UInt8)));
  cond (decide (e2.2.1 < e.2.1))
  (p1 (fun (t6 : List (Int × (Int × Int))) =>
  k t6) j i_ r_.1 r_.2.1 r_.2.2.1 r_.2.2.2 e2.1 e2.2.1 e2.2.2 e.1 e.2.1 e.2.2)
  (p1 (fun (t6 : List (Int × (Int × Int))) =>
  k t6) i_ j r_.1 r_.2.1 r_.2.2.1 r_.2.2.2 e.1 e.2.1 e.2.2 e2.1 e2.2.1 e2.2.2))
  none)
  none
theorem zqj9 (hΓ : ΓOk Try.prog (order_pair_X c_clock_Elapsed).Γ) (p1 : zqj2) (hp1 : PieceOk Try.prog 60 0 order_pair_p1_code zqj3 zqj4 (order_pair_p1_G p1)) : SpecOk Try.prog 35 (zqj0 (zqj8 p1)) :=
  spec_exec (X := (order_pair_X c_clock_Elapsed)) (Λ := pick1 [(15, pieceCut zqj3 zqj4 (order_pair_p1_G p1))]) (rs := [.tmp 6]) (c := bodyOf Try.f35) mixed tab_ok hΓ Try.func35 (by kernel_rfl) (by kernel_rfl) (by kernel_rfl) (by kernel_rfl) (CutsOk_cons (q := 15) (c' := order_pair_p1_code) (by kernel_rfl) rfl hp1 CutsOk_nil) (fun x k r h => Eq.trans (b := (zqj0 (zqj8 p1)).run x k) (by kernel_rfl) h)
end
theorem zqjaΓ : ΓOk Try.prog (pick1 [(62, .spec (zqe8 zqec))]) := (ΓOk_cons zqed ΓOk_nil)
def zqjb : zqj2 := zqj6 zqec
theorem zqjc : PieceOk Try.prog 60 0 order_pair_p1_code zqj3 zqj4 (order_pair_p1_G zqjb) := zqj7 zqec zqjaΓ
def zqjd : zqiz := zqj8 zqjb
theorem zqje : SpecOk Try.prog 35 (zqj0 zqjd) := zqj9 zqec zqjaΓ zqjb zqjc

/-- pagewatch/pagewatchref38.When -/
abbrev zqjf := {β : Type} → zq4 → Int → Int → ((Int × Int) → Bool → Option β) → Option β
def zqjg (c : zqjf) : Spec :=
  ⟨[(true, [.data zq5]), (false, [.data (.int .i64)]), (false, [.data (.int .i64)])], [], [(true, [.data (.prod (.int .i64) (.int .i64))]), (false, [.data .bool])], [], fun x k => c x.1.1.1 x.1.2.1.1 x.1.2.2.1.1 (fun r0 r1 => k (((r0, ()), (r1, ()), ()), ()))⟩
noncomputable def ref38_When_p1_code : Code := codeAt 122 (bodyOf Try.f37)
abbrev zqjh (β : Type) := Int → Int → Int → Int → Option β
abbrev zqji := {β : Type} → zqjh β → Int → Int → Int → (List (List UInt8 × Int)) → (List zq2) → (List zq0) → (List (Int × (Int × Int))) → Int → Int → Int → Int → Option β
def zqjj : View := ⟨0, [1, 2, 3, 6, 8, 9], [(false, [.data (.int .i64)]), (false, [.data (.int .i64)]), (false, [.ptr 0 0]), (false, [.ptr 1 0]), (false, [.ptr 2 0]), (false, [.data (.int .i64)])], [.cells 28 [.data (.slice (.prod .str (.int .i64))), .data (.slice zq3), .data (.slice zq1), .data (.slice (.prod (.int .i64) (.prod (.int .i64) (.int .i64))))], .cells 56 [.data (.int .i64), .data (.int .i64)], .cells 56 [.data (.int .i64), .data (.int .i64)]]⟩
def zqjk : List (AExit × View) := [(.exit 0, ⟨0, [6, 8], [(false, [.ptr 0 0]), (false, [.ptr 1 0])], [.cells 56 [.data (.int .i64), .data (.int .i64)], .cells 56 [.data (.int .i64), .data (.int .i64)]]⟩)]
@[reducible] def ref38_When_p1_G (p : zqji) {β : Type} (d : zqjj.den) (ks : Outs.K β zqjk) : Option β :=
  p (fun a0 a1 a2 a3 => ks.1 (((), (), ()), ((a0, a1, ()), (a2, a3, ()), ()))) d.1.1.1 d.1.2.1.1 d.1.2.2.2.2.2.1.1 d.2.1.1 d.2.1.2.1 d.2.1.2.2.1 d.2.1.2.2.2.1 d.2.2.1.1 d.2.2.1.2.1 d.2.2.2.1.1 d.2.2.2.1.2.1
section
variable (c_ref25_In : zq48) (c_ref38_Empty : zq5z) (c_ref38_From : zqee) (c_ref38_Meet : zq5s) (c_ref38_Valid : zqb8)
@[reducible] def ref38_When_X : Ctx := ⟨look tab, pick1 [(48, .spec (zq49 c_ref25_In)), (65, .spec (zq60 c_ref38_Empty)), (64, .spec (zqef c_ref38_From)), (63, .spec (zq5t c_ref38_Meet)), (36, .spec (zqb9 c_ref38_Valid))], false⟩
def zqjl {β : Type} (rec : Int → Int → Int → (List (List UInt8 × Int)) → (List zq2) → (List zq0) → (List (Int × (Int × Int))) → Int → Int → Int → Int → Option β) (k1 : zqjh β) (host : Int) (clock : Int) (i_ : Int) (r_ : List (List UInt8 × Int)) (r_2 : List zq2) (r_3 : List zq0) (r_4 : List (Int × (Int × Int))) (t6 : Int) (t62 : Int) (out : Int) (out2 : Int) : Option β :=
  cond (decide (i_ < (List.length r_2 : Int)))
  (cond (decide (0 ≤ i_) && decide (i_ < (List.length r_2 : Int)))
  (let e : zq2 := List.getD r_2 (Int.toNat i_) ((0 : Int), ((0 : Int), ((0 : Int), (0 : Int))));
  cond (decide (e.1 = host))
  (cond (decide (0 ≤ host) && decide (host < (List.length r_ : Int)))
  (let e2 : (List UInt8 × Int) := List.getD r_ (Int.toNat host) (([] : List UInt8), (0 : Int));
  cond (decide (0 ≤ i_) && decide (i_ < (List.length r_2 : Int)))
  (let e3 : zq2 := List.getD r_2 (Int.toNat i_) ((0 : Int), ((0 : Int), ((0 : Int), (0 : Int))));
  c_ref38_From e2 e3 clock (fun (rFrom : (Int × Int)) =>
  c_ref38_Meet (out, out2) rFrom (fun (rMeet : (Int × Int)) =>
  let i_2 : Int := (IntKind.i64.wrap (i_ + (1 : Int)));
  rec host clock i_2 r_ r_2 r_3 r_4 t6 t62 rMeet.1 rMeet.2)))
  none)
  none)
  (let i_2 : Int := (IntKind.i64.wrap (i_ + (1 : Int)));
  rec host clock i_2 r_ r_2 r_3 r_4 t6 t62 out out2))
  none)
  (k1 t6 t62 out out2)
def zqjm {β : Type} : Nat → zqjh β → Int → Int → Int → (List (List UInt8 × Int)) → (List zq2) → (List zq0) → (List (Int × (Int × Int))) → Int → Int → Int → Int → Option β
  | 0 => fun _ _ _ _ _ _ _ _ _ _ _ _ => none
  | i + 1 => fun k1 host clock i_ r_ r_2 r_3 r_4 t6 t62 out out2 => zqjl c_ref38_From c_ref38_Meet (zqjm i k1) k1 host clock i_ r_ r_2 r_3 r_4 t6 t62 out out2
theorem zqjn (hΓ : ΓOk Try.prog (ref38_When_X c_ref25_In c_ref38_Empty c_ref38_From c_ref38_Meet c_ref38_Valid).Γ) (i : Nat) : PieceOk Try.prog 62 0 ref38_When_p1_code zqjj zqjk (ref38_When_p1_G (zqjm c_ref38_From c_ref38_Meet i)) := by
  rw [show ref38_When_p1_code = .loop (loopBody ref38_When_p1_code) by kernel_rfl]
  exact piece_loop (X := (ref38_When_X c_ref25_In c_ref38_Empty c_ref38_From c_ref38_Meet c_ref38_Valid)) (p := 1) (Λ := pick1 []) (G := fun i => @fun β d ks => ref38_When_p1_G (zqjm c_ref38_From c_ref38_Meet i) d ks) mixed tab_ok hΓ rfl (by kernel_rfl) CutsOk_nil (fun _ _ => rfl) (fun i => @fun β d ks r h => Eq.trans (b := ref38_When_p1_G (zqjm c_ref38_From c_ref38_Meet (i + 1)) d ks) (by kernel_rfl) h) i
def zqjo (p1 : zqji) {β : Type} (r_ : zq4) (host : Int) (clock : Int) (k : ((Int × Int) → Bool → Option β)) : Option β :=
  c_ref38_Valid r_ (fun (rValid : Bool) =>
  cond (!rValid)
  (k ((0 : Int), (0 : Int)) false)
  (c_ref25_In host (0 : Int) (IntKind.i64.wrap ((List.length r_.1 : Int) - (1 : Int))) (fun (rIn : Bool) =>
  cond (!rIn)
  (k ((0 : Int), (0 : Int)) false)
  (c_ref25_In clock (0 : Int) (8589934592 : Int) (fun (rIn2 : Bool) =>
  cond (!rIn2)
  (k ((0 : Int), (0 : Int)) false)
  (p1 (fun (t6 : Int) (t62 : Int) (out : Int) (out2 : Int) =>
  c_ref38_Empty (out, out2) (fun (rEmpty : Bool) =>
  k (out, out2) (!rEmpty))) host clock (0 : Int) r_.1 r_.2.1 r_.2.2.1 r_.2.2.2 (0 : Int) (0 : Int) (0 : Int) (8589934592 : Int)))))))
theorem zqjp (hΓ : ΓOk Try.prog (ref38_When_X c_ref25_In c_ref38_Empty c_ref38_From c_ref38_Meet c_ref38_Valid).Γ) (p1 : zqji) (hp1 : PieceOk Try.prog 62 0 ref38_When_p1_code zqjj zqjk (ref38_When_p1_G p1)) : SpecOk Try.prog 37 (zqjg (zqjo c_ref25_In c_ref38_Empty c_ref38_Valid p1)) :=
  spec_exec (X := (ref38_When_X c_ref25_In c_ref38_Empty c_ref38_From c_ref38_Meet c_ref38_Valid)) (Λ := pick1 [(122, pieceCut zqjj zqjk (ref38_When_p1_G p1))]) (rs := [.cell 6 56, .tmp 7]) (c := bodyOf Try.f37) mixed tab_ok hΓ Try.func37 (by kernel_rfl) (by kernel_rfl) (by kernel_rfl) (by kernel_rfl) (CutsOk_cons (q := 122) (c' := ref38_When_p1_code) (by kernel_rfl) rfl hp1 CutsOk_nil) (fun x k r h => Eq.trans (b := (zqjg (zqjo c_ref25_In c_ref38_Empty c_ref38_Valid p1)).run x k) (by kernel_rfl) h)
end
theorem zqjqΓ : ΓOk Try.prog (pick1 [(48, .spec (zq49 zq4d)), (65, .spec (zq60 zq64)), (64, .spec (zqef zqej)), (63, .spec (zq5t zq5x)), (36, .spec (zqb9 zqcp))]) := (ΓOk_cons zq4e (ΓOk_cons zq65 (ΓOk_cons zqek (ΓOk_cons zq5y (ΓOk_cons zqcq ΓOk_nil)))))
def zqjr (m : Nat) : zqji := zqjm zqej zq5x m
theorem zqjs {β : Type} (i : Nat) (k1 host clock i_ r_ r_2 r_3 r_4 t6 t62 out out2) : (zqjr (i + 1) k1 host clock i_ r_ r_2 r_3 r_4 t6 t62 out out2 : Option β) = zqjl zqej zq5x (zqjr i k1) k1 host clock i_ r_ r_2 r_3 r_4 t6 t62 out out2 := rfl
def zqjt : zqji := zqjr fuel
theorem zqju : PieceOk Try.prog 62 0 ref38_When_p1_code zqjj zqjk (ref38_When_p1_G zqjt) := zqjn zq4d zq64 zqej zq5x zqcp zqjqΓ fuel
def zqjv : zqjf := zqjo zq4d zq64 zqcp zqjt
theorem zqjw : SpecOk Try.prog 37 (zqjg zqjv) := zqjp zq4d zq64 zqej zq5x zqcp zqjqΓ zqjt zqju

/-- pagewatch/clock.From -/
abbrev zqjx := {β : Type} → (List UInt8 × Int) → zq2 → Int → ((Int × Int) → Option β) → Option β
def zqjy (c : zqjx) : Spec :=
  ⟨[(true, [.data (.prod .str (.int .i64))]), (true, [.data zq3]), (false, [.data (.int .i64)])], [], [(true, [.data (.prod (.int .i64) (.int .i64))])], [], fun x k => c x.1.1.1 x.1.2.1.1 x.1.2.2.1.1 (fun r0 => k (((r0, ()), ()), ()))⟩
section
variable (c_clock_Elapsed : zqe7) (c_clock_compared : zqe0) (c_clock_in : zq50) (c_clock_instant : zq57)
@[reducible] def clock_From_X : Ctx := ⟨look tab, pick1 [(62, .spec (zqe8 c_clock_Elapsed)), (57, .spec (zqe1 c_clock_compared)), (56, .spec (zq51 c_clock_in)), (58, .spec (zq58 c_clock_instant))], false⟩
def zqjz {β : Type} (h : (List UInt8 × Int)) (s : zq2) (clock : Int) (k : ((Int × Int) → Option β)) : Option β :=
  c_clock_in h.2 (0 : Int) (500000 : Int) (fun (rin : Bool) =>
  cond (!rin)
  (k ((-1099511627776 : Int), (1099511627776 : Int)))
  (c_clock_compared s (fun (rcompared : Bool) =>
  cond (!rcompared)
  (k ((-1099511627776 : Int), (1099511627776 : Int)))
  (c_clock_instant clock (fun (rinstant : Bool) =>
  cond (!rinstant)
  (k ((-1099511627776 : Int), (1099511627776 : Int)))
  (cond (decide (s.2.1 ≤ clock))
  (c_clock_Elapsed h.2 (IntKind.i64.wrap (clock - s.2.1)) (fun (rElapsed : Int) (rElapsed2 : Int) =>
  k ((IntKind.i64.wrap (s.2.2.1 + rElapsed)), (IntKind.i64.wrap (s.2.2.2 + rElapsed2)))))
  (c_clock_Elapsed h.2 (IntKind.i64.wrap (s.2.1 - clock)) (fun (rElapsed : Int) (rElapsed2 : Int) =>
  k ((IntKind.i64.wrap (s.2.2.1 - rElapsed2)), (IntKind.i64.wrap (s.2.2.2 - rElapsed)))))))))))
theorem zqk0 (hΓ : ΓOk Try.prog (clock_From_X c_clock_Elapsed c_clock_compared c_clock_in c_clock_instant).Γ) : SpecOk Try.prog 60 (zqjy (zqjz c_clock_Elapsed c_clock_compared c_clock_in c_clock_instant)) :=
  spec_exec (X := (clock_From_X c_clock_Elapsed c_clock_compared c_clock_in c_clock_instant)) (Λ := pick1 []) (rs := [.cell 6 56]) (c := bodyOf Try.f60) mixed tab_ok hΓ Try.func60 (by kernel_rfl) (by kernel_rfl) (by kernel_rfl) (by kernel_rfl) CutsOk_nil (fun x k r h => Eq.trans (b := (zqjy (zqjz c_clock_Elapsed c_clock_compared c_clock_in c_clock_instant)).run x k) (by kernel_rfl) h)
end
theorem zqk1Γ : ΓOk Try.prog (pick1 [(62, .spec (zqe8 zqec)), (57, .spec (zqe1 zqe5)), (56, .spec (zq51 zq55)), (58, .spec (zq58 zq5c))]) := (ΓOk_cons zqed (ΓOk_cons zqe6 (ΓOk_cons zq56 (ΓOk_cons zq5d ΓOk_nil))))
def zqk2 : zqjx := zqjz zqec zqe5 zq55 zq5c
theorem zqk3 : SpecOk Try.prog 60 (zqjy zqk2) := zqk0 zqec zqe5 zq55 zq5c zqk1Γ
end
end Go.Lift
