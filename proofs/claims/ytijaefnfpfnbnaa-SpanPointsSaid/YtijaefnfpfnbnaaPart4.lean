/- Part4: Fn0, LBase, LSpanMath, LSpanLen, LSpanMore, LSpanSort, LSpanRef, LSpanFn, LDice, LSpanFn2. -/
import Derived.Test.YtijaefnfpfnbnaaProg
import Derived.Test.YtijaefnfpfnbnaaPart3
namespace Go.Lift
open Go.Proofs
noncomputable section
set_option maxRecDepth 100000
set_option linter.unusedVariables false



def tab : List (Nat × TI) := [
  (3, ⟨false, 1, 8, [.int .i64 (0 : Int)], [], none, none, (some (.int .i64)), (some .i64), false, false, none, none⟩),
  (4, ⟨false, 1, 1, [.bool false], [], none, none, (some .bool), none, true, false, none, none⟩),
  (22, ⟨false, 1, 24, [.nils], [], (some 3), none, (some (.slice (.int .i64))), none, false, false, none, none⟩),
  (27, ⟨false, 1, 24, [.nils], [], (some 30), none, (some (.slice (.prod (.int .i64) (.int .i64)))), none, false, false, none, none⟩),
  (30, ⟨true, 2, 16, [.int .i64 (0 : Int), .int .i64 (0 : Int)], [(0, 1, false), (1, 1, false)], none, none, (some (.prod (.int .i64) (.int .i64))), none, false, false, (some [.i, .i]), none⟩),
  (51, ⟨true, 2, 32, [.nils, .int .i64 (0 : Int)], [(0, 1, false), (1, 1, false)], none, none, (some (.prod (.slice (.int .i64)) (.int .i64))), none, false, false, none, none⟩),
  (59, ⟨false, 1, 8, [.junk], [], none, none, none, none, false, false, none, (some (3, 3))⟩),
  (66, ⟨false, 1, 24, [.nils], [], (some 27), none, (some (.slice (.slice (.prod (.int .i64) (.int .i64))))), none, false, false, none, none⟩)]

theorem tab_ok : TOk Try.prog (look tab) := TOk_of (by kernel_rfl)
theorem mixed : Try.prog.follows .mixedOrders = true := by kernel_rfl

/-- pagewatch/pagewatchmade.Light -/
abbrev zq0 := {β : Type} → (List Int) → (Bool → Option β) → Option β
def zq1 (c : zq0) : Spec :=
  ⟨[(false, [.data (.slice (.int .i64))])], [], [(false, [.data .bool])], [], fun x k => c x.1.1.1 (fun r0 => k (((r0, ()), ()), ()))⟩
section
@[reducible] def made_Light_X : Ctx := ⟨look tab, pick1 [], false, false⟩
def zq2 {β : Type} (l : List Int) (k : (Bool → Option β)) : Option β :=
  let t : Bool := (decide ((List.length l : Int) ≤ (500 : Int)));
  k t
theorem zq3 (hΓ : ΓOk Try.prog made_Light_X.Γ) : SpecOk Try.prog 8 (zq1 (zq2)) :=
  spec_exec (X := made_Light_X) (Λ := pick1 []) (rs := [.tmp 2]) (c := bodyOf Try.f8) mixed tab_ok hΓ Try.func8 (by kernel_rfl) (by kernel_rfl) (by kernel_rfl) (by kernel_rfl) CutsOk_nil (fun x k r h => Eq.trans (b := (zq1 (zq2)).run x k) (by kernel_rfl) h)
end
theorem zq4Γ : ΓOk Try.prog (pick1 []) := ΓOk_nil
def zq5 : zq0 := zq2
theorem zq6 : SpecOk Try.prog 8 (zq1 zq5) := zq3 zq4Γ

/-- pagewatch/pagewatchmade.Roll -/
abbrev zq7 := {β : Type} → (List Int) → ((List Int × Int) → Option β) → Option β
def zq8 (c : zq7) : Spec :=
  ⟨[(false, [.data (.slice (.int .i64))])], [], [(false, [.ptr 0 0])], [.cells 51 [.data (.prod (.slice (.int .i64)) (.int .i64))]], fun x k => c x.1.1.1 (fun r0 => k (((), ()), ((r0, ()), ())))⟩
section
@[reducible] def made_Roll_X : Ctx := ⟨look tab, pick1 [], false, false⟩
def zq9 {β : Type} (l : List Int) (k : ((List Int × Int) → Option β)) : Option β :=
  k (l, (0 : Int))
theorem zqa (hΓ : ΓOk Try.prog made_Roll_X.Γ) : SpecOk Try.prog 10 (zq8 (zq9)) :=
  spec_exec (X := made_Roll_X) (Λ := pick1 []) (rs := [.tmp 2]) (c := bodyOf Try.f10) mixed tab_ok hΓ Try.func10 (by kernel_rfl) (by kernel_rfl) (by kernel_rfl) (by kernel_rfl) CutsOk_nil (fun x k r h => Eq.trans (b := (zq8 (zq9)).run x k) (by kernel_rfl) h)
end
theorem zqbΓ : ΓOk Try.prog (pick1 []) := ΓOk_nil
def zqc : zq7 := zq9
theorem zqd : SpecOk Try.prog 10 (zq8 zqc) := zqa zqbΓ

/-- pagewatch/pagewatchlaw03.same -/
abbrev zqe := {β : Type} → (List (Int × Int)) → (List (Int × Int)) → (Bool → Option β) → Option β
def zqf (c : zqe) : Spec :=
  ⟨[(false, [.data (.slice (.prod (.int .i64) (.int .i64)))]), (false, [.data (.slice (.prod (.int .i64) (.int .i64)))])], [], [(false, [.data .bool])], [], fun x k => c x.1.1.1 x.1.2.1.1 (fun r0 => k (((r0, ()), ()), ()))⟩
noncomputable def law03_same_p1_code : Code := codeAt 58 (bodyOf Try.f14)
abbrev zqg (β : Type) := Bool → Option β
abbrev zqh (β : Type) := Unit → Option β
abbrev zqi := {β : Type} → zqg β → zqh β → (List (Int × Int)) → (List (Int × Int)) → Int → Int → Option β
def zqj : View := ⟨0, [0, 1, 12, 13], [(false, [.data (.slice (.prod (.int .i64) (.int .i64)))]), (false, [.data (.slice (.prod (.int .i64) (.int .i64)))]), (false, [.data (.int .i64)]), (false, [.data (.int .i64)])], []⟩
def zqk : List (AExit × View) := [(.ret, ⟨0, [4], [(false, [.data .bool])], []⟩), (.exit 0, ⟨0, [], [], []⟩)]
@[reducible] def law03_same_p1_G (p : zqi) {β : Type} (d : zqj.den) (ks : Outs.K β zqk) : Option β :=
  p (fun a0 => ks.1 (((a0, ()), ()), ())) (fun _ => ks.2.1 ((), ())) d.1.1.1 d.1.2.1.1 d.1.2.2.1.1 d.1.2.2.2.1.1
section
@[reducible] def law03_same_X : Ctx := ⟨look tab, pick1 [], false, false⟩
def zql {β : Type} (rec : (List (Int × Int)) → (List (Int × Int)) → Int → Int → Option β) (k1 : zqg β) (k2 : zqh β) (a : List (Int × Int)) (b : List (Int × Int)) (t12 : Int) (t13 : Int) : Option β :=
  cond (decide (t13 < t12))
  (cond (decide (0 ≤ t13) && decide (t13 < (List.length a : Int)))
  (let e : (Int × Int) := List.getD a (Int.toNat t13) ((0 : Int), (0 : Int));
  cond (decide (0 ≤ t13) && decide (t13 < (List.length b : Int)))
  (let e2 : (Int × Int) := List.getD b (Int.toNat t13) ((0 : Int), (0 : Int));
  cond (!(decide (e.1 = e2.1) && (decide (e.2 = e2.2) && true)))
  (k1 false)
  (rec a b t12 (IntKind.i64.wrap (t13 + (1 : Int)))))
  none)
  none)
  (k2 ())
def zqm {β : Type} : Nat → zqg β → zqh β → (List (Int × Int)) → (List (Int × Int)) → Int → Int → Option β
  | 0 => fun _ _ _ _ _ _ => none
  | i + 1 => fun k1 k2 a b t12 t13 => zql (zqm i k1 k2) k1 k2 a b t12 t13
theorem zqn (hΓ : ΓOk Try.prog law03_same_X.Γ) (i : Nat) : PieceOk Try.prog 26 0 law03_same_p1_code zqj zqk (law03_same_p1_G (zqm i)) := by
  rw [show law03_same_p1_code = .loop (loopBody law03_same_p1_code) by kernel_rfl]
  exact piece_loop (X := law03_same_X) (p := 1) (Λ := pick1 []) (G := fun i => @fun β d ks => law03_same_p1_G (zqm i) d ks) mixed tab_ok hΓ rfl (by kernel_rfl) CutsOk_nil (fun _ _ => rfl) (fun i => @fun β d ks r h => Eq.trans (b := law03_same_p1_G (zqm (i + 1)) d ks) (by kernel_rfl) h) i
def zqo (p1 : zqi) {β : Type} (a : List (Int × Int)) (b : List (Int × Int)) (k : (Bool → Option β)) : Option β :=
  cond (!decide ((List.length a : Int) = (List.length b : Int)))
  (k false)
  (p1 (fun (t4 : Bool) =>
  k t4) (fun (_ : Unit) =>
  k true) a b (List.length a : Int) (0 : Int))
theorem zqp (hΓ : ΓOk Try.prog law03_same_X.Γ) (p1 : zqi) (hp1 : PieceOk Try.prog 26 0 law03_same_p1_code zqj zqk (law03_same_p1_G p1)) : SpecOk Try.prog 14 (zqf (zqo p1)) :=
  spec_exec (X := law03_same_X) (Λ := pick1 [(58, pieceCut zqj zqk (law03_same_p1_G p1))]) (rs := [.tmp 4]) (c := bodyOf Try.f14) mixed tab_ok hΓ Try.func14 (by kernel_rfl) (by kernel_rfl) (by kernel_rfl) (by kernel_rfl) (CutsOk_cons (q := 58) (c' := law03_same_p1_code) (by kernel_rfl) rfl hp1 CutsOk_nil) (fun x k r h => Eq.trans (b := (zqf (zqo p1)).run x k) (by kernel_rfl) h)
end
theorem zqqΓ : ΓOk Try.prog (pick1 []) := ΓOk_nil
def zqr (m : Nat) : zqi := zqm m
theorem zqs {β : Type} (i : Nat) (k1 k2 a b t12 t13) : (zqr (i + 1) k1 k2 a b t12 t13 : Option β) = zql (zqr i k1 k2) k1 k2 a b t12 t13 := rfl
def zqt : zqi := zqr fuel
theorem zqu : PieceOk Try.prog 26 0 law03_same_p1_code zqj zqk (law03_same_p1_G zqt) := zqn zqqΓ fuel
def zqv : zqe := zqo zqt
theorem zqw : SpecOk Try.prog 14 (zqf zqv) := zqp zqqΓ zqt zqu

/-- pagewatch/span.Valid -/
abbrev zqx := {β : Type} → (List (Int × Int)) → (Bool → Option β) → Option β
def zqy (c : zqx) : Spec :=
  ⟨[(false, [.data (.slice (.prod (.int .i64) (.int .i64)))])], [], [(false, [.data .bool])], [], fun x k => c x.1.1.1 (fun r0 => k (((r0, ()), ()), ()))⟩
noncomputable def span_Valid_p1_code : Code := codeAt 58 (bodyOf Try.f22)
abbrev zqz (β : Type) := Bool → Option β
abbrev zq10 (β : Type) := Unit → Option β
abbrev zq11 := {β : Type} → zqz β → zq10 β → (List (Int × Int)) → (List (Int × Int)) → Int → Int → Option β
def zq12 : View := ⟨0, [0, 8, 9, 10], [(false, [.data (.slice (.prod (.int .i64) (.int .i64)))]), (false, [.data (.slice (.prod (.int .i64) (.int .i64)))]), (false, [.data (.int .i64)]), (false, [.data (.int .i64)])], []⟩
def zq13 : List (AExit × View) := [(.ret, ⟨0, [2], [(false, [.data .bool])], []⟩), (.exit 0, ⟨0, [], [], []⟩)]
@[reducible] def span_Valid_p1_G (p : zq11) {β : Type} (d : zq12.den) (ks : Outs.K β zq13) : Option β :=
  p (fun a0 => ks.1 (((a0, ()), ()), ())) (fun _ => ks.2.1 ((), ())) d.1.1.1 d.1.2.1.1 d.1.2.2.1.1 d.1.2.2.2.1.1
section
@[reducible] def span_Valid_X : Ctx := ⟨look tab, pick1 [], false, false⟩
def zq14 {β : Type} (rec : (List (Int × Int)) → (List (Int × Int)) → Int → Int → Option β) (k1 : zqz β) (k2 : zq10 β) (l : List (Int × Int)) (t8 : List (Int × Int)) (t9 : Int) (t10 : Int) : Option β :=
  cond (decide (t10 < t9))
  (cond (decide (0 ≤ t10) && decide (t10 < (List.length t8 : Int)))
  (let e : (Int × Int) := List.getD t8 (Int.toNat t10) ((0 : Int), (0 : Int));
  cond (decide (e.1 < (0 : Int)))
  (k1 false)
  (cond (decide (e.2 ≤ e.1))
  (k1 false)
  (cond (decide ((8589934592 : Int) < e.2))
  (k1 false)
  (cond (decide ((0 : Int) < t10))
  (cond (decide (0 ≤ (IntKind.i64.wrap (t10 - (1 : Int)))) && decide ((IntKind.i64.wrap (t10 - (1 : Int))) < (List.length l : Int)))
  (let e2 : (Int × Int) := List.getD l (Int.toNat (IntKind.i64.wrap (t10 - (1 : Int)))) ((0 : Int), (0 : Int));
  cond (decide (e.1 ≤ e2.2))
  (k1 false)
  (rec l t8 t9 (IntKind.i64.wrap (t10 + (1 : Int)))))
  none)
  (rec l t8 t9 (IntKind.i64.wrap (t10 + (1 : Int))))))))
  none)
  (k2 ())
def zq15 {β : Type} : Nat → zqz β → zq10 β → (List (Int × Int)) → (List (Int × Int)) → Int → Int → Option β
  | 0 => fun _ _ _ _ _ _ => none
  | i + 1 => fun k1 k2 l t8 t9 t10 => zq14 (zq15 i k1 k2) k1 k2 l t8 t9 t10
theorem zq16 (hΓ : ΓOk Try.prog span_Valid_X.Γ) (i : Nat) : PieceOk Try.prog 46 0 span_Valid_p1_code zq12 zq13 (span_Valid_p1_G (zq15 i)) := by
  rw [show span_Valid_p1_code = .loop (loopBody span_Valid_p1_code) by kernel_rfl]
  exact piece_loop (X := span_Valid_X) (p := 1) (Λ := pick1 []) (G := fun i => @fun β d ks => span_Valid_p1_G (zq15 i) d ks) mixed tab_ok hΓ rfl (by kernel_rfl) CutsOk_nil (fun _ _ => rfl) (fun i => @fun β d ks r h => Eq.trans (b := span_Valid_p1_G (zq15 (i + 1)) d ks) (by kernel_rfl) h) i
def zq17 (p1 : zq11) {β : Type} (l : List (Int × Int)) (k : (Bool → Option β)) : Option β :=
  cond (decide ((4096 : Int) < (List.length l : Int)))
  (k false)
  (p1 (fun (t2 : Bool) =>
  k t2) (fun (_ : Unit) =>
  k true) l l (List.length l : Int) (0 : Int))
theorem zq18 (hΓ : ΓOk Try.prog span_Valid_X.Γ) (p1 : zq11) (hp1 : PieceOk Try.prog 46 0 span_Valid_p1_code zq12 zq13 (span_Valid_p1_G p1)) : SpecOk Try.prog 22 (zqy (zq17 p1)) :=
  spec_exec (X := span_Valid_X) (Λ := pick1 [(58, pieceCut zq12 zq13 (span_Valid_p1_G p1))]) (rs := [.tmp 2]) (c := bodyOf Try.f22) mixed tab_ok hΓ Try.func22 (by kernel_rfl) (by kernel_rfl) (by kernel_rfl) (by kernel_rfl) (CutsOk_cons (q := 58) (c' := span_Valid_p1_code) (by kernel_rfl) rfl hp1 CutsOk_nil) (fun x k r h => Eq.trans (b := (zqy (zq17 p1)).run x k) (by kernel_rfl) h)
end
theorem zq19Γ : ΓOk Try.prog (pick1 []) := ΓOk_nil
def zq1a (m : Nat) : zq11 := zq15 m
theorem zq1b {β : Type} (i : Nat) (k1 k2 l t8 t9 t10) : (zq1a (i + 1) k1 k2 l t8 t9 t10 : Option β) = zq14 (zq1a i k1 k2) k1 k2 l t8 t9 t10 := rfl
def zq1c : zq11 := zq1a fuel
theorem zq1d : PieceOk Try.prog 46 0 span_Valid_p1_code zq12 zq13 (span_Valid_p1_G zq1c) := zq16 zq19Γ fuel
def zq1e : zqx := zq17 zq1c
theorem zq1f : SpecOk Try.prog 22 (zqy zq1e) := zq18 zq19Γ zq1c zq1d

/-- pagewatch/span.Length -/
abbrev zq1g := {β : Type} → (List (Int × Int)) → (Int → Option β) → Option β
def zq1h (c : zq1g) : Spec :=
  ⟨[(false, [.data (.slice (.prod (.int .i64) (.int .i64)))])], [], [(false, [.data (.int .i64)])], [], fun x k => c x.1.1.1 (fun r0 => k (((r0, ()), ()), ()))⟩
noncomputable def span_Length_p1_code : Code := codeAt 122 (bodyOf Try.f23)
abbrev zq1i (β : Type) := Int → Option β
abbrev zq1j := {β : Type} → zq1i β → Int → (List (Int × Int)) → Int → Int → Option β
def zq1k : View := ⟨0, [3, 9, 10, 11], [(false, [.data (.int .i64)]), (false, [.data (.slice (.prod (.int .i64) (.int .i64)))]), (false, [.data (.int .i64)]), (false, [.data (.int .i64)])], []⟩
def zq1l : List (AExit × View) := [(.exit 0, ⟨0, [3], [(false, [.data (.int .i64)])], []⟩)]
@[reducible] def span_Length_p1_G (p : zq1j) {β : Type} (d : zq1k.den) (ks : Outs.K β zq1l) : Option β :=
  p (fun a0 => ks.1 (((a0, ()), ()), ())) d.1.1.1 d.1.2.1.1 d.1.2.2.1.1 d.1.2.2.2.1.1
section
variable (c_span_Valid : zqx)
@[reducible] def span_Length_X : Ctx := ⟨look tab, pick1 [(22, .spec (zqy c_span_Valid))], false, false⟩
def zq1m {β : Type} (rec : Int → (List (Int × Int)) → Int → Int → Option β) (k1 : zq1i β) (n : Int) (t9 : List (Int × Int)) (t10 : Int) (t11 : Int) : Option β :=
  cond (decide (t11 < t10))
  (cond (decide (0 ≤ t11) && decide (t11 < (List.length t9 : Int)))
  (let e : (Int × Int) := List.getD t9 (Int.toNat t11) ((0 : Int), (0 : Int));
  let n2 : Int := (IntKind.i64.wrap (n + (IntKind.i64.wrap (e.2 - e.1))));
  rec n2 t9 t10 (IntKind.i64.wrap (t11 + (1 : Int))))
  none)
  (k1 n)
def zq1n {β : Type} : Nat → zq1i β → Int → (List (Int × Int)) → Int → Int → Option β
  | 0 => fun _ _ _ _ _ => none
  | i + 1 => fun k1 n t9 t10 t11 => zq1m (zq1n i k1) k1 n t9 t10 t11
theorem zq1o (hΓ : ΓOk Try.prog (span_Length_X c_span_Valid).Γ) (i : Nat) : PieceOk Try.prog 24 0 span_Length_p1_code zq1k zq1l (span_Length_p1_G (zq1n i)) := by
  rw [show span_Length_p1_code = .loop (loopBody span_Length_p1_code) by kernel_rfl]
  exact piece_loop (X := (span_Length_X c_span_Valid)) (p := 1) (Λ := pick1 []) (G := fun i => @fun β d ks => span_Length_p1_G (zq1n i) d ks) mixed tab_ok hΓ rfl (by kernel_rfl) CutsOk_nil (fun _ _ => rfl) (fun i => @fun β d ks r h => Eq.trans (b := span_Length_p1_G (zq1n (i + 1)) d ks) (by kernel_rfl) h) i
def zq1p (p1 : zq1j) {β : Type} (l : List (Int × Int)) (k : (Int → Option β)) : Option β :=
  c_span_Valid l (fun (rValid : Bool) =>
  cond (!rValid)
  (k (0 : Int))
  (p1 (fun (n : Int) =>
  k n) (0 : Int) l (List.length l : Int) (0 : Int)))
theorem zq1q (hΓ : ΓOk Try.prog (span_Length_X c_span_Valid).Γ) (p1 : zq1j) (hp1 : PieceOk Try.prog 24 0 span_Length_p1_code zq1k zq1l (span_Length_p1_G p1)) : SpecOk Try.prog 23 (zq1h (zq1p c_span_Valid p1)) :=
  spec_exec (X := (span_Length_X c_span_Valid)) (Λ := pick1 [(122, pieceCut zq1k zq1l (span_Length_p1_G p1))]) (rs := [.tmp 2]) (c := bodyOf Try.f23) mixed tab_ok hΓ Try.func23 (by kernel_rfl) (by kernel_rfl) (by kernel_rfl) (by kernel_rfl) (CutsOk_cons (q := 122) (c' := span_Length_p1_code) (by kernel_rfl) rfl hp1 CutsOk_nil) (fun x k r h => Eq.trans (b := (zq1h (zq1p c_span_Valid p1)).run x k) (by kernel_rfl) h)
end
theorem zq1rΓ : ΓOk Try.prog (pick1 [(22, .spec (zqy zq1e))]) := (ΓOk_cons zq1f ΓOk_nil)
def zq1s (m : Nat) : zq1j := zq1n m
theorem zq1t {β : Type} (i : Nat) (k1 n t9 t10 t11) : (zq1s (i + 1) k1 n t9 t10 t11 : Option β) = zq1m (zq1s i k1) k1 n t9 t10 t11 := rfl
def zq1u : zq1j := zq1s fuel
theorem zq1v : PieceOk Try.prog 24 0 span_Length_p1_code zq1k zq1l (span_Length_p1_G zq1u) := zq1o zq1e zq1rΓ fuel
def zq1w : zq1g := zq1p zq1e zq1u
theorem zq1x : SpecOk Try.prog 23 (zq1h zq1w) := zq1q zq1e zq1rΓ zq1u zq1v

/-- (*pagewatch/pagewatchmade.Dice).Next -/
abbrev zq1y := {β : Type} → Int → (List Int × Int) → (Int → (List Int × Int) → Option β) → Option β
def zq1z (c : zq1y) : Spec :=
  ⟨[(false, [.ptr 0 0]), (false, [.data (.int .i64)])], [.cells 51 [.data (.prod (.slice (.int .i64)) (.int .i64))]], [(false, [.data (.int .i64)])], [.cells 51 [.data (.prod (.slice (.int .i64)) (.int .i64))]], fun x k => c x.1.2.1.1 x.2.1.1 (fun r0 r1 => k (((r0, ()), ()), ((r1, ()), ())))⟩
section
@[reducible] def made_Dice_Next_X : Ctx := ⟨look tab, pick1 [], false, false⟩
def zq20 {β : Type} (n : Int) (d : (List Int × Int)) (k : (Int → (List Int × Int) → Option β)) : Option β :=
  cond (decide ((List.length d.1 : Int) ≤ d.2))
  (k (0 : Int) d)
  (cond (decide (n < (1 : Int)))
  (k (0 : Int) d)
  (cond (decide (0 ≤ d.2) && decide (d.2 < (List.length d.1 : Int)))
  (let e : Int := List.getD d.1 (Int.toNat d.2) (0 : Int);
  cond (!decide (n = 0))
  (cond (decide ((Int.tmod e n) < (0 : Int)))
  (let x : Int := (IntKind.i64.wrap ((Int.tmod e n) + n));
  k x (d.1, (IntKind.i64.wrap (d.2 + (1 : Int)))))
  (k (Int.tmod e n) (d.1, (IntKind.i64.wrap (d.2 + (1 : Int))))))
  none)
  none))
theorem zq21 (hΓ : ΓOk Try.prog made_Dice_Next_X.Γ) : SpecOk Try.prog 30 (zq1z (zq20)) :=
  spec_exec (X := made_Dice_Next_X) (Λ := pick1 []) (rs := [.tmp 4]) (c := bodyOf Try.f30) mixed tab_ok hΓ Try.func30 (by kernel_rfl) (by kernel_rfl) (by kernel_rfl) (by kernel_rfl) CutsOk_nil (fun x k r h => Eq.trans (b := (zq1z (zq20)).run x k) (by kernel_rfl) h)
end
theorem zq22Γ : ΓOk Try.prog (pick1 []) := ΓOk_nil
def zq23 : zq1y := zq20
theorem zq24 : SpecOk Try.prog 30 (zq1z zq23) := zq21 zq22Γ

/-- (*pagewatch/pagewatchmade.Dice).Span -/
abbrev zq25 := {β : Type} → (List Int × Int) → ((Int × Int) → (List Int × Int) → Option β) → Option β
def zq26 (c : zq25) : Spec :=
  ⟨[(false, [.ptr 0 0])], [.cells 51 [.data (.prod (.slice (.int .i64)) (.int .i64))]], [(true, [.data (.prod (.int .i64) (.int .i64))])], [.cells 51 [.data (.prod (.slice (.int .i64)) (.int .i64))]], fun x k => c x.2.1.1 (fun r0 r1 => k (((r0, ()), ()), ((r1, ()), ())))⟩
section
variable (c_made_Dice_Next : zq1y)
@[reducible] def made_Dice_Span_X : Ctx := ⟨look tab, pick1 [(30, .spec (zq1z c_made_Dice_Next))], false, false⟩
def zq27 {β : Type} (d : (List Int × Int)) (k : ((Int × Int) → (List Int × Int) → Option β)) : Option β :=
  c_made_Dice_Next (60 : Int) d (fun (rNext : Int) (mrNext : (List Int × Int)) =>
  c_made_Dice_Next (9 : Int) mrNext (fun (rNext2 : Int) (mrNext2 : (List Int × Int)) =>
  k (rNext, (IntKind.i64.wrap ((IntKind.i64.wrap (rNext + rNext2)) - (1 : Int)))) mrNext2))
theorem zq28 (hΓ : ΓOk Try.prog (made_Dice_Span_X c_made_Dice_Next).Γ) : SpecOk Try.prog 35 (zq26 (zq27 c_made_Dice_Next)) :=
  spec_exec (X := (made_Dice_Span_X c_made_Dice_Next)) (Λ := pick1 []) (rs := [.cell 2 30]) (c := bodyOf Try.f35) mixed tab_ok hΓ Try.func35 (by kernel_rfl) (by kernel_rfl) (by kernel_rfl) (by kernel_rfl) CutsOk_nil (fun x k r h => Eq.trans (b := (zq26 (zq27 c_made_Dice_Next)).run x k) (by kernel_rfl) h)
end
theorem zq29Γ : ΓOk Try.prog (pick1 [(30, .spec (zq1z zq23))]) := (ΓOk_cons zq24 ΓOk_nil)
def zq2a : zq25 := zq27 zq23
theorem zq2b : SpecOk Try.prog 35 (zq26 zq2a) := zq28 zq23 zq29Γ

/-- pagewatch/span.Has$1 -/
abbrev zq2c := {β : Type} → (Int × Int) → Int → (Bool → Int → Option β) → Option β
def zq2d (c : zq2c) : Spec :=
  ⟨[(true, [.data (.prod (.int .i64) (.int .i64))]), (false, [.ptr 0 0])], [.cells 3 [.data (.int .i64)]], [(false, [.data .bool])], [.cells 3 [.data (.int .i64)]], fun x k => c x.1.1.1 x.2.1.1 (fun r0 r1 => k (((r0, ()), ()), ((r1, ()), ())))⟩
section
@[reducible] def span_Has_f1_X : Ctx := ⟨look tab, pick1 [], false, false⟩
def zq2e {β : Type} (s : (Int × Int)) (t1 : Int) (k : (Bool → Int → Option β)) : Option β :=
  cond (decide (s.1 ≤ t1))
  (k (decide (t1 < s.2)) t1)
  (k false t1)
theorem zq2f (hΓ : ΓOk Try.prog span_Has_f1_X.Γ) : SpecOk Try.prog 38 (zq2d (zq2e)) :=
  spec_exec (X := span_Has_f1_X) (Λ := pick1 []) (rs := [.tmp 3]) (c := bodyOf Try.f38) mixed tab_ok hΓ Try.func38 (by kernel_rfl) (by kernel_rfl) (by kernel_rfl) (by kernel_rfl) CutsOk_nil (fun x k r h => Eq.trans (b := (zq2d (zq2e)).run x k) (by kernel_rfl) h)
end
theorem zq2gΓ : ΓOk Try.prog (pick1 []) := ΓOk_nil
def zq2h : zq2c := zq2e
theorem zq2i : SpecOk Try.prog 38 (zq2d zq2h) := zq2f zq2gΓ

/-- pagewatch/span.Common -/
abbrev zq2j := {β : Type} → (List (Int × Int)) → (List (Int × Int)) → ((List (Int × Int)) → Option β) → Option β
def zq2k (c : zq2j) : Spec :=
  ⟨[(false, [.data (.slice (.prod (.int .i64) (.int .i64)))]), (false, [.data (.slice (.prod (.int .i64) (.int .i64)))])], [], [(false, [.rowh 0])], [.row 30 (.prod (.int .i64) (.int .i64))], fun x k => c x.1.1.1 x.1.2.1.1 (fun r0 => k (((), ()), (r0, ())))⟩
noncomputable def span_Common_p2_code : Code := codeAt 58 (bodyOf Try.f42)
noncomputable def span_Common_p1_code : Code := codeAt 13 (loopBody span_Common_p2_code)
abbrev zq2l (β : Type) := (List (Int × Int)) → (List (Int × Int)) → Int → Int → (List (Int × Int)) → Option β
abbrev zq2m := {β : Type} → zq2l β → (List (Int × Int)) → (List (Int × Int)) → Int → Int → (List (Int × Int)) → Option β
def zq2n : View := ⟨0, [0, 1, 5, 6, 7], [(false, [.data (.slice (.prod (.int .i64) (.int .i64)))]), (false, [.data (.slice (.prod (.int .i64) (.int .i64)))]), (false, [.rowh 0]), (false, [.data (.int .i64)]), (false, [.data (.int .i64)])], [.row 30 (.prod (.int .i64) (.int .i64))]⟩
def zq2o : List (AExit × View) := [(.normal, ⟨0, [0, 1, 5, 6, 7], [(false, [.data (.slice (.prod (.int .i64) (.int .i64)))]), (false, [.data (.slice (.prod (.int .i64) (.int .i64)))]), (false, [.rowh 0]), (false, [.data (.int .i64)]), (false, [.data (.int .i64)])], [.row 30 (.prod (.int .i64) (.int .i64))]⟩)]
@[reducible] def span_Common_p1_G (p : zq2m) {β : Type} (d : zq2n.den) (ks : Outs.K β zq2o) : Option β :=
  p (fun a0 a1 a2 a3 a4 => ks.1 (((a0, ()), (a1, ()), (), (a2, ()), (a3, ()), ()), (a4, ()))) d.1.1.1 d.1.2.1.1 d.1.2.2.2.1.1 d.1.2.2.2.2.1.1 d.2.1
abbrev zq2p (β : Type) := (List (Int × Int)) → Option β
abbrev zq2q := {β : Type} → zq2p β → (List (Int × Int)) → (List (Int × Int)) → Int → Int → (List (Int × Int)) → Option β
def zq2r : View := ⟨0, [0, 1, 5, 6, 7], [(false, [.data (.slice (.prod (.int .i64) (.int .i64)))]), (false, [.data (.slice (.prod (.int .i64) (.int .i64)))]), (false, [.rowh 0]), (false, [.data (.int .i64)]), (false, [.data (.int .i64)])], [.row 30 (.prod (.int .i64) (.int .i64))]⟩
def zq2s : List (AExit × View) := [(.exit 0, ⟨0, [5], [(false, [.rowh 0])], [.row 30 (.prod (.int .i64) (.int .i64))]⟩)]
@[reducible] def span_Common_p2_G (p : zq2q) {β : Type} (d : zq2r.den) (ks : Outs.K β zq2s) : Option β :=
  p (fun a0 => ks.1 (((), ()), (a0, ()))) d.1.1.1 d.1.2.1.1 d.1.2.2.2.1.1 d.1.2.2.2.2.1.1 d.2.1
section
@[reducible] def span_Common_X : Ctx := ⟨look tab, pick1 [], false, false⟩
def zq2t {β : Type} (k1 : zq2l β) (a : List (Int × Int)) (b : List (Int × Int)) (i_ : Int) (k_ : Int) (out : List (Int × Int)) : Option β :=
  cond (decide (0 ≤ i_) && decide (i_ < (List.length a : Int)))
  (let e : (Int × Int) := List.getD a (Int.toNat i_) ((0 : Int), (0 : Int));
  cond (decide (0 ≤ k_) && decide (k_ < (List.length b : Int)))
  (let e2 : (Int × Int) := List.getD b (Int.toNat k_) ((0 : Int), (0 : Int));
  cond (decide (e.2 < e2.2))
  (let i_2 : Int := (IntKind.i64.wrap (i_ + (1 : Int)));
  k1 a b i_2 k_ out)
  (let k_2 : Int := (IntKind.i64.wrap (k_ + (1 : Int)));
  k1 a b i_ k_2 out))
  none)
  none
def zq2u {β : Type} (k1 : zq2l β) (a : List (Int × Int)) (b : List (Int × Int)) (i_ : Int) (k_ : Int) (out : List (Int × Int)) : Option β := zq2t k1 a b i_ k_ out
theorem zq2v (hΓ : ΓOk Try.prog span_Common_X.Γ) : PieceOk Try.prog 67 0 span_Common_p1_code zq2n zq2o (span_Common_p1_G (zq2u)) :=
  piece_exec (X := span_Common_X) (p := 13) (Λ := pick1 []) mixed tab_ok hΓ (by kernel_rfl) CutsOk_nil (fun d ks r h => Eq.trans (b := span_Common_p1_G (zq2u) d ks) (by kernel_rfl) h)
def zq2w (p1 : zq2m) {β : Type} (rec : (List (Int × Int)) → (List (Int × Int)) → Int → Int → (List (Int × Int)) → Option β) (k1 : zq2p β) (a : List (Int × Int)) (b : List (Int × Int)) (i_ : Int) (k_ : Int) (out : List (Int × Int)) : Option β :=
  cond (decide (i_ < (List.length a : Int)))
  (cond (decide (k_ < (List.length b : Int)))
  (cond (decide (0 ≤ i_) && decide (i_ < (List.length a : Int)))
  (let e : (Int × Int) := List.getD a (Int.toNat i_) ((0 : Int), (0 : Int));
  cond (decide (0 ≤ k_) && decide (k_ < (List.length b : Int)))
  (let e2 : (Int × Int) := List.getD b (Int.toNat k_) ((0 : Int), (0 : Int));
  cond (decide (0 ≤ i_) && decide (i_ < (List.length a : Int)))
  (let e3 : (Int × Int) := List.getD a (Int.toNat i_) ((0 : Int), (0 : Int));
  cond (decide (0 ≤ k_) && decide (k_ < (List.length b : Int)))
  (let e4 : (Int × Int) := List.getD b (Int.toNat k_) ((0 : Int), (0 : Int));
  cond (decide ((if e2.1 > e.1 then e2.1 else e.1) < (if e4.2 < e3.2 then e4.2 else e3.2)))
  (let l : List (Int × Int) := ([((if e2.1 > e.1 then e2.1 else e.1), (if e4.2 < e3.2 then e4.2 else e3.2))] : List (Int × Int));
  cond (decide ((List.length out + List.length l) * 16 ≤ roomMax))
  (let l2 : List (Int × Int) := (out ++ l);
  p1 (fun (a2 : List (Int × Int)) (b2 : List (Int × Int)) (i_2 : Int) (k_2 : Int) (out2 : List (Int × Int)) =>
  rec a2 b2 i_2 k_2 out2) a b i_ k_ l2)
  none)
  (p1 (fun (a2 : List (Int × Int)) (b2 : List (Int × Int)) (i_2 : Int) (k_2 : Int) (out2 : List (Int × Int)) =>
  rec a2 b2 i_2 k_2 out2) a b i_ k_ out))
  none)
  none)
  none)
  none)
  (k1 out))
  (k1 out)
def zq2x (p1 : zq2m) {β : Type} : Nat → zq2p β → (List (Int × Int)) → (List (Int × Int)) → Int → Int → (List (Int × Int)) → Option β
  | 0 => fun _ _ _ _ _ _ => none
  | i + 1 => fun k1 a b i_ k_ out => zq2w p1 (zq2x p1 i k1) k1 a b i_ k_ out
theorem zq2y (hΓ : ΓOk Try.prog span_Common_X.Γ) (p1 : zq2m) (hp1 : PieceOk Try.prog 67 0 span_Common_p1_code zq2n zq2o (span_Common_p1_G p1)) (i : Nat) : PieceOk Try.prog 67 0 span_Common_p2_code zq2r zq2s (span_Common_p2_G (zq2x p1 i)) := by
  rw [show span_Common_p2_code = .loop (loopBody span_Common_p2_code) by kernel_rfl]
  exact piece_loop (X := span_Common_X) (p := 1) (Λ := pick1 [(13, pieceCut zq2n zq2o (span_Common_p1_G p1))]) (G := fun i => @fun β d ks => span_Common_p2_G (zq2x p1 i) d ks) mixed tab_ok hΓ rfl (by kernel_rfl) (CutsOk_cons (q := 13) (c' := span_Common_p1_code) (by kernel_rfl) rfl hp1 CutsOk_nil) (fun _ _ => rfl) (fun i => @fun β d ks r h => Eq.trans (b := span_Common_p2_G (zq2x p1 (i + 1)) d ks) (by kernel_rfl) h) i
def zq2z (p2 : zq2q) {β : Type} (a : List (Int × Int)) (b : List (Int × Int)) (k : ((List (Int × Int)) → Option β)) : Option β :=
  p2 (fun (out : List (Int × Int)) =>
  k out) a b (0 : Int) (0 : Int) ([] : List (Int × Int))
theorem zq30 (hΓ : ΓOk Try.prog span_Common_X.Γ) (p2 : zq2q) (hp2 : PieceOk Try.prog 67 0 span_Common_p2_code zq2r zq2s (span_Common_p2_G p2)) : SpecOk Try.prog 42 (zq2k (zq2z p2)) :=
  spec_exec (X := span_Common_X) (Λ := pick1 [(58, pieceCut zq2r zq2s (span_Common_p2_G p2))]) (rs := [.tmp 4]) (c := bodyOf Try.f42) mixed tab_ok hΓ Try.func42 (by kernel_rfl) (by kernel_rfl) (by kernel_rfl) (by kernel_rfl) (CutsOk_cons (q := 58) (c' := span_Common_p2_code) (by kernel_rfl) rfl hp2 CutsOk_nil) (fun x k r h => Eq.trans (b := (zq2k (zq2z p2)).run x k) (by kernel_rfl) h)
end
theorem zq31Γ : ΓOk Try.prog (pick1 []) := ΓOk_nil
def zq32 : zq2m := zq2u
theorem zq33 : PieceOk Try.prog 67 0 span_Common_p1_code zq2n zq2o (span_Common_p1_G zq32) := zq2v zq31Γ
def zq34 (m : Nat) : zq2q := zq2x zq32 m
theorem zq35 {β : Type} (i : Nat) (k1 a b i_ k_ out) : (zq34 (i + 1) k1 a b i_ k_ out : Option β) = zq2w zq32 (zq34 i k1) k1 a b i_ k_ out := rfl
def zq36 : zq2q := zq34 fuel
theorem zq37 : PieceOk Try.prog 67 0 span_Common_p2_code zq2r zq2s (span_Common_p2_G zq36) := zq2y zq31Γ zq32 zq33 fuel
def zq38 : zq2j := zq2z zq36
theorem zq39 : SpecOk Try.prog 42 (zq2k zq38) := zq30 zq31Γ zq36 zq37

/-- pagewatch/span.Without -/
abbrev zq3a := {β : Type} → (List (Int × Int)) → (List (Int × Int)) → ((List (Int × Int)) → Option β) → Option β
def zq3b (c : zq3a) : Spec :=
  ⟨[(false, [.data (.slice (.prod (.int .i64) (.int .i64)))]), (false, [.data (.slice (.prod (.int .i64) (.int .i64)))])], [], [(false, [.rowh 0])], [.row 30 (.prod (.int .i64) (.int .i64))], fun x k => c x.1.1.1 x.1.2.1.1 (fun r0 => k (((), ()), (r0, ())))⟩
noncomputable def span_Without_p3_code : Code := codeAt 122 (bodyOf Try.f43)
noncomputable def span_Without_p1_code : Code := codeAt 228 (loopBody span_Without_p3_code)
noncomputable def span_Without_p2_code : Code := codeAt 1850 (loopBody span_Without_p3_code)
abbrev zq3c (β : Type) := (List (Int × Int)) → Int → (List (Int × Int)) → Int → Int → (List (Int × Int)) → Int → Int → Option β
abbrev zq3d := {β : Type} → zq3c β → (List (Int × Int)) → Int → (List (Int × Int)) → Int → Int → (List (Int × Int)) → Int → Int → Option β
def zq3e : View := ⟨0, [1, 5, 6, 8, 11, 12, 13], [(false, [.data (.slice (.prod (.int .i64) (.int .i64)))]), (false, [.rowh 0]), (false, [.data (.int .i64)]), (false, [.ptr 1 0]), (false, [.data (.slice (.prod (.int .i64) (.int .i64)))]), (false, [.data (.int .i64)]), (false, [.data (.int .i64)])], [.row 30 (.prod (.int .i64) (.int .i64)), .cells 30 [.data (.int .i64), .data (.int .i64)]]⟩
def zq3f : List (AExit × View) := [(.exit 2, ⟨0, [1, 5, 6, 8, 11, 12, 13], [(false, [.data (.slice (.prod (.int .i64) (.int .i64)))]), (false, [.rowh 0]), (false, [.data (.int .i64)]), (false, [.ptr 1 0]), (false, [.data (.slice (.prod (.int .i64) (.int .i64)))]), (false, [.data (.int .i64)]), (false, [.data (.int .i64)])], [.row 30 (.prod (.int .i64) (.int .i64)), .cells 30 [.data (.int .i64), .data (.int .i64)]]⟩)]
@[reducible] def span_Without_p1_G (p : zq3d) {β : Type} (d : zq3e.den) (ks : Outs.K β zq3f) : Option β :=
  p (fun a0 a1 a2 a3 a4 a5 a6 a7 => ks.1 (((a0, ()), (), (a1, ()), (), (a2, ()), (a3, ()), (a4, ()), ()), (a5, (a6, a7, ()), ()))) d.1.1.1 d.1.2.2.1.1 d.1.2.2.2.2.1.1 d.1.2.2.2.2.2.1.1 d.1.2.2.2.2.2.2.1.1 d.2.1 d.2.2.1.1 d.2.2.1.2.1
abbrev zq3g (β : Type) := (List (Int × Int)) → Int → Int → (List (Int × Int)) → Int → Int → (List (Int × Int)) → Int → Int → Option β
abbrev zq3h := {β : Type} → zq3g β → (List (Int × Int)) → Int → Int → Int → (List (Int × Int)) → Int → Int → (List (Int × Int)) → Int → Int → Option β
def zq3i : View := ⟨0, [1, 5, 6, 8, 9, 10, 11, 12, 13], [(false, [.data (.slice (.prod (.int .i64) (.int .i64)))]), (false, [.rowh 0]), (false, [.data (.int .i64)]), (false, [.ptr 1 0]), (false, [.data (.int .i64)]), (false, [.data (.int .i64)]), (false, [.data (.slice (.prod (.int .i64) (.int .i64)))]), (false, [.data (.int .i64)]), (false, [.data (.int .i64)])], [.row 30 (.prod (.int .i64) (.int .i64)), .cells 30 [.data (.int .i64), .data (.int .i64)]]⟩
def zq3j : List (AExit × View) := [(.exit 4, ⟨0, [1, 5, 6, 8, 9, 11, 12, 13], [(false, [.data (.slice (.prod (.int .i64) (.int .i64)))]), (false, [.rowh 0]), (false, [.data (.int .i64)]), (false, [.ptr 1 0]), (false, [.data (.int .i64)]), (false, [.data (.slice (.prod (.int .i64) (.int .i64)))]), (false, [.data (.int .i64)]), (false, [.data (.int .i64)])], [.row 30 (.prod (.int .i64) (.int .i64)), .cells 30 [.data (.int .i64), .data (.int .i64)]]⟩)]
@[reducible] def span_Without_p2_G (p : zq3h) {β : Type} (d : zq3i.den) (ks : Outs.K β zq3j) : Option β :=
  p (fun a0 a1 a2 a3 a4 a5 a6 a7 a8 => ks.1 (((a0, ()), (), (a1, ()), (), (a2, ()), (a3, ()), (a4, ()), (a5, ()), ()), (a6, (a7, a8, ()), ()))) d.1.1.1 d.1.2.2.1.1 d.1.2.2.2.2.1.1 d.1.2.2.2.2.2.1.1 d.1.2.2.2.2.2.2.1.1 d.1.2.2.2.2.2.2.2.1.1 d.1.2.2.2.2.2.2.2.2.1.1 d.2.1 d.2.2.1.1 d.2.2.1.2.1
abbrev zq3k (β : Type) := (List (Int × Int)) → Option β
abbrev zq3l := {β : Type} → zq3k β → (List (Int × Int)) → Int → (List (Int × Int)) → Int → Int → (List (Int × Int)) → Option β
def zq3m : View := ⟨0, [1, 5, 6, 11, 12, 13], [(false, [.data (.slice (.prod (.int .i64) (.int .i64)))]), (false, [.rowh 0]), (false, [.data (.int .i64)]), (false, [.data (.slice (.prod (.int .i64) (.int .i64)))]), (false, [.data (.int .i64)]), (false, [.data (.int .i64)])], [.row 30 (.prod (.int .i64) (.int .i64))]⟩
def zq3n : List (AExit × View) := [(.exit 0, ⟨0, [5], [(false, [.rowh 0])], [.row 30 (.prod (.int .i64) (.int .i64))]⟩)]
@[reducible] def span_Without_p3_G (p : zq3l) {β : Type} (d : zq3m.den) (ks : Outs.K β zq3n) : Option β :=
  p (fun a0 => ks.1 (((), ()), (a0, ()))) d.1.1.1 d.1.2.2.1.1 d.1.2.2.2.1.1 d.1.2.2.2.2.1.1 d.1.2.2.2.2.2.1.1 d.2.1
section
@[reducible] def span_Without_X : Ctx := ⟨look tab, pick1 [], false, false⟩
def zq3o {β : Type} (rec : (List (Int × Int)) → Int → (List (Int × Int)) → Int → Int → (List (Int × Int)) → Int → Int → Option β) (k1 : zq3c β) (b : List (Int × Int)) (k_ : Int) (t11 : List (Int × Int)) (t12 : Int) (t13 : Int) (out : List (Int × Int)) (s : Int) (s2 : Int) : Option β :=
  cond (decide (k_ < (List.length b : Int)))
  (cond (decide (0 ≤ k_) && decide (k_ < (List.length b : Int)))
  (let e : (Int × Int) := List.getD b (Int.toNat k_) ((0 : Int), (0 : Int));
  cond (decide (e.2 ≤ s))
  (let k_2 : Int := (IntKind.i64.wrap (k_ + (1 : Int)));
  rec b k_2 t11 t12 t13 out s s2)
  (k1 b k_ t11 t12 t13 out s s2))
  none)
  (k1 b k_ t11 t12 t13 out s s2)
def zq3p {β : Type} : Nat → zq3c β → (List (Int × Int)) → Int → (List (Int × Int)) → Int → Int → (List (Int × Int)) → Int → Int → Option β
  | 0 => fun _ _ _ _ _ _ _ _ _ => none
  | i + 1 => fun k1 b k_ t11 t12 t13 out s s2 => zq3o (zq3p i k1) k1 b k_ t11 t12 t13 out s s2
theorem zq3q (hΓ : ΓOk Try.prog span_Without_X.Γ) (i : Nat) : PieceOk Try.prog 89 0 span_Without_p1_code zq3e zq3f (span_Without_p1_G (zq3p i)) := by
  rw [show span_Without_p1_code = .loop (loopBody span_Without_p1_code) by kernel_rfl]
  exact piece_loop (X := span_Without_X) (p := 1) (Λ := pick1 []) (G := fun i => @fun β d ks => span_Without_p1_G (zq3p i) d ks) mixed tab_ok hΓ rfl (by kernel_rfl) CutsOk_nil (fun _ _ => rfl) (fun i => @fun β d ks r h => Eq.trans (b := span_Without_p1_G (zq3p (i + 1)) d ks) (by kernel_rfl) h) i
def zq3r {β : Type} (rec : (List (Int × Int)) → Int → Int → Int → (List (Int × Int)) → Int → Int → (List (Int × Int)) → Int → Int → Option β) (k1 : zq3g β) (b : List (Int × Int)) (k_ : Int) (at_ : Int) (i_ : Int) (t11 : List (Int × Int)) (t12 : Int) (t13 : Int) (out : List (Int × Int)) (s : Int) (s2 : Int) : Option β :=
  cond (decide (i_ < (List.length b : Int)))
  (cond (decide (0 ≤ i_) && decide (i_ < (List.length b : Int)))
  (let e : (Int × Int) := List.getD b (Int.toNat i_) ((0 : Int), (0 : Int));
  cond (decide (e.1 < s2))
  (cond (decide (0 ≤ i_) && decide (i_ < (List.length b : Int)))
  (let e2 : (Int × Int) := List.getD b (Int.toNat i_) ((0 : Int), (0 : Int));
  cond (decide (at_ < e2.1))
  (cond (decide (0 ≤ i_) && decide (i_ < (List.length b : Int)))
  (let e3 : (Int × Int) := List.getD b (Int.toNat i_) ((0 : Int), (0 : Int));
  let l : List (Int × Int) := ([(at_, e3.1)] : List (Int × Int));
  cond (decide ((List.length out + List.length l) * 16 ≤ roomMax))
  (let l2 : List (Int × Int) := (out ++ l);
  cond (decide (0 ≤ i_) && decide (i_ < (List.length b : Int)))
  (let e4 : (Int × Int) := List.getD b (Int.toNat i_) ((0 : Int), (0 : Int));
  let at_2 : Int := (if e4.2 > at_ then e4.2 else at_);
  let i_2 : Int := (IntKind.i64.wrap (i_ + (1 : Int)));
  rec b k_ at_2 i_2 t11 t12 t13 l2 s s2)
  none)
  none)
  none)
  (cond (decide (0 ≤ i_) && decide (i_ < (List.length b : Int)))
  (let e3 : (Int × Int) := List.getD b (Int.toNat i_) ((0 : Int), (0 : Int));
  let at_2 : Int := (if e3.2 > at_ then e3.2 else at_);
  let i_2 : Int := (IntKind.i64.wrap (i_ + (1 : Int)));
  rec b k_ at_2 i_2 t11 t12 t13 out s s2)
  none))
  none)
  (k1 b k_ at_ t11 t12 t13 out s s2))
  none)
  (k1 b k_ at_ t11 t12 t13 out s s2)
def zq3s {β : Type} : Nat → zq3g β → (List (Int × Int)) → Int → Int → Int → (List (Int × Int)) → Int → Int → (List (Int × Int)) → Int → Int → Option β
  | 0 => fun _ _ _ _ _ _ _ _ _ _ _ => none
  | i + 1 => fun k1 b k_ at_ i_ t11 t12 t13 out s s2 => zq3r (zq3s i k1) k1 b k_ at_ i_ t11 t12 t13 out s s2
theorem zq3t (hΓ : ΓOk Try.prog span_Without_X.Γ) (i : Nat) : PieceOk Try.prog 89 0 span_Without_p2_code zq3i zq3j (span_Without_p2_G (zq3s i)) := by
  rw [show span_Without_p2_code = .loop (loopBody span_Without_p2_code) by kernel_rfl]
  exact piece_loop (X := span_Without_X) (p := 1) (Λ := pick1 []) (G := fun i => @fun β d ks => span_Without_p2_G (zq3s i) d ks) mixed tab_ok hΓ rfl (by kernel_rfl) CutsOk_nil (fun _ _ => rfl) (fun i => @fun β d ks r h => Eq.trans (b := span_Without_p2_G (zq3s (i + 1)) d ks) (by kernel_rfl) h) i
def zq3u (p1 : zq3d) (p2 : zq3h) {β : Type} (rec : (List (Int × Int)) → Int → (List (Int × Int)) → Int → Int → (List (Int × Int)) → Option β) (k1 : zq3k β) (b : List (Int × Int)) (k_ : Int) (t11 : List (Int × Int)) (t12 : Int) (t13 : Int) (out : List (Int × Int)) : Option β :=
  cond (decide (t13 < t12))
  (cond (decide (0 ≤ t13) && decide (t13 < (List.length t11 : Int)))
  (let e : (Int × Int) := List.getD t11 (Int.toNat t13) ((0 : Int), (0 : Int));
  p1 (fun (b2 : List (Int × Int)) (k_2 : Int) (t112 : List (Int × Int)) (t122 : Int) (t132 : Int) (out2 : List (Int × Int)) (s : Int) (s2 : Int) =>
  p2 (fun (b3 : List (Int × Int)) (k_3 : Int) (at_ : Int) (t113 : List (Int × Int)) (t123 : Int) (t133 : Int) (out3 : List (Int × Int)) (s3 : Int) (s4 : Int) =>
  cond (decide (at_ < s4))
  (let l : List (Int × Int) := ([(at_, s4)] : List (Int × Int));
  cond (decide ((List.length out3 + List.length l) * 16 ≤ roomMax))
  (let l2 : List (Int × Int) := (out3 ++ l);
  rec b3 k_3 t113 t123 (IntKind.i64.wrap (t133 + (1 : Int))) l2)
  none)
  (rec b3 k_3 t113 t123 (IntKind.i64.wrap (t133 + (1 : Int))) out3)) b2 k_2 s k_2 t112 t122 t132 out2 s s2) b k_ t11 t12 t13 out e.1 e.2)
  none)
  (k1 out)
def zq3v (p1 : zq3d) (p2 : zq3h) {β : Type} : Nat → zq3k β → (List (Int × Int)) → Int → (List (Int × Int)) → Int → Int → (List (Int × Int)) → Option β
  | 0 => fun _ _ _ _ _ _ _ => none
  | i + 1 => fun k1 b k_ t11 t12 t13 out => zq3u p1 p2 (zq3v p1 p2 i k1) k1 b k_ t11 t12 t13 out
theorem zq3w (hΓ : ΓOk Try.prog span_Without_X.Γ) (p1 : zq3d) (p2 : zq3h) (hp1 : PieceOk Try.prog 89 0 span_Without_p1_code zq3e zq3f (span_Without_p1_G p1)) (hp2 : PieceOk Try.prog 89 0 span_Without_p2_code zq3i zq3j (span_Without_p2_G p2)) (i : Nat) : PieceOk Try.prog 89 0 span_Without_p3_code zq3m zq3n (span_Without_p3_G (zq3v p1 p2 i)) := by
  rw [show span_Without_p3_code = .loop (loopBody span_Without_p3_code) by kernel_rfl]
  exact piece_loop (X := span_Without_X) (p := 1) (Λ := pick1 [(228, pieceCut zq3e zq3f (span_Without_p1_G p1)), (1850, pieceCut zq3i zq3j (span_Without_p2_G p2))]) (G := fun i => @fun β d ks => span_Without_p3_G (zq3v p1 p2 i) d ks) mixed tab_ok hΓ rfl (by kernel_rfl) (CutsOk_cons (q := 228) (c' := span_Without_p1_code) (by kernel_rfl) rfl hp1 (CutsOk_cons (q := 1850) (c' := span_Without_p2_code) (by kernel_rfl) rfl hp2 CutsOk_nil)) (fun _ _ => rfl) (fun i => @fun β d ks r h => Eq.trans (b := span_Without_p3_G (zq3v p1 p2 (i + 1)) d ks) (by kernel_rfl) h) i
def zq3x (p3 : zq3l) {β : Type} (a : List (Int × Int)) (b : List (Int × Int)) (k : ((List (Int × Int)) → Option β)) : Option β :=
  p3 (fun (out : List (Int × Int)) =>
  k out) b (0 : Int) a (List.length a : Int) (0 : Int) ([] : List (Int × Int))
theorem zq3y (hΓ : ΓOk Try.prog span_Without_X.Γ) (p3 : zq3l) (hp3 : PieceOk Try.prog 89 0 span_Without_p3_code zq3m zq3n (span_Without_p3_G p3)) : SpecOk Try.prog 43 (zq3b (zq3x p3)) :=
  spec_exec (X := span_Without_X) (Λ := pick1 [(122, pieceCut zq3m zq3n (span_Without_p3_G p3))]) (rs := [.tmp 4]) (c := bodyOf Try.f43) mixed tab_ok hΓ Try.func43 (by kernel_rfl) (by kernel_rfl) (by kernel_rfl) (by kernel_rfl) (CutsOk_cons (q := 122) (c' := span_Without_p3_code) (by kernel_rfl) rfl hp3 CutsOk_nil) (fun x k r h => Eq.trans (b := (zq3b (zq3x p3)).run x k) (by kernel_rfl) h)
end
theorem zq3zΓ : ΓOk Try.prog (pick1 []) := ΓOk_nil
def zq40 (m : Nat) : zq3d := zq3p m
theorem zq41 {β : Type} (i : Nat) (k1 b k_ t11 t12 t13 out s s2) : (zq40 (i + 1) k1 b k_ t11 t12 t13 out s s2 : Option β) = zq3o (zq40 i k1) k1 b k_ t11 t12 t13 out s s2 := rfl
def zq42 : zq3d := zq40 fuel
theorem zq43 : PieceOk Try.prog 89 0 span_Without_p1_code zq3e zq3f (span_Without_p1_G zq42) := zq3q zq3zΓ fuel
def zq44 (m : Nat) : zq3h := zq3s m
theorem zq45 {β : Type} (i : Nat) (k1 b k_ at_ i_ t11 t12 t13 out s s2) : (zq44 (i + 1) k1 b k_ at_ i_ t11 t12 t13 out s s2 : Option β) = zq3r (zq44 i k1) k1 b k_ at_ i_ t11 t12 t13 out s s2 := rfl
def zq46 : zq3h := zq44 fuel
theorem zq47 : PieceOk Try.prog 89 0 span_Without_p2_code zq3i zq3j (span_Without_p2_G zq46) := zq3t zq3zΓ fuel
def zq48 (m : Nat) : zq3l := zq3v zq42 zq46 m
theorem zq49 {β : Type} (i : Nat) (k1 b k_ t11 t12 t13 out) : (zq48 (i + 1) k1 b k_ t11 t12 t13 out : Option β) = zq3u zq42 zq46 (zq48 i k1) k1 b k_ t11 t12 t13 out := rfl
def zq4a : zq3l := zq48 fuel
theorem zq4b : PieceOk Try.prog 89 0 span_Without_p3_code zq3m zq3n (span_Without_p3_G zq4a) := zq3w zq3zΓ zq42 zq46 zq43 zq47 fuel
def zq4c : zq3a := zq3x zq4a
theorem zq4d : SpecOk Try.prog 43 (zq3b zq4c) := zq3y zq3zΓ zq4a zq4b

/-- pagewatch/pagewatchref03.Sort -/
abbrev zq4e := {β : Type} → (List Int) → ((List Int) → Option β) → Option β
def zq4f (c : zq4e) : Spec :=
  ⟨[(false, [.data (.slice (.int .i64))])], [], [(false, [.rowh 0])], [.row 3 (.int .i64)], fun x k => c x.1.1.1 (fun r0 => k (((), ()), (r0, ())))⟩
noncomputable def ref03_Sort_p4_code : Code := codeAt 252 (bodyOf Try.f44)
noncomputable def ref03_Sort_p1_code : Code := codeAt 27 (loopBody ref03_Sort_p4_code)
noncomputable def ref03_Sort_p2_code : Code := codeAt 53 (loopBody ref03_Sort_p4_code)
noncomputable def ref03_Sort_p3_code : Code := codeAt 3 (loopBody ref03_Sort_p4_code)
abbrev zq4g (β : Type) := Int → Int → (List Int) → (List Int) → (List Int) → Option β
abbrev zq4h := {β : Type} → zq4g β → Int → Int → Int → (List Int) → (List Int) → (List Int) → Option β
def zq4i : View := ⟨0, [3, 4, 5, 6, 7, 8], [(false, [.rowh 0]), (false, [.rowh 1]), (false, [.rowh 2]), (false, [.data (.int .i64)]), (false, [.data (.int .i64)]), (false, [.data (.int .i64)])], [.row 3 (.int .i64), .row 3 (.int .i64), .row 3 (.int .i64)]⟩
def zq4j : List (AExit × View) := [(.normal, ⟨0, [3, 4, 5, 6, 7], [(false, [.rowh 0]), (false, [.rowh 1]), (false, [.rowh 2]), (false, [.data (.int .i64)]), (false, [.data (.int .i64)])], [.row 3 (.int .i64), .row 3 (.int .i64), .row 3 (.int .i64)]⟩)]
@[reducible] def ref03_Sort_p1_G (p : zq4h) {β : Type} (d : zq4i.den) (ks : Outs.K β zq4j) : Option β :=
  p (fun a0 a1 a2 a3 a4 => ks.1 (((), (), (), (a0, ()), (a1, ()), ()), (a2, a3, a4, ()))) d.1.2.2.2.1.1 d.1.2.2.2.2.1.1 d.1.2.2.2.2.2.1.1 d.2.1 d.2.2.1 d.2.2.2.1
abbrev zq4k (β : Type) := Int → Int → Int → (List Int) → (List Int) → (List Int) → Option β
abbrev zq4l := {β : Type} → zq4k β → Int → Int → Bool → (List Int) → (List Int) → (List Int) → Option β
def zq4m : View := ⟨0, [3, 4, 5, 6, 7, 57], [(false, [.rowh 0]), (false, [.rowh 1]), (false, [.rowh 2]), (false, [.data (.int .i64)]), (false, [.data (.int .i64)]), (false, [.data .bool])], [.row 3 (.int .i64), .row 3 (.int .i64), .row 3 (.int .i64)]⟩
def zq4n : List (AExit × View) := [(.normal, ⟨0, [3, 4, 5, 6, 7, 8], [(false, [.rowh 0]), (false, [.rowh 1]), (false, [.rowh 2]), (false, [.data (.int .i64)]), (false, [.data (.int .i64)]), (false, [.data (.int .i64)])], [.row 3 (.int .i64), .row 3 (.int .i64), .row 3 (.int .i64)]⟩)]
@[reducible] def ref03_Sort_p2_G (p : zq4l) {β : Type} (d : zq4m.den) (ks : Outs.K β zq4n) : Option β :=
  p (fun a0 a1 a2 a3 a4 a5 => ks.1 (((), (), (), (a0, ()), (a1, ()), (a2, ()), ()), (a3, a4, a5, ()))) d.1.2.2.2.1.1 d.1.2.2.2.2.1.1 d.1.2.2.2.2.2.1.1 d.2.1 d.2.2.1 d.2.2.2.1
abbrev zq4o (β : Type) := Int → Int → (List Int) → (List Int) → (List Int) → Option β
abbrev zq4p := {β : Type} → zq4o β → Int → Int → (List Int) → (List Int) → (List Int) → Option β
def zq4q : View := ⟨0, [3, 4, 5, 6, 7], [(false, [.rowh 0]), (false, [.rowh 1]), (false, [.rowh 2]), (false, [.data (.int .i64)]), (false, [.data (.int .i64)])], [.row 3 (.int .i64), .row 3 (.int .i64), .row 3 (.int .i64)]⟩
def zq4r : List (AExit × View) := [(.normal, ⟨0, [3, 4, 5, 6, 7], [(false, [.rowh 0]), (false, [.rowh 1]), (false, [.rowh 2]), (false, [.data (.int .i64)]), (false, [.data (.int .i64)])], [.row 3 (.int .i64), .row 3 (.int .i64), .row 3 (.int .i64)]⟩)]
@[reducible] def ref03_Sort_p3_G (p : zq4p) {β : Type} (d : zq4q.den) (ks : Outs.K β zq4r) : Option β :=
  p (fun a0 a1 a2 a3 a4 => ks.1 (((), (), (), (a0, ()), (a1, ()), ()), (a2, a3, a4, ()))) d.1.2.2.2.1.1 d.1.2.2.2.2.1.1 d.2.1 d.2.2.1 d.2.2.2.1
abbrev zq4s (β : Type) := (List Int) → Option β
abbrev zq4t := {β : Type} → zq4s β → Int → Int → (List Int) → (List Int) → (List Int) → Option β
def zq4u : View := ⟨0, [3, 4, 5, 6, 7], [(false, [.rowh 0]), (false, [.rowh 1]), (false, [.rowh 2]), (false, [.data (.int .i64)]), (false, [.data (.int .i64)])], [.row 3 (.int .i64), .row 3 (.int .i64), .row 3 (.int .i64)]⟩
def zq4v : List (AExit × View) := [(.exit 0, ⟨0, [3], [(false, [.rowh 0])], [.row 3 (.int .i64)]⟩)]
@[reducible] def ref03_Sort_p4_G (p : zq4t) {β : Type} (d : zq4u.den) (ks : Outs.K β zq4v) : Option β :=
  p (fun a0 => ks.1 (((), ()), (a0, ()))) d.1.2.2.2.1.1 d.1.2.2.2.2.1.1 d.2.1 d.2.2.1 d.2.2.2.1
section
variable (c_ref03_Sort : zq4e)
@[reducible] def ref03_Sort_X : Ctx := ⟨look tab, pick1 [(44, .spec (zq4f c_ref03_Sort))], false, false⟩
def zq4w {β : Type} (k1 : zq4g β) (i_ : Int) (j : Int) (x : Int) (out : List Int) (a : List Int) (b : List Int) : Option β :=
  cond (decide ((List.length out : Int) = (0 : Int)))
  (let l : List Int := ([x] : List Int);
  cond (decide ((List.length out + List.length l) * 8 ≤ roomMax))
  (let l2 : List Int := (out ++ l);
  k1 i_ j l2 a b)
  none)
  (cond (decide (0 ≤ (IntKind.i64.wrap ((List.length out : Int) - (1 : Int)))) && decide ((IntKind.i64.wrap ((List.length out : Int) - (1 : Int))) < (List.length out : Int)))
  (cond (!decide ((List.getD out (Int.toNat (IntKind.i64.wrap ((List.length out : Int) - (1 : Int)))) (0 : Int)) = x))
  (let l : List Int := ([x] : List Int);
  cond (decide ((List.length out + List.length l) * 8 ≤ roomMax))
  (let l2 : List Int := (out ++ l);
  k1 i_ j l2 a b)
  none)
  (k1 i_ j out a b))
  none)
def zq4x {β : Type} (k1 : zq4g β) (i_ : Int) (j : Int) (x : Int) (out : List Int) (a : List Int) (b : List Int) : Option β := zq4w k1 i_ j x out a b
theorem zq4y (hΓ : ΓOk Try.prog (ref03_Sort_X c_ref03_Sort).Γ) : PieceOk Try.prog 88 0 ref03_Sort_p1_code zq4i zq4j (ref03_Sort_p1_G (zq4x)) :=
  piece_exec (X := (ref03_Sort_X c_ref03_Sort)) (p := 27) (Λ := pick1 []) mixed tab_ok hΓ (by kernel_rfl) CutsOk_nil (fun d ks r h => Eq.trans (b := ref03_Sort_p1_G (zq4x) d ks) (by kernel_rfl) h)
def zq4z {β : Type} (k1 : zq4k β) (i_ : Int) (j : Int) (t57 : Bool) (out : List Int) (a : List Int) (b : List Int) : Option β :=
  cond t57
  (cond (decide (0 ≤ i_) && decide (i_ < (List.length a : Int)))
  (let x : Int := (List.getD a (Int.toNat i_) (0 : Int));
  let i_2 : Int := (IntKind.i64.wrap (i_ + (1 : Int)));
  k1 i_2 j x out a b)
  none)
  (cond (decide (0 ≤ j) && decide (j < (List.length b : Int)))
  (let x : Int := (List.getD b (Int.toNat j) (0 : Int));
  let j2 : Int := (IntKind.i64.wrap (j + (1 : Int)));
  k1 i_ j2 x out a b)
  none)
def zq50 {β : Type} (k1 : zq4k β) (i_ : Int) (j : Int) (t57 : Bool) (out : List Int) (a : List Int) (b : List Int) : Option β := zq4z k1 i_ j t57 out a b
theorem zq51 (hΓ : ΓOk Try.prog (ref03_Sort_X c_ref03_Sort).Γ) : PieceOk Try.prog 88 0 ref03_Sort_p2_code zq4m zq4n (ref03_Sort_p2_G (zq50)) :=
  piece_exec (X := (ref03_Sort_X c_ref03_Sort)) (p := 53) (Λ := pick1 []) mixed tab_ok hΓ (by kernel_rfl) CutsOk_nil (fun d ks r h => Eq.trans (b := ref03_Sort_p2_G (zq50) d ks) (by kernel_rfl) h)
def zq52 (p1 : zq4h) (p2 : zq4l) {β : Type} (k1 : zq4o β) (i_ : Int) (j : Int) (out : List Int) (a : List Int) (b : List Int) : Option β :=
  cond (decide (j = (List.length b : Int)))
  (p2 (fun (i_2 : Int) (j2 : Int) (x : Int) (out2 : List Int) (a2 : List Int) (b2 : List Int) =>
  p1 (fun (i_3 : Int) (j3 : Int) (out3 : List Int) (a3 : List Int) (b3 : List Int) =>
  k1 i_3 j3 out3 a3 b3) i_2 j2 x out2 a2 b2) i_ j true out a b)
  (cond (decide (i_ < (List.length a : Int)))
  (cond (decide (0 ≤ i_) && decide (i_ < (List.length a : Int)))
  (cond (decide (0 ≤ j) && decide (j < (List.length b : Int)))
  (p2 (fun (i_2 : Int) (j2 : Int) (x : Int) (out2 : List Int) (a2 : List Int) (b2 : List Int) =>
  p1 (fun (i_3 : Int) (j3 : Int) (out3 : List Int) (a3 : List Int) (b3 : List Int) =>
  k1 i_3 j3 out3 a3 b3) i_2 j2 x out2 a2 b2) i_ j (decide ((List.getD a (Int.toNat i_) (0 : Int)) ≤ (List.getD b (Int.toNat j) (0 : Int)))) out a b)
  none)
  none)
  (p2 (fun (i_2 : Int) (j2 : Int) (x : Int) (out2 : List Int) (a2 : List Int) (b2 : List Int) =>
  p1 (fun (i_3 : Int) (j3 : Int) (out3 : List Int) (a3 : List Int) (b3 : List Int) =>
  k1 i_3 j3 out3 a3 b3) i_2 j2 x out2 a2 b2) i_ j false out a b))
def zq53 (p1 : zq4h) (p2 : zq4l) {β : Type} (k1 : zq4o β) (i_ : Int) (j : Int) (out : List Int) (a : List Int) (b : List Int) : Option β := zq52 p1 p2 k1 i_ j out a b
theorem zq54 (hΓ : ΓOk Try.prog (ref03_Sort_X c_ref03_Sort).Γ) (p1 : zq4h) (p2 : zq4l) (hp1 : PieceOk Try.prog 88 0 ref03_Sort_p1_code zq4i zq4j (ref03_Sort_p1_G p1)) (hp2 : PieceOk Try.prog 88 0 ref03_Sort_p2_code zq4m zq4n (ref03_Sort_p2_G p2)) : PieceOk Try.prog 88 0 ref03_Sort_p3_code zq4q zq4r (ref03_Sort_p3_G (zq53 p1 p2)) :=
  piece_exec (X := (ref03_Sort_X c_ref03_Sort)) (p := 3) (Λ := pick1 [(27, pieceCut zq4i zq4j (ref03_Sort_p1_G p1)), (53, pieceCut zq4m zq4n (ref03_Sort_p2_G p2))]) mixed tab_ok hΓ (by kernel_rfl) (CutsOk_cons (q := 27) (c' := ref03_Sort_p1_code) (by kernel_rfl) rfl hp1 (CutsOk_cons (q := 53) (c' := ref03_Sort_p2_code) (by kernel_rfl) rfl hp2 CutsOk_nil)) (fun d ks r h => Eq.trans (b := ref03_Sort_p3_G (zq53 p1 p2) d ks) (by kernel_rfl) h)
def zq55 (p3 : zq4p) {β : Type} (rec : Int → Int → (List Int) → (List Int) → (List Int) → Option β) (k1 : zq4s β) (i_ : Int) (j : Int) (out : List Int) (a : List Int) (b : List Int) : Option β :=
  cond (decide (i_ < (List.length a : Int)))
  (p3 (fun (i_2 : Int) (j2 : Int) (out2 : List Int) (a2 : List Int) (b2 : List Int) =>
  rec i_2 j2 out2 a2 b2) i_ j out a b)
  (cond (decide (j < (List.length b : Int)))
  (p3 (fun (i_2 : Int) (j2 : Int) (out2 : List Int) (a2 : List Int) (b2 : List Int) =>
  rec i_2 j2 out2 a2 b2) i_ j out a b)
  (k1 out))
def zq56 (p3 : zq4p) {β : Type} : Nat → zq4s β → Int → Int → (List Int) → (List Int) → (List Int) → Option β
  | 0 => fun _ _ _ _ _ _ => none
  | i + 1 => fun k1 i_ j out a b => zq55 p3 (zq56 p3 i k1) k1 i_ j out a b
theorem zq57 (hΓ : ΓOk Try.prog (ref03_Sort_X c_ref03_Sort).Γ) (p3 : zq4p) (hp3 : PieceOk Try.prog 88 0 ref03_Sort_p3_code zq4q zq4r (ref03_Sort_p3_G p3)) (i : Nat) : PieceOk Try.prog 88 0 ref03_Sort_p4_code zq4u zq4v (ref03_Sort_p4_G (zq56 p3 i)) := by
  rw [show ref03_Sort_p4_code = .loop (loopBody ref03_Sort_p4_code) by kernel_rfl]
  exact piece_loop (X := (ref03_Sort_X c_ref03_Sort)) (p := 1) (Λ := pick1 [(3, pieceCut zq4q zq4r (ref03_Sort_p3_G p3))]) (G := fun i => @fun β d ks => ref03_Sort_p4_G (zq56 p3 i) d ks) mixed tab_ok hΓ rfl (by kernel_rfl) (CutsOk_cons (q := 3) (c' := ref03_Sort_p3_code) (by kernel_rfl) rfl hp3 CutsOk_nil) (fun _ _ => rfl) (fun i => @fun β d ks r h => Eq.trans (b := ref03_Sort_p4_G (zq56 p3 (i + 1)) d ks) (by kernel_rfl) h) i
def zq58 (p4 : zq4t) {β : Type} (l : List Int) (k : ((List Int) → Option β)) : Option β :=
  cond (decide ((List.length l : Int) < (2 : Int)))
  (cond (decide (List.length l * 8 ≤ roomMax))
  (k l)
  none)
  (cond (!decide ((2 : Int) = 0))
  (cond (decide (0 ≤ (0 : Int)) && (decide ((0 : Int) ≤ (IntKind.i64.wrap (Int.tdiv (List.length l : Int) (2 : Int)))) && decide ((IntKind.i64.wrap (Int.tdiv (List.length l : Int) (2 : Int))) ≤ (List.length l : Int))))
  (c_ref03_Sort (List.drop (Int.toNat (0 : Int)) (List.take (Int.toNat (IntKind.i64.wrap (Int.tdiv (List.length l : Int) (2 : Int)))) l)) (fun (lrSort : List Int) =>
  cond (!decide ((2 : Int) = 0))
  (cond (decide (0 ≤ (IntKind.i64.wrap (Int.tdiv (List.length l : Int) (2 : Int)))) && (decide ((IntKind.i64.wrap (Int.tdiv (List.length l : Int) (2 : Int))) ≤ (List.length l : Int)) && decide ((List.length l : Int) ≤ (List.length l : Int))))
  (c_ref03_Sort (List.drop (Int.toNat (IntKind.i64.wrap (Int.tdiv (List.length l : Int) (2 : Int)))) (List.take (Int.toNat (List.length l : Int)) l)) (fun (lrSort2 : List Int) =>
  p4 (fun (out : List Int) =>
  k out) (0 : Int) (0 : Int) ([] : List Int) lrSort lrSort2))
  none)
  none))
  none)
  none)
theorem zq59 (hΓ : ΓOk Try.prog (ref03_Sort_X c_ref03_Sort).Γ) (p4 : zq4t) (hp4 : PieceOk Try.prog 88 0 ref03_Sort_p4_code zq4u zq4v (ref03_Sort_p4_G p4)) : SpecOk Try.prog 44 (zq4f (zq58 c_ref03_Sort p4)) :=
  spec_exec (X := (ref03_Sort_X c_ref03_Sort)) (Λ := pick1 [(252, pieceCut zq4u zq4v (ref03_Sort_p4_G p4))]) (rs := [.tmp 2]) (c := bodyOf Try.f44) mixed tab_ok hΓ Try.func44 (by kernel_rfl) (by kernel_rfl) (by kernel_rfl) (by kernel_rfl) (CutsOk_cons (q := 252) (c' := ref03_Sort_p4_code) (by kernel_rfl) rfl hp4 CutsOk_nil) (fun x k r h => Eq.trans (b := (zq4f (zq58 c_ref03_Sort p4)).run x k) (by kernel_rfl) h)
end
theorem zq5aΓ (me : zq4e) (hme : SpecOk Try.prog 44 (zq4f me)) : ΓOk Try.prog (pick1 [(44, .spec (zq4f me))]) := (ΓOk_cons hme ΓOk_nil)
def zq5b (me : zq4e) : zq4h := zq4x
theorem zq5c (me : zq4e) (hme : SpecOk Try.prog 44 (zq4f me)) : PieceOk Try.prog 88 0 ref03_Sort_p1_code zq4i zq4j (ref03_Sort_p1_G (zq5b me)) := zq4y me (zq5aΓ me hme)
def zq5d (me : zq4e) : zq4l := zq50
theorem zq5e (me : zq4e) (hme : SpecOk Try.prog 44 (zq4f me)) : PieceOk Try.prog 88 0 ref03_Sort_p2_code zq4m zq4n (ref03_Sort_p2_G (zq5d me)) := zq51 me (zq5aΓ me hme)
def zq5f (me : zq4e) : zq4p := zq53 (zq5b me) (zq5d me)
theorem zq5g (me : zq4e) (hme : SpecOk Try.prog 44 (zq4f me)) : PieceOk Try.prog 88 0 ref03_Sort_p3_code zq4q zq4r (ref03_Sort_p3_G (zq5f me)) := zq54 me (zq5aΓ me hme) (zq5b me) (zq5d me) (zq5c me hme) (zq5e me hme)
def zq5h (me : zq4e) (m : Nat) : zq4t := zq56 (zq5f me) m
theorem zq5i {β : Type} (me : zq4e) (i : Nat) (k1 i_ j out a b) : (zq5h me (i + 1) k1 i_ j out a b : Option β) = zq55 (zq5f me) (zq5h me i k1) k1 i_ j out a b := rfl
def zq5j (me : zq4e) : zq4t := zq5h me fuel
theorem zq5k (me : zq4e) (hme : SpecOk Try.prog 44 (zq4f me)) : PieceOk Try.prog 88 0 ref03_Sort_p4_code zq4u zq4v (ref03_Sort_p4_G (zq5j me)) := zq57 me (zq5aΓ me hme) (zq5f me) (zq5g me hme) fuel
def zq5l : Nat → zq4e
  | 0 => fun _ _ => none
  | i + 1 => zq58 (zq5l i) (zq5j (zq5l i))
theorem zq5m : ∀ i, SpecOk Try.prog 44 (zq4f (zq5l i))
  | 0 => SpecOk.never ⟨_, Try.func44, by kernel_rfl, by kernel_rfl⟩ (fun _ _ => rfl)
  | i + 1 =>
    have hme := zq5m i
    have me_ok := hme
    zq59 (zq5l i) (zq5aΓ (zq5l i) hme) (zq5j (zq5l i)) (zq5k (zq5l i) hme)
theorem zq5n {β : Type} (i : Nat) (l k) : (zq5l (i + 1) l k : Option β) = zq58 (zq5l i) (zq5j (zq5l i)) l k := rfl
def zq5o : zq4e := zq5l fuel
theorem zq5p : SpecOk Try.prog 44 (zq4f zq5o) := zq5m fuel

/-- slices.Clone[[]pagewatch/api.Span,pagewatch/api.Span] -/
abbrev zq5q := {β : Type} → (List (Int × Int)) → ((List (Int × Int)) → Option β) → Option β
def zq5r (c : zq5q) : Spec :=
  ⟨[(false, [.data (.slice (.prod (.int .i64) (.int .i64)))])], [], [(false, [.rowh 0])], [.row 30 (.prod (.int .i64) (.int .i64))], fun x k => c x.1.1.1 (fun r0 => k (((), ()), (r0, ())))⟩
def zq5s : zq5q := fun l k => cloneF (.prod (.int .i64) (.int .i64)) 16 l k
theorem zq5t : SpecOk Try.prog 48 (zq5r zq5s) :=
  clone_ok (et := 30) (e := (.prod (.int .i64) (.int .i64))) (bytes := 16) (by kernel_rfl)
    (spec_exec (X := ⟨look tab, pick1 [], false, false⟩) (Λ := pick1 []) (rs := [.tmp 2]) (c := bodyOf Try.f48) mixed tab_ok ΓOk_nil Try.func48 (by kernel_rfl) (by kernel_rfl) (by kernel_rfl) (by kernel_rfl) CutsOk_nil (fun x k r h => Eq.trans (b := (clone1S 30 (.prod (.int .i64) (.int .i64)) 16).run x k) (by kernel_rfl) h))
    (spec_exec (X := ⟨look tab, pick1 [], false, false⟩) (Λ := pick1 []) (rs := [.tmp 2]) (c := bodyOf Try.f48) mixed tab_ok ΓOk_nil Try.func48 (by kernel_rfl) (by kernel_rfl) (by kernel_rfl) (by kernel_rfl) CutsOk_nil (fun x k r h => Eq.trans (b := (clone2S 30 (.prod (.int .i64) (.int .i64))).run x k) (by kernel_rfl) h))

/-- pagewatch/span.Merge$1 -/
abbrev zq5u := {β : Type} → (Int × Int) → (Bool → Option β) → Option β
def zq5v (c : zq5u) : Spec :=
  ⟨[(true, [.data (.prod (.int .i64) (.int .i64))])], [], [(false, [.data .bool])], [], fun x k => c x.1.1.1 (fun r0 => k (((r0, ()), ()), ()))⟩
section
@[reducible] def span_Merge_f1_X : Ctx := ⟨look tab, pick1 [], false, false⟩
def zq5w {β : Type} (s : (Int × Int)) (k : (Bool → Option β)) : Option β :=
  k (decide (s.2 ≤ s.1))
theorem zq5x (hΓ : ΓOk Try.prog span_Merge_f1_X.Γ) : SpecOk Try.prog 49 (zq5v (zq5w)) :=
  spec_exec (X := span_Merge_f1_X) (Λ := pick1 []) (rs := [.tmp 2]) (c := bodyOf Try.f49) mixed tab_ok hΓ Try.func49 (by kernel_rfl) (by kernel_rfl) (by kernel_rfl) (by kernel_rfl) CutsOk_nil (fun x k r h => Eq.trans (b := (zq5v (zq5w)).run x k) (by kernel_rfl) h)
end
theorem zq5yΓ : ΓOk Try.prog (pick1 []) := ΓOk_nil
def zq5z : zq5u := zq5w
theorem zq60 : SpecOk Try.prog 49 (zq5v zq5z) := zq5x zq5yΓ

/-- pagewatch/span.Gap -/
abbrev zq61 := {β : Type} → (List (Int × Int)) → Int → (Int → Option β) → Option β
def zq62 (c : zq61) : Spec :=
  ⟨[(false, [.data (.slice (.prod (.int .i64) (.int .i64)))]), (false, [.data (.int .i64)])], [], [(false, [.data (.int .i64)])], [], fun x k => c x.1.1.1 x.1.2.1.1 (fun r0 => k (((r0, ()), ()), ()))⟩
noncomputable def span_Gap_p1_code : Code := codeAt 58 (bodyOf Try.f16)
abbrev zq63 (β : Type) := Int → Option β
abbrev zq64 (β : Type) := Int → Option β
abbrev zq65 := {β : Type} → zq63 β → zq64 β → Int → (List (Int × Int)) → Int → Int → Option β
def zq66 : View := ⟨0, [1, 11, 12, 13], [(false, [.data (.int .i64)]), (false, [.data (.slice (.prod (.int .i64) (.int .i64)))]), (false, [.data (.int .i64)]), (false, [.data (.int .i64)])], []⟩
def zq67 : List (AExit × View) := [(.ret, ⟨0, [4], [(false, [.data (.int .i64)])], []⟩), (.exit 0, ⟨0, [1], [(false, [.data (.int .i64)])], []⟩)]
@[reducible] def span_Gap_p1_G (p : zq65) {β : Type} (d : zq66.den) (ks : Outs.K β zq67) : Option β :=
  p (fun a0 => ks.1 (((a0, ()), ()), ())) (fun a0 => ks.2.1 (((a0, ()), ()), ())) d.1.1.1 d.1.2.1.1 d.1.2.2.1.1 d.1.2.2.2.1.1
section
variable (c_span_Valid : zqx)
@[reducible] def span_Gap_X : Ctx := ⟨look tab, pick1 [(22, .spec (zqy c_span_Valid))], false, false⟩
def zq68 {β : Type} (rec : Int → (List (Int × Int)) → Int → Int → Option β) (k1 : zq63 β) (k2 : zq64 β) (x : Int) (t11 : List (Int × Int)) (t12 : Int) (t13 : Int) : Option β :=
  cond (decide (t13 < t12))
  (cond (decide (0 ≤ t13) && decide (t13 < (List.length t11 : Int)))
  (let e : (Int × Int) := List.getD t11 (Int.toNat t13) ((0 : Int), (0 : Int));
  cond (decide (e.1 ≤ x))
  (cond (decide (x < e.2))
  (k1 e.2)
  (rec x t11 t12 (IntKind.i64.wrap (t13 + (1 : Int)))))
  (rec x t11 t12 (IntKind.i64.wrap (t13 + (1 : Int)))))
  none)
  (k2 x)
def zq69 {β : Type} : Nat → zq63 β → zq64 β → Int → (List (Int × Int)) → Int → Int → Option β
  | 0 => fun _ _ _ _ _ _ => none
  | i + 1 => fun k1 k2 x t11 t12 t13 => zq68 (zq69 i k1 k2) k1 k2 x t11 t12 t13
theorem zq6a (hΓ : ΓOk Try.prog (span_Gap_X c_span_Valid).Γ) (i : Nat) : PieceOk Try.prog 31 0 span_Gap_p1_code zq66 zq67 (span_Gap_p1_G (zq69 i)) := by
  rw [show span_Gap_p1_code = .loop (loopBody span_Gap_p1_code) by kernel_rfl]
  exact piece_loop (X := (span_Gap_X c_span_Valid)) (p := 1) (Λ := pick1 []) (G := fun i => @fun β d ks => span_Gap_p1_G (zq69 i) d ks) mixed tab_ok hΓ rfl (by kernel_rfl) CutsOk_nil (fun _ _ => rfl) (fun i => @fun β d ks r h => Eq.trans (b := span_Gap_p1_G (zq69 (i + 1)) d ks) (by kernel_rfl) h) i
def zq6b (p1 : zq65) {β : Type} (l : List (Int × Int)) (x : Int) (k : (Int → Option β)) : Option β :=
  c_span_Valid l (fun (rValid : Bool) =>
  cond (!rValid)
  (k x)
  (p1 (fun (t4 : Int) =>
  k t4) (fun (x2 : Int) =>
  k x2) x l (List.length l : Int) (0 : Int)))
theorem zq6c (hΓ : ΓOk Try.prog (span_Gap_X c_span_Valid).Γ) (p1 : zq65) (hp1 : PieceOk Try.prog 31 0 span_Gap_p1_code zq66 zq67 (span_Gap_p1_G p1)) : SpecOk Try.prog 16 (zq62 (zq6b c_span_Valid p1)) :=
  spec_exec (X := (span_Gap_X c_span_Valid)) (Λ := pick1 [(58, pieceCut zq66 zq67 (span_Gap_p1_G p1))]) (rs := [.tmp 4]) (c := bodyOf Try.f16) mixed tab_ok hΓ Try.func16 (by kernel_rfl) (by kernel_rfl) (by kernel_rfl) (by kernel_rfl) (CutsOk_cons (q := 58) (c' := span_Gap_p1_code) (by kernel_rfl) rfl hp1 CutsOk_nil) (fun x k r h => Eq.trans (b := (zq62 (zq6b c_span_Valid p1)).run x k) (by kernel_rfl) h)
end
theorem zq6dΓ : ΓOk Try.prog (pick1 [(22, .spec (zqy zq1e))]) := (ΓOk_cons zq1f ΓOk_nil)
def zq6e (m : Nat) : zq65 := zq69 m
theorem zq6f {β : Type} (i : Nat) (k1 k2 x t11 t12 t13) : (zq6e (i + 1) k1 k2 x t11 t12 t13 : Option β) = zq68 (zq6e i k1 k2) k1 k2 x t11 t12 t13 := rfl
def zq6g : zq65 := zq6e fuel
theorem zq6h : PieceOk Try.prog 31 0 span_Gap_p1_code zq66 zq67 (span_Gap_p1_G zq6g) := zq6a zq1e zq6dΓ fuel
def zq6i : zq61 := zq6b zq1e zq6g
theorem zq6j : SpecOk Try.prog 16 (zq62 zq6i) := zq6c zq1e zq6dΓ zq6g zq6h

/-- pagewatch/span.Clip -/
abbrev zq6k := {β : Type} → (List (Int × Int)) → Int → Int → (Int → (List (Int × Int)) → Option β) → Option β
def zq6l (c : zq6k) : Spec :=
  ⟨[(false, [.data (.slice (.prod (.int .i64) (.int .i64)))]), (false, [.data (.int .i64)]), (false, [.data (.int .i64)])], [], [(false, [.rowh 0]), (false, [.data (.int .i64)])], [.row 30 (.prod (.int .i64) (.int .i64))], fun x k => c x.1.1.1 x.1.2.1.1 x.1.2.2.1.1 (fun r0 r1 => k (((), (r0, ()), ()), (r1, ())))⟩
section
variable (c_span_Common : zq2j) (c_span_Valid : zqx)
@[reducible] def span_Clip_X : Ctx := ⟨look tab, pick1 [(42, .spec (zq2k c_span_Common)), (22, .spec (zqy c_span_Valid))], false, false⟩
def zq6m {β : Type} (l : List (Int × Int)) (from_ : Int) (to_ : Int) (k : (Int → (List (Int × Int)) → Option β)) : Option β :=
  c_span_Valid l (fun (rValid : Bool) =>
  cond (!rValid)
  (k (8 : Int) ([] : List (Int × Int)))
  (cond (decide (to_ ≤ from_))
  (k (0 : Int) ([] : List (Int × Int)))
  (let l2 : List (Int × Int) := ([(from_, to_)] : List (Int × Int));
  c_span_Common l l2 (fun (lrCommon : List (Int × Int)) =>
  k (0 : Int) lrCommon))))
theorem zq6n (hΓ : ΓOk Try.prog (span_Clip_X c_span_Common c_span_Valid).Γ) : SpecOk Try.prog 21 (zq6l (zq6m c_span_Common c_span_Valid)) :=
  spec_exec (X := (span_Clip_X c_span_Common c_span_Valid)) (Λ := pick1 []) (rs := [.tmp 6, .tmp 7]) (c := bodyOf Try.f21) mixed tab_ok hΓ Try.func21 (by kernel_rfl) (by kernel_rfl) (by kernel_rfl) (by kernel_rfl) CutsOk_nil (fun x k r h => Eq.trans (b := (zq6l (zq6m c_span_Common c_span_Valid)).run x k) (by kernel_rfl) h)
end
theorem zq6oΓ : ΓOk Try.prog (pick1 [(42, .spec (zq2k zq38)), (22, .spec (zqy zq1e))]) := (ΓOk_cons zq39 (ΓOk_cons zq1f ΓOk_nil))
def zq6p : zq6k := zq6m zq38 zq1e
theorem zq6q : SpecOk Try.prog 21 (zq6l zq6p) := zq6n zq38 zq1e zq6oΓ

/-- pagewatch/pagewatchref03.Normal -/
abbrev zq6r := {β : Type} → (List (Int × Int)) → (Int → (List (Int × Int)) → Option β) → Option β
def zq6s (c : zq6r) : Spec :=
  ⟨[(false, [.data (.slice (.prod (.int .i64) (.int .i64)))])], [], [(false, [.rowh 0]), (false, [.data (.int .i64)])], [.row 30 (.prod (.int .i64) (.int .i64))], fun x k => c x.1.1.1 (fun r0 r1 => k (((), (r0, ()), ()), (r1, ())))⟩
noncomputable def ref03_Normal_p1_code : Code := codeAt 250 (bodyOf Try.f24)
noncomputable def ref03_Normal_p5_code : Code := codeAt 4090 (bodyOf Try.f24)
noncomputable def ref03_Normal_p2_code : Code := codeAt 207 (loopBody ref03_Normal_p5_code)
noncomputable def ref03_Normal_p3_code : Code := codeAt 103 (loopBody ref03_Normal_p5_code)
noncomputable def ref03_Normal_p4_code : Code := codeAt 205 (loopBody ref03_Normal_p5_code)
abbrev zq6t (β : Type) := Int → (List (Int × Int)) → Option β
abbrev zq6u (β : Type) := (List Int) → (List (Int × Int)) → (List (Int × Int)) → Option β
abbrev zq6v := {β : Type} → zq6t β → zq6u β → (List (Int × Int)) → Int → (List Int) → (List (Int × Int)) → (List (Int × Int)) → Option β
def zq6w : View := ⟨0, [0, 4, 5, 6, 7], [(false, [.data (.slice (.prod (.int .i64) (.int .i64)))]), (false, [.rowh 0]), (false, [.maph 1]), (false, [.maph 2]), (false, [.data (.int .i64)])], [.row 3 (.int .i64), .map 59 (.int .i64) (.int .i64) false, .map 59 (.int .i64) (.int .i64) false]⟩
def zq6x : List (AExit × View) := [(.ret, ⟨0, [2, 3], [(false, [.rowh 0]), (false, [.data (.int .i64)])], [.row 30 (.prod (.int .i64) (.int .i64))]⟩), (.exit 0, ⟨0, [4, 5, 6], [(false, [.rowh 0]), (false, [.maph 1]), (false, [.maph 2])], [.row 3 (.int .i64), .map 59 (.int .i64) (.int .i64) false, .map 59 (.int .i64) (.int .i64) false]⟩)]
@[reducible] def ref03_Normal_p1_G (p : zq6v) {β : Type} (d : zq6w.den) (ks : Outs.K β zq6x) : Option β :=
  p (fun a0 a1 => ks.1 (((), (a0, ()), ()), (a1, ()))) (fun a0 a1 a2 => ks.2.1 (((), (), (), ()), (a0, a1, a2, ()))) d.1.1.1 d.1.2.2.2.2.1.1 d.2.1 d.2.2.1 d.2.2.2.1
abbrev zq6y (β : Type) := Int → Int → (List Int) → (List (Int × Int)) → (List (Int × Int)) → (List (Int × Int)) → Option β
abbrev zq6z := {β : Type} → zq6y β → Int → Int → Bool → (List Int) → (List (Int × Int)) → (List (Int × Int)) → (List (Int × Int)) → Option β
def zq70 : View := ⟨0, [4, 5, 6, 9, 10, 11, 101], [(false, [.rowh 0]), (false, [.maph 1]), (false, [.maph 2]), (false, [.rowh 3]), (false, [.data (.int .i64)]), (false, [.data (.int .i64)]), (false, [.data .bool])], [.row 3 (.int .i64), .map 59 (.int .i64) (.int .i64) false, .map 59 (.int .i64) (.int .i64) false, .row 30 (.prod (.int .i64) (.int .i64))]⟩
def zq71 : List (AExit × View) := [(.normal, ⟨0, [4, 5, 6, 9, 10, 11], [(false, [.rowh 0]), (false, [.maph 1]), (false, [.maph 2]), (false, [.rowh 3]), (false, [.data (.int .i64)]), (false, [.data (.int .i64)])], [.row 3 (.int .i64), .map 59 (.int .i64) (.int .i64) false, .map 59 (.int .i64) (.int .i64) false, .row 30 (.prod (.int .i64) (.int .i64))]⟩)]
@[reducible] def ref03_Normal_p2_G (p : zq6z) {β : Type} (d : zq70.den) (ks : Outs.K β zq71) : Option β :=
  p (fun a0 a1 a2 a3 a4 a5 => ks.1 (((), (), (), (), (a0, ()), (a1, ()), ()), (a2, a3, a4, a5, ()))) d.1.2.2.2.2.1.1 d.1.2.2.2.2.2.1.1 d.1.2.2.2.2.2.2.1.1 d.2.1 d.2.2.1 d.2.2.2.1 d.2.2.2.2.1
abbrev zq72 (β : Type) := Int → Int → (List Int) → (List (Int × Int)) → (List (Int × Int)) → (List (Int × Int)) → Option β
abbrev zq73 := {β : Type} → zq72 β → Int → Int → Int → (List Int) → (List (Int × Int)) → (List (Int × Int)) → (List (Int × Int)) → Option β
def zq74 : View := ⟨0, [4, 5, 6, 9, 10, 11, 12], [(false, [.rowh 0]), (false, [.maph 1]), (false, [.maph 2]), (false, [.rowh 3]), (false, [.data (.int .i64)]), (false, [.data (.int .i64)]), (false, [.data (.int .i64)])], [.row 3 (.int .i64), .map 59 (.int .i64) (.int .i64) false, .map 59 (.int .i64) (.int .i64) false, .row 30 (.prod (.int .i64) (.int .i64))]⟩
def zq75 : List (AExit × View) := [(.normal, ⟨0, [4, 5, 6, 9, 10, 11], [(false, [.rowh 0]), (false, [.maph 1]), (false, [.maph 2]), (false, [.rowh 3]), (false, [.data (.int .i64)]), (false, [.data (.int .i64)])], [.row 3 (.int .i64), .map 59 (.int .i64) (.int .i64) false, .map 59 (.int .i64) (.int .i64) false, .row 30 (.prod (.int .i64) (.int .i64))]⟩)]
@[reducible] def ref03_Normal_p3_G (p : zq73) {β : Type} (d : zq74.den) (ks : Outs.K β zq75) : Option β :=
  p (fun a0 a1 a2 a3 a4 a5 => ks.1 (((), (), (), (), (a0, ()), (a1, ()), ()), (a2, a3, a4, a5, ()))) d.1.2.2.2.2.1.1 d.1.2.2.2.2.2.1.1 d.1.2.2.2.2.2.2.1.1 d.2.1 d.2.2.1 d.2.2.2.1 d.2.2.2.2.1
abbrev zq76 (β : Type) := Int → Int → Int → (List Int) → (List (Int × Int)) → (List (Int × Int)) → (List (Int × Int)) → Option β
abbrev zq77 := {β : Type} → zq76 β → Int → Int → Int → Bool → (List Int) → (List (Int × Int)) → (List (Int × Int)) → (List (Int × Int)) → Option β
def zq78 : View := ⟨0, [4, 5, 6, 9, 10, 11, 12, 87], [(false, [.rowh 0]), (false, [.maph 1]), (false, [.maph 2]), (false, [.rowh 3]), (false, [.data (.int .i64)]), (false, [.data (.int .i64)]), (false, [.data (.int .i64)]), (false, [.data .bool])], [.row 3 (.int .i64), .map 59 (.int .i64) (.int .i64) false, .map 59 (.int .i64) (.int .i64) false, .row 30 (.prod (.int .i64) (.int .i64))]⟩
def zq79 : List (AExit × View) := [(.normal, ⟨0, [4, 5, 6, 9, 10, 11, 12], [(false, [.rowh 0]), (false, [.maph 1]), (false, [.maph 2]), (false, [.rowh 3]), (false, [.data (.int .i64)]), (false, [.data (.int .i64)]), (false, [.data (.int .i64)])], [.row 3 (.int .i64), .map 59 (.int .i64) (.int .i64) false, .map 59 (.int .i64) (.int .i64) false, .row 30 (.prod (.int .i64) (.int .i64))]⟩)]
@[reducible] def ref03_Normal_p4_G (p : zq77) {β : Type} (d : zq78.den) (ks : Outs.K β zq79) : Option β :=
  p (fun a0 a1 a2 a3 a4 a5 a6 => ks.1 (((), (), (), (), (a0, ()), (a1, ()), (a2, ()), ()), (a3, a4, a5, a6, ()))) d.1.2.2.2.2.1.1 d.1.2.2.2.2.2.1.1 d.1.2.2.2.2.2.2.1.1 d.1.2.2.2.2.2.2.2.1.1 d.2.1 d.2.2.1 d.2.2.2.1 d.2.2.2.2.1
abbrev zq7a (β : Type) := (List (Int × Int)) → Option β
abbrev zq7b := {β : Type} → zq7a β → Int → Int → (List Int) → (List (Int × Int)) → (List (Int × Int)) → (List (Int × Int)) → Option β
def zq7c : View := ⟨0, [4, 5, 6, 9, 10, 11], [(false, [.rowh 0]), (false, [.maph 1]), (false, [.maph 2]), (false, [.rowh 3]), (false, [.data (.int .i64)]), (false, [.data (.int .i64)])], [.row 3 (.int .i64), .map 59 (.int .i64) (.int .i64) false, .map 59 (.int .i64) (.int .i64) false, .row 30 (.prod (.int .i64) (.int .i64))]⟩
def zq7d : List (AExit × View) := [(.exit 2, ⟨0, [9], [(false, [.rowh 0])], [.row 30 (.prod (.int .i64) (.int .i64))]⟩)]
@[reducible] def ref03_Normal_p5_G (p : zq7b) {β : Type} (d : zq7c.den) (ks : Outs.K β zq7d) : Option β :=
  p (fun a0 => ks.1 (((), ()), (a0, ()))) d.1.2.2.2.2.1.1 d.1.2.2.2.2.2.1.1 d.2.1 d.2.2.1 d.2.2.2.1 d.2.2.2.2.1
section
variable (c_ref03_Sort : zq4e)
@[reducible] def ref03_Normal_X : Ctx := ⟨look tab, pick1 [(44, .spec (zq4f c_ref03_Sort))], false, false⟩
def zq7e {β : Type} (rec : (List (Int × Int)) → Int → (List Int) → (List (Int × Int)) → (List (Int × Int)) → Option β) (k1 : zq6t β) (k2 : zq6u β) (l : List (Int × Int)) (i_ : Int) (at_ : List Int) (open_ : List (Int × Int)) (shut : List (Int × Int)) : Option β :=
  cond (decide (i_ < (List.length l : Int)))
  (cond (decide (0 ≤ i_) && decide (i_ < (List.length l : Int)))
  (let e : (Int × Int) := List.getD l (Int.toNat i_) ((0 : Int), (0 : Int));
  cond (decide (e.2 ≤ e.1))
  (let i_2 : Int := (IntKind.i64.wrap (i_ + (1 : Int)));
  rec l i_2 at_ open_ shut)
  (cond (decide (e.1 < (0 : Int)))
  (k1 (1 : Int) ([] : List (Int × Int)))
  (cond (decide ((8589934592 : Int) < e.2))
  (k1 (1 : Int) ([] : List (Int × Int)))
  (let l2 : List Int := ([e.1, e.2] : List Int);
  cond (decide ((List.length at_ + List.length l2) * 8 ≤ roomMax))
  (let l3 : List Int := (at_ ++ l2);
  let g : Int := (mGet (.int .i64) open_ e.1 (0 : Int));
  let m_ : List (Int × Int) := (mPut (.int .i64) open_ e.1 (IntKind.i64.wrap (g + (1 : Int))));
  let g2 : Int := (mGet (.int .i64) shut e.2 (0 : Int));
  let m_2 : List (Int × Int) := (mPut (.int .i64) shut e.2 (IntKind.i64.wrap (g2 + (1 : Int))));
  let i_2 : Int := (IntKind.i64.wrap (i_ + (1 : Int)));
  rec l i_2 l3 m_ m_2)
  none))))
  none)
  (k2 at_ open_ shut)
def zq7f {β : Type} : Nat → zq6t β → zq6u β → (List (Int × Int)) → Int → (List Int) → (List (Int × Int)) → (List (Int × Int)) → Option β
  | 0 => fun _ _ _ _ _ _ _ => none
  | i + 1 => fun k1 k2 l i_ at_ open_ shut => zq7e (zq7f i k1 k2) k1 k2 l i_ at_ open_ shut
theorem zq7g (hΓ : ΓOk Try.prog (ref03_Normal_X c_ref03_Sort).Γ) (i : Nat) : PieceOk Try.prog 113 0 ref03_Normal_p1_code zq6w zq6x (ref03_Normal_p1_G (zq7f i)) := by
  rw [show ref03_Normal_p1_code = .loop (loopBody ref03_Normal_p1_code) by kernel_rfl]
  exact piece_loop (X := (ref03_Normal_X c_ref03_Sort)) (p := 1) (Λ := pick1 []) (G := fun i => @fun β d ks => ref03_Normal_p1_G (zq7f i) d ks) mixed tab_ok hΓ rfl (by kernel_rfl) CutsOk_nil (fun _ _ => rfl) (fun i => @fun β d ks r h => Eq.trans (b := ref03_Normal_p1_G (zq7f (i + 1)) d ks) (by kernel_rfl) h) i
def zq7h {β : Type} (k1 : zq6y β) (depth : Int) (i_ : Int) (t101 : Bool) (at_ : List Int) (open_ : List (Int × Int)) (shut : List (Int × Int)) (out : List (Int × Int)) : Option β :=
  cond t101
  (cond (decide (0 ≤ i_) && decide (i_ < (List.length at_ : Int)))
  (cond (decide (0 ≤ (IntKind.i64.wrap ((List.length out : Int) - (1 : Int)))) && decide ((IntKind.i64.wrap ((List.length out : Int) - (1 : Int))) < (List.length out : Int)))
  (let l : List (Int × Int) := (List.set out (Int.toNat (IntKind.i64.wrap ((List.length out : Int) - (1 : Int)))) ((List.getD out (Int.toNat (IntKind.i64.wrap ((List.length out : Int) - (1 : Int)))) ((0 : Int), (0 : Int))).1, (List.getD at_ (Int.toNat i_) (0 : Int))));
  k1 depth i_ at_ open_ shut l)
  none)
  none)
  (k1 depth i_ at_ open_ shut out)
def zq7i {β : Type} (k1 : zq6y β) (depth : Int) (i_ : Int) (t101 : Bool) (at_ : List Int) (open_ : List (Int × Int)) (shut : List (Int × Int)) (out : List (Int × Int)) : Option β := zq7h k1 depth i_ t101 at_ open_ shut out
theorem zq7j (hΓ : ΓOk Try.prog (ref03_Normal_X c_ref03_Sort).Γ) : PieceOk Try.prog 113 0 ref03_Normal_p2_code zq70 zq71 (ref03_Normal_p2_G (zq7i)) :=
  piece_exec (X := (ref03_Normal_X c_ref03_Sort)) (p := 207) (Λ := pick1 []) mixed tab_ok hΓ (by kernel_rfl) CutsOk_nil (fun d ks r h => Eq.trans (b := ref03_Normal_p2_G (zq7i) d ks) (by kernel_rfl) h)
def zq7k (p2 : zq6z) {β : Type} (k1 : zq72 β) (depth : Int) (i_ : Int) (before : Int) (at_ : List Int) (open_ : List (Int × Int)) (shut : List (Int × Int)) (out : List (Int × Int)) : Option β :=
  cond (decide ((0 : Int) < before))
  (p2 (fun (depth2 : Int) (i_2 : Int) (at_2 : List Int) (open_2 : List (Int × Int)) (shut2 : List (Int × Int)) (out2 : List (Int × Int)) =>
  k1 depth2 i_2 at_2 open_2 shut2 out2) depth i_ (decide (depth = (0 : Int))) at_ open_ shut out)
  (p2 (fun (depth2 : Int) (i_2 : Int) (at_2 : List Int) (open_2 : List (Int × Int)) (shut2 : List (Int × Int)) (out2 : List (Int × Int)) =>
  k1 depth2 i_2 at_2 open_2 shut2 out2) depth i_ false at_ open_ shut out)
def zq7l (p2 : zq6z) {β : Type} (k1 : zq72 β) (depth : Int) (i_ : Int) (before : Int) (at_ : List Int) (open_ : List (Int × Int)) (shut : List (Int × Int)) (out : List (Int × Int)) : Option β := zq7k p2 k1 depth i_ before at_ open_ shut out
theorem zq7m (hΓ : ΓOk Try.prog (ref03_Normal_X c_ref03_Sort).Γ) (p2 : zq6z) (hp2 : PieceOk Try.prog 113 0 ref03_Normal_p2_code zq70 zq71 (ref03_Normal_p2_G p2)) : PieceOk Try.prog 113 0 ref03_Normal_p3_code zq74 zq75 (ref03_Normal_p3_G (zq7l p2)) :=
  piece_exec (X := (ref03_Normal_X c_ref03_Sort)) (p := 103) (Λ := pick1 [(207, pieceCut zq70 zq71 (ref03_Normal_p2_G p2))]) mixed tab_ok hΓ (by kernel_rfl) (CutsOk_cons (q := 207) (c' := ref03_Normal_p2_code) (by kernel_rfl) rfl hp2 CutsOk_nil) (fun d ks r h => Eq.trans (b := ref03_Normal_p3_G (zq7l p2) d ks) (by kernel_rfl) h)
def zq7n {β : Type} (k1 : zq76 β) (depth : Int) (i_ : Int) (before : Int) (t87 : Bool) (at_ : List Int) (open_ : List (Int × Int)) (shut : List (Int × Int)) (out : List (Int × Int)) : Option β :=
  cond t87
  (cond (decide (0 ≤ i_) && decide (i_ < (List.length at_ : Int)))
  (let l : List (Int × Int) := ([((List.getD at_ (Int.toNat i_) (0 : Int)), (0 : Int))] : List (Int × Int));
  cond (decide ((List.length out + List.length l) * 16 ≤ roomMax))
  (let l2 : List (Int × Int) := (out ++ l);
  k1 depth i_ before at_ open_ shut l2)
  none)
  none)
  (k1 depth i_ before at_ open_ shut out)
def zq7o {β : Type} (k1 : zq76 β) (depth : Int) (i_ : Int) (before : Int) (t87 : Bool) (at_ : List Int) (open_ : List (Int × Int)) (shut : List (Int × Int)) (out : List (Int × Int)) : Option β := zq7n k1 depth i_ before t87 at_ open_ shut out
theorem zq7p (hΓ : ΓOk Try.prog (ref03_Normal_X c_ref03_Sort).Γ) : PieceOk Try.prog 113 0 ref03_Normal_p4_code zq78 zq79 (ref03_Normal_p4_G (zq7o)) :=
  piece_exec (X := (ref03_Normal_X c_ref03_Sort)) (p := 205) (Λ := pick1 []) mixed tab_ok hΓ (by kernel_rfl) CutsOk_nil (fun d ks r h => Eq.trans (b := ref03_Normal_p4_G (zq7o) d ks) (by kernel_rfl) h)
def zq7q (p3 : zq73) (p4 : zq77) {β : Type} (rec : Int → Int → (List Int) → (List (Int × Int)) → (List (Int × Int)) → (List (Int × Int)) → Option β) (k1 : zq7a β) (depth : Int) (i_ : Int) (at_ : List Int) (open_ : List (Int × Int)) (shut : List (Int × Int)) (out : List (Int × Int)) : Option β :=
  cond (decide (i_ < (List.length at_ : Int)))
  (cond (decide (0 ≤ i_) && decide (i_ < (List.length at_ : Int)))
  (let g : Int := (mGet (.int .i64) open_ (List.getD at_ (Int.toNat i_) (0 : Int)) (0 : Int));
  cond (decide (0 ≤ i_) && decide (i_ < (List.length at_ : Int)))
  (let g2 : Int := (mGet (.int .i64) shut (List.getD at_ (Int.toNat i_) (0 : Int)) (0 : Int));
  let depth2 : Int := (IntKind.i64.wrap (depth + (IntKind.i64.wrap (g - g2))));
  cond (decide (depth = (0 : Int)))
  (p4 (fun (depth3 : Int) (i_2 : Int) (before : Int) (at_2 : List Int) (open_2 : List (Int × Int)) (shut2 : List (Int × Int)) (out2 : List (Int × Int)) =>
  p3 (fun (depth4 : Int) (i_3 : Int) (at_3 : List Int) (open_3 : List (Int × Int)) (shut3 : List (Int × Int)) (out3 : List (Int × Int)) =>
  let i_4 : Int := (IntKind.i64.wrap (i_3 + (1 : Int)));
  rec depth4 i_4 at_3 open_3 shut3 out3) depth3 i_2 before at_2 open_2 shut2 out2) depth2 i_ depth (decide ((0 : Int) < depth2)) at_ open_ shut out)
  (p4 (fun (depth3 : Int) (i_2 : Int) (before : Int) (at_2 : List Int) (open_2 : List (Int × Int)) (shut2 : List (Int × Int)) (out2 : List (Int × Int)) =>
  p3 (fun (depth4 : Int) (i_3 : Int) (at_3 : List Int) (open_3 : List (Int × Int)) (shut3 : List (Int × Int)) (out3 : List (Int × Int)) =>
  let i_4 : Int := (IntKind.i64.wrap (i_3 + (1 : Int)));
  rec depth4 i_4 at_3 open_3 shut3 out3) depth3 i_2 before at_2 open_2 shut2 out2) depth2 i_ depth false at_ open_ shut out))
  none)
  none)
  (k1 out)
def zq7r (p3 : zq73) (p4 : zq77) {β : Type} : Nat → zq7a β → Int → Int → (List Int) → (List (Int × Int)) → (List (Int × Int)) → (List (Int × Int)) → Option β
  | 0 => fun _ _ _ _ _ _ _ => none
  | i + 1 => fun k1 depth i_ at_ open_ shut out => zq7q p3 p4 (zq7r p3 p4 i k1) k1 depth i_ at_ open_ shut out
theorem zq7s (hΓ : ΓOk Try.prog (ref03_Normal_X c_ref03_Sort).Γ) (p3 : zq73) (p4 : zq77) (hp3 : PieceOk Try.prog 113 0 ref03_Normal_p3_code zq74 zq75 (ref03_Normal_p3_G p3)) (hp4 : PieceOk Try.prog 113 0 ref03_Normal_p4_code zq78 zq79 (ref03_Normal_p4_G p4)) (i : Nat) : PieceOk Try.prog 113 0 ref03_Normal_p5_code zq7c zq7d (ref03_Normal_p5_G (zq7r p3 p4 i)) := by
  rw [show ref03_Normal_p5_code = .loop (loopBody ref03_Normal_p5_code) by kernel_rfl]
  exact piece_loop (X := (ref03_Normal_X c_ref03_Sort)) (p := 1) (Λ := pick1 [(103, pieceCut zq74 zq75 (ref03_Normal_p3_G p3)), (205, pieceCut zq78 zq79 (ref03_Normal_p4_G p4))]) (G := fun i => @fun β d ks => ref03_Normal_p5_G (zq7r p3 p4 i) d ks) mixed tab_ok hΓ rfl (by kernel_rfl) (CutsOk_cons (q := 103) (c' := ref03_Normal_p3_code) (by kernel_rfl) rfl hp3 (CutsOk_cons (q := 205) (c' := ref03_Normal_p4_code) (by kernel_rfl) rfl hp4 CutsOk_nil)) (fun _ _ => rfl) (fun i => @fun β d ks r h => Eq.trans (b := ref03_Normal_p5_G (zq7r p3 p4 (i + 1)) d ks) (by kernel_rfl) h) i
def zq7t (p1 : zq6v) (p5 : zq7b) {β : Type} (l : List (Int × Int)) (k : (Int → (List (Int × Int)) → Option β)) : Option β :=
  cond (decide ((4096 : Int) < (List.length l : Int)))
  (k (5 : Int) ([] : List (Int × Int)))
  (let m_ : List (Int × Int) := ([] : List (Int × Int));
  let m_2 : List (Int × Int) := ([] : List (Int × Int));
  p1 (fun (t3 : Int) (t2 : List (Int × Int)) =>
  k t3 t2) (fun (at_ : List Int) (open_ : List (Int × Int)) (shut : List (Int × Int)) =>
  c_ref03_Sort at_ (fun (lrSort : List Int) =>
  p5 (fun (out : List (Int × Int)) =>
  k (0 : Int) out) (0 : Int) (0 : Int) lrSort open_ shut ([] : List (Int × Int)))) l (0 : Int) ([] : List Int) m_ m_2)
theorem zq7u (hΓ : ΓOk Try.prog (ref03_Normal_X c_ref03_Sort).Γ) (p1 : zq6v) (p5 : zq7b) (hp1 : PieceOk Try.prog 113 0 ref03_Normal_p1_code zq6w zq6x (ref03_Normal_p1_G p1)) (hp5 : PieceOk Try.prog 113 0 ref03_Normal_p5_code zq7c zq7d (ref03_Normal_p5_G p5)) : SpecOk Try.prog 24 (zq6s (zq7t c_ref03_Sort p1 p5)) :=
  spec_exec (X := (ref03_Normal_X c_ref03_Sort)) (Λ := pick1 [(250, pieceCut zq6w zq6x (ref03_Normal_p1_G p1)), (4090, pieceCut zq7c zq7d (ref03_Normal_p5_G p5))]) (rs := [.tmp 2, .tmp 3]) (c := bodyOf Try.f24) mixed tab_ok hΓ Try.func24 (by kernel_rfl) (by kernel_rfl) (by kernel_rfl) (by kernel_rfl) (CutsOk_cons (q := 250) (c' := ref03_Normal_p1_code) (by kernel_rfl) rfl hp1 (CutsOk_cons (q := 4090) (c' := ref03_Normal_p5_code) (by kernel_rfl) rfl hp5 CutsOk_nil)) (fun x k r h => Eq.trans (b := (zq6s (zq7t c_ref03_Sort p1 p5)).run x k) (by kernel_rfl) h)
end
theorem zq7vΓ : ΓOk Try.prog (pick1 [(44, .spec (zq4f zq5o))]) := (ΓOk_cons zq5p ΓOk_nil)
def zq7w (m : Nat) : zq6v := zq7f m
theorem zq7x {β : Type} (i : Nat) (k1 k2 l i_ at_ open_ shut) : (zq7w (i + 1) k1 k2 l i_ at_ open_ shut : Option β) = zq7e (zq7w i k1 k2) k1 k2 l i_ at_ open_ shut := rfl
def zq7y : zq6v := zq7w fuel
theorem zq7z : PieceOk Try.prog 113 0 ref03_Normal_p1_code zq6w zq6x (ref03_Normal_p1_G zq7y) := zq7g zq5o zq7vΓ fuel
def zq80 : zq6z := zq7i
theorem zq81 : PieceOk Try.prog 113 0 ref03_Normal_p2_code zq70 zq71 (ref03_Normal_p2_G zq80) := zq7j zq5o zq7vΓ
def zq82 : zq73 := zq7l zq80
theorem zq83 : PieceOk Try.prog 113 0 ref03_Normal_p3_code zq74 zq75 (ref03_Normal_p3_G zq82) := zq7m zq5o zq7vΓ zq80 zq81
def zq84 : zq77 := zq7o
theorem zq85 : PieceOk Try.prog 113 0 ref03_Normal_p4_code zq78 zq79 (ref03_Normal_p4_G zq84) := zq7p zq5o zq7vΓ
def zq86 (m : Nat) : zq7b := zq7r zq82 zq84 m
theorem zq87 {β : Type} (i : Nat) (k1 depth i_ at_ open_ shut out) : (zq86 (i + 1) k1 depth i_ at_ open_ shut out : Option β) = zq7q zq82 zq84 (zq86 i k1) k1 depth i_ at_ open_ shut out := rfl
def zq88 : zq7b := zq86 fuel
theorem zq89 : PieceOk Try.prog 113 0 ref03_Normal_p5_code zq7c zq7d (ref03_Normal_p5_G zq88) := zq7s zq5o zq7vΓ zq82 zq84 zq83 zq85 fuel
def zq8a : zq6r := zq7t zq5o zq7y zq88
theorem zq8b : SpecOk Try.prog 24 (zq6s zq8a) := zq7u zq5o zq7vΓ zq7y zq88 zq7z zq89

/-- pagewatch/span.two -/
abbrev zq8c := {β : Type} → (List (Int × Int)) → (List (Int × Int)) → (Int → (List (Int × Int)) → Option β) → Option β
def zq8d (c : zq8c) : Spec :=
  ⟨[(false, [.data (.slice (.prod (.int .i64) (.int .i64)))]), (false, [.data (.slice (.prod (.int .i64) (.int .i64)))]), (false, [.fn 42 []])], [], [(false, [.rowh 0]), (false, [.data (.int .i64)])], [.row 30 (.prod (.int .i64) (.int .i64))], fun x k => c x.1.1.1 x.1.2.1.1 (fun r0 r1 => k (((), (r0, ()), ()), (r1, ())))⟩
section
variable (c_span_Common : zq2j) (c_span_Valid : zqx)
@[reducible] def span_two_vspan_Common_X : Ctx := ⟨look tab, pick1 [(42, .spec (zq2k c_span_Common)), (22, .spec (zqy c_span_Valid))], false, false⟩
def zq8e {β : Type} (a : List (Int × Int)) (b : List (Int × Int)) (k : (Int → (List (Int × Int)) → Option β)) : Option β :=
  c_span_Valid a (fun (rValid : Bool) =>
  cond (!rValid)
  (k (8 : Int) ([] : List (Int × Int)))
  (c_span_Valid b (fun (rValid2 : Bool) =>
  cond (!rValid2)
  (k (8 : Int) ([] : List (Int × Int)))
  (c_span_Common a b (fun (lrCommon : List (Int × Int)) =>
  cond (decide ((4096 : Int) < (List.length lrCommon : Int)))
  (k (5 : Int) ([] : List (Int × Int)))
  (k (0 : Int) lrCommon))))))
theorem zq8f (hΓ : ΓOk Try.prog (span_two_vspan_Common_X c_span_Common c_span_Valid).Γ) : SpecOk Try.prog 39 (zq8d (zq8e c_span_Common c_span_Valid)) :=
  spec_exec (X := (span_two_vspan_Common_X c_span_Common c_span_Valid)) (Λ := pick1 []) (rs := [.tmp 6, .tmp 7]) (c := bodyOf Try.f39) mixed tab_ok hΓ Try.func39 (by kernel_rfl) (by kernel_rfl) (by kernel_rfl) (by kernel_rfl) CutsOk_nil (fun x k r h => Eq.trans (b := (zq8d (zq8e c_span_Common c_span_Valid)).run x k) (by kernel_rfl) h)
end
theorem zq8gΓ : ΓOk Try.prog (pick1 [(42, .spec (zq2k zq38)), (22, .spec (zqy zq1e))]) := (ΓOk_cons zq39 (ΓOk_cons zq1f ΓOk_nil))
def zq8h : zq8c := zq8e zq38 zq1e
theorem zq8i : SpecOk Try.prog 39 (zq8d zq8h) := zq8f zq38 zq1e zq8gΓ

/-- pagewatch/span.two -/
abbrev zq8j := {β : Type} → (List (Int × Int)) → (List (Int × Int)) → (Int → (List (Int × Int)) → Option β) → Option β
def zq8k (c : zq8j) : Spec :=
  ⟨[(false, [.data (.slice (.prod (.int .i64) (.int .i64)))]), (false, [.data (.slice (.prod (.int .i64) (.int .i64)))]), (false, [.fn 43 []])], [], [(false, [.rowh 0]), (false, [.data (.int .i64)])], [.row 30 (.prod (.int .i64) (.int .i64))], fun x k => c x.1.1.1 x.1.2.1.1 (fun r0 r1 => k (((), (r0, ()), ()), (r1, ())))⟩
section
variable (c_span_Valid : zqx) (c_span_Without : zq3a)
@[reducible] def span_two_vspan_Without_X : Ctx := ⟨look tab, pick1 [(22, .spec (zqy c_span_Valid)), (43, .spec (zq3b c_span_Without))], false, false⟩
def zq8l {β : Type} (a : List (Int × Int)) (b : List (Int × Int)) (k : (Int → (List (Int × Int)) → Option β)) : Option β :=
  c_span_Valid a (fun (rValid : Bool) =>
  cond (!rValid)
  (k (8 : Int) ([] : List (Int × Int)))
  (c_span_Valid b (fun (rValid2 : Bool) =>
  cond (!rValid2)
  (k (8 : Int) ([] : List (Int × Int)))
  (c_span_Without a b (fun (lrWithout : List (Int × Int)) =>
  cond (decide ((4096 : Int) < (List.length lrWithout : Int)))
  (k (5 : Int) ([] : List (Int × Int)))
  (k (0 : Int) lrWithout))))))
theorem zq8m (hΓ : ΓOk Try.prog (span_two_vspan_Without_X c_span_Valid c_span_Without).Γ) : SpecOk Try.prog 39 (zq8k (zq8l c_span_Valid c_span_Without)) :=
  spec_exec (X := (span_two_vspan_Without_X c_span_Valid c_span_Without)) (Λ := pick1 []) (rs := [.tmp 6, .tmp 7]) (c := bodyOf Try.f39) mixed tab_ok hΓ Try.func39 (by kernel_rfl) (by kernel_rfl) (by kernel_rfl) (by kernel_rfl) CutsOk_nil (fun x k r h => Eq.trans (b := (zq8k (zq8l c_span_Valid c_span_Without)).run x k) (by kernel_rfl) h)
end
theorem zq8nΓ : ΓOk Try.prog (pick1 [(22, .spec (zqy zq1e)), (43, .spec (zq3b zq4c))]) := (ΓOk_cons zq1f (ΓOk_cons zq4d ΓOk_nil))
def zq8o : zq8j := zq8l zq1e zq4c
theorem zq8p : SpecOk Try.prog 39 (zq8k zq8o) := zq8m zq1e zq4c zq8nΓ

/-- slices.Grow[[]pagewatch/api.Span,pagewatch/api.Span] -/
abbrev zq8q := {β : Type} → Int → ((List (Int × Int)) → Option β) → Option β
def zq8r (c : zq8q) : Spec :=
  ⟨[(false, [.nils]), (false, [.data (.int .i64)])], [], [(false, [.rowh 0])], [.row 30 (.prod (.int .i64) (.int .i64))], fun x k => c x.1.2.1.1 (fun r0 => k (((), ()), (r0, ())))⟩
section
@[reducible] def slices_Grow_api_Span_api_Span_vnil_X : Ctx := ⟨look tab, pick1 [], false, true⟩
def zq8s {β : Type} (n : Int) (k : ((List (Int × Int)) → Option β)) : Option β :=
  cond (decide (n < (0 : Int)))
  (none)
  (let n2 : Int := (IntKind.i64.wrap (n - (IntKind.i64.wrap ((0 : Int) - (0 : Int)))));
  cond (decide ((0 : Int) < n2))
  (cond (decide (0 ≤ (0 : Int)) && (decide ((0 : Int) ≤ (0 : Int)) && decide ((0 : Int) ≤ (0 : Int))))
  (cond (decide (0 ≤ n2) && decide (Int.toNat n2 * 16 ≤ roomMax))
  (let l : List (Int × Int) := (List.replicate (Int.toNat n2) ((0 : Int), (0 : Int)));
  cond (decide (0 ≤ (0 : Int)) && decide ((0 : Int) ≤ (List.length l : Int)))
  (let l2 : List (Int × Int) := (List.take (Int.toNat (0 : Int)) l);
  k l2)
  none)
  none)
  none)
  (k ([] : List (Int × Int))))
theorem zq8t (hΓ : ΓOk Try.prog slices_Grow_api_Span_api_Span_vnil_X.Γ) : SpecOk Try.prog 53 (zq8r (zq8s)) :=
  spec_exec (X := slices_Grow_api_Span_api_Span_vnil_X) (Λ := pick1 []) (rs := [.tmp 4]) (c := bodyOf Try.f53) mixed tab_ok hΓ Try.func53 (by kernel_rfl) (by kernel_rfl) (by kernel_rfl) (by kernel_rfl) CutsOk_nil (fun x k r h => Eq.trans (b := (zq8r (zq8s)).run x k) (by kernel_rfl) h)
end
theorem zq8uΓ : ΓOk Try.prog (pick1 []) := ΓOk_nil
def zq8v : zq8q := zq8s
theorem zq8w : SpecOk Try.prog 53 (zq8r zq8v) := zq8t zq8uΓ

/-- (*pagewatch/pagewatchmade.Dice).Set -/
abbrev zq8x := {β : Type} → (List Int × Int) → ((List Int × Int) → (List (Int × Int)) → Option β) → Option β
def zq8y (c : zq8x) : Spec :=
  ⟨[(false, [.ptr 0 0])], [.cells 51 [.data (.prod (.slice (.int .i64)) (.int .i64))]], [(false, [.rowh 1])], [.cells 51 [.data (.prod (.slice (.int .i64)) (.int .i64))], .row 30 (.prod (.int .i64) (.int .i64))], fun x k => c x.2.1.1 (fun r0 r1 => k (((), ()), ((r0, ()), r1, ())))⟩
noncomputable def made_Dice_Set_p1_code : Code := codeAt 58 (bodyOf Try.f11)
abbrev zq8z (β : Type) := (List Int) → Int → (List (Int × Int)) → Option β
abbrev zq90 := {β : Type} → zq8z β → Int → (List Int) → Int → (List (Int × Int)) → Option β
def zq91 : View := ⟨1, [0, 3, 4], [(false, [.ptr 0 0]), (false, [.rowh 1]), (false, [.data (.int .i64)])], [.cells 51 [.data (.slice (.int .i64)), .data (.int .i64)], .row 30 (.prod (.int .i64) (.int .i64))]⟩
def zq92 : List (AExit × View) := [(.exit 0, ⟨1, [3], [(false, [.rowh 1])], [.cells 51 [.data (.slice (.int .i64)), .data (.int .i64)], .row 30 (.prod (.int .i64) (.int .i64))]⟩)]
@[reducible] def made_Dice_Set_p1_G (p : zq90) {β : Type} (d : zq91.den) (ks : Outs.K β zq92) : Option β :=
  p (fun a0 a1 a2 => ks.1 (((), ()), ((a0, a1, ()), a2, ()))) d.1.2.2.1.1 d.2.1.1 d.2.1.2.1 d.2.2.1
section
variable (c_made_Dice_Next : zq1y) (c_made_Dice_Span : zq25) (c_ref03_Normal : zq6r)
@[reducible] def made_Dice_Set_X : Ctx := ⟨look tab, pick1 [(30, .spec (zq1z c_made_Dice_Next)), (35, .spec (zq26 c_made_Dice_Span)), (24, .spec (zq6s c_ref03_Normal))], false, false⟩
def zq93 {β : Type} (rec : Int → (List Int) → Int → (List (Int × Int)) → Option β) (k1 : zq8z β) (i_ : Int) (d : List Int) (d2 : Int) (l : List (Int × Int)) : Option β :=
  cond (decide ((0 : Int) < i_))
  (c_made_Dice_Span (d, d2) (fun (rSpan : (Int × Int)) (mrSpan : (List Int × Int)) =>
  cond (decide (rSpan.1 < rSpan.2))
  (let l2 : List (Int × Int) := ([rSpan] : List (Int × Int));
  cond (decide ((List.length l + List.length l2) * 16 ≤ roomMax))
  (let l3 : List (Int × Int) := (l ++ l2);
  let i_2 : Int := (IntKind.i64.wrap (i_ - (1 : Int)));
  rec i_2 mrSpan.1 mrSpan.2 l3)
  none)
  (let i_2 : Int := (IntKind.i64.wrap (i_ - (1 : Int)));
  rec i_2 mrSpan.1 mrSpan.2 l)))
  (k1 d d2 l)
def zq94 {β : Type} : Nat → zq8z β → Int → (List Int) → Int → (List (Int × Int)) → Option β
  | 0 => fun _ _ _ _ _ => none
  | i + 1 => fun k1 i_ d d2 l => zq93 c_made_Dice_Span (zq94 i k1) k1 i_ d d2 l
theorem zq95 (hΓ : ΓOk Try.prog (made_Dice_Set_X c_made_Dice_Next c_made_Dice_Span c_ref03_Normal).Γ) (i : Nat) : PieceOk Try.prog 31 1 made_Dice_Set_p1_code zq91 zq92 (made_Dice_Set_p1_G (zq94 c_made_Dice_Span i)) := by
  rw [show made_Dice_Set_p1_code = .loop (loopBody made_Dice_Set_p1_code) by kernel_rfl]
  exact piece_loop (X := (made_Dice_Set_X c_made_Dice_Next c_made_Dice_Span c_ref03_Normal)) (p := 1) (Λ := pick1 []) (G := fun i => @fun β d ks => made_Dice_Set_p1_G (zq94 c_made_Dice_Span i) d ks) mixed tab_ok hΓ rfl (by kernel_rfl) CutsOk_nil (fun _ _ => rfl) (fun i => @fun β d ks r h => Eq.trans (b := made_Dice_Set_p1_G (zq94 c_made_Dice_Span (i + 1)) d ks) (by kernel_rfl) h) i
def zq96 (p1 : zq90) {β : Type} (d : (List Int × Int)) (k : ((List Int × Int) → (List (Int × Int)) → Option β)) : Option β :=
  c_made_Dice_Next (7 : Int) d (fun (rNext : Int) (mrNext : (List Int × Int)) =>
  p1 (fun (b0_ : List Int) (b0_2 : Int) (l : List (Int × Int)) =>
  c_ref03_Normal l (fun (rNormal : Int) (lrNormal : List (Int × Int)) =>
  k (b0_, b0_2) lrNormal)) rNext mrNext.1 mrNext.2 ([] : List (Int × Int)))
theorem zq97 (hΓ : ΓOk Try.prog (made_Dice_Set_X c_made_Dice_Next c_made_Dice_Span c_ref03_Normal).Γ) (p1 : zq90) (hp1 : PieceOk Try.prog 31 1 made_Dice_Set_p1_code zq91 zq92 (made_Dice_Set_p1_G p1)) : SpecOk Try.prog 11 (zq8y (zq96 c_made_Dice_Next c_ref03_Normal p1)) :=
  spec_exec (X := (made_Dice_Set_X c_made_Dice_Next c_made_Dice_Span c_ref03_Normal)) (Λ := pick1 [(58, pieceCut zq91 zq92 (made_Dice_Set_p1_G p1))]) (rs := [.tmp 2]) (c := bodyOf Try.f11) mixed tab_ok hΓ Try.func11 (by kernel_rfl) (by kernel_rfl) (by kernel_rfl) (by kernel_rfl) (CutsOk_cons (q := 58) (c' := made_Dice_Set_p1_code) (by kernel_rfl) rfl hp1 CutsOk_nil) (fun x k r h => Eq.trans (b := (zq8y (zq96 c_made_Dice_Next c_ref03_Normal p1)).run x k) (by kernel_rfl) h)
end
theorem zq98Γ : ΓOk Try.prog (pick1 [(30, .spec (zq1z zq23)), (35, .spec (zq26 zq2a)), (24, .spec (zq6s zq8a))]) := (ΓOk_cons zq24 (ΓOk_cons zq2b (ΓOk_cons zq8b ΓOk_nil)))
def zq99 (m : Nat) : zq90 := zq94 zq2a m
theorem zq9a {β : Type} (i : Nat) (k1 i_ d d2 l) : (zq99 (i + 1) k1 i_ d d2 l : Option β) = zq93 zq2a (zq99 i k1) k1 i_ d d2 l := rfl
def zq9b : zq90 := zq99 fuel
theorem zq9c : PieceOk Try.prog 31 1 made_Dice_Set_p1_code zq91 zq92 (made_Dice_Set_p1_G zq9b) := zq95 zq23 zq2a zq8a zq98Γ fuel
def zq9d : zq8x := zq96 zq23 zq8a zq9b
theorem zq9e : SpecOk Try.prog 11 (zq8y zq9d) := zq97 zq23 zq2a zq8a zq98Γ zq9b zq9c

/-- pagewatch/span.Meet -/
abbrev zq9f := {β : Type} → (List (Int × Int)) → (List (Int × Int)) → (Int → (List (Int × Int)) → Option β) → Option β
def zq9g (c : zq9f) : Spec :=
  ⟨[(false, [.data (.slice (.prod (.int .i64) (.int .i64)))]), (false, [.data (.slice (.prod (.int .i64) (.int .i64)))])], [], [(false, [.rowh 0]), (false, [.data (.int .i64)])], [.row 30 (.prod (.int .i64) (.int .i64))], fun x k => c x.1.1.1 x.1.2.1.1 (fun r0 r1 => k (((), (r0, ()), ()), (r1, ())))⟩
section
variable (c_span_two_vspan_Common : zq8c)
@[reducible] def span_Meet_X : Ctx := ⟨look tab, pick1 [(39, .spec (zq8d c_span_two_vspan_Common))], false, false⟩
def zq9h {β : Type} (a : List (Int × Int)) (b : List (Int × Int)) (k : (Int → (List (Int × Int)) → Option β)) : Option β :=
  c_span_two_vspan_Common a b (fun (rtwo : Int) (lrtwo : List (Int × Int)) =>
  k rtwo lrtwo)
theorem zq9i (hΓ : ΓOk Try.prog (span_Meet_X c_span_two_vspan_Common).Γ) : SpecOk Try.prog 19 (zq9g (zq9h c_span_two_vspan_Common)) :=
  spec_exec (X := (span_Meet_X c_span_two_vspan_Common)) (Λ := pick1 []) (rs := [.tmp 4, .tmp 5]) (c := bodyOf Try.f19) mixed tab_ok hΓ Try.func19 (by kernel_rfl) (by kernel_rfl) (by kernel_rfl) (by kernel_rfl) CutsOk_nil (fun x k r h => Eq.trans (b := (zq9g (zq9h c_span_two_vspan_Common)).run x k) (by kernel_rfl) h)
end
theorem zq9jΓ : ΓOk Try.prog (pick1 [(39, .spec (zq8d zq8h))]) := (ΓOk_cons zq8i ΓOk_nil)
def zq9k : zq9f := zq9h zq8h
theorem zq9l : SpecOk Try.prog 19 (zq9g zq9k) := zq9i zq8h zq9jΓ

/-- pagewatch/span.Minus -/
abbrev zq9m := {β : Type} → (List (Int × Int)) → (List (Int × Int)) → (Int → (List (Int × Int)) → Option β) → Option β
def zq9n (c : zq9m) : Spec :=
  ⟨[(false, [.data (.slice (.prod (.int .i64) (.int .i64)))]), (false, [.data (.slice (.prod (.int .i64) (.int .i64)))])], [], [(false, [.rowh 0]), (false, [.data (.int .i64)])], [.row 30 (.prod (.int .i64) (.int .i64))], fun x k => c x.1.1.1 x.1.2.1.1 (fun r0 r1 => k (((), (r0, ()), ()), (r1, ())))⟩
section
variable (c_span_two_vspan_Without : zq8j)
@[reducible] def span_Minus_X : Ctx := ⟨look tab, pick1 [(39, .spec (zq8k c_span_two_vspan_Without))], false, false⟩
def zq9o {β : Type} (a : List (Int × Int)) (b : List (Int × Int)) (k : (Int → (List (Int × Int)) → Option β)) : Option β :=
  c_span_two_vspan_Without a b (fun (rtwo : Int) (lrtwo : List (Int × Int)) =>
  k rtwo lrtwo)
theorem zq9p (hΓ : ΓOk Try.prog (span_Minus_X c_span_two_vspan_Without).Γ) : SpecOk Try.prog 20 (zq9n (zq9o c_span_two_vspan_Without)) :=
  spec_exec (X := (span_Minus_X c_span_two_vspan_Without)) (Λ := pick1 []) (rs := [.tmp 4, .tmp 5]) (c := bodyOf Try.f20) mixed tab_ok hΓ Try.func20 (by kernel_rfl) (by kernel_rfl) (by kernel_rfl) (by kernel_rfl) CutsOk_nil (fun x k r h => Eq.trans (b := (zq9n (zq9o c_span_two_vspan_Without)).run x k) (by kernel_rfl) h)
end
theorem zq9qΓ : ΓOk Try.prog (pick1 [(39, .spec (zq8k zq8o))]) := (ΓOk_cons zq8p ΓOk_nil)
def zq9r : zq9m := zq9o zq8o
theorem zq9s : SpecOk Try.prog 20 (zq9n zq9r) := zq9p zq8o zq9qΓ

/-- slices.Concat[[]pagewatch/api.Span,pagewatch/api.Span] -/
abbrev zq9t := {β : Type} → (List (List (Int × Int))) → ((List (Int × Int)) → Option β) → Option β
def zq9u (c : zq9t) : Spec :=
  ⟨[(false, [.data (.slice (.slice (.prod (.int .i64) (.int .i64))))])], [], [(false, [.rowh 0])], [.row 30 (.prod (.int .i64) (.int .i64))], fun x k => c x.1.1.1 (fun r0 => k (((), ()), (r0, ())))⟩
noncomputable def slices_Concat_api_Span_api_Span_p1_code : Code := codeAt 58 (bodyOf Try.f41)
noncomputable def slices_Concat_api_Span_api_Span_p2_code : Code := codeAt 250 (bodyOf Try.f41)
abbrev zq9v (β : Type) := (List (List (Int × Int))) → Int → Option β
abbrev zq9w := {β : Type} → zq9v β → (List (List (Int × Int))) → Int → (List (List (Int × Int))) → Int → Int → Option β
def zq9x : View := ⟨0, [0, 3, 9, 10, 11], [(false, [.data (.slice (.slice (.prod (.int .i64) (.int .i64))))]), (false, [.data (.int .i64)]), (false, [.data (.slice (.slice (.prod (.int .i64) (.int .i64))))]), (false, [.data (.int .i64)]), (false, [.data (.int .i64)])], []⟩
def zq9y : List (AExit × View) := [(.exit 0, ⟨0, [0, 3], [(false, [.data (.slice (.slice (.prod (.int .i64) (.int .i64))))]), (false, [.data (.int .i64)])], []⟩)]
@[reducible] def slices_Concat_api_Span_api_Span_p1_G (p : zq9w) {β : Type} (d : zq9x.den) (ks : Outs.K β zq9y) : Option β :=
  p (fun a0 a1 => ks.1 (((a0, ()), (a1, ()), ()), ())) d.1.1.1 d.1.2.1.1 d.1.2.2.1.1 d.1.2.2.2.1.1 d.1.2.2.2.2.1.1
abbrev zq9z (β : Type) := (List (Int × Int)) → Option β
abbrev zqa0 := {β : Type} → zq9z β → (List (List (Int × Int))) → Int → Int → (List (Int × Int)) → Option β
def zqa1 : View := ⟨0, [6, 25, 26, 27], [(false, [.rowh 0]), (false, [.data (.slice (.slice (.prod (.int .i64) (.int .i64))))]), (false, [.data (.int .i64)]), (false, [.data (.int .i64)])], [.row 30 (.prod (.int .i64) (.int .i64))]⟩
def zqa2 : List (AExit × View) := [(.exit 2, ⟨0, [6], [(false, [.rowh 0])], [.row 30 (.prod (.int .i64) (.int .i64))]⟩)]
@[reducible] def slices_Concat_api_Span_api_Span_p2_G (p : zqa0) {β : Type} (d : zqa1.den) (ks : Outs.K β zqa2) : Option β :=
  p (fun a0 => ks.1 (((), ()), (a0, ()))) d.1.2.1.1 d.1.2.2.1.1 d.1.2.2.2.1.1 d.2.1
section
variable (c_slices_Grow_api_Span_api_Span_vnil : zq8q)
@[reducible] def slices_Concat_api_Span_api_Span_X : Ctx := ⟨look tab, pick1 [(53, .spec (zq8r c_slices_Grow_api_Span_api_Span_vnil))], false, false⟩
def zqa3 {β : Type} (rec : (List (List (Int × Int))) → Int → (List (List (Int × Int))) → Int → Int → Option β) (k1 : zq9v β) (slices : List (List (Int × Int))) (size : Int) (t9 : List (List (Int × Int))) (t10 : Int) (t11 : Int) : Option β :=
  cond (decide (t11 < t10))
  (cond (decide (0 ≤ t11) && decide (t11 < (List.length t9 : Int)))
  (let e : List (Int × Int) := List.getD t9 (Int.toNat t11) ([] : List (Int × Int));
  let size2 : Int := (IntKind.i64.wrap (size + (List.length e : Int)));
  cond (decide (size2 < (0 : Int)))
  (none)
  (rec slices size2 t9 t10 (IntKind.i64.wrap (t11 + (1 : Int)))))
  none)
  (k1 slices size)
def zqa4 {β : Type} : Nat → zq9v β → (List (List (Int × Int))) → Int → (List (List (Int × Int))) → Int → Int → Option β
  | 0 => fun _ _ _ _ _ _ => none
  | i + 1 => fun k1 slices size t9 t10 t11 => zqa3 (zqa4 i k1) k1 slices size t9 t10 t11
theorem zqa5 (hΓ : ΓOk Try.prog (slices_Concat_api_Span_api_Span_X c_slices_Grow_api_Span_api_Span_vnil).Γ) (i : Nat) : PieceOk Try.prog 36 0 slices_Concat_api_Span_api_Span_p1_code zq9x zq9y (slices_Concat_api_Span_api_Span_p1_G (zqa4 i)) := by
  rw [show slices_Concat_api_Span_api_Span_p1_code = .loop (loopBody slices_Concat_api_Span_api_Span_p1_code) by kernel_rfl]
  exact piece_loop (X := (slices_Concat_api_Span_api_Span_X c_slices_Grow_api_Span_api_Span_vnil)) (p := 1) (Λ := pick1 []) (G := fun i => @fun β d ks => slices_Concat_api_Span_api_Span_p1_G (zqa4 i) d ks) mixed tab_ok hΓ rfl (by kernel_rfl) CutsOk_nil (fun _ _ => rfl) (fun i => @fun β d ks r h => Eq.trans (b := slices_Concat_api_Span_api_Span_p1_G (zqa4 (i + 1)) d ks) (by kernel_rfl) h) i
def zqa6 {β : Type} (rec : (List (List (Int × Int))) → Int → Int → (List (Int × Int)) → Option β) (k1 : zq9z β) (t25 : List (List (Int × Int))) (t26 : Int) (t27 : Int) (newslice : List (Int × Int)) : Option β :=
  cond (decide (t27 < t26))
  (cond (decide (0 ≤ t27) && decide (t27 < (List.length t25 : Int)))
  (let e : List (Int × Int) := List.getD t25 (Int.toNat t27) ([] : List (Int × Int));
  cond (decide ((List.length newslice + List.length e) * 16 ≤ roomMax))
  (let l : List (Int × Int) := (newslice ++ e);
  rec t25 t26 (IntKind.i64.wrap (t27 + (1 : Int))) l)
  none)
  none)
  (k1 newslice)
def zqa7 {β : Type} : Nat → zq9z β → (List (List (Int × Int))) → Int → Int → (List (Int × Int)) → Option β
  | 0 => fun _ _ _ _ _ => none
  | i + 1 => fun k1 t25 t26 t27 newslice => zqa6 (zqa7 i k1) k1 t25 t26 t27 newslice
theorem zqa8 (hΓ : ΓOk Try.prog (slices_Concat_api_Span_api_Span_X c_slices_Grow_api_Span_api_Span_vnil).Γ) (i : Nat) : PieceOk Try.prog 36 0 slices_Concat_api_Span_api_Span_p2_code zqa1 zqa2 (slices_Concat_api_Span_api_Span_p2_G (zqa7 i)) := by
  rw [show slices_Concat_api_Span_api_Span_p2_code = .loop (loopBody slices_Concat_api_Span_api_Span_p2_code) by kernel_rfl]
  exact piece_loop (X := (slices_Concat_api_Span_api_Span_X c_slices_Grow_api_Span_api_Span_vnil)) (p := 1) (Λ := pick1 []) (G := fun i => @fun β d ks => slices_Concat_api_Span_api_Span_p2_G (zqa7 i) d ks) mixed tab_ok hΓ rfl (by kernel_rfl) CutsOk_nil (fun _ _ => rfl) (fun i => @fun β d ks r h => Eq.trans (b := slices_Concat_api_Span_api_Span_p2_G (zqa7 (i + 1)) d ks) (by kernel_rfl) h) i
def zqa9 (p1 : zq9w) (p2 : zqa0) {β : Type} (slices : List (List (Int × Int))) (k : ((List (Int × Int)) → Option β)) : Option β :=
  p1 (fun (slices2 : List (List (Int × Int))) (size : Int) =>
  c_slices_Grow_api_Span_api_Span_vnil size (fun (lrSpan : List (Int × Int)) =>
  p2 (fun (newslice : List (Int × Int)) =>
  k newslice) slices2 (List.length slices2 : Int) (0 : Int) lrSpan)) slices (0 : Int) slices (List.length slices : Int) (0 : Int)
theorem zqaa (hΓ : ΓOk Try.prog (slices_Concat_api_Span_api_Span_X c_slices_Grow_api_Span_api_Span_vnil).Γ) (p1 : zq9w) (p2 : zqa0) (hp1 : PieceOk Try.prog 36 0 slices_Concat_api_Span_api_Span_p1_code zq9x zq9y (slices_Concat_api_Span_api_Span_p1_G p1)) (hp2 : PieceOk Try.prog 36 0 slices_Concat_api_Span_api_Span_p2_code zqa1 zqa2 (slices_Concat_api_Span_api_Span_p2_G p2)) : SpecOk Try.prog 41 (zq9u (zqa9 c_slices_Grow_api_Span_api_Span_vnil p1 p2)) :=
  spec_exec (X := (slices_Concat_api_Span_api_Span_X c_slices_Grow_api_Span_api_Span_vnil)) (Λ := pick1 [(58, pieceCut zq9x zq9y (slices_Concat_api_Span_api_Span_p1_G p1)), (250, pieceCut zqa1 zqa2 (slices_Concat_api_Span_api_Span_p2_G p2))]) (rs := [.tmp 2]) (c := bodyOf Try.f41) mixed tab_ok hΓ Try.func41 (by kernel_rfl) (by kernel_rfl) (by kernel_rfl) (by kernel_rfl) (CutsOk_cons (q := 58) (c' := slices_Concat_api_Span_api_Span_p1_code) (by kernel_rfl) rfl hp1 (CutsOk_cons (q := 250) (c' := slices_Concat_api_Span_api_Span_p2_code) (by kernel_rfl) rfl hp2 CutsOk_nil)) (fun x k r h => Eq.trans (b := (zq9u (zqa9 c_slices_Grow_api_Span_api_Span_vnil p1 p2)).run x k) (by kernel_rfl) h)
end
theorem zqabΓ : ΓOk Try.prog (pick1 [(53, .spec (zq8r zq8v))]) := (ΓOk_cons zq8w ΓOk_nil)
def zqac (m : Nat) : zq9w := zqa4 m
theorem zqad {β : Type} (i : Nat) (k1 slices size t9 t10 t11) : (zqac (i + 1) k1 slices size t9 t10 t11 : Option β) = zqa3 (zqac i k1) k1 slices size t9 t10 t11 := rfl
def zqae : zq9w := zqac fuel
theorem zqaf : PieceOk Try.prog 36 0 slices_Concat_api_Span_api_Span_p1_code zq9x zq9y (slices_Concat_api_Span_api_Span_p1_G zqae) := zqa5 zq8v zqabΓ fuel
def zqag (m : Nat) : zqa0 := zqa7 m
theorem zqah {β : Type} (i : Nat) (k1 t25 t26 t27 newslice) : (zqag (i + 1) k1 t25 t26 t27 newslice : Option β) = zqa6 (zqag i k1) k1 t25 t26 t27 newslice := rfl
def zqai : zqa0 := zqag fuel
theorem zqaj : PieceOk Try.prog 36 0 slices_Concat_api_Span_api_Span_p2_code zqa1 zqa2 (slices_Concat_api_Span_api_Span_p2_G zqai) := zqa8 zq8v zqabΓ fuel
def zqak : zq9t := zqa9 zq8v zqae zqai
theorem zqal : SpecOk Try.prog 41 (zq9u zqak) := zqaa zq8v zqabΓ zqae zqai zqaf zqaj

/-- slices.IndexFunc[[]pagewatch/api.Span,pagewatch/api.Span] -/
abbrev zqam := {β : Type} → (List (Int × Int)) → Int → (Int → Int → Option β) → Option β
def zqan (c : zqam) : Spec :=
  ⟨[(false, [.data (.slice (.prod (.int .i64) (.int .i64)))]), (false, [.fn 38 [0]])], [.cells 3 [.data (.int .i64)]], [(false, [.data (.int .i64)])], [.cells 3 [.data (.int .i64)]], fun x k => c x.1.1.1 x.2.1.1 (fun r0 r1 => k (((r0, ()), ()), ((r1, ()), ())))⟩
noncomputable def slices_IndexFunc_api_Span_api_Span_vspan_Has_f1_p1_code : Code := codeAt 26 (bodyOf Try.f52)
abbrev zqao (β : Type) := Int → Int → Option β
abbrev zqap (β : Type) := Int → Option β
abbrev zqaq := {β : Type} → zqao β → zqap β → (List (Int × Int)) → Int → Int → Int → Option β
def zqar : View := ⟨1, [0, 1, 7, 8], [(false, [.data (.slice (.prod (.int .i64) (.int .i64)))]), (false, [.fn 38 [0]]), (false, [.data (.int .i64)]), (false, [.data (.int .i64)])], [.cells 3 [.data (.int .i64)]]⟩
def zqas : List (AExit × View) := [(.ret, ⟨1, [4], [(false, [.data (.int .i64)])], [.cells 3 [.data (.int .i64)]]⟩), (.exit 0, ⟨1, [], [], [.cells 3 [.data (.int .i64)]]⟩)]
@[reducible] def slices_IndexFunc_api_Span_api_Span_vspan_Has_f1_p1_G (p : zqaq) {β : Type} (d : zqar.den) (ks : Outs.K β zqas) : Option β :=
  p (fun a0 a1 => ks.1 (((a0, ()), ()), ((a1, ()), ()))) (fun a0 => ks.2.1 ((), ((a0, ()), ()))) d.1.1.1 d.1.2.2.1.1 d.1.2.2.2.1.1 d.2.1.1
section
variable (c_span_Has_f1 : zq2c)
@[reducible] def slices_IndexFunc_api_Span_api_Span_vspan_Has_f1_X : Ctx := ⟨look tab, pick1 [(38, .spec (zq2d c_span_Has_f1))], false, false⟩
def zqat {β : Type} (rec : (List (Int × Int)) → Int → Int → Int → Option β) (k1 : zqao β) (k2 : zqap β) (s : List (Int × Int)) (t7 : Int) (t8 : Int) (b0_ : Int) : Option β :=
  cond (decide (t8 < t7))
  (cond (decide (0 ≤ t8) && decide (t8 < (List.length s : Int)))
  (let e : (Int × Int) := List.getD s (Int.toNat t8) ((0 : Int), (0 : Int));
  c_span_Has_f1 e b0_ (fun (rHas1 : Bool) (mrHas1 : Int) =>
  cond rHas1
  (k1 t8 mrHas1)
  (rec s t7 (IntKind.i64.wrap (t8 + (1 : Int))) mrHas1)))
  none)
  (k2 b0_)
def zqau {β : Type} : Nat → zqao β → zqap β → (List (Int × Int)) → Int → Int → Int → Option β
  | 0 => fun _ _ _ _ _ _ => none
  | i + 1 => fun k1 k2 s t7 t8 b0_ => zqat c_span_Has_f1 (zqau i k1 k2) k1 k2 s t7 t8 b0_
theorem zqav (hΓ : ΓOk Try.prog (slices_IndexFunc_api_Span_api_Span_vspan_Has_f1_X c_span_Has_f1).Γ) (i : Nat) : PieceOk Try.prog 19 1 slices_IndexFunc_api_Span_api_Span_vspan_Has_f1_p1_code zqar zqas (slices_IndexFunc_api_Span_api_Span_vspan_Has_f1_p1_G (zqau c_span_Has_f1 i)) := by
  rw [show slices_IndexFunc_api_Span_api_Span_vspan_Has_f1_p1_code = .loop (loopBody slices_IndexFunc_api_Span_api_Span_vspan_Has_f1_p1_code) by kernel_rfl]
  exact piece_loop (X := (slices_IndexFunc_api_Span_api_Span_vspan_Has_f1_X c_span_Has_f1)) (p := 1) (Λ := pick1 []) (G := fun i => @fun β d ks => slices_IndexFunc_api_Span_api_Span_vspan_Has_f1_p1_G (zqau c_span_Has_f1 i) d ks) mixed tab_ok hΓ rfl (by kernel_rfl) CutsOk_nil (fun _ _ => rfl) (fun i => @fun β d ks r h => Eq.trans (b := slices_IndexFunc_api_Span_api_Span_vspan_Has_f1_p1_G (zqau c_span_Has_f1 (i + 1)) d ks) (by kernel_rfl) h) i
def zqaw (p1 : zqaq) {β : Type} (s : List (Int × Int)) (b0_ : Int) (k : (Int → Int → Option β)) : Option β :=
  p1 (fun (t4 : Int) (b0_2 : Int) =>
  k t4 b0_2) (fun (b0_2 : Int) =>
  k (-1 : Int) b0_2) s (List.length s : Int) (0 : Int) b0_
theorem zqax (hΓ : ΓOk Try.prog (slices_IndexFunc_api_Span_api_Span_vspan_Has_f1_X c_span_Has_f1).Γ) (p1 : zqaq) (hp1 : PieceOk Try.prog 19 1 slices_IndexFunc_api_Span_api_Span_vspan_Has_f1_p1_code zqar zqas (slices_IndexFunc_api_Span_api_Span_vspan_Has_f1_p1_G p1)) : SpecOk Try.prog 52 (zqan (zqaw p1)) :=
  spec_exec (X := (slices_IndexFunc_api_Span_api_Span_vspan_Has_f1_X c_span_Has_f1)) (Λ := pick1 [(26, pieceCut zqar zqas (slices_IndexFunc_api_Span_api_Span_vspan_Has_f1_p1_G p1))]) (rs := [.tmp 4]) (c := bodyOf Try.f52) mixed tab_ok hΓ Try.func52 (by kernel_rfl) (by kernel_rfl) (by kernel_rfl) (by kernel_rfl) (CutsOk_cons (q := 26) (c' := slices_IndexFunc_api_Span_api_Span_vspan_Has_f1_p1_code) (by kernel_rfl) rfl hp1 CutsOk_nil) (fun x k r h => Eq.trans (b := (zqan (zqaw p1)).run x k) (by kernel_rfl) h)
end
theorem zqayΓ : ΓOk Try.prog (pick1 [(38, .spec (zq2d zq2h))]) := (ΓOk_cons zq2i ΓOk_nil)
def zqaz (m : Nat) : zqaq := zqau zq2h m
theorem zqb0 {β : Type} (i : Nat) (k1 k2 s t7 t8 b0_) : (zqaz (i + 1) k1 k2 s t7 t8 b0_ : Option β) = zqat zq2h (zqaz i k1 k2) k1 k2 s t7 t8 b0_ := rfl
def zqb1 : zqaq := zqaz fuel
theorem zqb2 : PieceOk Try.prog 19 1 slices_IndexFunc_api_Span_api_Span_vspan_Has_f1_p1_code zqar zqas (slices_IndexFunc_api_Span_api_Span_vspan_Has_f1_p1_G zqb1) := zqav zq2h zqayΓ fuel
def zqb3 : zqam := zqaw zqb1
theorem zqb4 : SpecOk Try.prog 52 (zqan zqb3) := zqax zq2h zqayΓ zqb1 zqb2

/-- slices.IndexFunc[[]pagewatch/api.Span,pagewatch/api.Span] -/
abbrev zqb5 := {β : Type} → (List (Int × Int)) → (Int → Option β) → Option β
def zqb6 (c : zqb5) : Spec :=
  ⟨[(false, [.data (.slice (.prod (.int .i64) (.int .i64)))]), (false, [.fn 49 []])], [], [(false, [.data (.int .i64)])], [], fun x k => c x.1.1.1 (fun r0 => k (((r0, ()), ()), ()))⟩
noncomputable def slices_IndexFunc_api_Span_api_Span_vspan_Merge_f1_p1_code : Code := codeAt 26 (bodyOf Try.f52)
abbrev zqb7 (β : Type) := Int → Option β
abbrev zqb8 (β : Type) := Unit → Option β
abbrev zqb9 := {β : Type} → zqb7 β → zqb8 β → (List (Int × Int)) → Int → Int → Option β
def zqba : View := ⟨0, [0, 1, 7, 8], [(false, [.data (.slice (.prod (.int .i64) (.int .i64)))]), (false, [.fn 49 []]), (false, [.data (.int .i64)]), (false, [.data (.int .i64)])], []⟩
def zqbb : List (AExit × View) := [(.ret, ⟨0, [4], [(false, [.data (.int .i64)])], []⟩), (.exit 0, ⟨0, [], [], []⟩)]
@[reducible] def slices_IndexFunc_api_Span_api_Span_vspan_Merge_f1_p1_G (p : zqb9) {β : Type} (d : zqba.den) (ks : Outs.K β zqbb) : Option β :=
  p (fun a0 => ks.1 (((a0, ()), ()), ())) (fun _ => ks.2.1 ((), ())) d.1.1.1 d.1.2.2.1.1 d.1.2.2.2.1.1
section
variable (c_span_Merge_f1 : zq5u)
@[reducible] def slices_IndexFunc_api_Span_api_Span_vspan_Merge_f1_X : Ctx := ⟨look tab, pick1 [(49, .spec (zq5v c_span_Merge_f1))], false, false⟩
def zqbc {β : Type} (rec : (List (Int × Int)) → Int → Int → Option β) (k1 : zqb7 β) (k2 : zqb8 β) (s : List (Int × Int)) (t7 : Int) (t8 : Int) : Option β :=
  cond (decide (t8 < t7))
  (cond (decide (0 ≤ t8) && decide (t8 < (List.length s : Int)))
  (let e : (Int × Int) := List.getD s (Int.toNat t8) ((0 : Int), (0 : Int));
  c_span_Merge_f1 e (fun (rMerge1 : Bool) =>
  cond rMerge1
  (k1 t8)
  (rec s t7 (IntKind.i64.wrap (t8 + (1 : Int))))))
  none)
  (k2 ())
def zqbd {β : Type} : Nat → zqb7 β → zqb8 β → (List (Int × Int)) → Int → Int → Option β
  | 0 => fun _ _ _ _ _ => none
  | i + 1 => fun k1 k2 s t7 t8 => zqbc c_span_Merge_f1 (zqbd i k1 k2) k1 k2 s t7 t8
theorem zqbe (hΓ : ΓOk Try.prog (slices_IndexFunc_api_Span_api_Span_vspan_Merge_f1_X c_span_Merge_f1).Γ) (i : Nat) : PieceOk Try.prog 19 0 slices_IndexFunc_api_Span_api_Span_vspan_Merge_f1_p1_code zqba zqbb (slices_IndexFunc_api_Span_api_Span_vspan_Merge_f1_p1_G (zqbd c_span_Merge_f1 i)) := by
  rw [show slices_IndexFunc_api_Span_api_Span_vspan_Merge_f1_p1_code = .loop (loopBody slices_IndexFunc_api_Span_api_Span_vspan_Merge_f1_p1_code) by kernel_rfl]
  exact piece_loop (X := (slices_IndexFunc_api_Span_api_Span_vspan_Merge_f1_X c_span_Merge_f1)) (p := 1) (Λ := pick1 []) (G := fun i => @fun β d ks => slices_IndexFunc_api_Span_api_Span_vspan_Merge_f1_p1_G (zqbd c_span_Merge_f1 i) d ks) mixed tab_ok hΓ rfl (by kernel_rfl) CutsOk_nil (fun _ _ => rfl) (fun i => @fun β d ks r h => Eq.trans (b := slices_IndexFunc_api_Span_api_Span_vspan_Merge_f1_p1_G (zqbd c_span_Merge_f1 (i + 1)) d ks) (by kernel_rfl) h) i
def zqbf (p1 : zqb9) {β : Type} (s : List (Int × Int)) (k : (Int → Option β)) : Option β :=
  p1 (fun (t4 : Int) =>
  k t4) (fun (_ : Unit) =>
  k (-1 : Int)) s (List.length s : Int) (0 : Int)
theorem zqbg (hΓ : ΓOk Try.prog (slices_IndexFunc_api_Span_api_Span_vspan_Merge_f1_X c_span_Merge_f1).Γ) (p1 : zqb9) (hp1 : PieceOk Try.prog 19 0 slices_IndexFunc_api_Span_api_Span_vspan_Merge_f1_p1_code zqba zqbb (slices_IndexFunc_api_Span_api_Span_vspan_Merge_f1_p1_G p1)) : SpecOk Try.prog 52 (zqb6 (zqbf p1)) :=
  spec_exec (X := (slices_IndexFunc_api_Span_api_Span_vspan_Merge_f1_X c_span_Merge_f1)) (Λ := pick1 [(26, pieceCut zqba zqbb (slices_IndexFunc_api_Span_api_Span_vspan_Merge_f1_p1_G p1))]) (rs := [.tmp 4]) (c := bodyOf Try.f52) mixed tab_ok hΓ Try.func52 (by kernel_rfl) (by kernel_rfl) (by kernel_rfl) (by kernel_rfl) (CutsOk_cons (q := 26) (c' := slices_IndexFunc_api_Span_api_Span_vspan_Merge_f1_p1_code) (by kernel_rfl) rfl hp1 CutsOk_nil) (fun x k r h => Eq.trans (b := (zqb6 (zqbf p1)).run x k) (by kernel_rfl) h)
end
theorem zqbhΓ : ΓOk Try.prog (pick1 [(49, .spec (zq5v zq5z))]) := (ΓOk_cons zq60 ΓOk_nil)
def zqbi (m : Nat) : zqb9 := zqbd zq5z m
theorem zqbj {β : Type} (i : Nat) (k1 k2 s t7 t8) : (zqbi (i + 1) k1 k2 s t7 t8 : Option β) = zqbc zq5z (zqbi i k1 k2) k1 k2 s t7 t8 := rfl
def zqbk : zqb9 := zqbi fuel
theorem zqbl : PieceOk Try.prog 19 0 slices_IndexFunc_api_Span_api_Span_vspan_Merge_f1_p1_code zqba zqbb (slices_IndexFunc_api_Span_api_Span_vspan_Merge_f1_p1_G zqbk) := zqbe zq5z zqbhΓ fuel
def zqbm : zqb5 := zqbf zqbk
theorem zqbn : SpecOk Try.prog 52 (zqb6 zqbm) := zqbg zq5z zqbhΓ zqbk zqbl

/-- slices.ContainsFunc[[]pagewatch/api.Span,pagewatch/api.Span] -/
abbrev zqbo := {β : Type} → (List (Int × Int)) → Int → (Bool → Int → Option β) → Option β
def zqbp (c : zqbo) : Spec :=
  ⟨[(false, [.data (.slice (.prod (.int .i64) (.int .i64)))]), (false, [.fn 38 [0]])], [.cells 3 [.data (.int .i64)]], [(false, [.data .bool])], [.cells 3 [.data (.int .i64)]], fun x k => c x.1.1.1 x.2.1.1 (fun r0 r1 => k (((r0, ()), ()), ((r1, ()), ())))⟩
section
variable (c_slices_IndexFunc_api_Span_api_Span_vspan_Has_f1 : zqam)
@[reducible] def slices_ContainsFunc_api_Span_api_Span_vspan_Has_f1_X : Ctx := ⟨look tab, pick1 [(52, .spec (zqan c_slices_IndexFunc_api_Span_api_Span_vspan_Has_f1))], false, false⟩
def zqbq {β : Type} (s : List (Int × Int)) (b0_ : Int) (k : (Bool → Int → Option β)) : Option β :=
  c_slices_IndexFunc_api_Span_api_Span_vspan_Has_f1 s b0_ (fun (rSpan : Int) (mrSpan : Int) =>
  let t : Bool := (decide ((0 : Int) ≤ rSpan));
  k t mrSpan)
theorem zqbr (hΓ : ΓOk Try.prog (slices_ContainsFunc_api_Span_api_Span_vspan_Has_f1_X c_slices_IndexFunc_api_Span_api_Span_vspan_Has_f1).Γ) : SpecOk Try.prog 37 (zqbp (zqbq c_slices_IndexFunc_api_Span_api_Span_vspan_Has_f1)) :=
  spec_exec (X := (slices_ContainsFunc_api_Span_api_Span_vspan_Has_f1_X c_slices_IndexFunc_api_Span_api_Span_vspan_Has_f1)) (Λ := pick1 []) (rs := [.tmp 4]) (c := bodyOf Try.f37) mixed tab_ok hΓ Try.func37 (by kernel_rfl) (by kernel_rfl) (by kernel_rfl) (by kernel_rfl) CutsOk_nil (fun x k r h => Eq.trans (b := (zqbp (zqbq c_slices_IndexFunc_api_Span_api_Span_vspan_Has_f1)).run x k) (by kernel_rfl) h)
end
theorem zqbsΓ : ΓOk Try.prog (pick1 [(52, .spec (zqan zqb3))]) := (ΓOk_cons zqb4 ΓOk_nil)
def zqbt : zqbo := zqbq zqb3
theorem zqbu : SpecOk Try.prog 37 (zqbp zqbt) := zqbr zqb3 zqbsΓ

/-- slices.DeleteFunc[[]pagewatch/api.Span,pagewatch/api.Span] -/
abbrev zqbv := {β : Type} → (List (Int × Int)) → ((List (Int × Int)) → Option β) → Option β
def zqbw (c : zqbv) : Spec :=
  ⟨[(false, [.rowh 0]), (false, [.fn 49 []])], [.row 30 (.prod (.int .i64) (.int .i64))], [(false, [.rowh 0])], [.row 30 (.prod (.int .i64) (.int .i64))], fun x k => c x.2.1 (fun r0 => k (((), ()), (r0, ())))⟩
noncomputable def slices_DeleteFunc_api_Span_api_Span_vspan_Merge_f1_p1_code : Code := codeAt 122 (bodyOf Try.f47)
abbrev zqbx (β : Type) := Int → (List (Int × Int)) → Option β
abbrev zqby := {β : Type} → zqbx β → Int → Int → (List (Int × Int)) → Option β
def zqbz : View := ⟨1, [0, 1, 5, 6], [(false, [.rowh 0]), (false, [.fn 49 []]), (false, [.data (.int .i64)]), (false, [.data (.int .i64)])], [.row 30 (.prod (.int .i64) (.int .i64))]⟩
def zqc0 : List (AExit × View) := [(.exit 0, ⟨1, [0, 5], [(false, [.rowh 0]), (false, [.data (.int .i64)])], [.row 30 (.prod (.int .i64) (.int .i64))]⟩)]
@[reducible] def slices_DeleteFunc_api_Span_api_Span_vspan_Merge_f1_p1_G (p : zqby) {β : Type} (d : zqbz.den) (ks : Outs.K β zqc0) : Option β :=
  p (fun a0 a1 => ks.1 (((), (a0, ()), ()), (a1, ()))) d.1.2.2.1.1 d.1.2.2.2.1.1 d.2.1
section
variable (c_slices_IndexFunc_api_Span_api_Span_vspan_Merge_f1 : zqb5) (c_span_Merge_f1 : zq5u)
@[reducible] def slices_DeleteFunc_api_Span_api_Span_vspan_Merge_f1_X : Ctx := ⟨look tab, pick1 [(52, .spec (zqb6 c_slices_IndexFunc_api_Span_api_Span_vspan_Merge_f1)), (49, .spec (zq5v c_span_Merge_f1))], false, true⟩
def zqc1 {β : Type} (rec : Int → Int → (List (Int × Int)) → Option β) (k1 : zqbx β) (i_ : Int) (j : Int) (s : List (Int × Int)) : Option β :=
  cond (decide (j < (List.length s : Int)))
  (cond (decide (0 ≤ j) && decide (j < (List.length s : Int)))
  (c_span_Merge_f1 (List.getD s (Int.toNat j) ((0 : Int), (0 : Int))) (fun (rMerge1 : Bool) =>
  cond (!rMerge1)
  (cond (decide (0 ≤ i_) && decide (i_ < (List.length s : Int)))
  (let l : List (Int × Int) := (List.set s (Int.toNat i_) (List.getD s (Int.toNat j) ((0 : Int), (0 : Int))));
  let i_2 : Int := (IntKind.i64.wrap (i_ + (1 : Int)));
  let j2 : Int := (IntKind.i64.wrap (j + (1 : Int)));
  rec i_2 j2 l)
  none)
  (let j2 : Int := (IntKind.i64.wrap (j + (1 : Int)));
  rec i_ j2 s)))
  none)
  (k1 i_ s)
def zqc2 {β : Type} : Nat → zqbx β → Int → Int → (List (Int × Int)) → Option β
  | 0 => fun _ _ _ _ => none
  | i + 1 => fun k1 i_ j s => zqc1 c_span_Merge_f1 (zqc2 i k1) k1 i_ j s
theorem zqc3 (hΓ : ΓOk Try.prog (slices_DeleteFunc_api_Span_api_Span_vspan_Merge_f1_X c_slices_IndexFunc_api_Span_api_Span_vspan_Merge_f1 c_span_Merge_f1).Γ) (i : Nat) : PieceOk Try.prog 42 1 slices_DeleteFunc_api_Span_api_Span_vspan_Merge_f1_p1_code zqbz zqc0 (slices_DeleteFunc_api_Span_api_Span_vspan_Merge_f1_p1_G (zqc2 c_span_Merge_f1 i)) := by
  rw [show slices_DeleteFunc_api_Span_api_Span_vspan_Merge_f1_p1_code = .loop (loopBody slices_DeleteFunc_api_Span_api_Span_vspan_Merge_f1_p1_code) by kernel_rfl]
  exact piece_loop (X := (slices_DeleteFunc_api_Span_api_Span_vspan_Merge_f1_X c_slices_IndexFunc_api_Span_api_Span_vspan_Merge_f1 c_span_Merge_f1)) (p := 1) (Λ := pick1 []) (G := fun i => @fun β d ks => slices_DeleteFunc_api_Span_api_Span_vspan_Merge_f1_p1_G (zqc2 c_span_Merge_f1 i) d ks) mixed tab_ok hΓ rfl (by kernel_rfl) CutsOk_nil (fun _ _ => rfl) (fun i => @fun β d ks r h => Eq.trans (b := slices_DeleteFunc_api_Span_api_Span_vspan_Merge_f1_p1_G (zqc2 c_span_Merge_f1 (i + 1)) d ks) (by kernel_rfl) h) i
def zqc4 (p1 : zqby) {β : Type} (s : List (Int × Int)) (k : ((List (Int × Int)) → Option β)) : Option β :=
  c_slices_IndexFunc_api_Span_api_Span_vspan_Merge_f1 s (fun (rSpan : Int) =>
  cond (decide (rSpan = (-1 : Int)))
  (k s)
  (let j : Int := (IntKind.i64.wrap (rSpan + (1 : Int)));
  p1 (fun (i_ : Int) (s2 : List (Int × Int)) =>
  cond (decide (0 ≤ i_) && (decide (i_ ≤ (List.length s2 : Int)) && decide ((List.length s2 : Int) ≤ (List.length s2 : Int))))
  (let l : List (Int × Int) := (List.take (Int.toNat i_) s2 ++ (List.replicate ((List.length s2) - (Int.toNat i_)) ((0 : Int), (0 : Int)) ++ List.drop (List.length s2) s2));
  cond (decide (0 ≤ i_) && decide (i_ ≤ (List.length l : Int)))
  (let l2 : List (Int × Int) := (List.take (Int.toNat i_) l);
  k l2)
  none)
  none) rSpan j s))
theorem zqc5 (hΓ : ΓOk Try.prog (slices_DeleteFunc_api_Span_api_Span_vspan_Merge_f1_X c_slices_IndexFunc_api_Span_api_Span_vspan_Merge_f1 c_span_Merge_f1).Γ) (p1 : zqby) (hp1 : PieceOk Try.prog 42 1 slices_DeleteFunc_api_Span_api_Span_vspan_Merge_f1_p1_code zqbz zqc0 (slices_DeleteFunc_api_Span_api_Span_vspan_Merge_f1_p1_G p1)) : SpecOkB Try.prog 47 (zqbw (zqc4 c_slices_IndexFunc_api_Span_api_Span_vspan_Merge_f1 p1)) :=
  spec_execB (X := (slices_DeleteFunc_api_Span_api_Span_vspan_Merge_f1_X c_slices_IndexFunc_api_Span_api_Span_vspan_Merge_f1 c_span_Merge_f1)) (Λ := pick1 [(122, pieceCut zqbz zqc0 (slices_DeleteFunc_api_Span_api_Span_vspan_Merge_f1_p1_G p1))]) (rs := [.tmp 4]) (c := bodyOf Try.f47) mixed tab_ok hΓ Try.func47 (by kernel_rfl) (by kernel_rfl) (by kernel_rfl) (by kernel_rfl) (CutsOk_cons (q := 122) (c' := slices_DeleteFunc_api_Span_api_Span_vspan_Merge_f1_p1_code) (by kernel_rfl) rfl hp1 CutsOk_nil) (fun x k r h => Eq.trans (b := (zqbw (zqc4 c_slices_IndexFunc_api_Span_api_Span_vspan_Merge_f1 p1)).run x k) (by kernel_rfl) h)
end
theorem zqc6Γ : ΓOk Try.prog (pick1 [(52, .spec (zqb6 zqbm)), (49, .spec (zq5v zq5z))]) := (ΓOk_cons zqbn (ΓOk_cons zq60 ΓOk_nil))
def zqc7 (m : Nat) : zqby := zqc2 zq5z m
theorem zqc8 {β : Type} (i : Nat) (k1 i_ j s) : (zqc7 (i + 1) k1 i_ j s : Option β) = zqc1 zq5z (zqc7 i k1) k1 i_ j s := rfl
def zqc9 : zqby := zqc7 fuel
theorem zqca : PieceOk Try.prog 42 1 slices_DeleteFunc_api_Span_api_Span_vspan_Merge_f1_p1_code zqbz zqc0 (slices_DeleteFunc_api_Span_api_Span_vspan_Merge_f1_p1_G zqc9) := zqc3 zqbm zq5z zqc6Γ fuel
def zqcb : zqbv := zqc4 zqbm zqc9
theorem zqcc : SpecOkB Try.prog 47 (zqbw zqcb) := zqc5 zqbm zq5z zqc6Γ zqc9 zqca
def zqcd (l : List (Int × Int)) : Bool := (zqcb l (some : (List (Int × Int)) → Option (List (Int × Int)))).isSome
def zqce (l : List (Int × Int)) : List (Int × Int) := (zqcb l (some : (List (Int × Int)) → Option (List (Int × Int)))).getD []
def zqcf : RowF := ⟨30, (.prod (.int .i64) (.int .i64)), true, zqcd, zqce, (some 49)⟩
theorem zqcg : RowOk Try.prog 47 zqcf :=
  SpecOkB.toRow (t := 30) (e := (.prod (.int .i64) (.int .i64))) (c := @zqcb) rfl zqcc (fun l h => by obtain ⟨x, hx⟩ := Option.isSome_iff_exists.1 (show (zqcb l (some : (List (Int × Int)) → Option (List (Int × Int)))).isSome = true from h); exact hx.trans (congrArg some (show x = (zqcb l (some : (List (Int × Int)) → Option (List (Int × Int)))).getD [] by rw [hx]; rfl)))

/-- pagewatch/span.Has -/
abbrev zqch := {β : Type} → (List (Int × Int)) → Int → (Bool → Option β) → Option β
def zqci (c : zqch) : Spec :=
  ⟨[(false, [.data (.slice (.prod (.int .i64) (.int .i64)))]), (false, [.data (.int .i64)])], [], [(false, [.data .bool])], [], fun x k => c x.1.1.1 x.1.2.1.1 (fun r0 => k (((r0, ()), ()), ()))⟩
section
variable (c_slices_ContainsFunc_api_Span_api_Span_vspan_Has_f1 : zqbo) (c_span_Valid : zqx)
@[reducible] def span_Has_X : Ctx := ⟨look tab, pick1 [(37, .spec (zqbp c_slices_ContainsFunc_api_Span_api_Span_vspan_Has_f1)), (22, .spec (zqy c_span_Valid))], false, false⟩
def zqcj {β : Type} (l : List (Int × Int)) (x : Int) (k : (Bool → Option β)) : Option β :=
  c_span_Valid l (fun (rValid : Bool) =>
  cond rValid
  (c_slices_ContainsFunc_api_Span_api_Span_vspan_Has_f1 l x (fun (rSpan : Bool) (mrSpan : Int) =>
  k rSpan))
  (k false))
theorem zqck (hΓ : ΓOk Try.prog (span_Has_X c_slices_ContainsFunc_api_Span_api_Span_vspan_Has_f1 c_span_Valid).Γ) : SpecOk Try.prog 17 (zqci (zqcj c_slices_ContainsFunc_api_Span_api_Span_vspan_Has_f1 c_span_Valid)) :=
  spec_exec (X := (span_Has_X c_slices_ContainsFunc_api_Span_api_Span_vspan_Has_f1 c_span_Valid)) (Λ := pick1 []) (rs := [.tmp 4]) (c := bodyOf Try.f17) mixed tab_ok hΓ Try.func17 (by kernel_rfl) (by kernel_rfl) (by kernel_rfl) (by kernel_rfl) CutsOk_nil (fun x k r h => Eq.trans (b := (zqci (zqcj c_slices_ContainsFunc_api_Span_api_Span_vspan_Has_f1 c_span_Valid)).run x k) (by kernel_rfl) h)
end
theorem zqclΓ : ΓOk Try.prog (pick1 [(37, .spec (zqbp zqbt)), (22, .spec (zqy zq1e))]) := (ΓOk_cons zqbu (ΓOk_cons zq1f ΓOk_nil))
def zqcm : zqch := zqcj zqbt zq1e
theorem zqcn : SpecOk Try.prog 17 (zqci zqcm) := zqck zqbt zq1e zqclΓ

/-- slices.SortFunc[[]pagewatch/api.Span,pagewatch/api.Span] with pagewatch/span.Merge$2 -/
def zqco : Shelf.Ren :=
      { 
      f := fun x =>
        match x with
        | 6 => 50
        | 15 => 55
        | 14 => 54
        | 28 => 64
        | 29 => 65
        | 20 => 56
        | 21 => 57
        | 22 => 58
        | 23 => 59
        | 24 => 60
        | 25 => 61
        | 26 => 62
        | 27 => 63
        | 46 => 66
        | 47 => 67
        | 48 => 68
        | 49 => 69
        | 50 => 70
        | 57 => 71
        | n => n,
      t := fun x =>
        match x with
        | 22 => 27
        | 24 => 30
        | 25 => 64
        | 3 => 3
        | 39 => 70
        | 0 => 0
        | 53 => 79
        | 55 => 81
        | 4 => 4
        | 46 => 73
        | 45 => 72
        | 50 => 37
        | 5 => 5
        | 9 => 9
        | 66 => 82
        | 70 => 86
        | 76 => 88
        | 77 => 89
        | n => n,
      g := fun x => x }
theorem zqcp : Go.Proofs.SlLaysF0.n6 Try.prog zqco :=
  { mixed := by kernel_rfl,
    f6 := Exists.intro "slices.SortFunc[[]pagewatch/api.Span,pagewatch/api.Span]" ⟨of_decide_eq_true (by kernel_rfl), Eq.trans Try.func50 (congrArg some (by kernel_rfl))⟩,
    f14 := Exists.intro "slices.pdqsortCmpFunc[pagewatch/api.Span]" ⟨of_decide_eq_true (by kernel_rfl), Eq.trans Try.func54 (congrArg some (by kernel_rfl))⟩,
    f15 := Eq.trans Try.func55 (congrArg some (by kernel_rfl)),
    f20 := Exists.intro "slices.insertionSortCmpFunc[pagewatch/api.Span]" ⟨of_decide_eq_true (by kernel_rfl), Eq.trans Try.func56 (congrArg some (by kernel_rfl))⟩,
    f21 := Exists.intro "slices.heapSortCmpFunc[pagewatch/api.Span]" ⟨of_decide_eq_true (by kernel_rfl), Eq.trans Try.func57 (congrArg some (by kernel_rfl))⟩,
    f22 := Exists.intro "slices.breakPatternsCmpFunc[pagewatch/api.Span]" ⟨of_decide_eq_true (by kernel_rfl), Eq.trans Try.func58 (congrArg some (by kernel_rfl))⟩,
    f23 := Exists.intro "slices.choosePivotCmpFunc[pagewatch/api.Span]" ⟨of_decide_eq_true (by kernel_rfl), Eq.trans Try.func59 (congrArg some (by kernel_rfl))⟩,
    f24 := Exists.intro "slices.reverseRangeCmpFunc[pagewatch/api.Span]" ⟨of_decide_eq_true (by kernel_rfl), Eq.trans Try.func60 (congrArg some (by kernel_rfl))⟩,
    f25 := Exists.intro "slices.partialInsertionSortCmpFunc[pagewatch/api.Span]" ⟨of_decide_eq_true (by kernel_rfl), Eq.trans Try.func61 (congrArg some (by kernel_rfl))⟩,
    f26 := Exists.intro "slices.partitionEqualCmpFunc[pagewatch/api.Span]" ⟨of_decide_eq_true (by kernel_rfl), Eq.trans Try.func62 (congrArg some (by kernel_rfl))⟩,
    f27 := Exists.intro "slices.partitionCmpFunc[pagewatch/api.Span]" ⟨of_decide_eq_true (by kernel_rfl), Eq.trans Try.func63 (congrArg some (by kernel_rfl))⟩,
    f28 := Eq.trans Try.func64 (congrArg some (by kernel_rfl)),
    f29 := Eq.trans Try.func65 (congrArg some (by kernel_rfl)),
    f46 := Exists.intro "slices.siftDownCmpFunc[pagewatch/api.Span]" ⟨of_decide_eq_true (by kernel_rfl), Eq.trans Try.func66 (congrArg some (by kernel_rfl))⟩,
    f47 := Eq.trans Try.func67 (congrArg some (by kernel_rfl)),
    f48 := Eq.trans Try.func68 (congrArg some (by kernel_rfl)),
    f49 := Exists.intro "slices.medianAdjacentCmpFunc[pagewatch/api.Span]" ⟨of_decide_eq_true (by kernel_rfl), Eq.trans Try.func69 (congrArg some (by kernel_rfl))⟩,
    f50 := Exists.intro "slices.medianCmpFunc[pagewatch/api.Span]" ⟨of_decide_eq_true (by kernel_rfl), Eq.trans Try.func70 (congrArg some (by kernel_rfl))⟩,
    f57 := Exists.intro "slices.order2CmpFunc[pagewatch/api.Span]" ⟨of_decide_eq_true (by kernel_rfl), Eq.trans Try.func71 (congrArg some (by kernel_rfl))⟩,
    t0 := Try.underlying0,
    a0 := Try.isAgg0,
    z0 := Try.sizeOf0,
    v0 := Try.zeroValue0,
    t3 := Try.underlying3,
    a3 := Try.isAgg3,
    z3 := Try.sizeOf3,
    v3 := Try.zeroValue3,
    t4 := Try.underlying4,
    a4 := Try.isAgg4,
    z4 := Try.sizeOf4,
    v4 := Try.zeroValue4,
    t5 := Try.underlying5,
    a5 := Try.isAgg5,
    z5 := Try.sizeOf5,
    v5 := Try.zeroValue5,
    t9 := Try.underlying9,
    a9 := Try.isAgg9,
    z9 := Try.sizeOf9,
    v9 := Try.zeroValue9,
    t22 := Try.underlying27,
    a22 := Try.isAgg27,
    z22 := Try.sizeOf27,
    v22 := Try.zeroValue27,
    t25 := Try.underlying64,
    a25 := Try.isAgg64,
    z25 := Try.sizeOf64,
    v25 := Try.zeroValue64,
    t39 := Try.underlying70,
    a39 := Try.isAgg70,
    z39 := Try.sizeOf70,
    v39 := Try.zeroValue70,
    t45 := Try.underlying72,
    a45 := Try.isAgg72,
    z45 := Try.sizeOf72,
    v45 := Try.zeroValue72,
    t46 := Try.underlying73,
    a46 := Try.isAgg73,
    z46 := Try.sizeOf73,
    v46 := Try.zeroValue73,
    t50 := Try.underlying37,
    a50 := Try.isAgg37,
    z50 := Try.sizeOf37,
    v50 := Try.zeroValue37,
    t53 := Try.underlying79,
    a53 := Try.isAgg79,
    z53 := Try.sizeOf79,
    v53 := Try.zeroValue79,
    t55 := Try.underlying81,
    a55 := Try.isAgg81,
    z55 := Try.sizeOf81,
    v55 := Try.zeroValue81,
    t66 := Try.underlying82,
    a66 := Try.isAgg82,
    z66 := Try.sizeOf82,
    v66 := Try.zeroValue82,
    t70 := Try.underlying86,
    a70 := Try.isAgg86,
    z70 := Try.sizeOf86,
    v70 := Try.zeroValue86,
    t76 := Try.underlying88,
    a76 := Try.isAgg88,
    z76 := Try.sizeOf88,
    v76 := Try.zeroValue88,
    t77 := Try.underlying89,
    a77 := Try.isAgg89,
    z77 := Try.sizeOf89,
    v77 := Try.zeroValue89 }
def zqcq : (Int × Int) → Bool := fun x => decide (0 ≤ x.1) && decide (x.1 ≤ 4611686018427387904)
def zqcr : (Int × Int) → (Int × Int) → Int := fun x y => x.1 - y.1
def zqcs : List (Int × Int) → List (Int × Int) := sortRun zqcq ((0, 0) : Int × Int) rfl zqcr
theorem zqct (x y : Int × Int) (hx : zqcq x = true) (hy : zqcq y = true) (W : World) : Calls Try.prog 51 #[.agg (encT (.prod (.int .i64) (.int .i64)) x).toArray, .agg (encT (.prod (.int .i64) (.int .i64)) y).toArray] W fun e w' => e = .returned (.int .i64 (zqcr x y)) ∧ ∃ q os', w' = Go.Sort.grow (W.drewN q) os' := by
  obtain ⟨a, b⟩ := x
  obtain ⟨c, d⟩ := y
  simp only [zqcq, Bool.and_eq_true, decide_eq_true_eq] at hx hy
  obtain ⟨h1, h2⟩ := hx
  obtain ⟨h3, h4⟩ := hy
  change Calls Try.prog 51 #[.agg #[.int .i64 a, .int .i64 b], .agg #[.int .i64 c, .int .i64 d]] W fun e w' => e = .returned (.int .i64 (a - c)) ∧ _
  have hw : Go.RowKit.wrap64 (a - c) = a - c := by unfold Go.RowKit.wrap64; omega
  go_enter Try.func51, Try.ntmps51
  go_wp2
  go_ret
  exact ⟨rfl, 0, _, by rw [Go.Sort.alloc_eq_grow, Go.Sort.alloc_eq_grow, Go.Sort.grow_grow]; rfl⟩
theorem zqcu : Go.Sort.SWO (Go.Proofs.ltOf fun (x y : {x : Int × Int // zqcq x = true}) => zqcr x.1 y.1) := by
  constructor
  · intro x
    refine decide_eq_false ?_
    show ¬ x.1.1 - x.1.1 < 0
    omega
  · intro x y z h1 h2
    have h1 : x.1.1 - y.1.1 < 0 := of_decide_eq_true h1
    have h2 : y.1.1 - z.1.1 < 0 := of_decide_eq_true h2
    refine decide_eq_true ?_
    show x.1.1 - z.1.1 < 0
    omega
  · intro x y z h1 h2
    have h1 : ¬ x.1.1 - y.1.1 < 0 := of_decide_eq_false h1
    have h2 : ¬ y.1.1 - z.1.1 < 0 := of_decide_eq_false h2
    refine decide_eq_false ?_
    show ¬ x.1.1 - z.1.1 < 0
    omega
def zqcv : RowF := ⟨30, (.prod (.int .i64) (.int .i64)), false, fun l => List.all l zqcq && decide (List.length l < 4611686018427387904), zqcs, some 51⟩
theorem zqcw : RowOk Try.prog 50 zqcv :=
  sortFunc_rowok (t := 30) (e := (.prod (.int .i64) (.int .i64))) (good := zqcq) (d0 := ((0, 0) : Int × Int)) (h0 := rfl) (cf := zqcr) (g := 51) rfl (by decide) zqcp rfl Try.isAgg30 Try.sizeOf30 zqcu (Go.Proofs.enters_of Try.func51 (by kernel_rfl) rfl) zqct ⟨_, Try.func50, by kernel_rfl, by kernel_rfl⟩

/-- pagewatch/span.Merge -/
abbrev zqcx := {β : Type} → (List (Int × Int)) → ((List (Int × Int)) → Option β) → Option β
def zqcy (c : zqcx) : Spec :=
  ⟨[(false, [.data (.slice (.prod (.int .i64) (.int .i64)))])], [], [(false, [.rowh 0])], [.row 30 (.prod (.int .i64) (.int .i64))], fun x k => c x.1.1.1 (fun r0 => k (((), ()), (r0, ())))⟩
noncomputable def span_Merge_p2_code : Code := codeAt 250 (bodyOf Try.f36)
noncomputable def span_Merge_p1_code : Code := codeAt 231 (loopBody span_Merge_p2_code)
abbrev zqcz (β : Type) := Int → Int → (List (Int × Int)) → (List (Int × Int)) → Option β
abbrev zqd0 := {β : Type} → zqcz β → Int → Int → Int → Bool → (List (Int × Int)) → Int → Int → (List (Int × Int)) → Option β
def zqd1 : View := ⟨0, [4, 6, 7, 13, 14, 15, 33], [(false, [.rowh 0]), (false, [.ptr 1 0]), (false, [.data (.int .i64)]), (false, [.rowh 2]), (false, [.data (.int .i64)]), (false, [.data (.int .i64)]), (false, [.data .bool])], [.row 30 (.prod (.int .i64) (.int .i64)), .cells 30 [.data (.int .i64), .data (.int .i64)], .row 30 (.prod (.int .i64) (.int .i64))]⟩
def zqd2 : List (AExit × View) := [(.normal, ⟨0, [4, 13, 14, 15], [(false, [.rowh 0]), (false, [.rowh 1]), (false, [.data (.int .i64)]), (false, [.data (.int .i64)])], [.row 30 (.prod (.int .i64) (.int .i64)), .row 30 (.prod (.int .i64) (.int .i64))]⟩)]
@[reducible] def span_Merge_p1_G (p : zqd0) {β : Type} (d : zqd1.den) (ks : Outs.K β zqd2) : Option β :=
  p (fun a0 a1 a2 a3 => ks.1 (((), (), (a0, ()), (a1, ()), ()), (a2, a3, ()))) d.1.2.2.1.1 d.1.2.2.2.2.1.1 d.1.2.2.2.2.2.1.1 d.1.2.2.2.2.2.2.1.1 d.2.1 d.2.2.1.1 d.2.2.1.2.1 d.2.2.2.1
abbrev zqd3 (β : Type) := (List (Int × Int)) → Option β
abbrev zqd4 := {β : Type} → zqd3 β → Int → Int → (List (Int × Int)) → (List (Int × Int)) → Option β
def zqd5 : View := ⟨0, [4, 13, 14, 15], [(false, [.rowh 0]), (false, [.rowh 1]), (false, [.data (.int .i64)]), (false, [.data (.int .i64)])], [.row 30 (.prod (.int .i64) (.int .i64)), .row 30 (.prod (.int .i64) (.int .i64))]⟩
def zqd6 : List (AExit × View) := [(.exit 0, ⟨0, [4], [(false, [.rowh 0])], [.row 30 (.prod (.int .i64) (.int .i64))]⟩)]
@[reducible] def span_Merge_p2_G (p : zqd4) {β : Type} (d : zqd5.den) (ks : Outs.K β zqd6) : Option β :=
  p (fun a0 => ks.1 (((), ()), (a0, ()))) d.1.2.2.1.1 d.1.2.2.2.1.1 d.2.1 d.2.2.1
section
variable (c_slices_Clone_api_Span_api_Span : zq5q)
@[reducible] def span_Merge_X : Ctx := ⟨look tab, pick1 [(48, .spec (zq5r c_slices_Clone_api_Span_api_Span)), (47, .rows zqcf), (50, .rows zqcv)], false, false⟩
def zqd7 {β : Type} (k1 : zqcz β) (n : Int) (t14 : Int) (t15 : Int) (t33 : Bool) (out : List (Int × Int)) (s : Int) (s2 : Int) (t13 : List (Int × Int)) : Option β :=
  cond t33
  (cond (decide (0 ≤ (IntKind.i64.wrap (n - (1 : Int)))) && decide ((IntKind.i64.wrap (n - (1 : Int))) < (List.length out : Int)))
  (cond (decide (0 ≤ (IntKind.i64.wrap (n - (1 : Int)))) && decide ((IntKind.i64.wrap (n - (1 : Int))) < (List.length out : Int)))
  (let l : List (Int × Int) := (List.set out (Int.toNat (IntKind.i64.wrap (n - (1 : Int)))) ((List.getD out (Int.toNat (IntKind.i64.wrap (n - (1 : Int)))) ((0 : Int), (0 : Int))).1, (if s2 > (List.getD out (Int.toNat (IntKind.i64.wrap (n - (1 : Int)))) ((0 : Int), (0 : Int))).2 then s2 else (List.getD out (Int.toNat (IntKind.i64.wrap (n - (1 : Int)))) ((0 : Int), (0 : Int))).2)));
  k1 t14 t15 l t13)
  none)
  none)
  (let l : List (Int × Int) := ([(s, s2)] : List (Int × Int));
  cond (decide ((List.length out + List.length l) * 16 ≤ roomMax))
  (let l2 : List (Int × Int) := (out ++ l);
  k1 t14 t15 l2 t13)
  none)
def zqd8 {β : Type} (k1 : zqcz β) (n : Int) (t14 : Int) (t15 : Int) (t33 : Bool) (out : List (Int × Int)) (s : Int) (s2 : Int) (t13 : List (Int × Int)) : Option β := zqd7 k1 n t14 t15 t33 out s s2 t13
theorem zqd9 (hΓ : ΓOk Try.prog (span_Merge_X c_slices_Clone_api_Span_api_Span).Γ) : PieceOk Try.prog 54 0 span_Merge_p1_code zqd1 zqd2 (span_Merge_p1_G (zqd8)) :=
  piece_exec (X := (span_Merge_X c_slices_Clone_api_Span_api_Span)) (p := 231) (Λ := pick1 []) mixed tab_ok hΓ (by kernel_rfl) CutsOk_nil (fun d ks r h => Eq.trans (b := span_Merge_p1_G (zqd8) d ks) (by kernel_rfl) h)
def zqda (p1 : zqd0) {β : Type} (rec : Int → Int → (List (Int × Int)) → (List (Int × Int)) → Option β) (k1 : zqd3 β) (t14 : Int) (t15 : Int) (out : List (Int × Int)) (t13 : List (Int × Int)) : Option β :=
  cond (decide (t15 < t14))
  (cond (decide (0 ≤ t15) && decide (t15 < (List.length t13 : Int)))
  (cond (decide ((0 : Int) < (List.length out : Int)))
  (cond (decide (0 ≤ (IntKind.i64.wrap ((List.length out : Int) - (1 : Int)))) && decide ((IntKind.i64.wrap ((List.length out : Int) - (1 : Int))) < (List.length out : Int)))
  (p1 (fun (t142 : Int) (t152 : Int) (out2 : List (Int × Int)) (t132 : List (Int × Int)) =>
  rec t142 (IntKind.i64.wrap (t152 + (1 : Int))) out2 t132) (List.length out : Int) t14 t15 (decide (((List.getD t13 (Int.toNat t15) ((0 : Int), (0 : Int))).1) ≤ ((List.getD out (Int.toNat (IntKind.i64.wrap ((List.length out : Int) - (1 : Int)))) ((0 : Int), (0 : Int))).2))) out ((List.getD t13 (Int.toNat t15) ((0 : Int), (0 : Int))).1) ((List.getD t13 (Int.toNat t15) ((0 : Int), (0 : Int))).2) t13)
  none)
  (p1 (fun (t142 : Int) (t152 : Int) (out2 : List (Int × Int)) (t132 : List (Int × Int)) =>
  rec t142 (IntKind.i64.wrap (t152 + (1 : Int))) out2 t132) (List.length out : Int) t14 t15 false out ((List.getD t13 (Int.toNat t15) ((0 : Int), (0 : Int))).1) ((List.getD t13 (Int.toNat t15) ((0 : Int), (0 : Int))).2) t13))
  none)
  (k1 out)
def zqdb (p1 : zqd0) {β : Type} : Nat → zqd3 β → Int → Int → (List (Int × Int)) → (List (Int × Int)) → Option β
  | 0 => fun _ _ _ _ _ => none
  | i + 1 => fun k1 t14 t15 out t13 => zqda p1 (zqdb p1 i k1) k1 t14 t15 out t13
theorem zqdc (hΓ : ΓOk Try.prog (span_Merge_X c_slices_Clone_api_Span_api_Span).Γ) (p1 : zqd0) (hp1 : PieceOk Try.prog 54 0 span_Merge_p1_code zqd1 zqd2 (span_Merge_p1_G p1)) (i : Nat) : PieceOk Try.prog 54 0 span_Merge_p2_code zqd5 zqd6 (span_Merge_p2_G (zqdb p1 i)) := by
  rw [show span_Merge_p2_code = .loop (loopBody span_Merge_p2_code) by kernel_rfl]
  exact piece_loop (X := (span_Merge_X c_slices_Clone_api_Span_api_Span)) (p := 1) (Λ := pick1 [(231, pieceCut zqd1 zqd2 (span_Merge_p1_G p1))]) (G := fun i => @fun β d ks => span_Merge_p2_G (zqdb p1 i) d ks) mixed tab_ok hΓ rfl (by kernel_rfl) (CutsOk_cons (q := 231) (c' := span_Merge_p1_code) (by kernel_rfl) rfl hp1 CutsOk_nil) (fun _ _ => rfl) (fun i => @fun β d ks r h => Eq.trans (b := span_Merge_p2_G (zqdb p1 (i + 1)) d ks) (by kernel_rfl) h) i
def zqdd (p2 : zqd4) {β : Type} (l : List (Int × Int)) (k : ((List (Int × Int)) → Option β)) : Option β :=
  c_slices_Clone_api_Span_api_Span l (fun (lrSpan : List (Int × Int)) =>
  cond (zqcd lrSpan)
  (let l2 : List (Int × Int) := (zqce lrSpan);
  cond ((List.all l2 zqcq) && decide (List.length l2 < 4611686018427387904))
  (let l3 : List (Int × Int) := (zqcs l2);
  p2 (fun (out : List (Int × Int)) =>
  k out) (List.length l3 : Int) (0 : Int) ([] : List (Int × Int)) l3)
  none)
  none)
theorem zqde (hΓ : ΓOk Try.prog (span_Merge_X c_slices_Clone_api_Span_api_Span).Γ) (p2 : zqd4) (hp2 : PieceOk Try.prog 54 0 span_Merge_p2_code zqd5 zqd6 (span_Merge_p2_G p2)) : SpecOk Try.prog 36 (zqcy (zqdd c_slices_Clone_api_Span_api_Span p2)) :=
  spec_exec (X := (span_Merge_X c_slices_Clone_api_Span_api_Span)) (Λ := pick1 [(250, pieceCut zqd5 zqd6 (span_Merge_p2_G p2))]) (rs := [.tmp 2]) (c := bodyOf Try.f36) mixed tab_ok hΓ Try.func36 (by kernel_rfl) (by kernel_rfl) (by kernel_rfl) (by kernel_rfl) (CutsOk_cons (q := 250) (c' := span_Merge_p2_code) (by kernel_rfl) rfl hp2 CutsOk_nil) (fun x k r h => Eq.trans (b := (zqcy (zqdd c_slices_Clone_api_Span_api_Span p2)).run x k) (by kernel_rfl) h)
end
theorem zqdfΓ : ΓOk Try.prog (pick1 [(48, .spec (zq5r zq5s)), (47, .rows zqcf), (50, .rows zqcv)]) := (ΓOk_cons zq5t (ΓOk_row zqcg (ΓOk_row zqcw ΓOk_nil)))
def zqdg : zqd0 := zqd8
theorem zqdh : PieceOk Try.prog 54 0 span_Merge_p1_code zqd1 zqd2 (span_Merge_p1_G zqdg) := zqd9 zq5s zqdfΓ
def zqdi (m : Nat) : zqd4 := zqdb zqdg m
theorem zqdj {β : Type} (i : Nat) (k1 t14 t15 out t13) : (zqdi (i + 1) k1 t14 t15 out t13 : Option β) = zqda zqdg (zqdi i k1) k1 t14 t15 out t13 := rfl
def zqdk : zqd4 := zqdi fuel
theorem zqdl : PieceOk Try.prog 54 0 span_Merge_p2_code zqd5 zqd6 (span_Merge_p2_G zqdk) := zqdc zq5s zqdfΓ zqdg zqdh fuel
def zqdm : zqcx := zqdd zq5s zqdk
theorem zqdn : SpecOk Try.prog 36 (zqcy zqdm) := zqde zq5s zqdfΓ zqdk zqdl

/-- pagewatch/span.Union$1 -/
abbrev zqdo := {β : Type} → (List (Int × Int)) → (List (Int × Int)) → ((List (Int × Int)) → Option β) → Option β
def zqdp (c : zqdo) : Spec :=
  ⟨[(false, [.data (.slice (.prod (.int .i64) (.int .i64)))]), (false, [.data (.slice (.prod (.int .i64) (.int .i64)))])], [], [(false, [.rowh 0])], [.row 30 (.prod (.int .i64) (.int .i64))], fun x k => c x.1.1.1 x.1.2.1.1 (fun r0 => k (((), ()), (r0, ())))⟩
section
variable (c_slices_Concat_api_Span_api_Span : zq9t) (c_span_Merge : zqcx)
@[reducible] def span_Union_f1_X : Ctx := ⟨look tab, pick1 [(41, .spec (zq9u c_slices_Concat_api_Span_api_Span)), (36, .spec (zqcy c_span_Merge))], false, false⟩
def zqdq {β : Type} (a : List (Int × Int)) (b : List (Int × Int)) (k : ((List (Int × Int)) → Option β)) : Option β :=
  let l : List (List (Int × Int)) := ([a, b] : List (List (Int × Int)));
  c_slices_Concat_api_Span_api_Span l (fun (lrSpan : List (Int × Int)) =>
  c_span_Merge lrSpan (fun (lrMerge : List (Int × Int)) =>
  k lrMerge))
theorem zqdr (hΓ : ΓOk Try.prog (span_Union_f1_X c_slices_Concat_api_Span_api_Span c_span_Merge).Γ) : SpecOk Try.prog 40 (zqdp (zqdq c_slices_Concat_api_Span_api_Span c_span_Merge)) :=
  spec_exec (X := (span_Union_f1_X c_slices_Concat_api_Span_api_Span c_span_Merge)) (Λ := pick1 []) (rs := [.tmp 4]) (c := bodyOf Try.f40) mixed tab_ok hΓ Try.func40 (by kernel_rfl) (by kernel_rfl) (by kernel_rfl) (by kernel_rfl) CutsOk_nil (fun x k r h => Eq.trans (b := (zqdp (zqdq c_slices_Concat_api_Span_api_Span c_span_Merge)).run x k) (by kernel_rfl) h)
end
theorem zqdsΓ : ΓOk Try.prog (pick1 [(41, .spec (zq9u zqak)), (36, .spec (zqcy zqdm))]) := (ΓOk_cons zqal (ΓOk_cons zqdn ΓOk_nil))
def zqdt : zqdo := zqdq zqak zqdm
theorem zqdu : SpecOk Try.prog 40 (zqdp zqdt) := zqdr zqak zqdm zqdsΓ

/-- pagewatch/span.two -/
abbrev zqdv := {β : Type} → (List (Int × Int)) → (List (Int × Int)) → (Int → (List (Int × Int)) → Option β) → Option β
def zqdw (c : zqdv) : Spec :=
  ⟨[(false, [.data (.slice (.prod (.int .i64) (.int .i64)))]), (false, [.data (.slice (.prod (.int .i64) (.int .i64)))]), (false, [.fn 40 []])], [], [(false, [.rowh 0]), (false, [.data (.int .i64)])], [.row 30 (.prod (.int .i64) (.int .i64))], fun x k => c x.1.1.1 x.1.2.1.1 (fun r0 r1 => k (((), (r0, ()), ()), (r1, ())))⟩
section
variable (c_span_Union_f1 : zqdo) (c_span_Valid : zqx)
@[reducible] def span_two_vspan_Union_f1_X : Ctx := ⟨look tab, pick1 [(40, .spec (zqdp c_span_Union_f1)), (22, .spec (zqy c_span_Valid))], false, false⟩
def zqdx {β : Type} (a : List (Int × Int)) (b : List (Int × Int)) (k : (Int → (List (Int × Int)) → Option β)) : Option β :=
  c_span_Valid a (fun (rValid : Bool) =>
  cond (!rValid)
  (k (8 : Int) ([] : List (Int × Int)))
  (c_span_Valid b (fun (rValid2 : Bool) =>
  cond (!rValid2)
  (k (8 : Int) ([] : List (Int × Int)))
  (c_span_Union_f1 a b (fun (lrUnion1 : List (Int × Int)) =>
  cond (decide ((4096 : Int) < (List.length lrUnion1 : Int)))
  (k (5 : Int) ([] : List (Int × Int)))
  (k (0 : Int) lrUnion1))))))
theorem zqdy (hΓ : ΓOk Try.prog (span_two_vspan_Union_f1_X c_span_Union_f1 c_span_Valid).Γ) : SpecOk Try.prog 39 (zqdw (zqdx c_span_Union_f1 c_span_Valid)) :=
  spec_exec (X := (span_two_vspan_Union_f1_X c_span_Union_f1 c_span_Valid)) (Λ := pick1 []) (rs := [.tmp 6, .tmp 7]) (c := bodyOf Try.f39) mixed tab_ok hΓ Try.func39 (by kernel_rfl) (by kernel_rfl) (by kernel_rfl) (by kernel_rfl) CutsOk_nil (fun x k r h => Eq.trans (b := (zqdw (zqdx c_span_Union_f1 c_span_Valid)).run x k) (by kernel_rfl) h)
end
theorem zqdzΓ : ΓOk Try.prog (pick1 [(40, .spec (zqdp zqdt)), (22, .spec (zqy zq1e))]) := (ΓOk_cons zqdu (ΓOk_cons zq1f ΓOk_nil))
def zqe0 : zqdv := zqdx zqdt zq1e
theorem zqe1 : SpecOk Try.prog 39 (zqdw zqe0) := zqdy zqdt zq1e zqdzΓ

/-- pagewatch/span.Normal -/
abbrev zqe2 := {β : Type} → (List (Int × Int)) → (Int → (List (Int × Int)) → Option β) → Option β
def zqe3 (c : zqe2) : Spec :=
  ⟨[(false, [.data (.slice (.prod (.int .i64) (.int .i64)))])], [], [(false, [.rowh 0]), (false, [.data (.int .i64)])], [.row 30 (.prod (.int .i64) (.int .i64))], fun x k => c x.1.1.1 (fun r0 r1 => k (((), (r0, ()), ()), (r1, ())))⟩
noncomputable def span_Normal_p1_code : Code := codeAt 58 (bodyOf Try.f13)
abbrev zqe4 (β : Type) := Int → (List (Int × Int)) → Option β
abbrev zqe5 (β : Type) := (List (Int × Int)) → Option β
abbrev zqe6 := {β : Type} → zqe4 β → zqe5 β → (List (Int × Int)) → (List (Int × Int)) → Int → Int → Option β
def zqe7 : View := ⟨0, [0, 9, 10, 11], [(false, [.data (.slice (.prod (.int .i64) (.int .i64)))]), (false, [.data (.slice (.prod (.int .i64) (.int .i64)))]), (false, [.data (.int .i64)]), (false, [.data (.int .i64)])], []⟩
def zqe8 : List (AExit × View) := [(.ret, ⟨0, [2, 3], [(false, [.rowh 0]), (false, [.data (.int .i64)])], [.row 30 (.prod (.int .i64) (.int .i64))]⟩), (.exit 0, ⟨0, [0], [(false, [.data (.slice (.prod (.int .i64) (.int .i64)))])], []⟩)]
@[reducible] def span_Normal_p1_G (p : zqe6) {β : Type} (d : zqe7.den) (ks : Outs.K β zqe8) : Option β :=
  p (fun a0 a1 => ks.1 (((), (a0, ()), ()), (a1, ()))) (fun a0 => ks.2.1 (((a0, ()), ()), ())) d.1.1.1 d.1.2.1.1 d.1.2.2.1.1 d.1.2.2.2.1.1
section
variable (c_span_Merge : zqcx)
@[reducible] def span_Normal_X : Ctx := ⟨look tab, pick1 [(36, .spec (zqcy c_span_Merge))], false, false⟩
def zqe9 {β : Type} (rec : (List (Int × Int)) → (List (Int × Int)) → Int → Int → Option β) (k1 : zqe4 β) (k2 : zqe5 β) (l : List (Int × Int)) (t9 : List (Int × Int)) (t10 : Int) (t11 : Int) : Option β :=
  cond (decide (t11 < t10))
  (cond (decide (0 ≤ t11) && decide (t11 < (List.length t9 : Int)))
  (let e : (Int × Int) := List.getD t9 (Int.toNat t11) ((0 : Int), (0 : Int));
  cond (decide (e.1 < e.2))
  (cond (decide (e.1 < (0 : Int)))
  (k1 (1 : Int) ([] : List (Int × Int)))
  (cond (decide ((8589934592 : Int) < e.2))
  (k1 (1 : Int) ([] : List (Int × Int)))
  (rec l t9 t10 (IntKind.i64.wrap (t11 + (1 : Int))))))
  (rec l t9 t10 (IntKind.i64.wrap (t11 + (1 : Int)))))
  none)
  (k2 l)
def zqea {β : Type} : Nat → zqe4 β → zqe5 β → (List (Int × Int)) → (List (Int × Int)) → Int → Int → Option β
  | 0 => fun _ _ _ _ _ _ => none
  | i + 1 => fun k1 k2 l t9 t10 t11 => zqe9 (zqea i k1 k2) k1 k2 l t9 t10 t11
theorem zqeb (hΓ : ΓOk Try.prog (span_Normal_X c_span_Merge).Γ) (i : Nat) : PieceOk Try.prog 33 0 span_Normal_p1_code zqe7 zqe8 (span_Normal_p1_G (zqea i)) := by
  rw [show span_Normal_p1_code = .loop (loopBody span_Normal_p1_code) by kernel_rfl]
  exact piece_loop (X := (span_Normal_X c_span_Merge)) (p := 1) (Λ := pick1 []) (G := fun i => @fun β d ks => span_Normal_p1_G (zqea i) d ks) mixed tab_ok hΓ rfl (by kernel_rfl) CutsOk_nil (fun _ _ => rfl) (fun i => @fun β d ks r h => Eq.trans (b := span_Normal_p1_G (zqea (i + 1)) d ks) (by kernel_rfl) h) i
def zqec (p1 : zqe6) {β : Type} (l : List (Int × Int)) (k : (Int → (List (Int × Int)) → Option β)) : Option β :=
  cond (decide ((4096 : Int) < (List.length l : Int)))
  (k (5 : Int) ([] : List (Int × Int)))
  (p1 (fun (t3 : Int) (t2 : List (Int × Int)) =>
  k t3 t2) (fun (l2 : List (Int × Int)) =>
  c_span_Merge l2 (fun (lrMerge : List (Int × Int)) =>
  k (0 : Int) lrMerge)) l l (List.length l : Int) (0 : Int))
theorem zqed (hΓ : ΓOk Try.prog (span_Normal_X c_span_Merge).Γ) (p1 : zqe6) (hp1 : PieceOk Try.prog 33 0 span_Normal_p1_code zqe7 zqe8 (span_Normal_p1_G p1)) : SpecOk Try.prog 13 (zqe3 (zqec c_span_Merge p1)) :=
  spec_exec (X := (span_Normal_X c_span_Merge)) (Λ := pick1 [(58, pieceCut zqe7 zqe8 (span_Normal_p1_G p1))]) (rs := [.tmp 2, .tmp 3]) (c := bodyOf Try.f13) mixed tab_ok hΓ Try.func13 (by kernel_rfl) (by kernel_rfl) (by kernel_rfl) (by kernel_rfl) (CutsOk_cons (q := 58) (c' := span_Normal_p1_code) (by kernel_rfl) rfl hp1 CutsOk_nil) (fun x k r h => Eq.trans (b := (zqe3 (zqec c_span_Merge p1)).run x k) (by kernel_rfl) h)
end
theorem zqeeΓ : ΓOk Try.prog (pick1 [(36, .spec (zqcy zqdm))]) := (ΓOk_cons zqdn ΓOk_nil)
def zqef (m : Nat) : zqe6 := zqea m
theorem zqeg {β : Type} (i : Nat) (k1 k2 l t9 t10 t11) : (zqef (i + 1) k1 k2 l t9 t10 t11 : Option β) = zqe9 (zqef i k1 k2) k1 k2 l t9 t10 t11 := rfl
def zqeh : zqe6 := zqef fuel
theorem zqei : PieceOk Try.prog 33 0 span_Normal_p1_code zqe7 zqe8 (span_Normal_p1_G zqeh) := zqeb zqdm zqeeΓ fuel
def zqej : zqe2 := zqec zqdm zqeh
theorem zqek : SpecOk Try.prog 13 (zqe3 zqej) := zqed zqdm zqeeΓ zqeh zqei

/-- pagewatch/span.Union -/
abbrev zqel := {β : Type} → (List (Int × Int)) → (List (Int × Int)) → (Int → (List (Int × Int)) → Option β) → Option β
def zqem (c : zqel) : Spec :=
  ⟨[(false, [.data (.slice (.prod (.int .i64) (.int .i64)))]), (false, [.data (.slice (.prod (.int .i64) (.int .i64)))])], [], [(false, [.rowh 0]), (false, [.data (.int .i64)])], [.row 30 (.prod (.int .i64) (.int .i64))], fun x k => c x.1.1.1 x.1.2.1.1 (fun r0 r1 => k (((), (r0, ()), ()), (r1, ())))⟩
section
variable (c_span_two_vspan_Union_f1 : zqdv)
@[reducible] def span_Union_X : Ctx := ⟨look tab, pick1 [(39, .spec (zqdw c_span_two_vspan_Union_f1))], false, false⟩
def zqen {β : Type} (a : List (Int × Int)) (b : List (Int × Int)) (k : (Int → (List (Int × Int)) → Option β)) : Option β :=
  c_span_two_vspan_Union_f1 a b (fun (rtwo : Int) (lrtwo : List (Int × Int)) =>
  k rtwo lrtwo)
theorem zqeo (hΓ : ΓOk Try.prog (span_Union_X c_span_two_vspan_Union_f1).Γ) : SpecOk Try.prog 18 (zqem (zqen c_span_two_vspan_Union_f1)) :=
  spec_exec (X := (span_Union_X c_span_two_vspan_Union_f1)) (Λ := pick1 []) (rs := [.tmp 4, .tmp 5]) (c := bodyOf Try.f18) mixed tab_ok hΓ Try.func18 (by kernel_rfl) (by kernel_rfl) (by kernel_rfl) (by kernel_rfl) CutsOk_nil (fun x k r h => Eq.trans (b := (zqem (zqen c_span_two_vspan_Union_f1)).run x k) (by kernel_rfl) h)
end
theorem zqepΓ : ΓOk Try.prog (pick1 [(39, .spec (zqdw zqe0))]) := (ΓOk_cons zqe1 ΓOk_nil)
def zqeq : zqel := zqen zqe0
theorem zqer : SpecOk Try.prog 18 (zqem zqeq) := zqeo zqe0 zqepΓ

/-- pagewatch/pagewatchlaw03.sane -/
abbrev zqes := {β : Type} → (Bool → Option β) → Option β
def zqet (c : zqes) : Spec :=
  ⟨[], [], [(false, [.data .bool])], [], fun x k => c  (fun r0 => k (((r0, ()), ()), ()))⟩
section
variable (c_law03_same : zqe) (c_span_Gap : zq61) (c_span_Minus : zq9m) (c_span_Normal : zqe2)
@[reducible] def law03_sane_X : Ctx := ⟨look tab, pick1 [(14, .spec (zqf c_law03_same)), (16, .spec (zq62 c_span_Gap)), (20, .spec (zq9n c_span_Minus)), (13, .spec (zqe3 c_span_Normal))], false, false⟩
def zqeu {β : Type} (k : (Bool → Option β)) : Option β :=
  let l : List (Int × Int) := ([((5 : Int), (9 : Int)), ((1 : Int), (3 : Int)), ((3 : Int), (4 : Int)), ((7 : Int), (6 : Int))] : List (Int × Int));
  c_span_Normal l (fun (rNormal : Int) (lrNormal : List (Int × Int)) =>
  let l2 : List (Int × Int) := ([((0 : Int), (10 : Int))] : List (Int × Int));
  let l3 : List (Int × Int) := ([((2 : Int), (3 : Int)), ((5 : Int), (20 : Int))] : List (Int × Int));
  c_span_Minus l2 l3 (fun (rMinus : Int) (lrMinus : List (Int × Int)) =>
  cond (decide (rNormal = (0 : Int)))
  (cond (decide (rMinus = (0 : Int)))
  (let l4 : List (Int × Int) := ([((1 : Int), (4 : Int)), ((5 : Int), (9 : Int))] : List (Int × Int));
  c_law03_same lrNormal l4 (fun (rsame : Bool) =>
  cond rsame
  (let l5 : List (Int × Int) := ([((0 : Int), (2 : Int)), ((3 : Int), (5 : Int))] : List (Int × Int));
  c_law03_same lrMinus l5 (fun (rsame2 : Bool) =>
  cond rsame2
  (let l6 : List (Int × Int) := ([((0 : Int), (10 : Int))] : List (Int × Int));
  c_span_Gap l6 (4 : Int) (fun (rGap : Int) =>
  let t : Bool := (decide (rGap = (10 : Int)));
  k t))
  (k false)))
  (k false)))
  (k false))
  (k false)))
theorem zqev (hΓ : ΓOk Try.prog (law03_sane_X c_law03_same c_span_Gap c_span_Minus c_span_Normal).Γ) : SpecOk Try.prog 9 (zqet (zqeu c_law03_same c_span_Gap c_span_Minus c_span_Normal)) :=
  spec_exec (X := (law03_sane_X c_law03_same c_span_Gap c_span_Minus c_span_Normal)) (Λ := pick1 []) (rs := [.tmp 0]) (c := bodyOf Try.f9) mixed tab_ok hΓ Try.func9 (by kernel_rfl) (by kernel_rfl) (by kernel_rfl) (by kernel_rfl) CutsOk_nil (fun x k r h => Eq.trans (b := (zqet (zqeu c_law03_same c_span_Gap c_span_Minus c_span_Normal)).run x k) (by kernel_rfl) h)
end
theorem zqewΓ : ΓOk Try.prog (pick1 [(14, .spec (zqf zqv)), (16, .spec (zq62 zq6i)), (20, .spec (zq9n zq9r)), (13, .spec (zqe3 zqej))]) := (ΓOk_cons zqw (ΓOk_cons zq6j (ΓOk_cons zq9s (ΓOk_cons zqek ΓOk_nil))))
def zqex : zqes := zqeu zqv zq6i zq9r zqej
theorem zqey : SpecOk Try.prog 9 (zqet zqex) := zqev zqv zq6i zq9r zqej zqewΓ

/-- pagewatch/pagewatchlaw03.SpanPoints -/
abbrev zqez := {β : Type} → (List Int) → (Bool → Option β) → Option β
def zqf0 (c : zqez) : Spec :=
  ⟨[(false, [.data (.slice (.int .i64))])], [], [(false, [.data .bool])], [], fun x k => c x.1.1.1 (fun r0 => k (((r0, ()), ()), ()))⟩
noncomputable def law03_SpanPoints_p1_code : Code := codeAt 8186 (bodyOf Try.f6)
abbrev zqf1 (β : Type) := Bool → Option β
abbrev zqf2 (β : Type) := (List (Int × Int)) → (List (Int × Int)) → (List (Int × Int)) → (List (Int × Int)) → (List (Int × Int)) → Option β
abbrev zqf3 := {β : Type} → zqf1 β → zqf2 β → Int → (List (Int × Int)) → (List (Int × Int)) → (List (Int × Int)) → (List (Int × Int)) → (List (Int × Int)) → (List (Int × Int)) → Option β
def zqf4 : View := ⟨0, [4, 5, 6, 8, 10, 12, 14], [(false, [.rowh 0]), (false, [.rowh 1]), (false, [.rowh 2]), (false, [.rowh 3]), (false, [.rowh 4]), (false, [.rowh 5]), (false, [.data (.int .i64)])], [.row 30 (.prod (.int .i64) (.int .i64)), .row 30 (.prod (.int .i64) (.int .i64)), .row 30 (.prod (.int .i64) (.int .i64)), .row 30 (.prod (.int .i64) (.int .i64)), .row 30 (.prod (.int .i64) (.int .i64)), .row 30 (.prod (.int .i64) (.int .i64))]⟩
def zqf5 : List (AExit × View) := [(.ret, ⟨0, [2], [(false, [.data .bool])], []⟩), (.exit 0, ⟨0, [4, 5, 6, 8, 10], [(false, [.rowh 0]), (false, [.rowh 1]), (false, [.rowh 2]), (false, [.rowh 3]), (false, [.rowh 4])], [.row 30 (.prod (.int .i64) (.int .i64)), .row 30 (.prod (.int .i64) (.int .i64)), .row 30 (.prod (.int .i64) (.int .i64)), .row 30 (.prod (.int .i64) (.int .i64)), .row 30 (.prod (.int .i64) (.int .i64))]⟩)]
@[reducible] def law03_SpanPoints_p1_G (p : zqf3) {β : Type} (d : zqf4.den) (ks : Outs.K β zqf5) : Option β :=
  p (fun a0 => ks.1 (((a0, ()), ()), ())) (fun a0 a1 a2 a3 a4 => ks.2.1 (((), (), (), (), (), ()), (a0, a1, a2, a3, a4, ()))) d.1.2.2.2.2.2.2.1.1 d.2.1 d.2.2.1 d.2.2.2.1 d.2.2.2.2.1 d.2.2.2.2.2.1 d.2.2.2.2.2.2.1
section
variable (c_law03_sane : zqes) (c_made_Dice_Set : zq8x) (c_made_Light : zq0) (c_made_Roll : zq7) (c_span_Clip : zq6k) (c_span_Has : zqch) (c_span_Length : zq1g) (c_span_Meet : zq9f) (c_span_Minus : zq9m) (c_span_Union : zqel) (c_span_Valid : zqx)
@[reducible] def law03_SpanPoints_X : Ctx := ⟨look tab, pick1 [(9, .spec (zqet c_law03_sane)), (11, .spec (zq8y c_made_Dice_Set)), (8, .spec (zq1 c_made_Light)), (10, .spec (zq8 c_made_Roll)), (21, .spec (zq6l c_span_Clip)), (17, .spec (zqci c_span_Has)), (23, .spec (zq1h c_span_Length)), (19, .spec (zq9g c_span_Meet)), (20, .spec (zq9n c_span_Minus)), (18, .spec (zqem c_span_Union)), (22, .spec (zqy c_span_Valid))], false, false⟩
def zqf6 {β : Type} (rec : Int → (List (Int × Int)) → (List (Int × Int)) → (List (Int × Int)) → (List (Int × Int)) → (List (Int × Int)) → (List (Int × Int)) → Option β) (k1 : zqf1 β) (k2 : zqf2 β) (n : Int) (a : List (Int × Int)) (b : List (Int × Int)) (u : List (Int × Int)) (m : List (Int × Int)) (x : List (Int × Int)) (c : List (Int × Int)) : Option β :=
  cond (decide (n < (80 : Int)))
  (c_span_Has a n (fun (rHas : Bool) =>
  c_span_Has b n (fun (rHas2 : Bool) =>
  c_span_Has u n (fun (rHas3 : Bool) =>
  cond rHas
  (cond (!(rHas3 == true))
  (k1 false)
  (c_span_Has m n (fun (rHas4 : Bool) =>
  cond rHas
  (cond (!(rHas4 == rHas2))
  (k1 false)
  (c_span_Has x n (fun (rHas5 : Bool) =>
  cond rHas
  (cond (!(rHas5 == (!rHas2)))
  (k1 false)
  (c_span_Has c n (fun (rHas6 : Bool) =>
  cond rHas
  (cond (decide ((10 : Int) ≤ n))
  (cond (!(rHas6 == (decide (n < (40 : Int)))))
  (k1 false)
  (let n2 : Int := (IntKind.i64.wrap (n + (1 : Int)));
  rec n2 a b u m x c))
  (cond (!(rHas6 == false))
  (k1 false)
  (let n2 : Int := (IntKind.i64.wrap (n + (1 : Int)));
  rec n2 a b u m x c)))
  (cond (!(rHas6 == false))
  (k1 false)
  (let n2 : Int := (IntKind.i64.wrap (n + (1 : Int)));
  rec n2 a b u m x c)))))
  (cond (!(rHas5 == false))
  (k1 false)
  (c_span_Has c n (fun (rHas6 : Bool) =>
  cond rHas
  (cond (decide ((10 : Int) ≤ n))
  (cond (!(rHas6 == (decide (n < (40 : Int)))))
  (k1 false)
  (let n2 : Int := (IntKind.i64.wrap (n + (1 : Int)));
  rec n2 a b u m x c))
  (cond (!(rHas6 == false))
  (k1 false)
  (let n2 : Int := (IntKind.i64.wrap (n + (1 : Int)));
  rec n2 a b u m x c)))
  (cond (!(rHas6 == false))
  (k1 false)
  (let n2 : Int := (IntKind.i64.wrap (n + (1 : Int)));
  rec n2 a b u m x c))))))))
  (cond (!(rHas4 == false))
  (k1 false)
  (c_span_Has x n (fun (rHas5 : Bool) =>
  cond rHas
  (cond (!(rHas5 == (!rHas2)))
  (k1 false)
  (c_span_Has c n (fun (rHas6 : Bool) =>
  cond rHas
  (cond (decide ((10 : Int) ≤ n))
  (cond (!(rHas6 == (decide (n < (40 : Int)))))
  (k1 false)
  (let n2 : Int := (IntKind.i64.wrap (n + (1 : Int)));
  rec n2 a b u m x c))
  (cond (!(rHas6 == false))
  (k1 false)
  (let n2 : Int := (IntKind.i64.wrap (n + (1 : Int)));
  rec n2 a b u m x c)))
  (cond (!(rHas6 == false))
  (k1 false)
  (let n2 : Int := (IntKind.i64.wrap (n + (1 : Int)));
  rec n2 a b u m x c)))))
  (cond (!(rHas5 == false))
  (k1 false)
  (c_span_Has c n (fun (rHas6 : Bool) =>
  cond rHas
  (cond (decide ((10 : Int) ≤ n))
  (cond (!(rHas6 == (decide (n < (40 : Int)))))
  (k1 false)
  (let n2 : Int := (IntKind.i64.wrap (n + (1 : Int)));
  rec n2 a b u m x c))
  (cond (!(rHas6 == false))
  (k1 false)
  (let n2 : Int := (IntKind.i64.wrap (n + (1 : Int)));
  rec n2 a b u m x c)))
  (cond (!(rHas6 == false))
  (k1 false)
  (let n2 : Int := (IntKind.i64.wrap (n + (1 : Int)));
  rec n2 a b u m x c)))))))))))
  (cond (!(rHas3 == rHas2))
  (k1 false)
  (c_span_Has m n (fun (rHas4 : Bool) =>
  cond rHas
  (cond (!(rHas4 == rHas2))
  (k1 false)
  (c_span_Has x n (fun (rHas5 : Bool) =>
  cond rHas
  (cond (!(rHas5 == (!rHas2)))
  (k1 false)
  (c_span_Has c n (fun (rHas6 : Bool) =>
  cond rHas
  (cond (decide ((10 : Int) ≤ n))
  (cond (!(rHas6 == (decide (n < (40 : Int)))))
  (k1 false)
  (let n2 : Int := (IntKind.i64.wrap (n + (1 : Int)));
  rec n2 a b u m x c))
  (cond (!(rHas6 == false))
  (k1 false)
  (let n2 : Int := (IntKind.i64.wrap (n + (1 : Int)));
  rec n2 a b u m x c)))
  (cond (!(rHas6 == false))
  (k1 false)
  (let n2 : Int := (IntKind.i64.wrap (n + (1 : Int)));
  rec n2 a b u m x c)))))
  (cond (!(rHas5 == false))
  (k1 false)
  (c_span_Has c n (fun (rHas6 : Bool) =>
  cond rHas
  (cond (decide ((10 : Int) ≤ n))
  (cond (!(rHas6 == (decide (n < (40 : Int)))))
  (k1 false)
  (let n2 : Int := (IntKind.i64.wrap (n + (1 : Int)));
  rec n2 a b u m x c))
  (cond (!(rHas6 == false))
  (k1 false)
  (let n2 : Int := (IntKind.i64.wrap (n + (1 : Int)));
  rec n2 a b u m x c)))
  (cond (!(rHas6 == false))
  (k1 false)
  (let n2 : Int := (IntKind.i64.wrap (n + (1 : Int)));
  rec n2 a b u m x c))))))))
  (cond (!(rHas4 == false))
  (k1 false)
  (c_span_Has x n (fun (rHas5 : Bool) =>
  cond rHas
  (cond (!(rHas5 == (!rHas2)))
  (k1 false)
  (c_span_Has c n (fun (rHas6 : Bool) =>
  cond rHas
  (cond (decide ((10 : Int) ≤ n))
  (cond (!(rHas6 == (decide (n < (40 : Int)))))
  (k1 false)
  (let n2 : Int := (IntKind.i64.wrap (n + (1 : Int)));
  rec n2 a b u m x c))
  (cond (!(rHas6 == false))
  (k1 false)
  (let n2 : Int := (IntKind.i64.wrap (n + (1 : Int)));
  rec n2 a b u m x c)))
  (cond (!(rHas6 == false))
  (k1 false)
  (let n2 : Int := (IntKind.i64.wrap (n + (1 : Int)));
  rec n2 a b u m x c)))))
  (cond (!(rHas5 == false))
  (k1 false)
  (c_span_Has c n (fun (rHas6 : Bool) =>
  cond rHas
  (cond (decide ((10 : Int) ≤ n))
  (cond (!(rHas6 == (decide (n < (40 : Int)))))
  (k1 false)
  (let n2 : Int := (IntKind.i64.wrap (n + (1 : Int)));
  rec n2 a b u m x c))
  (cond (!(rHas6 == false))
  (k1 false)
  (let n2 : Int := (IntKind.i64.wrap (n + (1 : Int)));
  rec n2 a b u m x c)))
  (cond (!(rHas6 == false))
  (k1 false)
  (let n2 : Int := (IntKind.i64.wrap (n + (1 : Int)));
  rec n2 a b u m x c)))))))))))))))
  (k2 a b u m x)
def zqf7 {β : Type} : Nat → zqf1 β → zqf2 β → Int → (List (Int × Int)) → (List (Int × Int)) → (List (Int × Int)) → (List (Int × Int)) → (List (Int × Int)) → (List (Int × Int)) → Option β
  | 0 => fun _ _ _ _ _ _ _ _ _ => none
  | i + 1 => fun k1 k2 n a b u m x c => zqf6 c_span_Has (zqf7 i k1 k2) k1 k2 n a b u m x c
theorem zqf8 (hΓ : ΓOk Try.prog (law03_SpanPoints_X c_law03_sane c_made_Dice_Set c_made_Light c_made_Roll c_span_Clip c_span_Has c_span_Length c_span_Meet c_span_Minus c_span_Union c_span_Valid).Γ) (i : Nat) : PieceOk Try.prog 162 0 law03_SpanPoints_p1_code zqf4 zqf5 (law03_SpanPoints_p1_G (zqf7 c_span_Has i)) := by
  rw [show law03_SpanPoints_p1_code = .loop (loopBody law03_SpanPoints_p1_code) by kernel_rfl]
  exact piece_loop (X := (law03_SpanPoints_X c_law03_sane c_made_Dice_Set c_made_Light c_made_Roll c_span_Clip c_span_Has c_span_Length c_span_Meet c_span_Minus c_span_Union c_span_Valid)) (p := 1) (Λ := pick1 []) (G := fun i => @fun β d ks => law03_SpanPoints_p1_G (zqf7 c_span_Has i) d ks) mixed tab_ok hΓ rfl (by kernel_rfl) CutsOk_nil (fun _ _ => rfl) (fun i => @fun β d ks r h => Eq.trans (b := law03_SpanPoints_p1_G (zqf7 c_span_Has (i + 1)) d ks) (by kernel_rfl) h) i
def zqf9 (p1 : zqf3) {β : Type} (t : List Int) (k : (Bool → Option β)) : Option β :=
  c_made_Light t (fun (rLight : Bool) =>
  cond (!rLight)
  (c_law03_sane  (fun (rsane : Bool) =>
  k rsane))
  (c_made_Roll t (fun (mrRoll : (List Int × Int)) =>
  c_made_Dice_Set mrRoll (fun (mrSet : (List Int × Int)) (lrSet : List (Int × Int)) =>
  c_made_Dice_Set mrSet (fun (mrSet2 : (List Int × Int)) (lrSet2 : List (Int × Int)) =>
  c_span_Union lrSet lrSet2 (fun (rUnion : Int) (lrUnion : List (Int × Int)) =>
  c_span_Meet lrSet lrSet2 (fun (rMeet : Int) (lrMeet : List (Int × Int)) =>
  c_span_Minus lrSet lrSet2 (fun (rMinus : Int) (lrMinus : List (Int × Int)) =>
  c_span_Clip lrSet (10 : Int) (40 : Int) (fun (rClip : Int) (lrClip : List (Int × Int)) =>
  cond (!decide (rUnion = (0 : Int)))
  (k false)
  (cond (!decide (rMeet = (0 : Int)))
  (k false)
  (cond (!decide (rMinus = (0 : Int)))
  (k false)
  (cond (!decide (rClip = (0 : Int)))
  (k false)
  (c_span_Valid lrUnion (fun (rValid : Bool) =>
  cond (!rValid)
  (k false)
  (c_span_Valid lrMeet (fun (rValid2 : Bool) =>
  cond (!rValid2)
  (k false)
  (c_span_Valid lrMinus (fun (rValid3 : Bool) =>
  cond (!rValid3)
  (k false)
  (c_span_Valid lrClip (fun (rValid4 : Bool) =>
  cond (!rValid4)
  (k false)
  (p1 (fun (t2 : Bool) =>
  k t2) (fun (a : List (Int × Int)) (b : List (Int × Int)) (u : List (Int × Int)) (m : List (Int × Int)) (x : List (Int × Int)) =>
  c_span_Length u (fun (rLength : Int) =>
  c_span_Length m (fun (rLength2 : Int) =>
  c_span_Length a (fun (rLength3 : Int) =>
  c_span_Length b (fun (rLength4 : Int) =>
  cond (decide ((IntKind.i64.wrap (rLength + rLength2)) = (IntKind.i64.wrap (rLength3 + rLength4))))
  (c_span_Length x (fun (rLength5 : Int) =>
  c_span_Length m (fun (rLength6 : Int) =>
  c_span_Length a (fun (rLength7 : Int) =>
  cond (decide ((IntKind.i64.wrap (rLength5 + rLength6)) = rLength7))
  (c_law03_sane  (fun (rsane : Bool) =>
  k rsane))
  (k false)))))
  (k false)))))) (0 : Int) lrSet lrSet2 lrUnion lrMeet lrMinus lrClip)))))))))))))))))))))
theorem zqfa (hΓ : ΓOk Try.prog (law03_SpanPoints_X c_law03_sane c_made_Dice_Set c_made_Light c_made_Roll c_span_Clip c_span_Has c_span_Length c_span_Meet c_span_Minus c_span_Union c_span_Valid).Γ) (p1 : zqf3) (hp1 : PieceOk Try.prog 162 0 law03_SpanPoints_p1_code zqf4 zqf5 (law03_SpanPoints_p1_G p1)) : SpecOk Try.prog 6 (zqf0 (zqf9 c_law03_sane c_made_Dice_Set c_made_Light c_made_Roll c_span_Clip c_span_Length c_span_Meet c_span_Minus c_span_Union c_span_Valid p1)) :=
  spec_exec (X := (law03_SpanPoints_X c_law03_sane c_made_Dice_Set c_made_Light c_made_Roll c_span_Clip c_span_Has c_span_Length c_span_Meet c_span_Minus c_span_Union c_span_Valid)) (Λ := pick1 [(8186, pieceCut zqf4 zqf5 (law03_SpanPoints_p1_G p1))]) (rs := [.tmp 2]) (c := bodyOf Try.f6) mixed tab_ok hΓ Try.func6 (by kernel_rfl) (by kernel_rfl) (by kernel_rfl) (by kernel_rfl) (CutsOk_cons (q := 8186) (c' := law03_SpanPoints_p1_code) (by kernel_rfl) rfl hp1 CutsOk_nil) (fun x k r h => Eq.trans (b := (zqf0 (zqf9 c_law03_sane c_made_Dice_Set c_made_Light c_made_Roll c_span_Clip c_span_Length c_span_Meet c_span_Minus c_span_Union c_span_Valid p1)).run x k) (by kernel_rfl) h)
end
theorem zqfbΓ : ΓOk Try.prog (pick1 [(9, .spec (zqet zqex)), (11, .spec (zq8y zq9d)), (8, .spec (zq1 zq5)), (10, .spec (zq8 zqc)), (21, .spec (zq6l zq6p)), (17, .spec (zqci zqcm)), (23, .spec (zq1h zq1w)), (19, .spec (zq9g zq9k)), (20, .spec (zq9n zq9r)), (18, .spec (zqem zqeq)), (22, .spec (zqy zq1e))]) := (ΓOk_cons zqey (ΓOk_cons zq9e (ΓOk_cons zq6 (ΓOk_cons zqd (ΓOk_cons zq6q (ΓOk_cons zqcn (ΓOk_cons zq1x (ΓOk_cons zq9l (ΓOk_cons zq9s (ΓOk_cons zqer (ΓOk_cons zq1f ΓOk_nil)))))))))))
def zqfc (m : Nat) : zqf3 := zqf7 zqcm m
theorem zqfd {β : Type} (i : Nat) (k1 k2 n a b u m x c) : (zqfc (i + 1) k1 k2 n a b u m x c : Option β) = zqf6 zqcm (zqfc i k1 k2) k1 k2 n a b u m x c := rfl
def zqfe : zqf3 := zqfc fuel
theorem zqff : PieceOk Try.prog 162 0 law03_SpanPoints_p1_code zqf4 zqf5 (law03_SpanPoints_p1_G zqfe) := zqf8 zqex zq9d zq5 zqc zq6p zqcm zq1w zq9k zq9r zqeq zq1e zqfbΓ fuel
def zqfg : zqez := zqf9 zqex zq9d zq5 zqc zq6p zq1w zq9k zq9r zqeq zq1e zqfe
theorem zqfh : SpecOk Try.prog 6 (zqf0 zqfg) := zqfa zqex zq9d zq5 zqc zq6p zqcm zq1w zq9k zq9r zqeq zq1e zqfbΓ zqfe zqff
end
end Go.Lift
/- Plain lemmas about functional forms: tests that are known, loops. -/
namespace Go.Lift
open Go.RowKit Go.IntWalk

section
variable {β : Type}
/-! ### Tests -/
theorem c_inb {i n : Int} {a b : Option β} (h : 0 ≤ i ∧ i < n) : cond (decide (0 ≤ i) && decide (i < n)) a b = a := by
  rw [decide_eq_true h.1, decide_eq_true h.2]; rfl
theorem c_room {n : Nat} {a b : Option β} (h : n ≤ 140737488355328) : cond (decide (n ≤ roomMax)) a b = a := by
  rw [decide_eq_true (p := n ≤ roomMax) h]; rfl
theorem c_pos {p : Prop} [Decidable p] {a b : Option β} (h : p) : cond (decide p) a b = a := by rw [decide_eq_true h]; rfl
theorem c_neg {p : Prop} [Decidable p] {a b : Option β} (h : ¬ p) : cond (decide p) a b = b := by rw [decide_eq_false h]; rfl
theorem c_npos {p : Prop} [Decidable p] {a b : Option β} (h : p) : cond (!decide p) a b = b := by rw [decide_eq_true h]; rfl
theorem c_nneg {p : Prop} [Decidable p] {a b : Option β} (h : ¬ p) : cond (!decide p) a b = a := by rw [decide_eq_false h]; rfl
theorem c_t {a b : Option β} : cond true a b = a := rfl
theorem c_f {a b : Option β} : cond false a b = b := rfl
/-! ### Loops over the numbers from 0 on -/
/-- A loop with an invariant and a measure. -/
theorem while_loop {σ ρ : Type} {Kt : Type → Type} (F : {β : Type} → Kt β → Nat → σ → Option β) (X : {β : Type} → Kt β → ρ → Option β) (I : σ → Prop) (μ : σ → Nat) (Q : ρ → Prop)
    (step : ∀ s, I s → (∃ s', I s' ∧ μ s' < μ s ∧ ∀ {β : Type} (k : Kt β) m, F k (m + 1) s = F k m s') ∨ (∃ r, Q r ∧ ∀ {β : Type} (k : Kt β) m, F k (m + 1) s = X k r)) :
    ∀ (N : Nat) (s : σ), I s → μ s < N → ∃ r, Q r ∧ ∀ {β : Type} (k : Kt β), F k N s = X k r := by
  intro N
  induction N with
  | zero => intro s _ h; omega
  | succ N ih =>
    intro s hI hN
    rcases step s hI with ⟨s', h1, h2, h3⟩ | ⟨r, h1, h2⟩
    · obtain ⟨r, h4, h5⟩ := ih s' h1 (by omega)
      exact ⟨r, h4, fun k => (h3 k N).trans (h5 k)⟩
    · exact ⟨r, h1, fun k => h2 k N⟩
end
end Go.Lift

/- Sets of numbers as lists of spans: plain theory for the chapter 3. -/
namespace Go.Lift
noncomputable section
set_option linter.unusedVariables false
set_option linter.unusedSimpArgs false

abbrev Sp := Int × Int
/-- A number is in one of the spans. -/
def hasS (l : List Sp) (x : Int) : Prop := ∃ s ∈ l, s.1 ≤ x ∧ x < s.2
theorem hasS_nil {x : Int} : ¬ hasS [] x := by rintro ⟨s, h, _⟩; cases h
theorem hasS_cons {s : Sp} {l : List Sp} {x : Int} : hasS (s :: l) x ↔ (s.1 ≤ x ∧ x < s.2) ∨ hasS l x := by
  unfold hasS
  simp only [List.mem_cons, exists_eq_or_imp]
theorem hasS_append {l m : List Sp} {x : Int} : hasS (l ++ m) x ↔ hasS l x ∨ hasS m x := by
  unfold hasS
  simp only [List.mem_append, or_and_right, exists_or]

/-- The least form of a set, all of it beyond a. -/
def NFa : Int → List Sp → Prop
  | _, [] => True
  | a, s :: l => a < s.1 ∧ s.1 < s.2 ∧ NFa s.2 l

theorem NFa.mono {a b : Int} (h : b ≤ a) : ∀ {l : List Sp}, NFa a l → NFa b l
  | [], _ => trivial
  | s :: l, ⟨h1, h2, h3⟩ => ⟨by omega, h2, h3⟩
theorem NFa.lt {a : Int} : ∀ {l : List Sp} {x : Int}, NFa a l → hasS l x → a < x
  | [], x, _, h => absurd h hasS_nil
  | s :: l, x, ⟨h1, h2, h3⟩, h => by
    rcases hasS_cons.1 h with h | h
    · omega
    · have := NFa.lt h3 h
      omega

/-- A set has one form. -/
theorem NFa.uniq : ∀ {l m : List Sp} {a b : Int}, NFa a l → NFa b m → (∀ x, hasS l x ↔ hasS m x) → l = m
  | [], [], _, _, _, _, _ => rfl
  | [], t :: m, _, _, _, ⟨h1, h2, h3⟩, h => absurd ((h t.1).2 (hasS_cons.2 (.inl ⟨by omega, h2⟩))) hasS_nil
  | s :: l, [], _, _, ⟨h1, h2, h3⟩, _, h => absurd ((h s.1).1 (hasS_cons.2 (.inl ⟨by omega, h2⟩))) hasS_nil
  | s :: l, t :: m, _, _, ⟨h1, h2, h3⟩, ⟨g1, g2, g3⟩, h => by
    have a1 : t.1 ≤ s.1 := by
      rcases hasS_cons.1 ((h s.1).1 (hasS_cons.2 (.inl ⟨by omega, h2⟩))) with q | q
      · omega
      · have := g3.lt q; omega
    have a2 : s.1 ≤ t.1 := by
      rcases hasS_cons.1 ((h t.1).2 (hasS_cons.2 (.inl ⟨by omega, g2⟩))) with q | q
      · omega
      · have := h3.lt q; omega
    have e1 : s.1 = t.1 := by omega
    have b1 : ¬ s.2 < t.2 := by
      intro hlt
      rcases hasS_cons.1 ((h s.2).2 (hasS_cons.2 (.inl ⟨by omega, hlt⟩))) with q | q
      · omega
      · have := h3.lt q; omega
    have b2 : ¬ t.2 < s.2 := by
      intro hlt
      rcases hasS_cons.1 ((h t.2).1 (hasS_cons.2 (.inl ⟨by omega, hlt⟩))) with q | q
      · omega
      · have := g3.lt q; omega
    have e2 : s.2 = t.2 := by omega
    have e : s = t := Prod.ext e1 e2
    subst e
    have ht : l = m := by
      refine NFa.uniq h3 g3 fun x => ?_
      constructor
      · intro q
        have hx := h3.lt q
        rcases hasS_cons.1 ((h x).1 (hasS_cons.2 (.inr q))) with p | p
        · omega
        · exact p
      · intro q
        have hx := g3.lt q
        rcases hasS_cons.1 ((h x).2 (hasS_cons.2 (.inr q))) with p | p
        · omega
        · exact p
    rw [ht]

/-! ### What is in both -/
def commonS : Nat → List Sp → List Sp → List Sp
  | 0, _, _ => []
  | _, [], _ => []
  | _, _, [] => []
  | n + 1, a :: ar, b :: bs =>
    (if max a.1 b.1 < min a.2 b.2 then [(max a.1 b.1, min a.2 b.2)] else []) ++ (if a.2 < b.2 then commonS n ar (b :: bs) else commonS n (a :: ar) bs)

theorem commonS_ok : ∀ (n : Nat) (l m : List Sp) (c d : Int), l.length + m.length ≤ n → NFa c l → NFa d m →
    (∀ x, hasS (commonS n l m) x ↔ hasS l x ∧ hasS m x) ∧ NFa (max c d) (commonS n l m)
  | 0, l, m, c, d, h, hl, hm => by
    have : l = [] := List.eq_nil_of_length_eq_zero (by omega)
    subst this
    exact ⟨fun x => ⟨fun h => absurd h hasS_nil, fun h => absurd h.1 hasS_nil⟩, trivial⟩
  | n + 1, [], m, c, d, h, hl, hm => by
    have e : commonS (n + 1) [] m = [] := by unfold commonS; rfl
    rw [e]
    exact ⟨fun x => ⟨fun h => absurd h hasS_nil, fun h => absurd h.1 hasS_nil⟩, trivial⟩
  | n + 1, a :: ar, [], c, d, h, hl, hm => by
    have e : commonS (n + 1) (a :: ar) [] = [] := by unfold commonS; rfl
    rw [e]
    exact ⟨fun x => ⟨fun h => absurd h hasS_nil, fun h => absurd h.2 hasS_nil⟩, trivial⟩
  | n + 1, a :: ar, b :: bs, c, d, h, ⟨l1, l2, l3⟩, ⟨m1, m2, m3⟩ => by
    have e : commonS (n + 1) (a :: ar) (b :: bs) = (if max a.1 b.1 < min a.2 b.2 then [(max a.1 b.1, min a.2 b.2)] else []) ++ (if a.2 < b.2 then commonS n ar (b :: bs) else commonS n (a :: ar) bs) := rfl
    simp only [List.length_cons] at h
    rw [e]
    by_cases hc : a.2 < b.2
    · rw [if_pos hc]
      obtain ⟨i1, i2⟩ := commonS_ok n ar (b :: bs) a.2 d (by simp only [List.length_cons]; omega) l3 ⟨m1, m2, m3⟩
      by_cases hp : max a.1 b.1 < min a.2 b.2
      · rw [if_pos hp]
        refine ⟨fun x => ?_, ?_⟩
        · rw [List.singleton_append, hasS_cons, i1 x, hasS_cons, hasS_cons]
          constructor
          · rintro (q | ⟨q1, q2⟩)
            · exact ⟨.inl (by omega), .inl (by omega)⟩
            · exact ⟨.inr q1, q2⟩
          · rintro ⟨q1 | q1, q2 | q2⟩
            · exact .inl (by simp only; omega)
            · have := m3.lt q2; omega
            · exact .inr ⟨q1, .inl q2⟩
            · exact .inr ⟨q1, .inr q2⟩
        · refine ⟨by simp only; omega, hp, ?_⟩
          have hx : min a.2 b.2 ≤ max a.2 d := by omega
          exact i2.mono hx
      · rw [if_neg hp, List.nil_append]
        refine ⟨fun x => ?_, i2.mono (by omega)⟩
        rw [i1 x, hasS_cons (s := a)]
        constructor
        · rintro ⟨q1, q2⟩
          exact ⟨.inr q1, q2⟩
        · rintro ⟨q1 | q1, q2⟩
          · rcases hasS_cons.1 q2 with q2 | q2
            · omega
            · have := m3.lt q2; omega
          · exact ⟨q1, q2⟩
    · rw [if_neg hc]
      obtain ⟨i1, i2⟩ := commonS_ok n (a :: ar) bs c b.2 (by simp only [List.length_cons]; omega) ⟨l1, l2, l3⟩ m3
      by_cases hp : max a.1 b.1 < min a.2 b.2
      · rw [if_pos hp]
        refine ⟨fun x => ?_, ?_⟩
        · rw [List.singleton_append, hasS_cons, i1 x, hasS_cons (s := b)]
          constructor
          · rintro (q | ⟨q1, q2⟩)
            · exact ⟨hasS_cons.2 (.inl (by omega)), .inl (by omega)⟩
            · exact ⟨q1, .inr q2⟩
          · rintro ⟨q1, q2 | q2⟩
            · rcases hasS_cons.1 q1 with q1 | q1
              · exact .inl (by simp only; omega)
              · have := l3.lt q1; omega
            · exact .inr ⟨q1, q2⟩
        · refine ⟨by simp only; omega, hp, ?_⟩
          have hx : min a.2 b.2 ≤ max c b.2 := by omega
          exact i2.mono hx
      · rw [if_neg hp, List.nil_append]
        refine ⟨fun x => ?_, i2.mono (by omega)⟩
        rw [i1 x, hasS_cons (s := b)]
        constructor
        · rintro ⟨q1, q2⟩
          exact ⟨q1, .inr q2⟩
        · rintro ⟨q1, q2 | q2⟩
          · rcases hasS_cons.1 q1 with q1 | q1
            · omega
            · have := l3.lt q1; omega
          · exact ⟨q1, q2⟩

/-! ### What is in the first alone -/
def restS (e at_ : Int) : List Sp := if at_ < e then [(at_, e)] else []
def cutS (e : Int) : Int → List Sp → List Sp
  | at_, [] => restS e at_
  | at_, b :: bs => if b.1 < e then restS b.1 at_ ++ cutS e (max at_ b.2) bs else restS e at_

theorem restS_ok {e at_ a : Int} (h : a < at_) : (∀ x, hasS (restS e at_) x ↔ at_ ≤ x ∧ x < e) ∧ NFa a (restS e at_) := by
  unfold restS
  split
  · refine ⟨fun x => ?_, h, by assumption, trivial⟩
    rw [hasS_cons]
    constructor
    · rintro (q | q)
      · exact q
      · exact absurd q hasS_nil
    · exact .inl
  · exact ⟨fun x => ⟨fun q => absurd q hasS_nil, fun q => by omega⟩, trivial⟩

theorem cutS_ok {e : Int} : ∀ (bs : List Sp) (at_ a c : Int), a < at_ → NFa c bs → (∀ x, hasS (cutS e at_ bs) x ↔ (at_ ≤ x ∧ x < e) ∧ ¬ hasS bs x) ∧ NFa a (cutS e at_ bs)
  | [], at_, a, c, h, _ => by
    obtain ⟨r1, r2⟩ := restS_ok (e := e) h
    exact ⟨fun x => ⟨fun q => ⟨(r1 x).1 q, hasS_nil⟩, fun q => (r1 x).2 q.1⟩, r2⟩
  | b :: bs, at_, a, c, h, ⟨m1, m2, m3⟩ => by
    unfold cutS
    by_cases hb : b.1 < e
    · rw [if_pos hb]
      by_cases hp : at_ < b.1
      · obtain ⟨i1, i2⟩ := cutS_ok bs (max at_ b.2) b.1 b.2 (by omega) m3
        have er : restS b.1 at_ = [(at_, b.1)] := by unfold restS; rw [if_pos hp]
        rw [er]
        refine ⟨fun x => ?_, h, hp, i2⟩
        rw [List.singleton_append, hasS_cons, i1 x, hasS_cons]
        constructor
        · rintro (q | ⟨q1, q2⟩)
          · simp only at q
            refine ⟨by omega, ?_⟩
            rintro (p | p)
            · omega
            · have := m3.lt p; omega
          · refine ⟨by omega, ?_⟩
            rintro (p | p)
            · omega
            · exact q2 p
        · rintro ⟨q1, q2⟩
          by_cases hx : x < b.1
          · exact .inl (by simp only; omega)
          · refine .inr ⟨⟨?_, q1.2⟩, fun p => q2 (.inr p)⟩
            have : ¬ x < b.2 := fun hlt => q2 (.inl ⟨by omega, hlt⟩)
            omega
      · obtain ⟨i1, i2⟩ := cutS_ok bs (max at_ b.2) a b.2 (by omega) m3
        have er : restS b.1 at_ = [] := by unfold restS; rw [if_neg hp]
        rw [er, List.nil_append]
        refine ⟨fun x => ?_, i2⟩
        rw [i1 x, hasS_cons]
        constructor
        · rintro ⟨q1, q2⟩
          refine ⟨by omega, ?_⟩
          rintro (p | p)
          · omega
          · exact q2 p
        · rintro ⟨q1, q2⟩
          refine ⟨⟨?_, q1.2⟩, fun p => q2 (.inr p)⟩
          have : ¬ x < b.2 := fun hlt => q2 (.inl ⟨by omega, hlt⟩)
          omega
    · rw [if_neg hb]
      obtain ⟨r1, r2⟩ := restS_ok (e := e) h
      refine ⟨fun x => ?_, r2⟩
      rw [r1 x, hasS_cons]
      constructor
      · intro q
        refine ⟨q, ?_⟩
        rintro (p | p)
        · omega
        · have := m3.lt p; omega
      · exact fun q => q.1

def withoutS (l m : List Sp) : List Sp := l.flatMap fun s => cutS s.2 s.1 m

theorem NFa.append {l m : List Sp} {a b : Int} (hl : NFa a l) (hb : ∀ x, hasS l x → x < b) (hm : NFa b m) (hab : a ≤ b) : NFa a (l ++ m) := by
  induction l generalizing a with
  | nil => exact hm.mono hab
  | cons s l ih =>
    obtain ⟨h1, h2, h3⟩ := hl
    have hs : s.2 - 1 < b := hb (s.2 - 1) (hasS_cons.2 (.inl ⟨by omega, by omega⟩))
    exact ⟨h1, h2, ih h3 (fun x hx => hb x (hasS_cons.2 (.inr hx))) (by omega)⟩

theorem withoutS_ok {m : List Sp} {c : Int} (hm : NFa c m) : ∀ (l : List Sp) (a : Int), NFa a l → (∀ x, hasS (withoutS l m) x ↔ hasS l x ∧ ¬ hasS m x) ∧ NFa a (withoutS l m)
  | [], a, _ => ⟨fun x => ⟨fun q => absurd q hasS_nil, fun q => absurd q.1 hasS_nil⟩, trivial⟩
  | s :: l, a, ⟨h1, h2, h3⟩ => by
    obtain ⟨i1, i2⟩ := withoutS_ok hm l s.2 h3
    obtain ⟨j1, j2⟩ := cutS_ok (e := s.2) m s.1 a c h1 hm
    have e : withoutS (s :: l) m = cutS s.2 s.1 m ++ withoutS l m := rfl
    rw [e]
    refine ⟨fun x => ?_, j2.append (fun x hx => ((j1 x).1 hx).1.2) i2 (by omega)⟩
    rw [hasS_append, i1 x, j1 x, hasS_cons]
    constructor
    · rintro (⟨q1, q2⟩ | ⟨q1, q2⟩)
      · exact ⟨.inl q1, q2⟩
      · exact ⟨.inr q1, q2⟩
    · rintro ⟨q1 | q1, q2⟩
      · exact .inl ⟨q1, q2⟩
      · exact .inr ⟨q1, q2⟩

/-! ### Merging spans that ascend -/
def mergeS : Sp → List Sp → List Sp
  | c, [] => [c]
  | c, s :: l => if s.1 ≤ c.2 then mergeS (c.1, max c.2 s.2) l else c :: mergeS s l
theorem mergeS_ok : ∀ (l : List Sp) (c : Sp) (a : Int), a < c.1 → c.1 < c.2 → (∀ s ∈ l, c.1 ≤ s.1 ∧ s.1 < s.2) → l.Pairwise (fun s t => s.1 ≤ t.1) → (∀ x, hasS (mergeS c l) x ↔ hasS (c :: l) x) ∧ NFa a (mergeS c l)
  | [], c, a, h1, h2, _, _ => ⟨fun x => Iff.rfl, h1, h2, trivial⟩
  | s :: l, c, a, h1, h2, hs, hp => by
    rw [List.pairwise_cons] at hp
    obtain ⟨hs1, hs2⟩ := hs s (by simp)
    unfold mergeS
    by_cases hc : s.1 ≤ c.2
    · rw [if_pos hc]
      obtain ⟨i1, i2⟩ := mergeS_ok l (c.1, max c.2 s.2) a h1 (by simp only; omega) (fun t ht => hs t (by simp [ht])) hp.2
      refine ⟨fun x => ?_, i2⟩
      rw [i1 x, hasS_cons, hasS_cons, hasS_cons]
      constructor
      · rintro (q | q)
        · simp only at q
          by_cases hx : x < c.2
          · exact .inl (by omega)
          · exact .inr (.inl (by omega))
        · exact .inr (.inr q)
      · rintro (q | q | q)
        · exact .inl (by simp only; omega)
        · exact .inl (by simp only; omega)
        · exact .inr q
    · rw [if_neg hc]
      obtain ⟨i1, i2⟩ := mergeS_ok l s c.2 (by omega) hs2 (fun t ht => ⟨hp.1 t ht, (hs t (by simp [ht])).2⟩) hp.2
      refine ⟨fun x => ?_, h1, h2, i2⟩
      rw [hasS_cons, i1 x, hasS_cons (s := c)]
end
end Go.Lift

/- Sets of numbers as lists of spans: their length. -/
namespace Go.Lift
noncomputable section
set_option linter.unusedVariables false
set_option linter.unusedSimpArgs false

def hasB (l : List Sp) (x : Int) : Bool := l.any fun s => decide (s.1 ≤ x) && decide (x < s.2)
theorem hasB_iff {l : List Sp} {x : Int} : hasB l x = true ↔ hasS l x := by
  unfold hasB hasS
  rw [List.any_eq_true]
  simp only [Bool.and_eq_true, decide_eq_true_eq]
def lengthS (l : List Sp) : Int := (l.map fun s => s.2 - s.1).sum
/-- The part of it below N. -/
def lenTo (l : List Sp) (N : Int) : Int := (l.map fun s => min s.2 N - min s.1 N).sum
def cntS (l : List Sp) : Nat → Int
  | 0 => 0
  | N + 1 => cntS l N + (if hasB l (N : Int) then 1 else 0)

theorem lenTo_step : ∀ {l : List Sp} {a : Int} (N : Int), NFa a l → lenTo l (N + 1) = lenTo l N + (if hasB l N then 1 else 0)
  | [], a, N, _ => by simp [lenTo, hasB]
  | s :: l, a, N, ⟨h1, h2, h3⟩ => by
    have ih := lenTo_step (l := l) N h3
    have e : ∀ M, lenTo (s :: l) M = (min s.2 M - min s.1 M) + lenTo l M := fun M => by simp [lenTo]
    rw [e, e, ih]
    have hb : hasB (s :: l) N = ((decide (s.1 ≤ N) && decide (N < s.2)) || hasB l N) := by simp [hasB]
    rw [hb]
    by_cases hin : s.1 ≤ N ∧ N < s.2
    · have hn : hasB l N = false := by
        cases hx : hasB l N with
        | false => rfl
        | true =>
          have := h3.lt (hasB_iff.1 hx)
          omega
      rw [hn, decide_eq_true hin.1, decide_eq_true hin.2]
      simp only [Bool.and_self, Bool.or_false, if_true, Bool.false_eq_true, if_false]
      omega
    · have hd : (decide (s.1 ≤ N) && decide (N < s.2)) = false := by
        rw [← Bool.decide_and]
        exact decide_eq_false hin
      rw [hd, Bool.false_or]
      have : min s.2 (N + 1) - min s.1 (N + 1) = min s.2 N - min s.1 N := by omega
      omega

theorem cnt_lenTo {l : List Sp} {a : Int} (h : NFa a l) (h0 : ∀ s ∈ l, 0 ≤ s.1 ∧ 0 ≤ s.2) : ∀ N : Nat, cntS l N = lenTo l N
  | 0 => by
    have : ∀ l : List Sp, (∀ s ∈ l, 0 ≤ s.1 ∧ 0 ≤ s.2) → lenTo l 0 = 0 := by
      intro l
      induction l with
      | nil => intro _; rfl
      | cons s l ih =>
        intro hs
        have e : lenTo (s :: l) 0 = (min s.2 0 - min s.1 0) + lenTo l 0 := by simp [lenTo]
        have := hs s (by simp)
        rw [e, ih (fun t ht => hs t (by simp [ht]))]
        omega
    exact (this l h0).symm
  | N + 1 => by
    have e : (((N + 1 : Nat)) : Int) = (N : Int) + 1 := by omega
    rw [e, lenTo_step (N : Int) h, ← cnt_lenTo h h0 N]
    rfl

theorem lenTo_all {N : Int} : ∀ {l : List Sp}, (∀ s ∈ l, s.1 ≤ N ∧ s.2 ≤ N) → lenTo l N = lengthS l
  | [], _ => rfl
  | s :: l, h => by
    have := h s (by simp)
    have e1 : lenTo (s :: l) N = (min s.2 N - min s.1 N) + lenTo l N := by simp [lenTo]
    have e2 : lengthS (s :: l) = (s.2 - s.1) + lengthS l := by simp [lengthS]
    rw [e1, e2, lenTo_all (fun t ht => h t (by simp [ht]))]
    omega

theorem NFa.mem {a : Int} : ∀ {l : List Sp}, NFa a l → ∀ s ∈ l, a < s.1 ∧ s.1 < s.2
  | [], _, s, h => by cases h
  | t :: l, ⟨h1, h2, h3⟩, s, h => by
    rcases List.mem_cons.1 h with rfl | h
    · exact ⟨h1, h2⟩
    · have := NFa.mem h3 s h
      omega

/-- The length of a set is the number of its elements. -/
theorem length_cnt {l : List Sp} {N : Nat} (h : NFa (-1) l) (hN : ∀ s ∈ l, s.2 ≤ (N : Int)) : lengthS l = cntS l N := by
  have hm := h.mem
  rw [cnt_lenTo h (fun s hs => by have := hm s hs; omega) N, lenTo_all (fun s hs => by have := hm s hs; have := hN s hs; omega)]

theorem cnt_union {a b u m : List Sp} (hu : ∀ x, hasB u x = (hasB a x || hasB b x)) (hm : ∀ x, hasB m x = (hasB a x && hasB b x)) : ∀ N, cntS u N + cntS m N = cntS a N + cntS b N
  | 0 => rfl
  | N + 1 => by
    have ih := cnt_union hu hm N
    simp only [cntS]
    rw [hu, hm]
    cases hasB a (N : Int) <;> cases hasB b (N : Int) <;> simp <;> omega
theorem cnt_minus {a b x m : List Sp} (hx : ∀ y, hasB x y = (hasB a y && !hasB b y)) (hm : ∀ y, hasB m y = (hasB a y && hasB b y)) : ∀ N, cntS x N + cntS m N = cntS a N
  | 0 => rfl
  | N + 1 => by
    have ih := cnt_minus hx hm N
    simp only [cntS]
    rw [hx, hm]
    cases hasB a (N : Int) <;> cases hasB b (N : Int) <;> simp <;> omega

/-- The elements of a set below a bound stay below it. -/
theorem below_of_has {l : List Sp} {a N : Int} (h : NFa a l) (hx : ∀ x, hasS l x → x < N) : ∀ s ∈ l, s.2 ≤ N := by
  intro s hs
  have := h.mem s hs
  have := hx (s.2 - 1) ⟨s, hs, by omega, by omega⟩
  omega
end
end Go.Lift

/- Sets of numbers as lists of spans: the normal form of any spans; the next element and the next gap. -/
namespace Go.Lift
noncomputable section
set_option linter.unusedVariables false
set_option linter.unusedSimpArgs false

def mergeAll : List Sp → List Sp
  | [] => []
  | c :: l => mergeS c l
theorem hasS_perm {l m : List Sp} (h : l.Perm m) (x : Int) : hasS l x ↔ hasS m x := by
  unfold hasS
  constructor
  · rintro ⟨s, hs, h2⟩
    exact ⟨s, h.mem_iff.1 hs, h2⟩
  · rintro ⟨s, hs, h2⟩
    exact ⟨s, h.mem_iff.2 hs, h2⟩
theorem hasS_filter {l : List Sp} (x : Int) : hasS (l.filter fun s => decide (s.1 < s.2)) x ↔ hasS l x := by
  unfold hasS
  constructor
  · rintro ⟨s, hs, h2⟩
    exact ⟨s, (List.mem_filter.1 hs).1, h2⟩
  · rintro ⟨s, hs, h2⟩
    exact ⟨s, List.mem_filter.2 ⟨hs, decide_eq_true (by omega)⟩, h2⟩

/-- Any spans, sorted in any way by their beginnings, merged: their set in its one form. -/
theorem norm_ok {l m : List Sp} {a : Int} (hp : m.Perm (l.filter fun s => decide (s.1 < s.2))) (hs : m.Pairwise (fun s t => s.1 ≤ t.1)) (h0 : ∀ s ∈ l, s.1 < s.2 → a < s.1) :
    (∀ x, hasS (mergeAll m) x ↔ hasS l x) ∧ NFa a (mergeAll m) := by
  have hmem : ∀ s ∈ m, s.1 < s.2 ∧ a < s.1 := fun s h => by
    have h1 := List.mem_filter.1 (hp.mem_iff.1 h)
    have h2 := of_decide_eq_true h1.2
    exact ⟨h2, h0 s h1.1 h2⟩
  have hh : ∀ x, hasS m x ↔ hasS l x := fun x => (hasS_perm hp x).trans (hasS_filter x)
  cases m with
  | nil => exact ⟨hh, trivial⟩
  | cons c r =>
    rw [List.pairwise_cons] at hs
    obtain ⟨h1, h2⟩ := mergeS_ok r c a (hmem c (by simp)).2 (hmem c (by simp)).1 (fun s h => ⟨hs.1 s h, (hmem s (by simp [h])).1⟩) hs.2
    exact ⟨fun x => (h1 x).trans (hh x), h2⟩

/-! ### The next element, the next gap -/
def gapS (x : Int) : List Sp → Int
  | [] => x
  | s :: l => if s.1 ≤ x ∧ x < s.2 then s.2 else gapS x l

/-! ### Laws of sets -/
end
end Go.Lift

/- The reference's sort of numbers: ascending, each once. -/
namespace Go.Lift
open Go.RowKit Go.IntWalk
noncomputable section
set_option linter.unusedVariables false
set_option linter.unusedSimpArgs false

theorem drop_cons {α : Type} {l : List α} {j : Nat} {x : α} {r : List α} (h : l.drop j = x :: r) (d : α) : j < l.length ∧ l.getD j d = x ∧ l.drop (j + 1) = r := by
  have h3 : j < l.length := by
    have := congrArg List.length h
    simp only [List.length_drop, List.length_cons] at this
    omega
  rw [List.drop_eq_getElem_cons h3] at h
  injection h with h1 h2
  exact ⟨h3, by simp [List.getD, h3, h1], h2⟩

theorem wr {x : Int} (h1 : -9223372036854775808 ≤ x) (h2 : x ≤ 9223372036854775807) : IntKind.i64.wrap x = x := by simp (disch := omega) only [i64_in]

abbrev Asc (l : List Int) : Prop := l.Pairwise (· < ·)

/-- A number behind the others, if it is not the last one already. -/
def pushU (out : List Int) (x : Int) : List Int := if out.getLast? = some x then out else out ++ [x]
theorem pushU_len (out : List Int) (x : Int) : (pushU out x).length ≤ out.length + 1 := by
  unfold pushU
  split <;> simp
theorem pushU_mem {out : List Int} {x y : Int} : y ∈ pushU out x ↔ y ∈ out ∨ y = x := by
  unfold pushU
  split
  · rename_i h
    constructor
    · exact .inl
    · rintro (h1 | rfl)
      · exact h1
      · exact List.mem_of_getLast? h
  · simp
theorem pushU_asc {out : List Int} {x : Int} (h : Asc out) (hx : ∀ y ∈ out, y ≤ x) : Asc (pushU out x) := by
  unfold pushU
  split
  · exact h
  · rename_i hne
    rw [Asc, List.pairwise_append]
    refine ⟨h, by simp, fun a ha b hb => ?_⟩
    simp only [List.mem_singleton] at hb
    subst hb
    have h1 := hx a ha
    rcases List.eq_nil_or_concat out with rfl | ⟨L, y, rfl⟩
    · cases ha
    · have hy : y ≠ b := by
        intro e
        exact hne (by simp [e])
      have hyb := hx y (by simp)
      rw [List.concat_eq_append] at h ha
      rcases List.mem_append.1 ha with q | q
      · have := (List.pairwise_append.1 h).2.2 a q y (by simp)
        omega
      · simp only [List.mem_singleton] at q
        omega

section
variable {β : Type} {me : zq4e}

theorem srt_p1 (k1 : zq4g β) (i j x : Int) {out a b : List Int} (hl : out.length ≤ 100000) : zq5b me k1 i j x out a b = k1 i j (pushU out x) a b := by
  show zq4w k1 i j x out a b = _
  unfold zq4w
  rcases List.eq_nil_or_concat out with rfl | ⟨L, y, rfl⟩
  · refine (c_pos (by simp)).trans ?_
    refine (c_room (by simp)).trans ?_
    rfl
  · rw [List.concat_eq_append] at hl ⊢
    have hlen : (L ++ [y]).length = L.length + 1 := by simp
    have e1 : IntKind.i64.wrap (((L ++ [y]).length : Int) - 1) = (L.length : Int) := by
      rw [wr (by omega) (by omega)]; omega
    have e2 : (L ++ [y]).getD (Int.toNat (L.length : Int)) 0 = y := by simp [List.getD]
    refine (c_neg (by omega)).trans ?_
    rw [e1]
    refine (c_inb (by omega)).trans ?_
    rw [e2]
    have e3 : (L ++ [y]).getLast? = some y := by simp
    by_cases hy : y = x
    · refine (c_npos hy).trans ?_
      have : pushU (L ++ [y]) x = L ++ [y] := by unfold pushU; rw [if_pos (by rw [e3, hy])]
      rw [this]
    · refine (c_nneg hy).trans ?_
      refine (c_room (by simp only [List.length_append, List.length_cons, List.length_nil] at hl ⊢; omega)).trans ?_
      have : pushU (L ++ [y]) x = L ++ [y] ++ [x] := by unfold pushU; rw [if_neg (by rw [e3]; simpa using hy)]
      rw [this]

theorem srt_p2t (k1 : zq4k β) {i : Nat} (j : Int) {out a b : List Int} (hi : i < a.length) (hl : a.length ≤ 100000) : zq5d me k1 (i : Int) j true out a b = k1 ((i + 1 : Nat) : Int) j (a.getD i 0) out a b := by
  show zq4z k1 (i : Int) j true out a b = _
  unfold zq4z
  refine c_t.trans ?_
  refine (c_inb (by omega)).trans ?_
  simp only [Int.toNat_natCast]
  rw [wr (by omega) (by omega)]
  rfl
theorem srt_p2f (k1 : zq4k β) {j : Nat} (i : Int) {out a b : List Int} (hj : j < b.length) (hl : b.length ≤ 100000) : zq5d me k1 i (j : Int) false out a b = k1 i ((j + 1 : Nat) : Int) (b.getD j 0) out a b := by
  show zq4z k1 i (j : Int) false out a b = _
  unfold zq4z
  refine c_f.trans ?_
  refine (c_inb (by omega)).trans ?_
  simp only [Int.toNat_natCast]
  rw [wr (by omega) (by omega)]
  rfl

/-- Whose turn it is. -/
def turnA (a b : List Int) (i j : Nat) : Bool := if j = b.length then true else if i < a.length then decide (a.getD i 0 ≤ b.getD j 0) else false

theorem srt_p3 (k1 : zq4o β) {i j : Nat} {out a b : List Int} (ha : a.length ≤ 100000) (hb : b.length ≤ 100000) (ho : out.length ≤ 100000) (hi : i ≤ a.length) (hj : j ≤ b.length) (h : i < a.length ∨ j < b.length) :
    zq5f me k1 (i : Int) (j : Int) out a b = cond (turnA a b i j) (k1 ((i + 1 : Nat) : Int) (j : Int) (pushU out (a.getD i 0)) a b) (k1 (i : Int) ((j + 1 : Nat) : Int) (pushU out (b.getD j 0)) a b) := by
  show zq52 (zq5b me) (zq5d me) k1 (i : Int) (j : Int) out a b = _
  unfold zq52 turnA
  by_cases hjb : j = b.length
  · rw [if_pos hjb]
    refine (c_pos (by omega)).trans ?_
    refine (srt_p2t _ _ (by omega) ha).trans ?_
    exact srt_p1 _ _ _ _ ho
  · rw [if_neg hjb]
    refine (c_neg (by omega)).trans ?_
    by_cases hia : i < a.length
    · rw [if_pos hia]
      refine (c_pos (by omega)).trans ?_
      refine (c_inb (by omega)).trans ?_
      refine (c_inb (by omega)).trans ?_
      simp only [Int.toNat_natCast]
      by_cases hle : a.getD i 0 ≤ b.getD j 0
      · rw [decide_eq_true hle]
        refine (srt_p2t _ _ hia ha).trans ?_
        exact srt_p1 _ _ _ _ ho
      · rw [decide_eq_false hle]
        refine (srt_p2f _ _ (by omega) hb).trans ?_
        exact srt_p1 _ _ _ _ ho
    · rw [if_neg hia]
      refine (c_neg (by omega)).trans ?_
      refine (srt_p2f _ _ (by omega) hb).trans ?_
      exact srt_p1 _ _ _ _ ho

/-- What the merging keeps. -/
structure MI (a b : List Int) (i j : Nat) (out : List Int) : Prop where
  hi : i ≤ a.length
  hj : j ≤ b.length
  asc : Asc out
  mem : ∀ y, y ∈ out ↔ y ∈ a.take i ∨ y ∈ b.take j
  lo1 : ∀ y ∈ out, ∀ z ∈ a.drop i, y ≤ z
  lo2 : ∀ y ∈ out, ∀ z ∈ b.drop j, y ≤ z
  len : out.length ≤ i + j

theorem take_succ_mem {l : List Int} {i : Nat} (h : i < l.length) (y : Int) : y ∈ l.take (i + 1) ↔ y ∈ l.take i ∨ y = l.getD i 0 := by
  rw [List.take_add_one]
  have : l[i]? = some (l.getD i 0) := by simp [List.getD, h]
  rw [this]
  simp

theorem asc_drop {l : List Int} (h : Asc l) {i : Nat} (hi : i < l.length) : ∀ z ∈ l.drop i, l.getD i 0 ≤ z := by
  intro z hz
  have e : l.drop i = l.getD i 0 :: l.drop (i + 1) := by
    rw [List.drop_eq_getElem_cons hi]
    simp [List.getD, hi]
  have hd : Asc (l.drop i) := h.sublist (List.drop_sublist i l)
  rw [e] at hz hd
  rcases List.mem_cons.1 hz with rfl | hz
  · exact Int.le_refl _
  · have := (List.pairwise_cons.1 hd).1 z hz
    omega
theorem mem_drop_succ {l : List Int} {i : Nat} {z : Int} (h : z ∈ l.drop (i + 1)) : z ∈ l.drop i := by
  rw [← List.drop_drop] at h
  exact List.mem_of_mem_drop h
theorem getD_mem_drop {l : List Int} {i : Nat} (h : i < l.length) : l.getD i 0 ∈ l.drop i := by
  rw [List.drop_eq_getElem_cons h]
  have : l.getD i 0 = l[i] := by simp [List.getD, h]
  rw [this]
  exact List.mem_cons_self

theorem MI.stepA {a b : List Int} (ha : Asc a) (hb : Asc b) {i j : Nat} {out : List Int} (h : MI a b i j out) (hi : i < a.length) (hle : ∀ z ∈ b.drop j, a.getD i 0 ≤ z) : MI a b (i + 1) j (pushU out (a.getD i 0)) := by
  have hx : ∀ y ∈ out, y ≤ a.getD i 0 := fun y hy => h.lo1 y hy _ (getD_mem_drop hi)
  refine ⟨hi, h.hj, pushU_asc h.asc hx, fun y => ?_, fun y hy z hz => ?_, fun y hy z hz => ?_, ?_⟩
  · rw [pushU_mem, h.mem, take_succ_mem hi]
    constructor
    · rintro ((q | q) | q)
      · exact .inl (.inl q)
      · exact .inr q
      · exact .inl (.inr q)
    · rintro ((q | q) | q)
      · exact .inl (.inl q)
      · exact .inr q
      · exact .inl (.inr q)
  · rcases pushU_mem.1 hy with q | rfl
    · exact h.lo1 y q z (mem_drop_succ hz)
    · exact asc_drop ha hi z (mem_drop_succ hz)
  · rcases pushU_mem.1 hy with q | rfl
    · exact h.lo2 y q z hz
    · exact hle z hz
  · have := pushU_len out (a.getD i 0)
    have := h.len
    omega
theorem MI.stepB {a b : List Int} (ha : Asc a) (hb : Asc b) {i j : Nat} {out : List Int} (h : MI a b i j out) (hj : j < b.length) (hle : ∀ z ∈ a.drop i, b.getD j 0 ≤ z) : MI a b i (j + 1) (pushU out (b.getD j 0)) := by
  have hx : ∀ y ∈ out, y ≤ b.getD j 0 := fun y hy => h.lo2 y hy _ (getD_mem_drop hj)
  refine ⟨h.hi, hj, pushU_asc h.asc hx, fun y => ?_, fun y hy z hz => ?_, fun y hy z hz => ?_, ?_⟩
  · rw [pushU_mem, h.mem, take_succ_mem hj, or_assoc]
  · rcases pushU_mem.1 hy with q | rfl
    · exact h.lo1 y q z hz
    · exact hle z hz
  · rcases pushU_mem.1 hy with q | rfl
    · exact h.lo2 y q z (mem_drop_succ hz)
    · exact asc_drop hb hj z (mem_drop_succ hz)
  · have := pushU_len out (b.getD j 0)
    have := h.len
    omega
end

/-- The merging. -/
theorem srt_p4 {me : zq4e} {a b : List Int} (ha : Asc a) (hb : Asc b) (hal : a.length ≤ 30000) (hbl : b.length ≤ 30000) :
    ∃ out, (Asc out ∧ (∀ y, y ∈ out ↔ y ∈ a ∨ y ∈ b) ∧ out.length ≤ a.length + b.length) ∧ ∀ {β : Type} (k : List Int → Option β), zq5j me k 0 0 [] a b = k out := by
  have := while_loop (σ := Nat × Nat × List Int) (ρ := List Int) (Kt := fun β => List Int → Option β)
    (fun k N s => zq5h me N k (s.1 : Int) (s.2.1 : Int) s.2.2 a b) (fun k r => k r)
    (fun s => MI a b s.1 s.2.1 s.2.2) (fun s => (a.length - s.1) + (b.length - s.2.1)) (fun out => Asc out ∧ (∀ y, y ∈ out ↔ y ∈ a ∨ y ∈ b) ∧ out.length ≤ a.length + b.length) ?_ fuel (0, 0, []) ?_ ?_
  · exact this
  · rintro ⟨i, j, out⟩ h
    have h : MI a b i j out := h
    have hlen := h.len
    have hi := h.hi
    have hj := h.hj
    by_cases hm : i < a.length ∨ j < b.length
    · left
      have hstep : ∀ {β : Type} (k : List Int → Option β) (m : Nat), zq5h me (m + 1) k (i : Int) (j : Int) out a b =
          zq5f me (fun i2 j2 out2 a2 b2 => zq5h me m k i2 j2 out2 a2 b2) (i : Int) (j : Int) out a b := by
        intro β k m
        rw [zq5i]
        unfold zq55
        by_cases hia : i < a.length
        · exact c_pos (by omega)
        · refine (c_neg (by omega)).trans ?_
          exact c_pos (by omega)
      by_cases ht : turnA a b i j = true
      · have hia : i < a.length := by
          unfold turnA at ht
          split at ht
          · omega
          · split at ht
            · assumption
            · cases ht
        refine ⟨(i + 1, j, pushU out (a.getD i 0)), h.stepA ha hb hia ?_, ?_, fun k m => ?_⟩
        · intro z hz
          unfold turnA at ht
          split at ht
          · rename_i hjb
            rw [hjb, List.drop_length] at hz
            cases hz
          · try rw [if_pos hia] at ht
            have := of_decide_eq_true ht
            have := asc_drop hb (show j < b.length by omega) z hz
            omega
        · show (a.length - (i + 1)) + (b.length - j) < (a.length - i) + (b.length - j)
          omega
        · refine (hstep k m).trans ?_
          rw [srt_p3 _ (by omega) (by omega) (by omega) hi hj hm, ht]
          rfl
      · have ht : turnA a b i j = false := by simpa using ht
        have hjb : j < b.length := by
          unfold turnA at ht
          split at ht
          · cases ht
          · omega
        refine ⟨(i, j + 1, pushU out (b.getD j 0)), h.stepB ha hb hjb ?_, ?_, fun k m => ?_⟩
        · intro z hz
          unfold turnA at ht
          rw [if_neg (by omega)] at ht
          split at ht
          · rename_i hia
            have := of_decide_eq_false ht
            have := asc_drop ha hia z hz
            omega
          · rename_i hia
            rw [List.drop_eq_nil_of_le (by omega)] at hz
            cases hz
        · show (a.length - i) + (b.length - (j + 1)) < (a.length - i) + (b.length - j)
          omega
        · refine (hstep k m).trans ?_
          rw [srt_p3 _ (by omega) (by omega) (by omega) hi hj hm, ht]
          rfl
    · right
      refine ⟨out, ⟨h.asc, fun y => ?_, by omega⟩, fun k m => ?_⟩
      · rw [h.mem, List.take_of_length_le (by omega), List.take_of_length_le (by omega)]
      · show zq5h me (m + 1) k (i : Int) (j : Int) out a b = k out
        rw [zq5i]
        unfold zq55
        refine (c_neg (by omega)).trans ?_
        exact c_neg (by omega)
  · exact ⟨Nat.zero_le _, Nat.zero_le _, List.Pairwise.nil, by simp, by simp, by simp, by simp⟩
  · exact lt_fuel (by show (a.length - 0) + (b.length - 0) < _; omega)

theorem srt_n : ∀ (N : Nat) (l : List Int), l.length < N → l.length ≤ 20000 →
    ∃ out, (Asc out ∧ (∀ y, y ∈ out ↔ y ∈ l) ∧ out.length ≤ l.length) ∧ ∀ {β : Type} (k : List Int → Option β), zq5l N l k = k out
  | 0, l, h, _ => absurd h (Nat.not_lt_zero _)
  | N + 1, l, h, hl => by
    by_cases h2 : l.length < 2
    · refine ⟨l, ⟨?_, fun _ => Iff.rfl, Nat.le_refl _⟩, fun k => ?_⟩
      · match l, h2 with
        | [], _ => exact List.Pairwise.nil
        | [x], _ => exact List.pairwise_singleton _ _
      · rw [zq5n]
        unfold zq58
        refine (c_pos (by omega)).trans ?_
        exact c_room (by omega)
    · have e2 : IntKind.i64.wrap (Int.tdiv (l.length : Int) 2) = ((l.length / 2 : Nat) : Int) := by
        have : Int.tdiv (l.length : Int) 2 = ((l.length / 2 : Nat) : Int) := rfl
        rw [this, wr (by omega) (by omega)]
      obtain ⟨o1, ⟨a1, m1, n1⟩, f1⟩ := srt_n N (l.take (l.length / 2)) (by simp; omega) (by simp; omega)
      obtain ⟨o2, ⟨a2, m2, n2⟩, f2⟩ := srt_n N (l.drop (l.length / 2)) (by simp; omega) (by simp; omega)
      simp only [List.length_take] at n1
      simp only [List.length_drop] at n2
      obtain ⟨o3, ⟨a3, m3, n3⟩, f3⟩ := srt_p4 (me := zq5l N) a1 a2 (by omega) (by omega)
      refine ⟨o3, ⟨a3, fun y => ?_, by omega⟩, fun k => ?_⟩
      · rw [m3, m1, m2, ← List.mem_append, List.take_append_drop]
      · rw [zq5n]
        unfold zq58
        simp only [e2, Int.toNat_natCast, Int.toNat_zero, List.drop_zero, List.take_length]
        refine (c_neg (by omega)).trans ?_
        refine (c_nneg (by omega)).trans ?_
        rw [show (decide (0 ≤ (0 : Int)) && (decide ((0 : Int) ≤ ((l.length / 2 : Nat) : Int)) && decide (((l.length / 2 : Nat) : Int) ≤ (l.length : Int)))) = true by
          rw [decide_eq_true (by omega : (0 : Int) ≤ 0), decide_eq_true (by omega : (0 : Int) ≤ ((l.length / 2 : Nat) : Int)), decide_eq_true (by omega : ((l.length / 2 : Nat) : Int) ≤ (l.length : Int))]; rfl]
        refine c_t.trans ?_
        refine (f1 _).trans ?_
        refine (c_nneg (by omega)).trans ?_
        rw [show (decide (0 ≤ ((l.length / 2 : Nat) : Int)) && (decide (((l.length / 2 : Nat) : Int) ≤ (l.length : Int)) && decide ((l.length : Int) ≤ (l.length : Int)))) = true by
          rw [decide_eq_true (by omega : (0 : Int) ≤ ((l.length / 2 : Nat) : Int)), decide_eq_true (by omega : ((l.length / 2 : Nat) : Int) ≤ (l.length : Int)), decide_eq_true (by omega : (l.length : Int) ≤ (l.length : Int))]; rfl]
        refine c_t.trans ?_
        refine (f2 _).trans ?_
        exact f3 k

theorem srt {l : List Int} (hl : l.length ≤ 20000) : ∃ out, (Asc out ∧ (∀ y, y ∈ out ↔ y ∈ l) ∧ out.length ≤ l.length) ∧ ∀ {β : Type} (k : List Int → Option β), zq5o l k = k out :=
  srt_n fuel l (lt_fuel (by omega)) hl
end
end Go.Lift

/- The reference's normal form of any spans: by the borders and how many spans lie over each number. -/
namespace Go.Lift
open Go.RowKit Go.IntWalk
noncomputable section
set_option linter.unusedVariables false
set_option linter.unusedSimpArgs false

theorem mGet_mPut' (l : List (Int × Int)) (a b v z : Int) : mGet (.int .i64) (mPut (.int .i64) l a v) b z = if a = b then v else mGet (.int .i64) l b z := by
  induction l with
  | nil =>
    simp only [mPut, mGet, keyEq]
    by_cases h : a = b
    · simp [h]
    · simp [h]
  | cons y r ih =>
    simp only [mPut, keyEq]
    by_cases h1 : y.1 = a
    · simp only [h1, decide_true, cond_true, mGet, keyEq]
      by_cases h : a = b
      · simp [h]
      · simp [h]
    · simp only [h1, decide_false, cond_false, mGet, keyEq]
      by_cases h : y.1 = b
      · have : ¬ a = b := fun e => h1 (h.trans e.symm)
        simp [h, this]
      · simp only [h, decide_false, cond_false]
        exact ih

def isNe (s : Sp) : Bool := decide (s.1 < s.2)
/-- How many begin, or end, at a number; up to it. -/
def cntF (l : List Sp) (x : Int) : Int := (l.countP fun s => isNe s && decide (s.1 = x) : Nat)
def cntT (l : List Sp) (x : Int) : Int := (l.countP fun s => isNe s && decide (s.2 = x) : Nat)
def cumF (l : List Sp) (x : Int) : Int := (l.countP fun s => isNe s && decide (s.1 ≤ x) : Nat)
def cumT (l : List Sp) (x : Int) : Int := (l.countP fun s => isNe s && decide (s.2 ≤ x) : Nat)
def depthS (l : List Sp) (x : Int) : Int := cumF l x - cumT l x
def ptsS (l : List Sp) : List Int := l.flatMap fun s => if s.1 < s.2 then [s.1, s.2] else []

theorem countP_step (p : Sp → Bool) (s : Sp) (l : List Sp) : (((s :: l).countP p : Nat) : Int) = (l.countP p : Nat) + (if p s = true then 1 else 0) := by
  rw [List.countP_cons]
  split <;> simp

theorem depth_cons (s : Sp) (l : List Sp) (x : Int) : depthS (s :: l) x = depthS l x + (if s.1 ≤ x ∧ x < s.2 then 1 else 0) := by
  unfold depthS cumF cumT
  rw [countP_step, countP_step]
  by_cases h1 : s.1 < s.2
  · simp only [isNe, h1, decide_true, Bool.true_and, decide_eq_true_eq]
    by_cases h2 : s.1 ≤ x <;> by_cases h3 : s.2 ≤ x
    · rw [if_pos h2, if_pos h3, if_neg (by omega)]; omega
    · rw [if_pos h2, if_neg h3, if_pos (by omega)]; omega
    · omega
    · rw [if_neg h2, if_neg h3, if_neg (by omega)]; omega
  · have : ¬ (s.1 ≤ x ∧ x < s.2) := by omega
    simp [isNe, h1, this]

theorem depth_pos (l : List Sp) (x : Int) : 0 ≤ depthS l x ∧ (0 < depthS l x ↔ hasS l x) := by
  induction l with
  | nil =>
    refine ⟨by simp [depthS, cumF, cumT], fun h => ?_, fun h => absurd h hasS_nil⟩
    simp [depthS, cumF, cumT] at h
  | cons s l ih =>
    rw [depth_cons, hasS_cons]
    obtain ⟨i1, i2⟩ := ih
    by_cases h : s.1 ≤ x ∧ x < s.2
    · rw [if_pos h]
      exact ⟨by omega, fun _ => .inl h, fun _ => by omega⟩
    · rw [if_neg h]
      refine ⟨by omega, fun q => .inr (i2.1 (by omega)), ?_⟩
      rintro (q | q)
      · exact absurd q h
      · have := i2.2 q; omega

/-- Nothing begins or ends between a and p. -/
theorem depth_step (l : List Sp) {a p : Int} (hap : a < p) (hn : ∀ y ∈ ptsS l, ¬ (a < y ∧ y < p)) : depthS l p = depthS l a + (cntF l p - cntT l p) ∧ ∀ x, a ≤ x → x < p → depthS l x = depthS l a := by
  induction l with
  | nil => simp [depthS, cumF, cumT, cntF, cntT]
  | cons s l ih =>
    have hn' : ∀ y ∈ ptsS l, ¬ (a < y ∧ y < p) := fun y hy => hn y (by simp only [ptsS, List.flatMap_cons, List.mem_append]; exact .inr hy)
    obtain ⟨i1, i2⟩ := ih hn'
    by_cases hs : s.1 < s.2
    · have h1 := hn s.1 (by simp [ptsS, hs])
      have h2 := hn s.2 (by simp [ptsS, hs])
      have ef : cntF (s :: l) p = cntF l p + (if s.1 = p then 1 else 0) := by
        unfold cntF; rw [countP_step]; simp [isNe, hs]
      have et : cntT (s :: l) p = cntT l p + (if s.2 = p then 1 else 0) := by
        unfold cntT; rw [countP_step]; simp [isNe, hs]
      refine ⟨?_, fun x h3 h4 => ?_⟩
      · rw [depth_cons, depth_cons, ef, et, i1]
        by_cases q1 : s.1 ≤ a <;> by_cases q2 : s.2 ≤ a <;> by_cases q3 : s.1 = p <;> by_cases q4 : s.2 = p <;> simp only [q3, q4, if_true, if_false] <;> (split <;> split <;> omega)
      · rw [depth_cons, depth_cons, i2 x h3 h4]
        congr 1
        have : (s.1 ≤ x ∧ x < s.2) ↔ (s.1 ≤ a ∧ a < s.2) := by omega
        simp only [this]
    · have ef : cntF (s :: l) p = cntF l p := by
        unfold cntF; rw [countP_step]; simp [isNe, hs]
      have et : cntT (s :: l) p = cntT l p := by
        unfold cntT; rw [countP_step]; simp [isNe, hs]
      have hz : ∀ x, depthS (s :: l) x = depthS l x := fun x => by rw [depth_cons, if_neg (by omega)]; omega
      refine ⟨by rw [hz, hz, ef, et, i1], fun x h3 h4 => by rw [hz, hz, i2 x h3 h4]⟩

theorem mem_pts {l : List Sp} {y : Int} : y ∈ ptsS l ↔ ∃ s ∈ l, s.1 < s.2 ∧ (y = s.1 ∨ y = s.2) := by
  simp only [ptsS, List.mem_flatMap]
  constructor
  · rintro ⟨s, hs, h⟩
    split at h
    · rename_i hlt
      simp only [List.mem_cons, List.not_mem_nil, or_false] at h
      exact ⟨s, hs, hlt, h⟩
    · cases h
  · rintro ⟨s, hs, hlt, h⟩
    exact ⟨s, hs, by rw [if_pos hlt]; simpa using h⟩

theorem cnt_bounds (p : Sp → Bool) (l : List Sp) : (0 : Int) ≤ (l.countP p : Nat) ∧ ((l.countP p : Nat) : Int) ≤ l.length := by
  have := List.countP_le_length (p := p) (l := l)
  omega

/-! ### Collecting the borders -/
def rangeS (s : Sp) : Prop := s.1 < s.2 → 0 ≤ s.1 ∧ s.2 ≤ 8589934592

theorem ref_coll (l : List Sp) (hl : l.length ≤ 4096) : ∀ (r : List Sp) (j N : Nat) (at_ : List Int) (op sh : List (Int × Int)), l.drop j = r → r.length < N → (∀ s ∈ r, rangeS s) → at_.length + 2 * r.length ≤ 10000 →
    (∀ x, 0 ≤ mGet (.int .i64) op x 0 ∧ mGet (.int .i64) op x 0 + r.length ≤ 10000) → (∀ x, 0 ≤ mGet (.int .i64) sh x 0 ∧ mGet (.int .i64) sh x 0 + r.length ≤ 10000) →
    ∃ at' op' sh', (at' = at_ ++ ptsS r ∧ (∀ x, mGet (.int .i64) op' x 0 = mGet (.int .i64) op x 0 + cntF r x) ∧ (∀ x, mGet (.int .i64) sh' x 0 = mGet (.int .i64) sh x 0 + cntT r x)) ∧
      ∀ {β : Type} (k1 : zq6t β) (k2 : zq6u β), zq7w N k1 k2 l (j : Int) at_ op sh = k2 at' op' sh'
  | [], j, 0, _, _, _, _, h, _, _, _, _ => absurd h (Nat.not_lt_zero _)
  | _ :: _, j, 0, _, _, _, _, h, _, _, _, _ => absurd h (Nat.not_lt_zero _)
  | [], j, N + 1, at_, op, sh, hd, h, hr, ha, ho, hs => by
    refine ⟨at_, op, sh, ⟨by simp [ptsS], fun x => by simp [cntF], fun x => by simp [cntT]⟩, fun k1 k2 => ?_⟩
    have : l.length ≤ j := by simpa using hd
    rw [zq7x]
    unfold zq7e
    exact c_neg (by omega)
  | s :: r, j, N + 1, at_, op, sh, hd, h, hr, ha, ho, hs => by
    obtain ⟨hj, hg, hd'⟩ := drop_cons hd ((0 : Int), (0 : Int))
    simp only [List.length_cons] at h ha ho hs
    have hrs := hr s (by simp)
    have hr' : ∀ t ∈ r, rangeS t := fun t ht => hr t (by simp [ht])
    have ew : IntKind.i64.wrap ((j : Int) + 1) = ((j + 1 : Nat) : Int) := by rw [wr (by omega) (by omega)]; omega
    by_cases hne : s.1 < s.2
    · obtain ⟨b1, b2⟩ := hrs hne
      have ho1 := ho s.1
      have hs1 := hs s.2
      obtain ⟨at', op', sh', ⟨e1, e2, e3⟩, hf⟩ := ref_coll l hl r (j + 1) N (at_ ++ [s.1, s.2]) (mPut (.int .i64) op s.1 (mGet (.int .i64) op s.1 0 + 1)) (mPut (.int .i64) sh s.2 (mGet (.int .i64) sh s.2 0 + 1)) hd' (by omega) hr' (by simp; omega)
        (fun x => by rw [mGet_mPut']; have := ho x; split <;> omega) (fun x => by rw [mGet_mPut']; have := hs x; split <;> omega)
      refine ⟨at', op', sh', ⟨?_, fun x => ?_, fun x => ?_⟩, fun k1 k2 => ?_⟩
      · rw [e1]; simp [ptsS, hne]
      · rw [e2, mGet_mPut']
        have ef : cntF (s :: r) x = cntF r x + (if s.1 = x then 1 else 0) := by
          unfold cntF; rw [countP_step]; simp [isNe, hne]
        rw [ef]
        split
        · rename_i hx; rw [hx]; omega
        · omega
      · rw [e3, mGet_mPut']
        have ef : cntT (s :: r) x = cntT r x + (if s.2 = x then 1 else 0) := by
          unfold cntT; rw [countP_step]; simp [isNe, hne]
        rw [ef]
        split
        · rename_i hx; rw [hx]; omega
        · omega
      · rw [zq7x]
        unfold zq7e
        simp only [Int.toNat_natCast, hg]
        refine (c_pos (by omega)).trans ?_
        refine (c_inb (by omega)).trans ?_
        refine (c_neg (by omega)).trans ?_
        refine (c_neg (by omega)).trans ?_
        refine (c_neg (by omega)).trans ?_
        refine (c_room (by simp; omega)).trans ?_
        rw [wr (x := mGet (.int .i64) op s.1 0 + 1) (by omega) (by omega), wr (x := mGet (.int .i64) sh s.2 0 + 1) (by omega) (by omega), ew]
        exact hf k1 k2
    · obtain ⟨at', op', sh', ⟨e1, e2, e3⟩, hf⟩ := ref_coll l hl r (j + 1) N at_ op sh hd' (by omega) hr' (by omega) (fun x => by have := ho x; omega) (fun x => by have := hs x; omega)
      refine ⟨at', op', sh', ⟨?_, fun x => ?_, fun x => ?_⟩, fun k1 k2 => ?_⟩
      · rw [e1]; simp [ptsS, hne]
      · rw [e2]
        have ef : cntF (s :: r) x = cntF r x := by
          unfold cntF; rw [countP_step]; simp [isNe, hne]
        rw [ef]
      · rw [e3]
        have ef : cntT (s :: r) x = cntT r x := by
          unfold cntT; rw [countP_step]; simp [isNe, hne]
        rw [ef]
      · rw [zq7x]
        unfold zq7e
        simp only [Int.toNat_natCast, hg]
        refine (c_pos (by omega)).trans ?_
        refine (c_inb (by omega)).trans ?_
        refine (c_pos (by omega)).trans ?_
        rw [ew]
        exact hf k1 k2

/-! ### The sweep -/
/-- What is known behind the border a. -/
def SweepI (S : List Sp) (a depth : Int) (out : List Sp) : Prop :=
  depth = depthS S a ∧
  (depth = 0 → NFa (-1) out ∧ (∀ x, x ≤ a → (hasS out x ↔ hasS S x)) ∧ ∀ s ∈ out, s.2 ≤ a) ∧
  (0 < depth → ∃ dn st, out = dn ++ [(st, 0)] ∧ 0 ≤ st ∧ st ≤ a ∧ NFa (-1) dn ∧ (∀ s ∈ dn, s.2 < st) ∧ (∀ x, x < st → (hasS dn x ↔ hasS S x)) ∧ ∀ x, st ≤ x → x ≤ a → hasS S x)

/-- What one border makes of the list. -/
def sweepO (before depth p : Int) (out : List Sp) : List Sp :=
  if before = 0 then (if 0 < depth then out ++ [(p, 0)] else out) else (if depth = 0 then out.dropLast ++ [((out.getLastD (0, 0)).1, p)] else out)

theorem hasS_ends {l : List Sp} {a x : Int} (h : ∀ s ∈ l, s.2 ≤ a) (hx : a ≤ x) : ¬ hasS l x := by
  rintro ⟨s, hs, _, h2⟩
  have := h s hs
  omega

theorem sweep_step {S : List Sp} {a p depth : Int} {out : List Sp} (h : SweepI S a depth out) (hap : a < p) (h0 : 0 ≤ p) (hn : ∀ y ∈ ptsS S, ¬ (a < y ∧ y < p)) :
    SweepI S p (depth + (cntF S p - cntT S p)) (sweepO depth (depth + (cntF S p - cntT S p)) p out) ∧ (0 < depth → out ≠ []) := by
  obtain ⟨d1, d2⟩ := depth_step S hap hn
  obtain ⟨i1, i2, i3⟩ := h
  have hdp : depth + (cntF S p - cntT S p) = depthS S p := by rw [i1, d1]
  rw [hdp]
  have hbet : ∀ x, a ≤ x → x < p → (hasS S x ↔ hasS S a) := fun x h1 h2 => by
    rw [← (depth_pos S x).2, ← (depth_pos S a).2, d2 x h1 h2]
  have hda := depth_pos S a
  have hdp' := depth_pos S p
  rw [← i1] at hda
  refine ⟨⟨rfl, ?_, ?_⟩, ?_⟩
  · intro hz
    unfold sweepO
    by_cases hb : depth = 0
    · rw [if_pos hb, if_neg (by omega)]
      obtain ⟨j1, j2, j3⟩ := i2 hb
      refine ⟨j1, fun x hx => ?_, fun s hs => by have := j3 s hs; omega⟩
      by_cases hxa : x ≤ a
      · exact j2 x hxa
      · have : ¬ hasS S x := by
          by_cases hxp : x < p
          · rw [hbet x (by omega) hxp, ← hda.2]; omega
          · have : x = p := by omega
            rw [this, ← hdp'.2]; omega
        exact ⟨fun q => absurd q (hasS_ends j3 (by omega)), fun q => absurd q this⟩
    · rw [if_neg hb, if_pos hz]
      obtain ⟨dn, st, rfl, s0, s1, j1, j2, j3, j4⟩ := i3 (by omega)
      have e1 : (dn ++ [(st, (0 : Int))]).dropLast = dn := by simp
      have e2 : ((dn ++ [(st, (0 : Int))]).getLastD (0, 0)).1 = st := by simp
      rw [e1, e2]
      have hm : NFa (-1) (dn ++ [(st, p)]) := by
        refine NFa.append (b := st - 1) j1 (fun x hx => ?_) ⟨by simp only; omega, by simp only; omega, trivial⟩ (by omega)
        obtain ⟨s, hs, _, h2⟩ := hx
        have := j2 s hs
        omega
      refine ⟨hm, fun x hx => ?_, fun s hs => ?_⟩
      · rw [hasS_append]
        have hone : hasS [(st, p)] x ↔ st ≤ x ∧ x < p := by
          rw [hasS_cons]
          exact ⟨fun q => q.resolve_right hasS_nil, .inl⟩
        rw [hone]
        by_cases hxs : x < st
        · rw [j3 x hxs]
          exact ⟨fun q => q.resolve_right (by omega), .inl⟩
        · have hno : ¬ hasS dn x := fun ⟨s, hs, _, h2⟩ => by have := j2 s hs; omega
          by_cases hxp : x < p
          · have : hasS S x := by
              by_cases hxa : x ≤ a
              · exact j4 x (by omega) hxa
              · rw [hbet x (by omega) hxp]
                exact j4 a (by omega) (Int.le_refl _)
            exact ⟨fun _ => this, fun _ => .inr ⟨by omega, hxp⟩⟩
          · have hxe : x = p := by omega
            have : ¬ hasS S x := by rw [hxe, ← hdp'.2]; omega
            refine ⟨?_, fun q => absurd q this⟩
            rintro (q | q)
            · exact absurd q hno
            · omega
      · rcases List.mem_append.1 hs with q | q
        · have := j2 s q; omega
        · simp only [List.mem_singleton] at q; rw [q]; exact Int.le_refl _
  · intro hpos
    unfold sweepO
    by_cases hb : depth = 0
    · rw [if_pos hb, if_pos hpos]
      obtain ⟨j1, j2, j3⟩ := i2 hb
      refine ⟨out, p, rfl, h0, Int.le_refl _, j1, fun s hs => by have := j3 s hs; omega, fun x hx => ?_, fun x h1 h2 => ?_⟩
      · by_cases hxa : x ≤ a
        · exact j2 x hxa
        · have : ¬ hasS S x := by rw [hbet x (by omega) hx, ← hda.2]; omega
          exact ⟨fun q => absurd q (hasS_ends j3 (by omega)), fun q => absurd q this⟩
      · have : x = p := by omega
        rw [this]
        exact hdp'.2.1 hpos
    · rw [if_neg hb, if_neg (by omega)]
      obtain ⟨dn, st, rfl, s0, s1, j1, j2, j3, j4⟩ := i3 (by omega)
      refine ⟨dn, st, rfl, s0, by omega, j1, j2, j3, fun x h1 h2 => ?_⟩
      by_cases hxa : x ≤ a
      · exact j4 x h1 hxa
      · by_cases hxp : x < p
        · rw [hbet x (by omega) hxp]
          exact j4 a (by omega) (Int.le_refl _)
        · have : x = p := by omega
          rw [this]
          exact hdp'.2.1 hpos
  · intro hpos
    obtain ⟨dn, st, rfl, _⟩ := i3 hpos
    simp

theorem sweepO_len (b d p : Int) (out : List Sp) : (sweepO b d p out).length ≤ out.length + 1 := by
  unfold sweepO
  split <;> split <;> simp <;> omega

theorem ref_sweep {S : List Sp} {at_ : List Int} {op sh : List (Int × Int)} (hS : S.length ≤ 4096) (hat : at_.length ≤ 10000) (hasc : Asc at_) (hp0 : ∀ y ∈ at_, 0 ≤ y) (hpts : ∀ y, y ∈ at_ ↔ y ∈ ptsS S)
    (ho : ∀ x, mGet (.int .i64) op x 0 = cntF S x) (hs : ∀ x, mGet (.int .i64) sh x 0 = cntT S x) : ∀ (r : List Int) (j N : Nat) (a depth : Int) (out : List Sp), at_.drop j = r → r.length < N → SweepI S a depth out → -1 ≤ a → (∀ y ∈ at_, y ≤ a ∨ y ∈ r) → (∀ y ∈ r, a < y) → out.length ≤ j →
    ∃ out', (NFa (-1) out' ∧ (∀ x, hasS out' x ↔ hasS S x)) ∧ ∀ {β : Type} (k1 : zq7a β), zq86 N k1 depth (j : Int) at_ op sh out = k1 out'
  | [], j, 0, _, _, _, _, h, _, _, _, _, _ => absurd h (Nat.not_lt_zero _)
  | _ :: _, j, 0, _, _, _, _, h, _, _, _, _, _ => absurd h (Nat.not_lt_zero _)
  | [], j, N + 1, a, depth, out, hd, h, hI, ha, hin, hgt, hol => by
    have hle : ∀ y ∈ ptsS S, y ≤ a := fun y hy => (hin y ((hpts y).2 hy)).resolve_right (by simp)
    have hno : ∀ x, a ≤ x → ¬ hasS S x := by
      rintro x hx ⟨s, hs1, h1, h2⟩
      have := hle s.2 (mem_pts.2 ⟨s, hs1, by omega, .inr rfl⟩)
      omega
    obtain ⟨i1, i2, i3⟩ := hI
    have hz : depth = 0 := by
      have h1 := depth_pos S a
      have h2 : ¬ 0 < depthS S a := fun q => hno a (Int.le_refl _) (h1.2.1 q)
      omega
    obtain ⟨j1, j2, j3⟩ := i2 hz
    refine ⟨out, ⟨j1, fun x => ?_⟩, fun k1 => ?_⟩
    · by_cases hx : x ≤ a
      · exact j2 x hx
      · exact ⟨fun q => absurd q (hasS_ends j3 (by omega)), fun q => absurd q (hno x (by omega))⟩
    · have : at_.length ≤ j := by simpa using hd
      rw [zq87]
      unfold zq7q
      exact c_neg (by omega)
  | p :: r, j, N + 1, a, depth, out, hd, h, hI, ha, hin, hgt, hol => by
    obtain ⟨hj, hg, hd'⟩ := drop_cons hd (0 : Int)
    simp only [List.length_cons] at h
    have hmem : p ∈ at_ := List.mem_of_mem_drop (by rw [hd]; simp)
    have hpr : ∀ y ∈ r, p < y := by
      have := hasc.sublist (List.drop_sublist j at_)
      rw [hd] at this
      exact (List.pairwise_cons.1 this).1
    have hap : a < p := hgt p (by simp)
    have hbt : ∀ y ∈ ptsS S, ¬ (a < y ∧ y < p) := by
      rintro y hy ⟨h1, h2⟩
      rcases hin y ((hpts y).2 hy) with q | q
      · omega
      · rcases List.mem_cons.1 q with rfl | q
        · omega
        · have := hpr y q; omega
    obtain ⟨hI', hne⟩ := sweep_step hI hap (hp0 p hmem) hbt
    have c1 := cnt_bounds (fun s => isNe s && decide (s.1 = p)) S
    have c2 := cnt_bounds (fun s => isNe s && decide (s.2 = p)) S
    have c1 : 0 ≤ cntF S p ∧ cntF S p ≤ S.length := c1
    have c2 : 0 ≤ cntT S p ∧ cntT S p ≤ S.length := c2
    have hdep : 0 ≤ depth ∧ depth ≤ S.length := by
      rw [hI.1]
      have := depth_pos S a
      have c3 := cnt_bounds (fun s => isNe s && decide (s.1 ≤ a)) S
      have c4 := cnt_bounds (fun s => isNe s && decide (s.2 ≤ a)) S
      have e : depthS S a = ((S.countP fun s => isNe s && decide (s.1 ≤ a) : Nat) : Int) - (S.countP fun s => isNe s && decide (s.2 ≤ a) : Nat) := rfl
      omega
    have hdep' : 0 ≤ depth + (cntF S p - cntT S p) := by rw [hI'.1]; exact (depth_pos S p).1
    obtain ⟨out', hq, hf⟩ := ref_sweep hS hat hasc hp0 hpts ho hs r (j + 1) N p _ _ hd' (by omega) hI' (by omega) (fun y hy => by
      rcases hin y hy with q | q
      · exact .inl (by omega)
      · rcases List.mem_cons.1 q with rfl | q
        · exact .inl (Int.le_refl _)
        · exact .inr q) hpr (by have := sweepO_len depth (depth + (cntF S p - cntT S p)) p out; omega)
    refine ⟨out', hq, fun k1 => ?_⟩
    rw [zq87]
    unfold zq7q
    simp only [Int.toNat_natCast, hg]
    refine (c_pos (by omega)).trans ?_
    refine (c_inb (by omega)).trans ?_
    refine (c_inb (by omega)).trans ?_
    rw [ho p, hs p, wr (x := cntF S p - cntT S p) (by omega) (by omega), wr (x := depth + (cntF S p - cntT S p)) (by omega) (by omega)]
    have ew : IntKind.i64.wrap ((j : Int) + 1) = ((j + 1 : Nat) : Int) := by rw [wr (by omega) (by omega)]; omega
    have hfin : ∀ out2, out2 = sweepO depth (depth + (cntF S p - cntT S p)) p out → zq86 N k1 (depth + (cntF S p - cntT S p)) (IntKind.i64.wrap ((j : Int) + 1)) at_ op sh out2 = k1 out' := by
      intro out2 e
      rw [ew, e]
      exact hf k1
    have p4f : ∀ {β : Type} (k1 : zq76 β) (d b : Int), zq84 k1 d (j : Int) b false at_ op sh out = k1 d (j : Int) b at_ op sh out := fun _ _ _ => rfl
    have p4t : ∀ {β : Type} (k1 : zq76 β) (d b : Int), zq84 k1 d (j : Int) b true at_ op sh out = k1 d (j : Int) b at_ op sh (out ++ [(p, 0)]) := by
      intro β k1 d b
      show zq7n k1 d (j : Int) b true at_ op sh out = _
      unfold zq7n
      refine c_t.trans ?_
      refine (c_inb (by omega)).trans ?_
      simp only [Int.toNat_natCast, hg]
      exact c_room (by simp; omega)
    have p2f : ∀ {β : Type} (k1 : zq6y β) (d : Int) (o : List Sp), zq80 k1 d (j : Int) false at_ op sh o = k1 d (j : Int) at_ op sh o := fun _ _ _ => rfl
    have p2t : ∀ {β : Type} (k1 : zq6y β) (d : Int), out ≠ [] → zq80 k1 d (j : Int) true at_ op sh out = k1 d (j : Int) at_ op sh (out.dropLast ++ [((out.getLastD (0, 0)).1, p)]) := by
      intro β k1 d hno
      show zq7h k1 d (j : Int) true at_ op sh out = _
      unfold zq7h
      refine c_t.trans ?_
      refine (c_inb (by omega)).trans ?_
      simp only [Int.toNat_natCast, hg]
      rcases List.eq_nil_or_concat out with e | ⟨L, y, e⟩
      · exact absurd e hno
      · rw [List.concat_eq_append] at e
        have hlen : out.length = L.length + 1 := by rw [e]; simp
        have e1 : IntKind.i64.wrap ((out.length : Int) - 1) = (L.length : Int) := by
          rw [wr (by omega) (by omega)]; omega
        rw [e1]
        refine (c_inb (by omega)).trans ?_
        simp only [Int.toNat_natCast]
        rw [e]
        simp [List.getD]
    have p3z : ∀ {β : Type} (k1 : zq72 β) (d : Int) (o : List Sp), zq82 k1 d (j : Int) 0 at_ op sh o = k1 d (j : Int) at_ op sh o := by
      intro β k1 d o
      show zq7k zq80 k1 d (j : Int) 0 at_ op sh o = _
      unfold zq7k
      exact c_neg (by omega)
    by_cases hb : depth = 0
    · refine (c_pos hb).trans ?_
      by_cases hd2 : 0 < depth + (cntF S p - cntT S p)
      · rw [decide_eq_true hd2]
        refine (p4t _ _ _).trans ?_
        rw [hb] at hd2 ⊢
        refine (p3z _ _ _).trans ?_
        rw [hb] at hfin
        exact hfin _ (by unfold sweepO; rw [if_pos rfl, if_pos hd2])
      · rw [decide_eq_false hd2]
        refine (p4f _ _ _).trans ?_
        rw [hb] at hd2 ⊢
        refine (p3z _ _ _).trans ?_
        rw [hb] at hfin
        exact hfin _ (by unfold sweepO; rw [if_pos rfl, if_neg hd2])
    · refine (c_neg hb).trans ?_
      refine (p4f _ _ _).trans ?_
      show zq7k zq80 _ _ (j : Int) depth at_ op sh out = _
      unfold zq7k
      refine (c_pos (by omega)).trans ?_
      by_cases hd2 : depth + (cntF S p - cntT S p) = 0
      · rw [decide_eq_true hd2]
        refine (p2t _ _ (hne (by omega))).trans ?_
        exact hfin _ (by unfold sweepO; rw [if_neg hb, if_pos hd2])
      · rw [decide_eq_false hd2]
        refine (p2f _ _ _).trans ?_
        exact hfin _ (by unfold sweepO; rw [if_neg hb, if_neg hd2])

/-- The reference's normal form. -/
theorem ref_normal {l : List Sp} (hl : l.length ≤ 4096) (hr : ∀ s ∈ l, rangeS s) :
    ∃ out, (NFa (-1) out ∧ (∀ x, hasS out x ↔ hasS l x)) ∧ ∀ {β : Type} (k : Int → List Sp → Option β), zq8a l k = k 0 out := by
  have hz : ∀ x : Int, mGet (.int .i64) ([] : List (Int × Int)) x 0 = 0 := fun _ => rfl
  obtain ⟨at_, op, sh, ⟨e1, e2, e3⟩, hf⟩ := ref_coll l hl l 0 fuel [] [] [] rfl (lt_fuel (by omega)) hr (by simp; omega) (fun x => by rw [hz]; omega) (fun x => by rw [hz]; omega)
  simp only [List.nil_append] at e1
  have hlen : ∀ m : List Sp, (ptsS m).length ≤ 2 * m.length := by
    intro m
    induction m with
    | nil => simp [ptsS]
    | cons s m ih =>
      have : ptsS (s :: m) = (if s.1 < s.2 then [s.1, s.2] else []) ++ ptsS m := rfl
      rw [this, List.length_append, List.length_cons]
      split <;> simp <;> omega
  have hat : at_.length ≤ 8192 := by rw [e1]; have := hlen l; omega
  obtain ⟨p, ⟨p1, p2, p3⟩, hs⟩ := srt (l := at_) (by omega)
  have hp2 : ∀ y, y ∈ p ↔ y ∈ ptsS l := fun y => by rw [p2, e1]
  have h0 : ∀ y ∈ ptsS l, 0 ≤ y := by
    intro y hy
    obtain ⟨s, hs, hlt, h⟩ := mem_pts.1 hy
    have := hr s hs hlt
    omega
  have hdz : depthS l (-1) = 0 := by
    have h1 := depth_pos l (-1)
    have h2 : ¬ hasS l (-1) := by
      rintro ⟨s, hs, h3, h4⟩
      have := hr s hs (by omega)
      omega
    have h3 : ¬ 0 < depthS l (-1) := fun q => h2 (h1.2.1 q)
    omega
  have hst : SweepI l (-1) 0 [] := by
    refine ⟨hdz.symm, fun _ => ⟨trivial, fun x hx => ⟨fun q => absurd q hasS_nil, ?_⟩, by simp⟩, fun h => absurd h (by omega)⟩
    rintro ⟨s, hs, h3, h4⟩
    have := hr s hs (by omega)
    omega
  obtain ⟨out, hq, hg⟩ := ref_sweep (S := l) (at_ := p) (op := op) (sh := sh) hl (by omega) p1 (fun y hy => h0 y ((hp2 y).1 hy)) hp2 (fun x => by rw [e2, hz]; omega) (fun x => by rw [e3, hz]; omega) p 0 fuel (-1) 0 [] rfl (lt_fuel (by omega))
    hst (Int.le_refl _) (fun y hy => .inr hy) (fun y hy => by have := h0 y ((hp2 y).1 hy); omega) (by simp)
  refine ⟨out, hq, fun k => ?_⟩
  show zq7t zq5o zq7y zq88 l k = _
  unfold zq7t
  refine (c_neg (by omega)).trans ?_
  refine (hf _ _).trans ?_
  refine (hs _).trans ?_
  exact hg _
end
end Go.Lift

/- The functions of package span in plain Lean. -/
namespace Go.Lift
open Go.RowKit Go.IntWalk
noncomputable section
set_option linter.unusedVariables false
set_option linter.unusedSimpArgs false
set_option maxRecDepth 10000

/-! ### Valid -/
def vB : Int → List Sp → Bool
  | _, [] => true
  | p, s :: l => decide (p < s.1) && (decide (s.1 < s.2) && (decide (s.2 ≤ 8589934592) && vB s.2 l))
theorem vB_iff : ∀ {l : List Sp} {p : Int}, vB p l = true ↔ NFa p l ∧ ∀ s ∈ l, s.2 ≤ 8589934592
  | [], p => by simp [vB, NFa]
  | s :: l, p => by
    simp only [vB, Bool.and_eq_true, decide_eq_true_eq, NFa, List.mem_cons, forall_eq_or_imp, vB_iff (l := l) (p := s.2)]
    constructor
    · rintro ⟨h1, h2, h3, h4, h5⟩
      exact ⟨⟨h1, h2, h4⟩, h3, h5⟩
    · rintro ⟨⟨h1, h2, h4⟩, h3, h5⟩
      exact ⟨h1, h2, h3, h4, h5⟩
def validB (l : List Sp) : Bool := decide (l.length ≤ 4096) && vB (-1) l
structure VS (l : List Sp) : Prop where
  len : l.length ≤ 4096
  nf : NFa (-1) l
  le : ∀ s ∈ l, s.2 ≤ 8589934592
theorem validB_iff {l : List Sp} : validB l = true ↔ VS l := by
  unfold validB
  rw [Bool.and_eq_true, decide_eq_true_eq, vB_iff]
  exact ⟨fun h => ⟨h.1, h.2.1, h.2.2⟩, fun h => ⟨h.len, h.nf, h.le⟩⟩

section
variable {β : Type}

theorem valid_loop (l : List Sp) (hl : l.length ≤ 4096) (k1 : zqz β) (k2 : zq10 β) : ∀ (r : List Sp) (j N : Nat) (p : Int), l.drop j = r → r.length < N → -1 ≤ p → (j = 0 → p = -1) → (0 < j → p = (l.getD (j - 1) ((0 : Int), (0 : Int))).2) →
    zq1a N k1 k2 l l (l.length : Int) (j : Int) = cond (vB p r) (k2 ()) (k1 false)
  | [], j, 0, _, _, h, _, _, _ => absurd h (Nat.not_lt_zero _)
  | _ :: _, j, 0, _, _, h, _, _, _ => absurd h (Nat.not_lt_zero _)
  | [], j, N + 1, p, hd, h, _, _, _ => by
    have : l.length ≤ j := by simpa using hd
    rw [zq1b]
    unfold zq14
    exact c_neg (by omega)
  | s :: r, j, N + 1, p, hd, h, hp, hp0, hp1 => by
    obtain ⟨hj, hg, hd'⟩ := drop_cons hd ((0 : Int), (0 : Int))
    simp only [List.length_cons] at h
    have ew : IntKind.i64.wrap ((j : Int) + 1) = ((j + 1 : Nat) : Int) := by rw [wr (by omega) (by omega)]; omega
    rw [zq1b]
    unfold zq14
    simp only [Int.toNat_natCast, hg]
    refine (c_pos (by omega)).trans ?_
    refine (c_inb (by omega)).trans ?_
    unfold vB
    by_cases h1 : s.1 < 0
    · refine (c_pos h1).trans ?_
      rw [decide_eq_false (show ¬ p < s.1 by omega), Bool.false_and]
      rfl
    refine (c_neg h1).trans ?_
    by_cases h2 : s.2 ≤ s.1
    · refine (c_pos h2).trans ?_
      rw [decide_eq_false (show ¬ s.1 < s.2 by omega), Bool.false_and, Bool.and_false]
      rfl
    refine (c_neg h2).trans ?_
    by_cases h3 : 8589934592 < s.2
    · refine (c_pos h3).trans ?_
      rw [decide_eq_false (show ¬ s.2 ≤ 8589934592 by omega), Bool.false_and, Bool.and_false, Bool.and_false]
      rfl
    refine (c_neg h3).trans ?_
    rw [decide_eq_true (show s.1 < s.2 by omega), decide_eq_true (show s.2 ≤ 8589934592 by omega), Bool.true_and, Bool.true_and]
    have ih := valid_loop l hl k1 k2 r (j + 1) N s.2 hd' (by omega) (by omega) (by omega) (fun _ => by rw [Nat.add_sub_cancel, hg])
    by_cases hj0 : j = 0
    · have := hp0 hj0
      refine (c_neg (by omega)).trans ?_
      rw [decide_eq_true (show p < s.1 by omega), Bool.true_and, ew]
      exact ih
    · refine (c_pos (by omega)).trans ?_
      have e2 : IntKind.i64.wrap ((j : Int) - 1) = ((j - 1 : Nat) : Int) := by rw [wr (by omega) (by omega)]; omega
      rw [e2]
      refine (c_inb (by omega)).trans ?_
      simp only [Int.toNat_natCast]
      have hp2 := hp1 (by omega)
      by_cases h4 : s.1 ≤ p
      · refine (c_pos (by rw [← hp2]; exact h4)).trans ?_
        rw [decide_eq_false (show ¬ p < s.1 by omega), Bool.false_and]
        rfl
      · refine (c_neg (by rw [← hp2]; exact h4)).trans ?_
        rw [decide_eq_true (show p < s.1 by omega), Bool.true_and, ew]
        exact ih

theorem valid_eq (l : List Sp) (k : Bool → Option β) : zq1e l k = k (validB l) := by
  show zq17 zq1c l k = _
  unfold zq17 validB
  by_cases h : l.length ≤ 4096
  · refine (c_neg (by omega)).trans ?_
    rw [decide_eq_true h, Bool.true_and]
    refine (valid_loop l h _ _ l 0 fuel (-1) rfl (lt_fuel (by omega)) (by omega) (fun _ => rfl) (fun h => by omega)).trans ?_
    cases vB (-1) l <;> rfl
  · refine (c_pos (by omega)).trans ?_
    rw [decide_eq_false h, Bool.false_and]

/-! ### Length -/
theorem lengthS_cons (s : Sp) (l : List Sp) : lengthS (s :: l) = (s.2 - s.1) + lengthS l := by simp [lengthS]
theorem lengthS_bound {M : Int} : ∀ {l : List Sp} {a : Int}, NFa a l → (∀ s ∈ l, s.2 ≤ M) → a ≤ M → 0 ≤ lengthS l ∧ lengthS l ≤ M - a
  | [], a, _, _, h => by simp only [lengthS, List.map_nil, List.sum_nil]; omega
  | s :: l, a, ⟨h1, h2, h3⟩, hm, h => by
    have hs := hm s (by simp)
    obtain ⟨i1, i2⟩ := lengthS_bound h3 (fun t ht => hm t (by simp [ht])) hs
    rw [lengthS_cons]
    omega

theorem length_loop (k1 : zq1i β) (l : List Sp) (hl : l.length ≤ 4096) : ∀ (r : List Sp) (j N : Nat) (n c : Int), l.drop j = r → r.length < N → 0 ≤ n → NFa c r → -1 ≤ c → (∀ s ∈ r, s.2 ≤ 8589934592) → n ≤ 1 + c →
    zq1s N k1 n l (l.length : Int) (j : Int) = k1 (n + lengthS r)
  | [], j, 0, _, _, _, h, _, _, _, _, _ => absurd h (Nat.not_lt_zero _)
  | _ :: _, j, 0, _, _, _, h, _, _, _, _, _ => absurd h (Nat.not_lt_zero _)
  | [], j, N + 1, n, c, hd, h, _, _, _, _, _ => by
    have : l.length ≤ j := by simpa using hd
    rw [zq1t]
    unfold zq1m
    refine (c_neg (by omega)).trans ?_
    simp [lengthS]
  | s :: r, j, N + 1, n, c, hd, h, hn0, ⟨q1, q2, q3⟩, hc, hm, hn => by
    obtain ⟨hj, hg, hd'⟩ := drop_cons hd ((0 : Int), (0 : Int))
    simp only [List.length_cons] at h
    have ew : IntKind.i64.wrap ((j : Int) + 1) = ((j + 1 : Nat) : Int) := by rw [wr (by omega) (by omega)]; omega
    have hs := hm s (by simp)
    rw [zq1t]
    unfold zq1m
    simp only [Int.toNat_natCast, hg]
    refine (c_pos (by omega)).trans ?_
    refine (c_inb (by omega)).trans ?_
    rw [wr (x := s.2 - s.1) (by omega) (by omega), wr (x := n + (s.2 - s.1)) (by omega) (by omega), ew]
    refine (length_loop k1 l hl r (j + 1) N (n + (s.2 - s.1)) s.2 hd' (by omega) (by omega) q3 (by omega) (fun t ht => hm t (by simp [ht])) (by omega)).trans ?_
    rw [lengthS_cons]
    congr 1
    omega

theorem VS.range {l : List Sp} (h : VS l) : ∀ s ∈ l, 0 ≤ s.1 ∧ s.1 < s.2 ∧ s.2 ≤ 8589934592 := fun s hs => by
  have := h.nf.mem s hs
  have := h.le s hs
  omega

theorem length_eq (l : List Sp) (k : Int → Option β) : zq1w l k = k (if validB l then lengthS l else 0) := by
  show zq1p zq1e zq1u l k = _
  unfold zq1p
  refine (valid_eq l _).trans ?_
  cases hv : validB l with
  | false => rfl
  | true =>
    have h := validB_iff.1 hv
    have hlen := h.len
    have e := length_loop (fun n => k n) l h.len l 0 fuel 0 (-1) rfl (lt_fuel (by omega)) (by omega) h.nf (by omega) h.le (by omega)
    rw [Int.natCast_zero, Int.zero_add] at e
    rw [if_pos rfl]
    refine c_f.trans ?_
    exact e

/-! ### First, Gap, Has -/
theorem gap_loop (x : Int) (k1 : zq63 β) (k2 : zq64 β) (l : List Sp) (hl : l.length ≤ 4096) (hk : ∀ y, k1 y = k2 y) : ∀ (r : List Sp) (j N : Nat), l.drop j = r → r.length < N →
    zq6e N k1 k2 x l (l.length : Int) (j : Int) = k1 (gapS x r)
  | [], j, 0, _, h => absurd h (Nat.not_lt_zero _)
  | _ :: _, j, 0, _, h => absurd h (Nat.not_lt_zero _)
  | [], j, N + 1, hd, h => by
    have : l.length ≤ j := by simpa using hd
    rw [zq6f]
    unfold zq68
    exact (c_neg (by omega)).trans (hk x).symm
  | s :: r, j, N + 1, hd, h => by
    obtain ⟨hj, hg, hd'⟩ := drop_cons hd ((0 : Int), (0 : Int))
    simp only [List.length_cons] at h
    have ew : IntKind.i64.wrap ((j : Int) + 1) = ((j + 1 : Nat) : Int) := by rw [wr (by omega) (by omega)]; omega
    rw [zq6f]
    unfold zq68
    simp only [Int.toNat_natCast, hg]
    refine (c_pos (by omega)).trans ?_
    refine (c_inb (by omega)).trans ?_
    unfold gapS
    rw [ew]
    have ih := gap_loop x k1 k2 l hl hk r (j + 1) N hd' (by omega)
    by_cases h1 : s.1 ≤ x
    · refine (c_pos h1).trans ?_
      by_cases h2 : x < s.2
      · refine (c_pos h2).trans ?_
        rw [if_pos ⟨h1, h2⟩]
      · refine (c_neg h2).trans ?_
        rw [if_neg (fun q => h2 q.2)]
        exact ih
    · refine (c_neg h1).trans ?_
      rw [if_neg (fun q => h1 q.1)]
      exact ih

theorem gap_eq (l : List Sp) (x : Int) (k : Int → Option β) : zq6i l x k = k (if validB l then gapS x l else x) := by
  show zq6b zq1e zq6g l x k = _
  unfold zq6b
  refine (valid_eq l _).trans ?_
  cases hv : validB l with
  | false => rfl
  | true =>
    have hlen := (validB_iff.1 hv).len
    have e := gap_loop x (fun y => k y) (fun y => k y) l hlen (fun _ => rfl) l 0 fuel rfl (lt_fuel (by omega))
    rw [Int.natCast_zero] at e
    rw [if_pos rfl]
    refine c_f.trans ?_
    exact e

theorem hasf_eq (s : Sp) (x : Int) (k : Bool → Int → Option β) : zq2h s x k = k (decide (s.1 ≤ x) && decide (x < s.2)) x := by
  show zq2e s x k = _
  unfold zq2e
  by_cases h : s.1 ≤ x
  · refine (c_pos h).trans ?_
    rw [decide_eq_true h, Bool.true_and]
  · refine (c_neg h).trans ?_
    rw [decide_eq_false h, Bool.false_and]

theorem hasi_loop (x : Int) (k1 : zqao β) (k2 : zqap β) (l : List Sp) (hl : l.length ≤ 4096) (q : Option β) (hk : ∀ i, 0 ≤ i → k1 i x = q) : ∀ (r : List Sp) (j N : Nat), l.drop j = r → r.length < N →
    zqaz N k1 k2 l (l.length : Int) (j : Int) x = if hasB r x then q else k2 x
  | [], j, 0, _, h => absurd h (Nat.not_lt_zero _)
  | _ :: _, j, 0, _, h => absurd h (Nat.not_lt_zero _)
  | [], j, N + 1, hd, h => by
    have : l.length ≤ j := by simpa using hd
    rw [zqb0]
    unfold zqat
    exact c_neg (by omega)
  | s :: r, j, N + 1, hd, h => by
    obtain ⟨hj, hg, hd'⟩ := drop_cons hd ((0 : Int), (0 : Int))
    simp only [List.length_cons] at h
    have ew : IntKind.i64.wrap ((j : Int) + 1) = ((j + 1 : Nat) : Int) := by rw [wr (by omega) (by omega)]; omega
    rw [zqb0]
    unfold zqat
    simp only [Int.toNat_natCast, hg]
    refine (c_pos (by omega)).trans ?_
    refine (c_inb (by omega)).trans ?_
    refine (hasf_eq _ _ _).trans ?_
    have e : hasB (s :: r) x = ((decide (s.1 ≤ x) && decide (x < s.2)) || hasB r x) := by simp [hasB]
    rw [e, ew]
    cases hb : (decide (s.1 ≤ x) && decide (x < s.2)) with
    | true => exact hk _ (by omega)
    | false => exact hasi_loop x k1 k2 l hl q hk r (j + 1) N hd' (by omega)

theorem has_eq (l : List Sp) (x : Int) (k : Bool → Option β) : zqcm l x k = k (validB l && hasB l x) := by
  show zqcj zqbt zq1e l x k = _
  unfold zqcj
  refine (valid_eq l _).trans ?_
  cases hv : validB l with
  | false => rfl
  | true =>
    have hlen := (validB_iff.1 hv).len
    refine c_t.trans ?_
    show zqbq zqb3 l x _ = _
    unfold zqbq
    show zqaw zqb1 l x _ = _
    unfold zqaw
    refine (hasi_loop x _ _ l hlen (k true) (fun i hi => by show k (decide (0 ≤ i)) = k true; rw [decide_eq_true hi]) l 0 fuel rfl (lt_fuel (by omega))).trans ?_
    cases hasB l x <;> rfl
end

/-! ### Common -/
theorem common_loop {a b : List Sp} (ha : a.length ≤ 100000) (hb : b.length ≤ 100000) {β : Type} (k1 : zq2p β) : ∀ (n i j N : Nat) (out : List Sp), (a.length - i) + (b.length - j) ≤ n → n < N → out.length ≤ i + j → i ≤ a.length → j ≤ b.length →
    zq34 N k1 a b (i : Int) (j : Int) out = k1 (out ++ commonS n (a.drop i) (b.drop j))
  | n, i, j, 0, _, _, h, _, _, _ => absurd h (Nat.not_lt_zero _)
  | 0, i, j, N + 1, out, hn, h, ho, hi, hj => by
    rw [zq35]
    unfold zq2w
    refine (c_neg (by omega)).trans ?_
    simp [commonS]
  | n + 1, i, j, N + 1, out, hn, h, ho, hi, hj => by
    rw [zq35]
    unfold zq2w
    by_cases hia : i < a.length
    · refine (c_pos (by omega)).trans ?_
      by_cases hjb : j < b.length
      · refine (c_pos (by omega)).trans ?_
        have ea : a.drop i = a[i] :: a.drop (i + 1) := List.drop_eq_getElem_cons hia
        have eb : b.drop j = b[j] :: b.drop (j + 1) := List.drop_eq_getElem_cons hjb
        have ga : a.getD i ((0 : Int), (0 : Int)) = a[i] := by simp [List.getD, hia]
        have gb : b.getD j ((0 : Int), (0 : Int)) = b[j] := by simp [List.getD, hjb]
        simp only [Int.toNat_natCast, ga, gb]
        rw [ea, eb]
        generalize a[i] = x at *
        generalize b[j] = y at *
        have e1 : (if y.1 > x.1 then y.1 else x.1) = max x.1 y.1 := by split <;> omega
        have e2 : (if y.2 < x.2 then y.2 else x.2) = min x.2 y.2 := by split <;> omega
        rw [e1, e2]
        have ewi : IntKind.i64.wrap ((i : Int) + 1) = ((i + 1 : Nat) : Int) := by rw [wr (by omega) (by omega)]; omega
        have ewj : IntKind.i64.wrap ((j : Int) + 1) = ((j + 1 : Nat) : Int) := by rw [wr (by omega) (by omega)]; omega
        have hp1 : ∀ (out2 : List Sp), out2.length ≤ i + j + 1 → zq32 (fun a2 b2 i2 j2 out2 => zq34 N k1 a2 b2 i2 j2 out2) a b (i : Int) (j : Int) out2 =
            k1 (out2 ++ (if x.2 < y.2 then commonS n (a.drop (i + 1)) (y :: b.drop (j + 1)) else commonS n (x :: a.drop (i + 1)) (b.drop (j + 1)))) := by
          intro out2 hlen
          show zq2t _ a b (i : Int) (j : Int) out2 = _
          unfold zq2t
          simp only [Int.toNat_natCast, ga, gb]
          refine (c_inb (by omega)).trans ?_
          refine (c_inb (by omega)).trans ?_
          rw [ewi, ewj]
          by_cases hc : x.2 < y.2
          · refine (c_pos hc).trans ?_
            rw [if_pos hc, ← eb]
            exact common_loop ha hb k1 n (i + 1) j N out2 (by omega) (by omega) (by omega) (by omega) (by omega)
          · refine (c_neg hc).trans ?_
            rw [if_neg hc, ← ea]
            exact common_loop ha hb k1 n i (j + 1) N out2 (by omega) (by omega) (by omega) (by omega) (by omega)
        have ec : commonS (n + 1) (x :: a.drop (i + 1)) (y :: b.drop (j + 1)) = (if max x.1 y.1 < min x.2 y.2 then [(max x.1 y.1, min x.2 y.2)] else []) ++ (if x.2 < y.2 then commonS n (a.drop (i + 1)) (y :: b.drop (j + 1)) else commonS n (x :: a.drop (i + 1)) (b.drop (j + 1))) := rfl
        rw [ec]
        refine (c_inb (by omega)).trans ?_
        refine (c_inb (by omega)).trans ?_
        refine (c_inb (by omega)).trans ?_
        refine (c_inb (by omega)).trans ?_
        by_cases hc : max x.1 y.1 < min x.2 y.2
        · refine (c_pos hc).trans ?_
          refine (c_room (by simp; omega)).trans ?_
          rw [if_pos hc, ← List.append_assoc]
          exact hp1 _ (by simp; omega)
        · refine (c_neg hc).trans ?_
          rw [if_neg hc, List.nil_append]
          exact hp1 _ (by omega)
      · refine (c_neg (by omega)).trans ?_
        rw [List.drop_eq_nil_of_le (show b.length ≤ j by omega)]
        have : commonS (n + 1) (a.drop i) [] = [] := by
          cases a.drop i <;> rfl
        rw [this, List.append_nil]
    · refine (c_neg (by omega)).trans ?_
      rw [List.drop_eq_nil_of_le (show a.length ≤ i by omega)]
      have : commonS (n + 1) [] (b.drop j) = [] := rfl
      rw [this, List.append_nil]

theorem common_eq {a b : List Sp} (ha : a.length ≤ 100000) (hb : b.length ≤ 100000) {β : Type} (k : List Sp → Option β) : zq38 a b k = k (commonS (a.length + b.length) a b) := by
  show zq2z zq36 a b k = _
  unfold zq2z
  refine (common_loop ha hb _ (a.length + b.length) 0 0 fuel [] (by omega) (lt_fuel (by omega)) (by simp) (by omega) (by omega)).trans ?_
  simp

/-! ### Without -/
theorem cutS_skip {e at_ : Int} (h : at_ < e) : ∀ {p m : List Sp}, (∀ t ∈ p, t.1 < t.2 ∧ t.2 ≤ at_) → cutS e at_ (p ++ m) = cutS e at_ m
  | [], _, _ => rfl
  | t :: p, m, hp => by
    have ht := hp t (by simp)
    have e1 : cutS e at_ ((t :: p) ++ m) = if t.1 < e then restS t.1 at_ ++ cutS e (max at_ t.2) (p ++ m) else restS e at_ := rfl
    rw [e1, if_pos (by omega)]
    have e2 : restS t.1 at_ = [] := by unfold restS; rw [if_neg (by omega)]
    have e3 : max at_ t.2 = at_ := by omega
    rw [e2, e3, List.nil_append]
    exact cutS_skip h fun q hq => hp q (by simp [hq])

section
variable {β : Type}
theorem without_p1 {b : List Sp} (hb : b.length ≤ 10000) (k1 : zq3c β) (t11 : List Sp) (t12 t13 : Int) (out : List Sp) (s s2 : Int) : ∀ (r : List Sp) (j N : Nat), b.drop j = r → r.length < N →
    ∃ j', j ≤ j' ∧ j' ≤ max j b.length ∧ (∀ t ∈ (b.drop j).take (j' - j), t.2 ≤ s) ∧ zq40 N k1 b (j : Int) t11 t12 t13 out s s2 = k1 b (j' : Int) t11 t12 t13 out s s2
  | [], j, 0, _, h => absurd h (Nat.not_lt_zero _)
  | _ :: _, j, 0, _, h => absurd h (Nat.not_lt_zero _)
  | [], j, N + 1, hd, h => by
    have : b.length ≤ j := by simpa using hd
    refine ⟨j, Nat.le_refl _, by omega, by simp, ?_⟩
    rw [zq41]
    unfold zq3o
    exact c_neg (by omega)
  | t :: r, j, N + 1, hd, h => by
    obtain ⟨hj, hg, hd'⟩ := drop_cons hd ((0 : Int), (0 : Int))
    simp only [List.length_cons] at h
    have ew : IntKind.i64.wrap ((j : Int) + 1) = ((j + 1 : Nat) : Int) := by rw [wr (by omega) (by omega)]; omega
    by_cases hc : t.2 ≤ s
    · obtain ⟨j', h1, h2, h3, h4⟩ := without_p1 hb k1 t11 t12 t13 out s s2 r (j + 1) N hd' (by omega)
      refine ⟨j', by omega, by omega, ?_, ?_⟩
      · intro u hu
        rw [hd] at hu
        have e : j' - j = (j' - (j + 1)) + 1 := by omega
        rw [e, List.take_succ_cons] at hu
        rcases List.mem_cons.1 hu with rfl | hu
        · exact hc
        · exact h3 u (by rw [hd']; exact hu)
      · rw [zq41]
        unfold zq3o
        simp only [Int.toNat_natCast, hg]
        refine (c_pos (by omega)).trans ?_
        refine (c_inb (by omega)).trans ?_
        refine (c_pos hc).trans ?_
        rw [ew]
        exact h4
    · refine ⟨j, Nat.le_refl _, by omega, by simp, ?_⟩
      rw [zq41]
      unfold zq3o
      simp only [Int.toNat_natCast, hg]
      refine (c_pos (by omega)).trans ?_
      refine (c_inb (by omega)).trans ?_
      exact c_neg hc

theorem without_p2 {b : List Sp} (hb : b.length ≤ 10000) (k1 : zq3g β) (k_ : Int) (t11 : List Sp) (t12 t13 : Int) (s s2 : Int) : ∀ (r : List Sp) (i N : Nat) (at_ : Int) (out : List Sp), b.drop i = r → r.length < N → out.length + r.length ≤ 1000000000 →
    ∃ at' pre, pre ++ restS s2 at' = cutS s2 at_ r ∧ pre.length ≤ r.length ∧ zq44 N k1 b k_ at_ (i : Int) t11 t12 t13 out s s2 = k1 b k_ at' t11 t12 t13 (out ++ pre) s s2
  | [], j, 0, _, _, _, h, _ => absurd h (Nat.not_lt_zero _)
  | _ :: _, j, 0, _, _, _, h, _ => absurd h (Nat.not_lt_zero _)
  | [], i, N + 1, at_, out, hd, h, ho => by
    have : b.length ≤ i := by simpa using hd
    refine ⟨at_, [], rfl, by simp, ?_⟩
    rw [zq45]
    unfold zq3r
    rw [List.append_nil]
    exact c_neg (by omega)
  | t :: r, i, N + 1, at_, out, hd, h, ho => by
    obtain ⟨hj, hg, hd'⟩ := drop_cons hd ((0 : Int), (0 : Int))
    simp only [List.length_cons] at h ho
    have ew : IntKind.i64.wrap ((i : Int) + 1) = ((i + 1 : Nat) : Int) := by rw [wr (by omega) (by omega)]; omega
    have em : (if t.2 > at_ then t.2 else at_) = max at_ t.2 := by split <;> omega
    have ec : cutS s2 at_ (t :: r) = if t.1 < s2 then restS t.1 at_ ++ cutS s2 (max at_ t.2) r else restS s2 at_ := rfl
    by_cases hc : t.1 < s2
    · rw [ec, if_pos hc]
      by_cases hlt : at_ < t.1
      · obtain ⟨at', pre, h1, h2, h3⟩ := without_p2 hb k1 k_ t11 t12 t13 s s2 r (i + 1) N (max at_ t.2) (out ++ [(at_, t.1)]) hd' (by omega) (by simp; omega)
        refine ⟨at', (at_, t.1) :: pre, ?_, by simp; omega, ?_⟩
        · have : restS t.1 at_ = [(at_, t.1)] := by unfold restS; rw [if_pos hlt]
          rw [this, List.cons_append, h1]; rfl
        · rw [zq45]
          unfold zq3r
          simp only [Int.toNat_natCast, hg, em, ew]
          refine (c_pos (by omega)).trans ?_
          refine (c_inb (by omega)).trans ?_
          refine (c_pos hc).trans ?_
          refine (c_inb (by omega)).trans ?_
          refine (c_pos hlt).trans ?_
          refine (c_inb (by omega)).trans ?_
          refine (c_room (by simp; omega)).trans ?_
          refine (c_inb (by omega)).trans ?_
          rw [h3, List.append_assoc]
          rfl
      · obtain ⟨at', pre, h1, h2, h3⟩ := without_p2 hb k1 k_ t11 t12 t13 s s2 r (i + 1) N (max at_ t.2) out hd' (by omega) (by omega)
        refine ⟨at', pre, ?_, by simp; omega, ?_⟩
        · have : restS t.1 at_ = [] := by unfold restS; rw [if_neg hlt]
          rw [this, h1]; rfl
        · rw [zq45]
          unfold zq3r
          simp only [Int.toNat_natCast, hg, em, ew]
          refine (c_pos (by omega)).trans ?_
          refine (c_inb (by omega)).trans ?_
          refine (c_pos hc).trans ?_
          refine (c_inb (by omega)).trans ?_
          refine (c_neg hlt).trans ?_
          refine (c_inb (by omega)).trans ?_
          exact h3
    · rw [ec, if_neg hc]
      refine ⟨at_, [], rfl, by simp, ?_⟩
      rw [zq45]
      unfold zq3r
      simp only [Int.toNat_natCast, hg]
      rw [List.append_nil]
      refine (c_pos (by omega)).trans ?_
      refine (c_inb (by omega)).trans ?_
      exact c_neg hc

theorem take_add_drop {α : Type} {l : List α} {j j' : Nat} (h : j ≤ j') : l.take j' = l.take j ++ (l.drop j).take (j' - j) := by
  have e : j' = j + (j' - j) := by omega
  rw [e, List.take_add, Nat.add_sub_cancel_left]

theorem without_p3 {a b : List Sp} (ha : a.length ≤ 10000) (hb : b.length ≤ 10000) {ca : Int} (hna : NFa ca a) (hnb : ∀ t ∈ b, t.1 < t.2) (k1 : zq3k β) : ∀ (r : List Sp) (i k N : Nat) (c : Int) (out : List Sp), a.drop i = r → r.length < N → NFa c r → k ≤ b.length → (∀ t ∈ b.take k, t.2 ≤ c) → out.length ≤ i * 10001 →
    zq48 N k1 b (k : Int) a (a.length : Int) (i : Int) out = k1 (out ++ withoutS r b)
  | [], j, _, 0, _, _, _, h, _, _, _, _ => absurd h (Nat.not_lt_zero _)
  | _ :: _, j, _, 0, _, _, _, h, _, _, _, _ => absurd h (Nat.not_lt_zero _)
  | [], i, k, N + 1, c, out, hd, h, hr, hk, ht, ho => by
    have : a.length ≤ i := by simpa using hd
    rw [zq49]
    unfold zq3u
    refine (c_neg (by omega)).trans ?_
    simp [withoutS]
  | s :: r, i, k, N + 1, c, out, hd, h, hr, hk, ht, ho => by
    obtain ⟨hj, hg, hd'⟩ := drop_cons hd ((0 : Int), (0 : Int))
    simp only [List.length_cons] at h
    obtain ⟨r1, r2, r3⟩ := hr
    have ew : IntKind.i64.wrap ((i : Int) + 1) = ((i + 1 : Nat) : Int) := by rw [wr (by omega) (by omega)]; omega
    rw [zq49]
    unfold zq3u
    simp only [Int.toNat_natCast, hg]
    refine (c_pos (by omega)).trans ?_
    refine (c_inb (by omega)).trans ?_
    obtain ⟨k', q1, q2, q3, q4⟩ := without_p1 hb (fun b2 k2 t112 t122 t132 out2 s s2 => zq46 (fun b3 k3 at_ t113 t123 t133 out3 s3 s4 =>
        cond (decide (at_ < s4)) (cond (decide ((out3.length + ([(at_, s4)] : List Sp).length) * 16 ≤ roomMax)) (zq48 N k1 b3 k3 t113 t123 (IntKind.i64.wrap (t133 + 1)) (out3 ++ [(at_, s4)])) none)
          (zq48 N k1 b3 k3 t113 t123 (IntKind.i64.wrap (t133 + 1)) out3)) b2 k2 s k2 t112 t122 t132 out2 s s2) a (a.length : Int) (i : Int) out s.1 s.2 (b.drop k) k fuel rfl (lt_fuel (by simp; omega))
    refine q4.trans ?_
    obtain ⟨at', pre, w1, w2, w3⟩ := without_p2 hb (fun b3 k3 at_ t113 t123 t133 out3 s3 s4 =>
        cond (decide (at_ < s4)) (cond (decide ((out3.length + ([(at_, s4)] : List Sp).length) * 16 ≤ roomMax)) (zq48 N k1 b3 k3 t113 t123 (IntKind.i64.wrap (t133 + 1)) (out3 ++ [(at_, s4)])) none)
          (zq48 N k1 b3 k3 t113 t123 (IntKind.i64.wrap (t133 + 1)) out3)) (k' : Int) a (a.length : Int) (i : Int) s.1 s.2 (b.drop k') k' fuel s.1 out rfl (lt_fuel (by simp; omega)) (by simp; omega)
    refine w3.trans ?_
    have hk' : k' ≤ b.length := by omega
    have htk : ∀ t ∈ b.take k', t.2 ≤ s.1 := by
      intro t hm
      rw [take_add_drop q1] at hm
      rcases List.mem_append.1 hm with hm | hm
      · have := ht t hm; omega
      · exact q3 t hm
    have hcut : cutS s.2 s.1 b = cutS s.2 s.1 (b.drop k') := by
      have e : b = b.take k' ++ b.drop k' := (List.take_append_drop k' b).symm
      have := cutS_skip (e := s.2) (at_ := s.1) r2 (p := b.take k') (m := b.drop k') (fun t hm => ⟨hnb t (List.mem_of_mem_take hm), htk t hm⟩)
      rw [← e] at this
      exact this
    have hwo : withoutS (s :: r) b = cutS s.2 s.1 b ++ withoutS r b := rfl
    rw [hwo, hcut, ← w1]
    have hlp : pre.length ≤ 10000 := by simp at w2; omega
    have ih : ∀ out2, out2.length ≤ (i + 1) * 10001 → zq48 N k1 b (k' : Int) a (a.length : Int) (IntKind.i64.wrap ((i : Int) + 1)) out2 = k1 (out2 ++ withoutS r b) := by
      intro out2 hl2
      rw [ew]
      exact without_p3 ha hb hna hnb k1 r (i + 1) k' N s.2 out2 hd' (by omega) r3 hk' (fun t hm => by have := htk t hm; omega) hl2
    by_cases hlt : at' < s.2
    · refine (c_pos hlt).trans ?_
      refine (c_room (by simp; omega)).trans ?_
      have : restS s.2 at' = [(at', s.2)] := by unfold restS; rw [if_pos hlt]
      rw [this]
      refine (ih _ (by simp; omega)).trans ?_
      simp
    · refine (c_neg hlt).trans ?_
      have : restS s.2 at' = [] := by unfold restS; rw [if_neg hlt]
      rw [this, List.append_nil]
      refine (ih _ (by simp; omega)).trans ?_
      simp

theorem without_eq {a b : List Sp} (ha : a.length ≤ 10000) (hb : b.length ≤ 10000) {ca : Int} (hna : NFa ca a) (hnb : ∀ t ∈ b, t.1 < t.2) (k : List Sp → Option β) : zq4c a b k = k (withoutS a b) := by
  show zq3x zq4a a b k = _
  unfold zq3x
  refine (without_p3 ha hb hna hnb _ a 0 0 fuel ca [] rfl (lt_fuel (by omega)) hna (by omega) (by simp) (by simp)).trans ?_
  simp
end
end
end Go.Lift

/- The dice in plain Lean. -/
namespace Go.Lift
open Go.RowKit Go.IntWalk
noncomputable section
set_option linter.unusedVariables false
set_option linter.unusedSimpArgs false

abbrev Dice := List Int × Int
def DiceOk (d : Dice) : Prop := 0 ≤ d.2 ∧ d.2 ≤ d.1.length ∧ d.1.length ≤ 500

theorem light_eq {β : Type} (l : List Int) (k : Bool → Option β) : zq5 l k = k (decide ((l.length : Int) ≤ 500)) := by
  simp only [zq5, zq2]
theorem roll_eq {β : Type} (l : List Int) (k : Dice → Option β) : zqc l k = k (l, 0) := by
  simp only [zqc, zq9]
theorem roll_ok {l : List Int} (h : (l.length : Int) ≤ 500) : DiceOk (l, 0) := ⟨by simp, by simp, by show l.length ≤ 500; omega⟩

theorem next_ok {n : Int} {d : Dice} (hd : DiceOk d) (hn : 1 ≤ n ∧ n ≤ 4611686018427387904) :
    ∃ x d', 0 ≤ x ∧ x < n ∧ DiceOk d' ∧ ∀ {β : Type} (k : Int → Dice → Option β), zq23 n d k = k x d' := by
  obtain ⟨h1, h2, h3⟩ := hd
  by_cases ha : (d.1.length : Int) ≤ d.2
  · exact ⟨0, d, by omega, by omega, ⟨h1, h2, h3⟩, fun k => by simp (disch := omega) only [zq23, zq20, c_pos]⟩
  · generalize hv : List.getD d.1 (Int.toNat d.2) (0 : Int) = v
    have hm1 := Int.tmod_lt_of_pos v (show 0 < n by omega)
    have hm2 : -n < Int.tmod v n := by
      have h5 := Int.tmod_lt_of_pos (-v) (show 0 < n by omega)
      rw [Int.neg_tmod] at h5
      omega
    have hd' : DiceOk (d.1, d.2 + 1) := ⟨by show (0 : Int) ≤ d.2 + 1; omega, by show d.2 + 1 ≤ (d.1.length : Int); omega, h3⟩
    by_cases hc : Int.tmod v n < 0
    · refine ⟨Int.tmod v n + n, (d.1, d.2 + 1), by omega, by omega, hd', fun k => ?_⟩
      simp (disch := omega) only [zq23, zq20, hv, c_pos, c_neg, c_inb, c_nneg, i64_in]
    · refine ⟨Int.tmod v n, (d.1, d.2 + 1), by omega, by omega, hd', fun k => ?_⟩
      simp (disch := omega) only [zq23, zq20, hv, c_pos, c_neg, c_inb, c_nneg, i64_in]

end
end Go.Lift

/- The functions of package span in plain Lean: merging, and what leans on it. -/
namespace Go.Lift
open Go.RowKit Go.IntWalk
noncomputable section
set_option linter.unusedVariables false
set_option linter.unusedSimpArgs false
set_option maxRecDepth 10000

/-! ### The empty spans go -/
theorem mf1_eq {β : Type} (s : Sp) (k : Bool → Option β) : zq5z s k = k (decide (s.2 ≤ s.1)) := rfl

abbrev neS (l : List Sp) : List Sp := l.filter fun s => decide (s.1 < s.2)

theorem idx_loop {β : Type} (k1 : zqb7 β) (k2 : zqb8 β) (l : List Sp) (hl : l.length ≤ 100000) : ∀ (r : List Sp) (j N : Nat), l.drop j = r → r.length < N → (∀ s ∈ l.take j, s.1 < s.2) →
    ((∀ s ∈ l, s.1 < s.2) ∧ zqbi N k1 k2 l (l.length : Int) (j : Int) = k2 ()) ∨
    (∃ i : Nat, i < l.length ∧ (∀ s ∈ l.take i, s.1 < s.2) ∧ ¬ (l.getD i (0, 0)).1 < (l.getD i (0, 0)).2 ∧ zqbi N k1 k2 l (l.length : Int) (j : Int) = k1 (i : Int))
  | [], j, 0, _, h, _ => absurd h (Nat.not_lt_zero _)
  | _ :: _, j, 0, _, h, _ => absurd h (Nat.not_lt_zero _)
  | [], j, N + 1, hd, h, ht => by
    have : l.length ≤ j := by simpa using hd
    refine .inl ⟨fun s hs => ht s (by rw [List.take_of_length_le this]; exact hs), ?_⟩
    rw [zqbj]
    unfold zqbc
    exact c_neg (by omega)
  | s :: r, j, N + 1, hd, h, ht => by
    obtain ⟨hj, hg, hd'⟩ := drop_cons hd ((0 : Int), (0 : Int))
    simp only [List.length_cons] at h
    have ew : IntKind.i64.wrap ((j : Int) + 1) = ((j + 1 : Nat) : Int) := by rw [wr (by omega) (by omega)]; omega
    have hstep : zqbi (N + 1) k1 k2 l (l.length : Int) (j : Int) = cond (decide (s.2 ≤ s.1)) (k1 (j : Int)) (zqbi N k1 k2 l (l.length : Int) ((j + 1 : Nat) : Int)) := by
      rw [zqbj]
      unfold zqbc
      simp only [Int.toNat_natCast, hg, ew]
      refine (c_pos (by omega)).trans ?_
      refine (c_inb (by omega)).trans ?_
      exact mf1_eq _ _
    rw [hstep]
    by_cases hc : s.2 ≤ s.1
    · exact .inr ⟨j, hj, ht, by rw [hg]; omega, c_pos hc⟩
    · have ht' : ∀ t ∈ l.take (j + 1), t.1 < t.2 := by
        intro t hm
        rw [List.take_add_one] at hm
        have e : l[j]? = some s := by rw [← hg]; simp [List.getD, hj]
        rw [e] at hm
        rcases List.mem_append.1 hm with hm | hm
        · exact ht t hm
        · simp only [Option.toList, List.mem_singleton] at hm
          rw [hm]; omega
      rcases idx_loop k1 k2 l hl r (j + 1) N hd' (by omega) ht' with ⟨q1, q2⟩ | ⟨i, q1, q2, q3, q4⟩
      · exact .inl ⟨q1, (c_neg hc).trans q2⟩
      · exact .inr ⟨i, q1, q2, q3, (c_neg hc).trans q4⟩

theorem filter_all {l : List Sp} (h : ∀ s ∈ l, s.1 < s.2) : neS l = l := List.filter_eq_self.2 fun s hs => decide_eq_true (h s hs)

theorem neS_one (l : List Sp) (x : Sp) : neS (l ++ [x]) = if x.1 < x.2 then neS l ++ [x] else neS l := by
  unfold neS
  rw [List.filter_append]
  by_cases h : x.1 < x.2 <;> simp [h]

theorem idx_loop0 {β : Type} (k1 : zqb7 β) (k2 : zqb8 β) (l : List Sp) (hl : l.length ≤ 100000) :
    ((∀ s ∈ l, s.1 < s.2) ∧ zqbk k1 k2 l (l.length : Int) 0 = k2 ()) ∨
    (∃ i : Nat, i < l.length ∧ (∀ s ∈ l.take i, s.1 < s.2) ∧ ¬ (l.getD i (0, 0)).1 < (l.getD i (0, 0)).2 ∧ zqbk k1 k2 l (l.length : Int) 0 = k1 (i : Int)) := by
  have h := idx_loop k1 k2 l hl l 0 fuel rfl (lt_fuel (by omega)) (by simp)
  rw [Int.natCast_zero] at h
  exact h

theorem del_loop (l : List Sp) (hl : l.length ≤ 100000) : ∀ (r : List Sp) (i j N : Nat) (s : List Sp), l.drop j = r → r.length < N → s.length = l.length → i < j → j ≤ l.length → s.take i = neS (l.take j) → s.drop j = r →
    ∃ i' s', s'.length = l.length ∧ i' ≤ l.length ∧ s'.take i' = neS l ∧ ∀ {β : Type} (k1 : zqbx β), zqc7 N k1 (i : Int) (j : Int) s = k1 (i' : Int) s'
  | [], i, j, 0, _, _, h, _, _, _, _, _ => absurd h (Nat.not_lt_zero _)
  | _ :: _, i, j, 0, _, _, h, _, _, _, _, _ => absurd h (Nat.not_lt_zero _)
  | [], i, j, N + 1, s, hd, h, hs, hij, hjl, ht, hdr => by
    have : l.length ≤ j := by simpa using hd
    refine ⟨i, s, hs, by omega, by rw [ht, List.take_of_length_le this], fun k1 => ?_⟩
    rw [zqc8]
    unfold zqc1
    exact c_neg (by omega)
  | x :: r, i, j, N + 1, s, hd, h, hs, hij, hjl, ht, hdr => by
    obtain ⟨hj, hg, hd'⟩ := drop_cons hd ((0 : Int), (0 : Int))
    obtain ⟨hj2, hg2, hd2⟩ := drop_cons hdr ((0 : Int), (0 : Int))
    simp only [List.length_cons] at h
    have ew : IntKind.i64.wrap ((j : Int) + 1) = ((j + 1 : Nat) : Int) := by rw [wr (by omega) (by omega)]; omega
    have ewi : IntKind.i64.wrap ((i : Int) + 1) = ((i + 1 : Nat) : Int) := by rw [wr (by omega) (by omega)]; omega
    have et : l.take (j + 1) = l.take j ++ [x] := by
      rw [List.take_add_one]
      have e : l[j]? = some x := by rw [← hg]; simp [List.getD, hj]
      rw [e]; rfl
    have hstep : ∀ {β : Type} (k1 : zqbx β), zqc7 (N + 1) k1 (i : Int) (j : Int) s =
        cond (!decide (x.2 ≤ x.1)) (zqc7 N k1 ((i + 1 : Nat) : Int) ((j + 1 : Nat) : Int) (s.set i x)) (zqc7 N k1 (i : Int) ((j + 1 : Nat) : Int) s) := by
      intro β k1
      rw [zqc8]
      unfold zqc1
      simp only [Int.toNat_natCast, hg2, ew, ewi]
      refine (c_pos (by omega)).trans ?_
      refine (c_inb (by omega)).trans ?_
      refine (mf1_eq _ _).trans ?_
      by_cases hc : x.2 ≤ x.1
      · rw [decide_eq_true hc]; rfl
      · rw [decide_eq_false hc]
        exact c_inb (by omega)
    by_cases hc : x.2 ≤ x.1
    · obtain ⟨i', s', q1, q2, q3, q4⟩ := del_loop l hl r i (j + 1) N s hd' (by omega) hs (by omega) (by omega) (by
        rw [ht, et, neS_one, if_neg (by omega)]) hd2
      exact ⟨i', s', q1, q2, q3, fun k1 => (hstep k1).trans ((c_npos hc).trans (q4 k1))⟩
    · obtain ⟨i', s', q1, q2, q3, q4⟩ := del_loop l hl r (i + 1) (j + 1) N (s.set i x) hd' (by omega) (by simpa using hs) (by omega) (by omega) (by
        have hi : i < s.length := by omega
        rw [et, neS_one, if_pos (by omega), ← ht]
        have e : (s.set i x).take (i + 1) = s.take i ++ [x] := by
          rw [List.take_add_one, List.take_set, List.getElem?_set_self hi]
          rw [List.set_eq_of_length_le (by simp; omega)]
          rfl
        exact e) (by rw [List.drop_set_of_lt (by omega)]; exact hd2)
      exact ⟨i', s', q1, q2, q3, fun k1 => (hstep k1).trans ((c_nneg hc).trans (q4 k1))⟩

theorem del_out {β : Type} (k : List Sp → Option β) {i : Nat} {s : List Sp} (h : i ≤ s.length) :
    cond (decide (0 ≤ (i : Int)) && (decide ((i : Int) ≤ (s.length : Int)) && decide ((s.length : Int) ≤ (s.length : Int))))
      (let l : List Sp := s.take (Int.toNat (i : Int)) ++ (List.replicate (s.length - Int.toNat (i : Int)) ((0 : Int), (0 : Int)) ++ s.drop s.length);
        cond (decide (0 ≤ (i : Int)) && decide ((i : Int) ≤ (l.length : Int))) (let l2 : List Sp := l.take (Int.toNat (i : Int)); k l2) none) none = k (s.take i) := by
  have e : Int.toNat (i : Int) = i := Int.toNat_natCast i
  rw [e, decide_eq_true (by omega : (0 : Int) ≤ (i : Int)), decide_eq_true (by omega : (i : Int) ≤ (s.length : Int)), decide_eq_true (by omega : (s.length : Int) ≤ (s.length : Int))]
  refine c_t.trans ?_
  have hlen : (s.take i ++ (List.replicate (s.length - i) ((0 : Int), (0 : Int)) ++ s.drop s.length)).length = s.length := by simp; omega
  show cond (true && decide ((i : Int) ≤ ((s.take i ++ (List.replicate (s.length - i) ((0 : Int), (0 : Int)) ++ s.drop s.length)).length : Int))) (k ((s.take i ++ (List.replicate (s.length - i) ((0 : Int), (0 : Int)) ++ s.drop s.length)).take i)) none = _
  rw [hlen, decide_eq_true (by omega : (i : Int) ≤ (s.length : Int))]
  refine c_t.trans ?_
  have e3 : (s.take i ++ (List.replicate (s.length - i) ((0 : Int), (0 : Int)) ++ s.drop s.length)).take i = s.take i := by
    rw [List.take_append_of_le_length (by simp; omega), List.take_take, Nat.min_self]
  rw [e3]

theorem del_eq {l : List Sp} (hl : l.length ≤ 100000) {β : Type} (k : List Sp → Option β) : zqcb l k = k (neS l) := by
  show zqc4 zqbm zqc9 l k = _
  unfold zqc4
  show zqbf zqbk l _ = _
  unfold zqbf
  rcases idx_loop0 _ _ l hl with ⟨q1, q2⟩ | ⟨i, q1, q2, q3, q4⟩
  · refine q2.trans ?_
    refine (c_pos rfl).trans ?_
    rw [filter_all q1]
  · refine q4.trans ?_
    refine (c_neg (by omega)).trans ?_
    have ewi : IntKind.i64.wrap ((i : Int) + 1) = ((i + 1 : Nat) : Int) := by rw [wr (by omega) (by omega)]; omega
    have hg : l[i]? = some (l.getD i (0, 0)) := by simp [List.getD, q1]
    obtain ⟨i', s', p1, p2, p3, p4⟩ := del_loop l hl (l.drop (i + 1)) i (i + 1) fuel l rfl (lt_fuel (by simp; omega)) rfl (by omega) (by omega) (by
        rw [List.take_add_one, hg]
        show _ = neS (l.take i ++ [l.getD i (0, 0)])
        rw [neS_one, if_neg q3, filter_all q2]) rfl
    rw [ewi]
    refine (p4 _).trans ?_
    rw [← p3]
    exact del_out k (by omega)

theorem del_run {l : List Sp} (hl : l.length ≤ 100000) : zqcd l = true ∧ zqce l = neS l := by
  have h := del_eq hl (some : List Sp → Option (List Sp))
  unfold zqcd zqce
  rw [h]
  exact ⟨rfl, rfl⟩

/-! ### Merging -/
theorem mp1 {β : Type} (k1 : zqcz β) (n t14 t15 : Int) (b : Bool) (out : List Sp) (s s2 : Int) (t13 : List Sp) : zqdg k1 n t14 t15 b out s s2 t13 = zqd7 k1 n t14 t15 b out s s2 t13 := rfl

theorem merge_loop {β : Type} (k1 : zqd3 β) (l : List Sp) (hl : l.length ≤ 100000) : ∀ (r : List Sp) (j N : Nat) (pre : List Sp) (c : Sp), l.drop j = r → r.length < N → pre.length < j →
    zqdi N k1 (l.length : Int) (j : Int) (pre ++ [c]) l = k1 (pre ++ mergeS c r)
  | [], j, 0, _, _, _, h, _ => absurd h (Nat.not_lt_zero _)
  | _ :: _, j, 0, _, _, _, h, _ => absurd h (Nat.not_lt_zero _)
  | [], j, N + 1, pre, c, hd, h, hp => by
    have : l.length ≤ j := by simpa using hd
    rw [zqdj]
    unfold zqda
    exact c_neg (by omega)
  | s :: r, j, N + 1, pre, c, hd, h, hp => by
    obtain ⟨hj, hg, hd'⟩ := drop_cons hd ((0 : Int), (0 : Int))
    simp only [List.length_cons] at h
    have ew : IntKind.i64.wrap ((j : Int) + 1) = ((j + 1 : Nat) : Int) := by rw [wr (by omega) (by omega)]; omega
    have hlen : (pre ++ [c]).length = pre.length + 1 := by simp
    have e1 : IntKind.i64.wrap (((pre ++ [c]).length : Int) - 1) = (pre.length : Int) := by rw [wr (by omega) (by omega)]; omega
    have e2 : (pre ++ [c]).getD pre.length ((0 : Int), (0 : Int)) = c := by simp [List.getD]
    rw [zqdj]
    unfold zqda
    simp only [Int.toNat_natCast, hg, e1, e2, ew]
    refine (c_pos (by omega)).trans ?_
    refine (c_inb (by omega)).trans ?_
    refine (c_pos (by omega)).trans ?_
    refine (c_inb (by omega)).trans ?_
    by_cases hc : s.1 ≤ c.2
    · rw [decide_eq_true hc]
      refine (mp1 _ _ _ _ _ _ _ _ _).trans ?_
      unfold zqd7
      simp only [Int.toNat_natCast, e1, e2, ew]
      refine c_t.trans ?_
      refine (c_inb (by omega)).trans ?_
      refine (c_inb (by omega)).trans ?_
      have em : (if s.2 > c.2 then s.2 else c.2) = max c.2 s.2 := by split <;> omega
      have es : (pre ++ [c]).set pre.length (c.1, max c.2 s.2) = pre ++ [(c.1, max c.2 s.2)] := by
        simp [List.set_append]
      rw [em, es]
      have e3 : mergeS c (s :: r) = mergeS (c.1, max c.2 s.2) r := by
        show (if s.1 ≤ c.2 then mergeS (c.1, max c.2 s.2) r else c :: mergeS s r) = _
        rw [if_pos hc]
      rw [e3]
      exact merge_loop k1 l hl r (j + 1) N pre (c.1, max c.2 s.2) hd' (by omega) (by omega)
    · rw [decide_eq_false hc]
      refine (mp1 _ _ _ _ _ _ _ _ _).trans ?_
      unfold zqd7
      refine c_f.trans ?_
      refine (c_room (by simp; omega)).trans ?_
      simp only [ew]
      have e3 : mergeS c (s :: r) = c :: mergeS s r := by
        show (if s.1 ≤ c.2 then mergeS (c.1, max c.2 s.2) r else c :: mergeS s r) = _
        rw [if_neg hc]
      rw [e3]
      refine (merge_loop k1 l hl r (j + 1) N (pre ++ [c]) s hd' (by omega) (by simp; omega)).trans ?_
      simp

theorem merge_all {β : Type} (k1 : zqd3 β) (l : List Sp) (hl : l.length ≤ 100000) : zqdk k1 (l.length : Int) 0 [] l = k1 (mergeAll l) := by
  show zqdi fuel k1 (l.length : Int) 0 [] l = _
  obtain ⟨N, hN⟩ : ∃ N, fuel = N + 1 := ⟨18446744073709551615, rfl⟩
  rw [hN, zqdj]
  unfold zqda
  cases l with
  | nil => exact c_neg (by simp)
  | cons s r =>
    simp only [List.length_cons] at hl
    have hg : (s :: r).getD (Int.toNat 0) ((0 : Int), (0 : Int)) = s := rfl
    simp only [hg]
    refine (c_pos (by simp only [List.length_cons]; omega)).trans ?_
    refine (c_inb (by simp only [List.length_cons]; omega)).trans ?_
    refine (c_neg (by simp)).trans ?_
    refine (mp1 _ _ _ _ _ _ _ _ _).trans ?_
    unfold zqd7
    refine c_f.trans ?_
    refine (c_room (by simp)).trans ?_
    have ew : IntKind.i64.wrap ((0 : Int) + 1) = ((1 : Nat) : Int) := by rw [wr (by omega) (by omega)]; rfl
    simp only [ew]
    have hN2 : (s :: r).length ≤ N := by
      have : fuel = 18446744073709551616 := rfl
      simp only [List.length_cons]; omega
    exact merge_loop k1 (s :: r) (by simp; omega) r 1 N [] s rfl (by simp only [List.length_cons] at hN2; omega) (by simp)

/-- What Merge makes of any spans that lie in a range. -/
theorem merge_eq {l : List Sp} (hl : l.length ≤ 50000) (hr : ∀ s ∈ l, s.1 < s.2 → 0 ≤ s.1 ∧ s.1 ≤ 4611686018427387904) :
    ∃ out, (NFa (-1) out ∧ (∀ x, hasS out x ↔ hasS l x)) ∧ ∀ {β : Type} (k : List Sp → Option β), zqdm l k = k out := by
  have hgood : ∀ s ∈ neS l, zqcq s = true := by
    intro s hs
    obtain ⟨h1, h2⟩ := List.mem_filter.1 hs
    obtain ⟨h3, h4⟩ := hr s h1 (of_decide_eq_true h2)
    show (decide (0 ≤ s.1) && decide (s.1 ≤ 4611686018427387904)) = true
    rw [decide_eq_true h3, decide_eq_true h4]; rfl
  obtain ⟨hp, hsd⟩ := sortRun_good (good := zqcq) (d0 := ((0, 0) : Int × Int)) (h0 := rfl) (cf := zqcr) zqcu hgood
  have hlen : (zqcs (neS l)).length ≤ l.length := by
    show (sortRun zqcq ((0, 0) : Int × Int) rfl zqcr (neS l)).length ≤ _
    rw [hp.length_eq]
    exact List.length_filter_le _ _
  have hpw : (zqcs (neS l)).Pairwise (fun s t => s.1 ≤ t.1) := by
    rw [List.pairwise_iff_getElem]
    intro i j hi hj hij
    have hj' : j < (neS l).length := by
      have : (zqcs (neS l)).length = (neS l).length := hp.length_eq
      omega
    have h1 := hsd i j hij hj'
    have e : ∀ q, (hq : q < (zqcs (neS l)).length) → (sortRun zqcq ((0, 0) : Int × Int) rfl zqcr (neS l)).getD q ((0, 0) : Int × Int) = (zqcs (neS l))[q] := by
      intro q hq
      have hq' : q < (sortRun zqcq ((0, 0) : Int × Int) rfl zqcr (neS l)).length := hq
      simp [List.getD, hq']
      rfl
    rw [e i hi, e j hj] at h1
    have h2 : ¬ ((zqcs (neS l))[j].1 - (zqcs (neS l))[i].1 < 0) := h1
    omega
  obtain ⟨n1, n2⟩ := norm_ok (l := l) (m := zqcs (neS l)) (a := -1) hp hpw (fun s hs hlt => by have := hr s hs hlt; omega)
  refine ⟨mergeAll (zqcs (neS l)), ⟨n2, n1⟩, fun k => ?_⟩
  obtain ⟨d1, d2⟩ := del_run (l := l) (by omega)
  show zqdd zq5s zqdk l k = _
  unfold zqdd
  show cond (decide (l.length * 16 ≤ roomMax)) _ none = _
  refine (c_room (by omega)).trans ?_
  show cond (zqcd l) _ none = _
  rw [d1]
  refine c_t.trans ?_
  simp only [d2]
  have t1 : ((neS l).all zqcq && decide ((neS l).length < 4611686018427387904)) = true := by
    have h1 : (neS l).length ≤ l.length := List.length_filter_le _ _
    rw [List.all_eq_true.2 hgood, decide_eq_true (show (neS l).length < 4611686018427387904 by omega)]; rfl
  rw [t1]
  refine c_t.trans ?_
  exact merge_all _ _ (by omega)
end
end Go.Lift

