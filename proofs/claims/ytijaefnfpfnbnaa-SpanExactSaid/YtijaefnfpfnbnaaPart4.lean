/- Part4: Fn0, Fn1, LBase, LSpanMath, LSpanLen, LSpanMore, LSpanSort. -/
import Derived.Test.YtijaefnfpfnbnaaProg
import Derived.Test.YtijaefnfpfnbnaaPart3
namespace Go.Lift
open Go.Proofs
noncomputable section
set_option maxRecDepth 100000
set_option linter.unusedVariables false



def tab : List (Nat × TI) := [
  (3, ⟨false, 1, 8, [.int .i64 (0 : Int)], [], none, none, (some (.int .i64)), (some .i64), false, false, none, none⟩),
  (4, ⟨false, 1, 1, [.bool false], [], none, none, (some .bool), none, true, false, none, none⟩),
  (22, ⟨false, 1, 24, [.nils], [], (some 3), none, (some (.slice (.int .i64))), none, false, false, none, none⟩),
  (27, ⟨false, 1, 24, [.nils], [], (some 30), none, (some (.slice (.prod (.int .i64) (.int .i64)))), none, false, false, none, none⟩),
  (30, ⟨true, 2, 16, [.int .i64 (0 : Int), .int .i64 (0 : Int)], [(0, 1, false), (1, 1, false)], none, none, (some (.prod (.int .i64) (.int .i64))), none, false, false, (some [.i, .i]), none⟩),
  (45, ⟨true, 2, 48, [.nils, .nils], [], (some 27), (some 2), (some (.prod (.slice (.prod (.int .i64) (.int .i64))) (.slice (.prod (.int .i64) (.int .i64))))), none, false, false, none, none⟩),
  (46, ⟨true, 8, 192, [.nils, .nils, .nils, .nils, .nils, .nils, .nils, .nils], [], (some 45), (some 4), (some (.prod (.prod (.slice (.prod (.int .i64) (.int .i64))) (.slice (.prod (.int .i64) (.int .i64)))) (.prod (.prod (.slice (.prod (.int .i64) (.int .i64))) (.slice (.prod (.int .i64) (.int .i64)))) (.prod (.prod (.slice (.prod (.int .i64) (.int .i64))) (.slice (.prod (.int .i64) (.int .i64)))) (.prod (.slice (.prod (.int .i64) (.int .i64))) (.slice (.prod (.int .i64) (.int .i64)))))))), none, false, false, none, none⟩),
  (48, ⟨true, 3, 24, [.int .i64 (0 : Int), .int .i64 (0 : Int), .int .i64 (0 : Int)], [], (some 3), (some 3), (some (.prod (.int .i64) (.prod (.int .i64) (.int .i64)))), none, false, false, (some [.i, .i, .i]), none⟩),
  (51, ⟨true, 2, 32, [.nils, .int .i64 (0 : Int)], [(0, 1, false), (1, 1, false)], none, none, (some (.prod (.slice (.int .i64)) (.int .i64))), none, false, false, none, none⟩),
  (59, ⟨false, 1, 8, [.junk], [], none, none, none, none, false, false, none, (some (3, 3))⟩),
  (66, ⟨false, 1, 24, [.nils], [], (some 27), none, (some (.slice (.slice (.prod (.int .i64) (.int .i64))))), none, false, false, none, none⟩)]

theorem tab_ok : TOk Try.prog (look tab) := TOk_of (by kernel_rfl)
theorem mixed : Try.prog.follows .mixedOrders = true := by kernel_rfl

/-- pagewatch/pagewatchmade.Light -/
abbrev zq0 := {β : Type} → (List Int) → (Bool → Option β) → Option β
def zq1 (c : zq0) : Spec :=
  ⟨[(false, [.data (.slice (.int .i64))])], [], [(false, [.data .bool])], [], fun x k => c x.1.1.1 (fun r0 => k (((r0, ()), ()), ()))⟩
section
@[reducible] def made_Light_X : Ctx := ⟨look tab, pick1 [], false, false, false⟩
def zq2 {β : Type} (l : List Int) (k : (Bool → Option β)) : Option β :=
  let t : Bool := (decide ((List.length l : Int) ≤ (500 : Int)));
  k t
theorem zq3 (hΓ : ΓOk Try.prog made_Light_X.Γ) : SpecOk Try.prog 8 (zq1 (zq2)) :=
  spec_exec (X := made_Light_X) (Λ := pick1 []) (rs := [.tmp 2]) (c := bodyOf Try.f8) mixed tab_ok hΓ Try.func8 (by kernel_rfl) (by kernel_rfl) (by kernel_rfl) (by kernel_rfl) CutsOk_nil (fun x k r h => Eq.trans (b := (zq1 (zq2)).run x k) (by kernel_rfl) h)
end
theorem zq4Γ : ΓOk Try.prog (pick1 []) := ΓOk_nil
def zq5 : zq0 := zq2
theorem zq6 : SpecOk Try.prog 8 (zq1 zq5) := zq3 zq4Γ

/-- pagewatch/pagewatchmade.Roll -/
abbrev zq7 := {β : Type} → (List Int) → ((List Int × Int) → Option β) → Option β
def zq8 (c : zq7) : Spec :=
  ⟨[(false, [.data (.slice (.int .i64))])], [], [(false, [.ptr 0 0])], [.cells 51 [.data (.prod (.slice (.int .i64)) (.int .i64))]], fun x k => c x.1.1.1 (fun r0 => k (((), ()), ((r0, ()), ())))⟩
section
@[reducible] def made_Roll_X : Ctx := ⟨look tab, pick1 [], false, false, false⟩
def zq9 {β : Type} (l : List Int) (k : ((List Int × Int) → Option β)) : Option β :=
  k (l, (0 : Int))
theorem zqa (hΓ : ΓOk Try.prog made_Roll_X.Γ) : SpecOk Try.prog 10 (zq8 (zq9)) :=
  spec_exec (X := made_Roll_X) (Λ := pick1 []) (rs := [.tmp 2]) (c := bodyOf Try.f10) mixed tab_ok hΓ Try.func10 (by kernel_rfl) (by kernel_rfl) (by kernel_rfl) (by kernel_rfl) CutsOk_nil (fun x k r h => Eq.trans (b := (zq8 (zq9)).run x k) (by kernel_rfl) h)
end
theorem zqbΓ : ΓOk Try.prog (pick1 []) := ΓOk_nil
def zqc : zq7 := zq9
theorem zqd : SpecOk Try.prog 10 (zq8 zqc) := zqa zqbΓ

/-- pagewatch/pagewatchlaw03.same -/
abbrev zqe := {β : Type} → (List (Int × Int)) → (List (Int × Int)) → (Bool → Option β) → Option β
def zqf (c : zqe) : Spec :=
  ⟨[(false, [.data (.slice (.prod (.int .i64) (.int .i64)))]), (false, [.data (.slice (.prod (.int .i64) (.int .i64)))])], [], [(false, [.data .bool])], [], fun x k => c x.1.1.1 x.1.2.1.1 (fun r0 => k (((r0, ()), ()), ()))⟩
noncomputable def law03_same_p1_code : Code := codeAt 58 (bodyOf Try.f14)
abbrev zqg (β : Type) := Bool → Option β
abbrev zqh (β : Type) := Unit → Option β
abbrev zqi := {β : Type} → zqg β → zqh β → (List (Int × Int)) → (List (Int × Int)) → Int → Int → Option β
def zqj : View := ⟨0, [0, 1, 12, 13], [(false, [.data (.slice (.prod (.int .i64) (.int .i64)))]), (false, [.data (.slice (.prod (.int .i64) (.int .i64)))]), (false, [.data (.int .i64)]), (false, [.data (.int .i64)])], []⟩
def zqk : List (AExit × View) := [(.ret, ⟨0, [4], [(false, [.data .bool])], []⟩), (.exit 0, ⟨0, [], [], []⟩)]
@[reducible] def law03_same_p1_G (p : zqi) {β : Type} (d : zqj.den) (ks : Outs.K β zqk) : Option β :=
  p (fun a0 => ks.1 (((a0, ()), ()), ())) (fun _ => ks.2.1 ((), ())) d.1.1.1 d.1.2.1.1 d.1.2.2.1.1 d.1.2.2.2.1.1
section
@[reducible] def law03_same_X : Ctx := ⟨look tab, pick1 [], false, false, false⟩
def zql {β : Type} (rec : (List (Int × Int)) → (List (Int × Int)) → Int → Int → Option β) (k1 : zqg β) (k2 : zqh β) (a : List (Int × Int)) (b : List (Int × Int)) (t12 : Int) (t13 : Int) : Option β :=
  cond (decide (t13 < t12))
  (cond (decide (0 ≤ t13) && decide (t13 < (List.length a : Int)))
  (let e : (Int × Int) := List.getD a (Int.toNat t13) ((0 : Int), (0 : Int));
  cond (decide (0 ≤ t13) && decide (t13 < (List.length b : Int)))
  (let e2 : (Int × Int) := List.getD b (Int.toNat t13) ((0 : Int), (0 : Int));
  cond (!(decide (e.1 = e2.1) && (decide (e.2 = e2.2) && true)))
  (k1 false)
  (rec a b t12 (IntKind.i64.wrap (t13 + (1 : Int)))))
  none)
  none)
  (k2 ())
def zqm {β : Type} : Nat → zqg β → zqh β → (List (Int × Int)) → (List (Int × Int)) → Int → Int → Option β
  | 0 => fun _ _ _ _ _ _ => none
  | i + 1 => fun k1 k2 a b t12 t13 => zql (zqm i k1 k2) k1 k2 a b t12 t13
theorem zqn (hΓ : ΓOk Try.prog law03_same_X.Γ) (i : Nat) : PieceOk Try.prog 26 0 law03_same_p1_code zqj zqk (law03_same_p1_G (zqm i)) := by
  rw [show law03_same_p1_code = .loop (loopBody law03_same_p1_code) by kernel_rfl]
  exact piece_loop (X := law03_same_X) (p := 1) (Λ := pick1 []) (G := fun i => @fun β d ks => law03_same_p1_G (zqm i) d ks) mixed tab_ok hΓ rfl (by kernel_rfl) CutsOk_nil (fun _ _ => rfl) (fun i => @fun β d ks r h => Eq.trans (b := law03_same_p1_G (zqm (i + 1)) d ks) (by kernel_rfl) h) i
def zqo (p1 : zqi) {β : Type} (a : List (Int × Int)) (b : List (Int × Int)) (k : (Bool → Option β)) : Option β :=
  cond (!decide ((List.length a : Int) = (List.length b : Int)))
  (k false)
  (p1 (fun (t4 : Bool) =>
  k t4) (fun (_ : Unit) =>
  k true) a b (List.length a : Int) (0 : Int))
theorem zqp (hΓ : ΓOk Try.prog law03_same_X.Γ) (p1 : zqi) (hp1 : PieceOk Try.prog 26 0 law03_same_p1_code zqj zqk (law03_same_p1_G p1)) : SpecOk Try.prog 14 (zqf (zqo p1)) :=
  spec_exec (X := law03_same_X) (Λ := pick1 [(58, pieceCut zqj zqk (law03_same_p1_G p1))]) (rs := [.tmp 4]) (c := bodyOf Try.f14) mixed tab_ok hΓ Try.func14 (by kernel_rfl) (by kernel_rfl) (by kernel_rfl) (by kernel_rfl) (CutsOk_cons (q := 58) (c' := law03_same_p1_code) (by kernel_rfl) rfl hp1 CutsOk_nil) (fun x k r h => Eq.trans (b := (zqf (zqo p1)).run x k) (by kernel_rfl) h)
end
theorem zqqΓ : ΓOk Try.prog (pick1 []) := ΓOk_nil
def zqr (m : Nat) : zqi := zqm m
theorem zqs {β : Type} (i : Nat) (k1 k2 a b t12 t13) : (zqr (i + 1) k1 k2 a b t12 t13 : Option β) = zql (zqr i k1 k2) k1 k2 a b t12 t13 := rfl
def zqt : zqi := zqr fuel
theorem zqu : PieceOk Try.prog 26 0 law03_same_p1_code zqj zqk (law03_same_p1_G zqt) := zqn zqqΓ fuel
def zqv : zqe := zqo zqt
theorem zqw : SpecOk Try.prog 14 (zqf zqv) := zqp zqqΓ zqt zqu

/-- pagewatch/span.Valid -/
abbrev zqx := {β : Type} → (List (Int × Int)) → (Bool → Option β) → Option β
def zqy (c : zqx) : Spec :=
  ⟨[(false, [.data (.slice (.prod (.int .i64) (.int .i64)))])], [], [(false, [.data .bool])], [], fun x k => c x.1.1.1 (fun r0 => k (((r0, ()), ()), ()))⟩
noncomputable def span_Valid_p1_code : Code := codeAt 58 (bodyOf Try.f22)
abbrev zqz (β : Type) := Bool → Option β
abbrev zq10 (β : Type) := Unit → Option β
abbrev zq11 := {β : Type} → zqz β → zq10 β → (List (Int × Int)) → (List (Int × Int)) → Int → Int → Option β
def zq12 : View := ⟨0, [0, 8, 9, 10], [(false, [.data (.slice (.prod (.int .i64) (.int .i64)))]), (false, [.data (.slice (.prod (.int .i64) (.int .i64)))]), (false, [.data (.int .i64)]), (false, [.data (.int .i64)])], []⟩
def zq13 : List (AExit × View) := [(.ret, ⟨0, [2], [(false, [.data .bool])], []⟩), (.exit 0, ⟨0, [], [], []⟩)]
@[reducible] def span_Valid_p1_G (p : zq11) {β : Type} (d : zq12.den) (ks : Outs.K β zq13) : Option β :=
  p (fun a0 => ks.1 (((a0, ()), ()), ())) (fun _ => ks.2.1 ((), ())) d.1.1.1 d.1.2.1.1 d.1.2.2.1.1 d.1.2.2.2.1.1
section
@[reducible] def span_Valid_X : Ctx := ⟨look tab, pick1 [], false, false, false⟩
def zq14 {β : Type} (rec : (List (Int × Int)) → (List (Int × Int)) → Int → Int → Option β) (k1 : zqz β) (k2 : zq10 β) (l : List (Int × Int)) (t8 : List (Int × Int)) (t9 : Int) (t10 : Int) : Option β :=
  cond (decide (t10 < t9))
  (cond (decide (0 ≤ t10) && decide (t10 < (List.length t8 : Int)))
  (let e : (Int × Int) := List.getD t8 (Int.toNat t10) ((0 : Int), (0 : Int));
  cond (decide (e.1 < (0 : Int)))
  (k1 false)
  (cond (decide (e.2 ≤ e.1))
  (k1 false)
  (cond (decide ((8589934592 : Int) < e.2))
  (k1 false)
  (cond (decide ((0 : Int) < t10))
  (cond (decide (0 ≤ (IntKind.i64.wrap (t10 - (1 : Int)))) && decide ((IntKind.i64.wrap (t10 - (1 : Int))) < (List.length l : Int)))
  (let e2 : (Int × Int) := List.getD l (Int.toNat (IntKind.i64.wrap (t10 - (1 : Int)))) ((0 : Int), (0 : Int));
  cond (decide (e.1 ≤ e2.2))
  (k1 false)
  (rec l t8 t9 (IntKind.i64.wrap (t10 + (1 : Int)))))
  none)
  (rec l t8 t9 (IntKind.i64.wrap (t10 + (1 : Int))))))))
  none)
  (k2 ())
def zq15 {β : Type} : Nat → zqz β → zq10 β → (List (Int × Int)) → (List (Int × Int)) → Int → Int → Option β
  | 0 => fun _ _ _ _ _ _ => none
  | i + 1 => fun k1 k2 l t8 t9 t10 => zq14 (zq15 i k1 k2) k1 k2 l t8 t9 t10
theorem zq16 (hΓ : ΓOk Try.prog span_Valid_X.Γ) (i : Nat) : PieceOk Try.prog 46 0 span_Valid_p1_code zq12 zq13 (span_Valid_p1_G (zq15 i)) := by
  rw [show span_Valid_p1_code = .loop (loopBody span_Valid_p1_code) by kernel_rfl]
  exact piece_loop (X := span_Valid_X) (p := 1) (Λ := pick1 []) (G := fun i => @fun β d ks => span_Valid_p1_G (zq15 i) d ks) mixed tab_ok hΓ rfl (by kernel_rfl) CutsOk_nil (fun _ _ => rfl) (fun i => @fun β d ks r h => Eq.trans (b := span_Valid_p1_G (zq15 (i + 1)) d ks) (by kernel_rfl) h) i
def zq17 (p1 : zq11) {β : Type} (l : List (Int × Int)) (k : (Bool → Option β)) : Option β :=
  cond (decide ((4096 : Int) < (List.length l : Int)))
  (k false)
  (p1 (fun (t2 : Bool) =>
  k t2) (fun (_ : Unit) =>
  k true) l l (List.length l : Int) (0 : Int))
theorem zq18 (hΓ : ΓOk Try.prog span_Valid_X.Γ) (p1 : zq11) (hp1 : PieceOk Try.prog 46 0 span_Valid_p1_code zq12 zq13 (span_Valid_p1_G p1)) : SpecOk Try.prog 22 (zqy (zq17 p1)) :=
  spec_exec (X := span_Valid_X) (Λ := pick1 [(58, pieceCut zq12 zq13 (span_Valid_p1_G p1))]) (rs := [.tmp 2]) (c := bodyOf Try.f22) mixed tab_ok hΓ Try.func22 (by kernel_rfl) (by kernel_rfl) (by kernel_rfl) (by kernel_rfl) (CutsOk_cons (q := 58) (c' := span_Valid_p1_code) (by kernel_rfl) rfl hp1 CutsOk_nil) (fun x k r h => Eq.trans (b := (zqy (zq17 p1)).run x k) (by kernel_rfl) h)
end
theorem zq19Γ : ΓOk Try.prog (pick1 []) := ΓOk_nil
def zq1a (m : Nat) : zq11 := zq15 m
theorem zq1b {β : Type} (i : Nat) (k1 k2 l t8 t9 t10) : (zq1a (i + 1) k1 k2 l t8 t9 t10 : Option β) = zq14 (zq1a i k1 k2) k1 k2 l t8 t9 t10 := rfl
def zq1c : zq11 := zq1a fuel
theorem zq1d : PieceOk Try.prog 46 0 span_Valid_p1_code zq12 zq13 (span_Valid_p1_G zq1c) := zq16 zq19Γ fuel
def zq1e : zqx := zq17 zq1c
theorem zq1f : SpecOk Try.prog 22 (zqy zq1e) := zq18 zq19Γ zq1c zq1d

/-- pagewatch/span.Length -/
abbrev zq1g := {β : Type} → (List (Int × Int)) → (Int → Option β) → Option β
def zq1h (c : zq1g) : Spec :=
  ⟨[(false, [.data (.slice (.prod (.int .i64) (.int .i64)))])], [], [(false, [.data (.int .i64)])], [], fun x k => c x.1.1.1 (fun r0 => k (((r0, ()), ()), ()))⟩
noncomputable def span_Length_p1_code : Code := codeAt 122 (bodyOf Try.f23)
abbrev zq1i (β : Type) := Int → Option β
abbrev zq1j := {β : Type} → zq1i β → Int → (List (Int × Int)) → Int → Int → Option β
def zq1k : View := ⟨0, [3, 9, 10, 11], [(false, [.data (.int .i64)]), (false, [.data (.slice (.prod (.int .i64) (.int .i64)))]), (false, [.data (.int .i64)]), (false, [.data (.int .i64)])], []⟩
def zq1l : List (AExit × View) := [(.exit 0, ⟨0, [3], [(false, [.data (.int .i64)])], []⟩)]
@[reducible] def span_Length_p1_G (p : zq1j) {β : Type} (d : zq1k.den) (ks : Outs.K β zq1l) : Option β :=
  p (fun a0 => ks.1 (((a0, ()), ()), ())) d.1.1.1 d.1.2.1.1 d.1.2.2.1.1 d.1.2.2.2.1.1
section
variable (c_span_Valid : zqx)
@[reducible] def span_Length_X : Ctx := ⟨look tab, pick1 [(22, .spec (zqy c_span_Valid))], false, false, false⟩
def zq1m {β : Type} (rec : Int → (List (Int × Int)) → Int → Int → Option β) (k1 : zq1i β) (n : Int) (t9 : List (Int × Int)) (t10 : Int) (t11 : Int) : Option β :=
  cond (decide (t11 < t10))
  (cond (decide (0 ≤ t11) && decide (t11 < (List.length t9 : Int)))
  (let e : (Int × Int) := List.getD t9 (Int.toNat t11) ((0 : Int), (0 : Int));
  let n2 : Int := (IntKind.i64.wrap (n + (IntKind.i64.wrap (e.2 - e.1))));
  rec n2 t9 t10 (IntKind.i64.wrap (t11 + (1 : Int))))
  none)
  (k1 n)
def zq1n {β : Type} : Nat → zq1i β → Int → (List (Int × Int)) → Int → Int → Option β
  | 0 => fun _ _ _ _ _ => none
  | i + 1 => fun k1 n t9 t10 t11 => zq1m (zq1n i k1) k1 n t9 t10 t11
theorem zq1o (hΓ : ΓOk Try.prog (span_Length_X c_span_Valid).Γ) (i : Nat) : PieceOk Try.prog 24 0 span_Length_p1_code zq1k zq1l (span_Length_p1_G (zq1n i)) := by
  rw [show span_Length_p1_code = .loop (loopBody span_Length_p1_code) by kernel_rfl]
  exact piece_loop (X := (span_Length_X c_span_Valid)) (p := 1) (Λ := pick1 []) (G := fun i => @fun β d ks => span_Length_p1_G (zq1n i) d ks) mixed tab_ok hΓ rfl (by kernel_rfl) CutsOk_nil (fun _ _ => rfl) (fun i => @fun β d ks r h => Eq.trans (b := span_Length_p1_G (zq1n (i + 1)) d ks) (by kernel_rfl) h) i
def zq1p (p1 : zq1j) {β : Type} (l : List (Int × Int)) (k : (Int → Option β)) : Option β :=
  c_span_Valid l (fun (rValid : Bool) =>
  cond (!rValid)
  (k (0 : Int))
  (p1 (fun (n : Int) =>
  k n) (0 : Int) l (List.length l : Int) (0 : Int)))
theorem zq1q (hΓ : ΓOk Try.prog (span_Length_X c_span_Valid).Γ) (p1 : zq1j) (hp1 : PieceOk Try.prog 24 0 span_Length_p1_code zq1k zq1l (span_Length_p1_G p1)) : SpecOk Try.prog 23 (zq1h (zq1p c_span_Valid p1)) :=
  spec_exec (X := (span_Length_X c_span_Valid)) (Λ := pick1 [(122, pieceCut zq1k zq1l (span_Length_p1_G p1))]) (rs := [.tmp 2]) (c := bodyOf Try.f23) mixed tab_ok hΓ Try.func23 (by kernel_rfl) (by kernel_rfl) (by kernel_rfl) (by kernel_rfl) (CutsOk_cons (q := 122) (c' := span_Length_p1_code) (by kernel_rfl) rfl hp1 CutsOk_nil) (fun x k r h => Eq.trans (b := (zq1h (zq1p c_span_Valid p1)).run x k) (by kernel_rfl) h)
end
theorem zq1rΓ : ΓOk Try.prog (pick1 [(22, .spec (zqy zq1e))]) := (ΓOk_cons zq1f ΓOk_nil)
def zq1s (m : Nat) : zq1j := zq1n m
theorem zq1t {β : Type} (i : Nat) (k1 n t9 t10 t11) : (zq1s (i + 1) k1 n t9 t10 t11 : Option β) = zq1m (zq1s i k1) k1 n t9 t10 t11 := rfl
def zq1u : zq1j := zq1s fuel
theorem zq1v : PieceOk Try.prog 24 0 span_Length_p1_code zq1k zq1l (span_Length_p1_G zq1u) := zq1o zq1e zq1rΓ fuel
def zq1w : zq1g := zq1p zq1e zq1u
theorem zq1x : SpecOk Try.prog 23 (zq1h zq1w) := zq1q zq1e zq1rΓ zq1u zq1v

/-- pagewatch/pagewatchref03.Valid -/
abbrev zq1y := {β : Type} → (List (Int × Int)) → (Bool → Option β) → Option β
def zq1z (c : zq1y) : Spec :=
  ⟨[(false, [.data (.slice (.prod (.int .i64) (.int .i64)))])], [], [(false, [.data .bool])], [], fun x k => c x.1.1.1 (fun r0 => k (((r0, ()), ()), ()))⟩
noncomputable def ref03_Valid_p1_code : Code := codeAt 58 (bodyOf Try.f25)
abbrev zq20 (β : Type) := Bool → Option β
abbrev zq21 (β : Type) := Unit → Option β
abbrev zq22 := {β : Type} → zq20 β → zq21 β → (List (Int × Int)) → Int → Option β
def zq23 : View := ⟨0, [0, 3], [(false, [.data (.slice (.prod (.int .i64) (.int .i64)))]), (false, [.data (.int .i64)])], []⟩
def zq24 : List (AExit × View) := [(.ret, ⟨0, [2], [(false, [.data .bool])], []⟩), (.exit 0, ⟨0, [], [], []⟩)]
@[reducible] def ref03_Valid_p1_G (p : zq22) {β : Type} (d : zq23.den) (ks : Outs.K β zq24) : Option β :=
  p (fun a0 => ks.1 (((a0, ()), ()), ())) (fun _ => ks.2.1 ((), ())) d.1.1.1 d.1.2.1.1
section
@[reducible] def ref03_Valid_X : Ctx := ⟨look tab, pick1 [], false, false, false⟩
def zq25 {β : Type} (rec : (List (Int × Int)) → Int → Option β) (k1 : zq20 β) (k2 : zq21 β) (l : List (Int × Int)) (i_ : Int) : Option β :=
  cond (decide (i_ < (List.length l : Int)))
  (cond (decide (0 ≤ i_) && decide (i_ < (List.length l : Int)))
  (let e : (Int × Int) := List.getD l (Int.toNat i_) ((0 : Int), (0 : Int));
  cond (decide (e.1 < (0 : Int)))
  (k1 false)
  (cond (decide (0 ≤ i_) && decide (i_ < (List.length l : Int)))
  (let e2 : (Int × Int) := List.getD l (Int.toNat i_) ((0 : Int), (0 : Int));
  cond (decide (0 ≤ i_) && decide (i_ < (List.length l : Int)))
  (let e3 : (Int × Int) := List.getD l (Int.toNat i_) ((0 : Int), (0 : Int));
  cond (decide (e3.2 ≤ e2.1))
  (k1 false)
  (cond (decide (0 ≤ i_) && decide (i_ < (List.length l : Int)))
  (let e4 : (Int × Int) := List.getD l (Int.toNat i_) ((0 : Int), (0 : Int));
  cond (decide ((8589934592 : Int) < e4.2))
  (k1 false)
  (cond (decide ((0 : Int) < i_))
  (cond (decide (0 ≤ i_) && decide (i_ < (List.length l : Int)))
  (let e5 : (Int × Int) := List.getD l (Int.toNat i_) ((0 : Int), (0 : Int));
  cond (decide (0 ≤ (IntKind.i64.wrap (i_ - (1 : Int)))) && decide ((IntKind.i64.wrap (i_ - (1 : Int))) < (List.length l : Int)))
  (let e6 : (Int × Int) := List.getD l (Int.toNat (IntKind.i64.wrap (i_ - (1 : Int)))) ((0 : Int), (0 : Int));
  cond (decide (e5.1 ≤ e6.2))
  (k1 false)
  (let i_2 : Int := (IntKind.i64.wrap (i_ + (1 : Int)));
  rec l i_2))
  none)
  none)
  (let i_2 : Int := (IntKind.i64.wrap (i_ + (1 : Int)));
  rec l i_2)))
  none))
  none)
  none))
  none)
  (k2 ())
def zq26 {β : Type} : Nat → zq20 β → zq21 β → (List (Int × Int)) → Int → Option β
  | 0 => fun _ _ _ _ => none
  | i + 1 => fun k1 k2 l i_ => zq25 (zq26 i k1 k2) k1 k2 l i_
theorem zq27 (hΓ : ΓOk Try.prog ref03_Valid_X.Γ) (i : Nat) : PieceOk Try.prog 58 0 ref03_Valid_p1_code zq23 zq24 (ref03_Valid_p1_G (zq26 i)) := by
  rw [show ref03_Valid_p1_code = .loop (loopBody ref03_Valid_p1_code) by kernel_rfl]
  exact piece_loop (X := ref03_Valid_X) (p := 1) (Λ := pick1 []) (G := fun i => @fun β d ks => ref03_Valid_p1_G (zq26 i) d ks) mixed tab_ok hΓ rfl (by kernel_rfl) CutsOk_nil (fun _ _ => rfl) (fun i => @fun β d ks r h => Eq.trans (b := ref03_Valid_p1_G (zq26 (i + 1)) d ks) (by kernel_rfl) h) i
def zq28 (p1 : zq22) {β : Type} (l : List (Int × Int)) (k : (Bool → Option β)) : Option β :=
  cond (decide ((4096 : Int) < (List.length l : Int)))
  (k false)
  (p1 (fun (t2 : Bool) =>
  k t2) (fun (_ : Unit) =>
  k true) l (0 : Int))
theorem zq29 (hΓ : ΓOk Try.prog ref03_Valid_X.Γ) (p1 : zq22) (hp1 : PieceOk Try.prog 58 0 ref03_Valid_p1_code zq23 zq24 (ref03_Valid_p1_G p1)) : SpecOk Try.prog 25 (zq1z (zq28 p1)) :=
  spec_exec (X := ref03_Valid_X) (Λ := pick1 [(58, pieceCut zq23 zq24 (ref03_Valid_p1_G p1))]) (rs := [.tmp 2]) (c := bodyOf Try.f25) mixed tab_ok hΓ Try.func25 (by kernel_rfl) (by kernel_rfl) (by kernel_rfl) (by kernel_rfl) (CutsOk_cons (q := 58) (c' := ref03_Valid_p1_code) (by kernel_rfl) rfl hp1 CutsOk_nil) (fun x k r h => Eq.trans (b := (zq1z (zq28 p1)).run x k) (by kernel_rfl) h)
end
theorem zq2aΓ : ΓOk Try.prog (pick1 []) := ΓOk_nil
def zq2b (m : Nat) : zq22 := zq26 m
theorem zq2c {β : Type} (i : Nat) (k1 k2 l i_) : (zq2b (i + 1) k1 k2 l i_ : Option β) = zq25 (zq2b i k1 k2) k1 k2 l i_ := rfl
def zq2d : zq22 := zq2b fuel
theorem zq2e : PieceOk Try.prog 58 0 ref03_Valid_p1_code zq23 zq24 (ref03_Valid_p1_G zq2d) := zq27 zq2aΓ fuel
def zq2f : zq1y := zq28 zq2d
theorem zq2g : SpecOk Try.prog 25 (zq1z zq2f) := zq29 zq2aΓ zq2d zq2e

/-- pagewatch/pagewatchref03.Length -/
abbrev zq2h := {β : Type} → (List (Int × Int)) → (Int → Option β) → Option β
def zq2i (c : zq2h) : Spec :=
  ⟨[(false, [.data (.slice (.prod (.int .i64) (.int .i64)))])], [], [(false, [.data (.int .i64)])], [], fun x k => c x.1.1.1 (fun r0 => k (((r0, ()), ()), ()))⟩
noncomputable def ref03_Length_p1_code : Code := codeAt 58 (bodyOf Try.f26)
abbrev zq2j (β : Type) := Int → Option β
abbrev zq2k := {β : Type} → zq2j β → (List (Int × Int)) → Int → Int → Option β
def zq2l : View := ⟨0, [0, 3, 4], [(false, [.data (.slice (.prod (.int .i64) (.int .i64)))]), (false, [.data (.int .i64)]), (false, [.data (.int .i64)])], []⟩
def zq2m : List (AExit × View) := [(.exit 0, ⟨0, [3], [(false, [.data (.int .i64)])], []⟩)]
@[reducible] def ref03_Length_p1_G (p : zq2k) {β : Type} (d : zq2l.den) (ks : Outs.K β zq2m) : Option β :=
  p (fun a0 => ks.1 (((a0, ()), ()), ())) d.1.1.1 d.1.2.1.1 d.1.2.2.1.1
section
variable (c_ref03_Valid : zq1y)
@[reducible] def ref03_Length_X : Ctx := ⟨look tab, pick1 [(25, .spec (zq1z c_ref03_Valid))], false, false, false⟩
def zq2n {β : Type} (rec : (List (Int × Int)) → Int → Int → Option β) (k1 : zq2j β) (l : List (Int × Int)) (n : Int) (i_ : Int) : Option β :=
  cond (decide (i_ < (List.length l : Int)))
  (c_ref03_Valid l (fun (rValid : Bool) =>
  cond rValid
  (cond (decide (0 ≤ i_) && decide (i_ < (List.length l : Int)))
  (let e : (Int × Int) := List.getD l (Int.toNat i_) ((0 : Int), (0 : Int));
  cond (decide (0 ≤ i_) && decide (i_ < (List.length l : Int)))
  (let e2 : (Int × Int) := List.getD l (Int.toNat i_) ((0 : Int), (0 : Int));
  let n2 : Int := (IntKind.i64.wrap (n + (IntKind.i64.wrap (e.2 - e2.1))));
  let i_2 : Int := (IntKind.i64.wrap (i_ + (1 : Int)));
  rec l n2 i_2)
  none)
  none)
  (k1 n)))
  (k1 n)
def zq2o {β : Type} : Nat → zq2j β → (List (Int × Int)) → Int → Int → Option β
  | 0 => fun _ _ _ _ => none
  | i + 1 => fun k1 l n i_ => zq2n c_ref03_Valid (zq2o i k1) k1 l n i_
theorem zq2p (hΓ : ΓOk Try.prog (ref03_Length_X c_ref03_Valid).Γ) (i : Nat) : PieceOk Try.prog 29 0 ref03_Length_p1_code zq2l zq2m (ref03_Length_p1_G (zq2o c_ref03_Valid i)) := by
  rw [show ref03_Length_p1_code = .loop (loopBody ref03_Length_p1_code) by kernel_rfl]
  exact piece_loop (X := (ref03_Length_X c_ref03_Valid)) (p := 1) (Λ := pick1 []) (G := fun i => @fun β d ks => ref03_Length_p1_G (zq2o c_ref03_Valid i) d ks) mixed tab_ok hΓ rfl (by kernel_rfl) CutsOk_nil (fun _ _ => rfl) (fun i => @fun β d ks r h => Eq.trans (b := ref03_Length_p1_G (zq2o c_ref03_Valid (i + 1)) d ks) (by kernel_rfl) h) i
def zq2q (p1 : zq2k) {β : Type} (l : List (Int × Int)) (k : (Int → Option β)) : Option β :=
  p1 (fun (n : Int) =>
  k n) l (0 : Int) (0 : Int)
theorem zq2r (hΓ : ΓOk Try.prog (ref03_Length_X c_ref03_Valid).Γ) (p1 : zq2k) (hp1 : PieceOk Try.prog 29 0 ref03_Length_p1_code zq2l zq2m (ref03_Length_p1_G p1)) : SpecOk Try.prog 26 (zq2i (zq2q p1)) :=
  spec_exec (X := (ref03_Length_X c_ref03_Valid)) (Λ := pick1 [(58, pieceCut zq2l zq2m (ref03_Length_p1_G p1))]) (rs := [.tmp 2]) (c := bodyOf Try.f26) mixed tab_ok hΓ Try.func26 (by kernel_rfl) (by kernel_rfl) (by kernel_rfl) (by kernel_rfl) (CutsOk_cons (q := 58) (c' := ref03_Length_p1_code) (by kernel_rfl) rfl hp1 CutsOk_nil) (fun x k r h => Eq.trans (b := (zq2i (zq2q p1)).run x k) (by kernel_rfl) h)
end
theorem zq2sΓ : ΓOk Try.prog (pick1 [(25, .spec (zq1z zq2f))]) := (ΓOk_cons zq2g ΓOk_nil)
def zq2t (m : Nat) : zq2k := zq2o zq2f m
theorem zq2u {β : Type} (i : Nat) (k1 l n i_) : (zq2t (i + 1) k1 l n i_ : Option β) = zq2n zq2f (zq2t i k1) k1 l n i_ := rfl
def zq2v : zq2k := zq2t fuel
theorem zq2w : PieceOk Try.prog 29 0 ref03_Length_p1_code zq2l zq2m (ref03_Length_p1_G zq2v) := zq2p zq2f zq2sΓ fuel
def zq2x : zq2h := zq2q zq2v
theorem zq2y : SpecOk Try.prog 26 (zq2i zq2x) := zq2r zq2f zq2sΓ zq2v zq2w

/-- (*pagewatch/pagewatchmade.Dice).Next -/
abbrev zq2z := {β : Type} → Int → (List Int × Int) → (Int → (List Int × Int) → Option β) → Option β
def zq30 (c : zq2z) : Spec :=
  ⟨[(false, [.ptr 0 0]), (false, [.data (.int .i64)])], [.cells 51 [.data (.prod (.slice (.int .i64)) (.int .i64))]], [(false, [.data (.int .i64)])], [.cells 51 [.data (.prod (.slice (.int .i64)) (.int .i64))]], fun x k => c x.1.2.1.1 x.2.1.1 (fun r0 r1 => k (((r0, ()), ()), ((r1, ()), ())))⟩
section
@[reducible] def made_Dice_Next_X : Ctx := ⟨look tab, pick1 [], false, false, false⟩
def zq31 {β : Type} (n : Int) (d : (List Int × Int)) (k : (Int → (List Int × Int) → Option β)) : Option β :=
  cond (decide ((List.length d.1 : Int) ≤ d.2))
  (k (0 : Int) d)
  (cond (decide (n < (1 : Int)))
  (k (0 : Int) d)
  (cond (decide (0 ≤ d.2) && decide (d.2 < (List.length d.1 : Int)))
  (let e : Int := List.getD d.1 (Int.toNat d.2) (0 : Int);
  cond (!decide (n = 0))
  (cond (decide ((Int.tmod e n) < (0 : Int)))
  (let x : Int := (IntKind.i64.wrap ((Int.tmod e n) + n));
  k x (d.1, (IntKind.i64.wrap (d.2 + (1 : Int)))))
  (k (Int.tmod e n) (d.1, (IntKind.i64.wrap (d.2 + (1 : Int))))))
  none)
  none))
theorem zq32 (hΓ : ΓOk Try.prog made_Dice_Next_X.Γ) : SpecOk Try.prog 30 (zq30 (zq31)) :=
  spec_exec (X := made_Dice_Next_X) (Λ := pick1 []) (rs := [.tmp 4]) (c := bodyOf Try.f30) mixed tab_ok hΓ Try.func30 (by kernel_rfl) (by kernel_rfl) (by kernel_rfl) (by kernel_rfl) CutsOk_nil (fun x k r h => Eq.trans (b := (zq30 (zq31)).run x k) (by kernel_rfl) h)
end
theorem zq33Γ : ΓOk Try.prog (pick1 []) := ΓOk_nil
def zq34 : zq2z := zq31
theorem zq35 : SpecOk Try.prog 30 (zq30 zq34) := zq32 zq33Γ

/-- pagewatch/pagewatchref03.First -/
abbrev zq36 := {β : Type} → (List (Int × Int)) → Int → (Int → Bool → Option β) → Option β
def zq37 (c : zq36) : Spec :=
  ⟨[(false, [.data (.slice (.prod (.int .i64) (.int .i64)))]), (false, [.data (.int .i64)])], [], [(false, [.data (.int .i64)]), (false, [.data .bool])], [], fun x k => c x.1.1.1 x.1.2.1.1 (fun r0 r1 => k (((r0, ()), (r1, ()), ()), ()))⟩
noncomputable def ref03_First_p1_code : Code := codeAt 26 (bodyOf Try.f31)
abbrev zq38 (β : Type) := Int → Bool → Option β
abbrev zq39 (β : Type) := Unit → Option β
abbrev zq3a := {β : Type} → zq38 β → zq39 β → (List (Int × Int)) → Int → Int → Option β
def zq3b : View := ⟨0, [0, 1, 6], [(false, [.data (.slice (.prod (.int .i64) (.int .i64)))]), (false, [.data (.int .i64)]), (false, [.data (.int .i64)])], []⟩
def zq3c : List (AExit × View) := [(.ret, ⟨0, [4, 5], [(false, [.data (.int .i64)]), (false, [.data .bool])], []⟩), (.exit 0, ⟨0, [], [], []⟩)]
@[reducible] def ref03_First_p1_G (p : zq3a) {β : Type} (d : zq3b.den) (ks : Outs.K β zq3c) : Option β :=
  p (fun a0 a1 => ks.1 (((a0, ()), (a1, ()), ()), ())) (fun _ => ks.2.1 ((), ())) d.1.1.1 d.1.2.1.1 d.1.2.2.1.1
section
variable (c_ref03_Valid : zq1y)
@[reducible] def ref03_First_X : Ctx := ⟨look tab, pick1 [(25, .spec (zq1z c_ref03_Valid))], false, false, false⟩
def zq3d {β : Type} (rec : (List (Int × Int)) → Int → Int → Option β) (k1 : zq38 β) (k2 : zq39 β) (l : List (Int × Int)) (x : Int) (i_ : Int) : Option β :=
  cond (decide (i_ < (List.length l : Int)))
  (c_ref03_Valid l (fun (rValid : Bool) =>
  cond rValid
  (cond (decide (0 ≤ i_) && decide (i_ < (List.length l : Int)))
  (let e : (Int × Int) := List.getD l (Int.toNat i_) ((0 : Int), (0 : Int));
  cond (decide (x < e.2))
  (cond (decide (0 ≤ i_) && decide (i_ < (List.length l : Int)))
  (let e2 : (Int × Int) := List.getD l (Int.toNat i_) ((0 : Int), (0 : Int));
  let t : Int := (if x > e2.1 then x else e2.1);
  k1 t true)
  none)
  (let i_2 : Int := (IntKind.i64.wrap (i_ + (1 : Int)));
  rec l x i_2))
  none)
  (k2 ())))
  (k2 ())
def zq3e {β : Type} : Nat → zq38 β → zq39 β → (List (Int × Int)) → Int → Int → Option β
  | 0 => fun _ _ _ _ _ => none
  | i + 1 => fun k1 k2 l x i_ => zq3d c_ref03_Valid (zq3e i k1 k2) k1 k2 l x i_
theorem zq3f (hΓ : ΓOk Try.prog (ref03_First_X c_ref03_Valid).Γ) (i : Nat) : PieceOk Try.prog 31 0 ref03_First_p1_code zq3b zq3c (ref03_First_p1_G (zq3e c_ref03_Valid i)) := by
  rw [show ref03_First_p1_code = .loop (loopBody ref03_First_p1_code) by kernel_rfl]
  exact piece_loop (X := (ref03_First_X c_ref03_Valid)) (p := 1) (Λ := pick1 []) (G := fun i => @fun β d ks => ref03_First_p1_G (zq3e c_ref03_Valid i) d ks) mixed tab_ok hΓ rfl (by kernel_rfl) CutsOk_nil (fun _ _ => rfl) (fun i => @fun β d ks r h => Eq.trans (b := ref03_First_p1_G (zq3e c_ref03_Valid (i + 1)) d ks) (by kernel_rfl) h) i
def zq3g (p1 : zq3a) {β : Type} (l : List (Int × Int)) (x : Int) (k : (Int → Bool → Option β)) : Option β :=
  p1 (fun (t4 : Int) (t5 : Bool) =>
  k t4 t5) (fun (_ : Unit) =>
  k (0 : Int) false) l x (0 : Int)
theorem zq3h (hΓ : ΓOk Try.prog (ref03_First_X c_ref03_Valid).Γ) (p1 : zq3a) (hp1 : PieceOk Try.prog 31 0 ref03_First_p1_code zq3b zq3c (ref03_First_p1_G p1)) : SpecOk Try.prog 31 (zq37 (zq3g p1)) :=
  spec_exec (X := (ref03_First_X c_ref03_Valid)) (Λ := pick1 [(26, pieceCut zq3b zq3c (ref03_First_p1_G p1))]) (rs := [.tmp 4, .tmp 5]) (c := bodyOf Try.f31) mixed tab_ok hΓ Try.func31 (by kernel_rfl) (by kernel_rfl) (by kernel_rfl) (by kernel_rfl) (CutsOk_cons (q := 26) (c' := ref03_First_p1_code) (by kernel_rfl) rfl hp1 CutsOk_nil) (fun x k r h => Eq.trans (b := (zq37 (zq3g p1)).run x k) (by kernel_rfl) h)
end
theorem zq3iΓ : ΓOk Try.prog (pick1 [(25, .spec (zq1z zq2f))]) := (ΓOk_cons zq2g ΓOk_nil)
def zq3j (m : Nat) : zq3a := zq3e zq2f m
theorem zq3k {β : Type} (i : Nat) (k1 k2 l x i_) : (zq3j (i + 1) k1 k2 l x i_ : Option β) = zq3d zq2f (zq3j i k1 k2) k1 k2 l x i_ := rfl
def zq3l : zq3a := zq3j fuel
theorem zq3m : PieceOk Try.prog 31 0 ref03_First_p1_code zq3b zq3c (ref03_First_p1_G zq3l) := zq3f zq2f zq3iΓ fuel
def zq3n : zq36 := zq3g zq3l
theorem zq3o : SpecOk Try.prog 31 (zq37 zq3n) := zq3h zq2f zq3iΓ zq3l zq3m

/-- pagewatch/pagewatchref03.Gap -/
abbrev zq3p := {β : Type} → (List (Int × Int)) → Int → (Int → Option β) → Option β
def zq3q (c : zq3p) : Spec :=
  ⟨[(false, [.data (.slice (.prod (.int .i64) (.int .i64)))]), (false, [.data (.int .i64)])], [], [(false, [.data (.int .i64)])], [], fun x k => c x.1.1.1 x.1.2.1.1 (fun r0 => k (((r0, ()), ()), ()))⟩
noncomputable def ref03_Gap_p1_code : Code := codeAt 26 (bodyOf Try.f33)
abbrev zq3r (β : Type) := Int → Option β
abbrev zq3s (β : Type) := Int → Option β
abbrev zq3t := {β : Type} → zq3r β → zq3s β → (List (Int × Int)) → Int → Int → Option β
def zq3u : View := ⟨0, [0, 1, 5], [(false, [.data (.slice (.prod (.int .i64) (.int .i64)))]), (false, [.data (.int .i64)]), (false, [.data (.int .i64)])], []⟩
def zq3v : List (AExit × View) := [(.ret, ⟨0, [4], [(false, [.data (.int .i64)])], []⟩), (.exit 0, ⟨0, [1], [(false, [.data (.int .i64)])], []⟩)]
@[reducible] def ref03_Gap_p1_G (p : zq3t) {β : Type} (d : zq3u.den) (ks : Outs.K β zq3v) : Option β :=
  p (fun a0 => ks.1 (((a0, ()), ()), ())) (fun a0 => ks.2.1 (((a0, ()), ()), ())) d.1.1.1 d.1.2.1.1 d.1.2.2.1.1
section
variable (c_ref03_Valid : zq1y)
@[reducible] def ref03_Gap_X : Ctx := ⟨look tab, pick1 [(25, .spec (zq1z c_ref03_Valid))], false, false, false⟩
def zq3w {β : Type} (rec : (List (Int × Int)) → Int → Int → Option β) (k1 : zq3r β) (k2 : zq3s β) (l : List (Int × Int)) (x : Int) (i_ : Int) : Option β :=
  cond (decide (i_ < (List.length l : Int)))
  (c_ref03_Valid l (fun (rValid : Bool) =>
  cond rValid
  (cond (decide (0 ≤ i_) && decide (i_ < (List.length l : Int)))
  (let e : (Int × Int) := List.getD l (Int.toNat i_) ((0 : Int), (0 : Int));
  cond (decide (e.1 ≤ x))
  (cond (decide (0 ≤ i_) && decide (i_ < (List.length l : Int)))
  (let e2 : (Int × Int) := List.getD l (Int.toNat i_) ((0 : Int), (0 : Int));
  cond (decide (x < e2.2))
  (cond (decide (0 ≤ i_) && decide (i_ < (List.length l : Int)))
  (let e3 : (Int × Int) := List.getD l (Int.toNat i_) ((0 : Int), (0 : Int));
  k1 e3.2)
  none)
  (let i_2 : Int := (IntKind.i64.wrap (i_ + (1 : Int)));
  rec l x i_2))
  none)
  (let i_2 : Int := (IntKind.i64.wrap (i_ + (1 : Int)));
  rec l x i_2))
  none)
  (k2 x)))
  (k2 x)
def zq3x {β : Type} : Nat → zq3r β → zq3s β → (List (Int × Int)) → Int → Int → Option β
  | 0 => fun _ _ _ _ _ => none
  | i + 1 => fun k1 k2 l x i_ => zq3w c_ref03_Valid (zq3x i k1 k2) k1 k2 l x i_
theorem zq3y (hΓ : ΓOk Try.prog (ref03_Gap_X c_ref03_Valid).Γ) (i : Nat) : PieceOk Try.prog 38 0 ref03_Gap_p1_code zq3u zq3v (ref03_Gap_p1_G (zq3x c_ref03_Valid i)) := by
  rw [show ref03_Gap_p1_code = .loop (loopBody ref03_Gap_p1_code) by kernel_rfl]
  exact piece_loop (X := (ref03_Gap_X c_ref03_Valid)) (p := 1) (Λ := pick1 []) (G := fun i => @fun β d ks => ref03_Gap_p1_G (zq3x c_ref03_Valid i) d ks) mixed tab_ok hΓ rfl (by kernel_rfl) CutsOk_nil (fun _ _ => rfl) (fun i => @fun β d ks r h => Eq.trans (b := ref03_Gap_p1_G (zq3x c_ref03_Valid (i + 1)) d ks) (by kernel_rfl) h) i
def zq3z (p1 : zq3t) {β : Type} (l : List (Int × Int)) (x : Int) (k : (Int → Option β)) : Option β :=
  p1 (fun (t4 : Int) =>
  k t4) (fun (x2 : Int) =>
  k x2) l x (0 : Int)
theorem zq40 (hΓ : ΓOk Try.prog (ref03_Gap_X c_ref03_Valid).Γ) (p1 : zq3t) (hp1 : PieceOk Try.prog 38 0 ref03_Gap_p1_code zq3u zq3v (ref03_Gap_p1_G p1)) : SpecOk Try.prog 33 (zq3q (zq3z p1)) :=
  spec_exec (X := (ref03_Gap_X c_ref03_Valid)) (Λ := pick1 [(26, pieceCut zq3u zq3v (ref03_Gap_p1_G p1))]) (rs := [.tmp 4]) (c := bodyOf Try.f33) mixed tab_ok hΓ Try.func33 (by kernel_rfl) (by kernel_rfl) (by kernel_rfl) (by kernel_rfl) (CutsOk_cons (q := 26) (c' := ref03_Gap_p1_code) (by kernel_rfl) rfl hp1 CutsOk_nil) (fun x k r h => Eq.trans (b := (zq3q (zq3z p1)).run x k) (by kernel_rfl) h)
end
theorem zq41Γ : ΓOk Try.prog (pick1 [(25, .spec (zq1z zq2f))]) := (ΓOk_cons zq2g ΓOk_nil)
def zq42 (m : Nat) : zq3t := zq3x zq2f m
theorem zq43 {β : Type} (i : Nat) (k1 k2 l x i_) : (zq42 (i + 1) k1 k2 l x i_ : Option β) = zq3w zq2f (zq42 i k1 k2) k1 k2 l x i_ := rfl
def zq44 : zq3t := zq42 fuel
theorem zq45 : PieceOk Try.prog 38 0 ref03_Gap_p1_code zq3u zq3v (ref03_Gap_p1_G zq44) := zq3y zq2f zq41Γ fuel
def zq46 : zq3p := zq3z zq44
theorem zq47 : SpecOk Try.prog 33 (zq3q zq46) := zq40 zq2f zq41Γ zq44 zq45

/-- pagewatch/pagewatchref03.Clip -/
abbrev zq48 := {β : Type} → (List (Int × Int)) → Int → Int → (Int → (List (Int × Int)) → Option β) → Option β
def zq49 (c : zq48) : Spec :=
  ⟨[(false, [.data (.slice (.prod (.int .i64) (.int .i64)))]), (false, [.data (.int .i64)]), (false, [.data (.int .i64)])], [], [(false, [.rowh 0]), (false, [.data (.int .i64)])], [.row 30 (.prod (.int .i64) (.int .i64))], fun x k => c x.1.1.1 x.1.2.1.1 x.1.2.2.1.1 (fun r0 r1 => k (((), (r0, ()), ()), (r1, ())))⟩
noncomputable def ref03_Clip_p1_code : Code := codeAt 122 (bodyOf Try.f34)
abbrev zq4a (β : Type) := (List (Int × Int)) → Option β
abbrev zq4b := {β : Type} → zq4a β → (List (Int × Int)) → Int → Int → Int → (List (Int × Int)) → Option β
def zq4c : View := ⟨0, [0, 1, 2, 8, 9], [(false, [.data (.slice (.prod (.int .i64) (.int .i64)))]), (false, [.data (.int .i64)]), (false, [.data (.int .i64)]), (false, [.rowh 0]), (false, [.data (.int .i64)])], [.row 30 (.prod (.int .i64) (.int .i64))]⟩
def zq4d : List (AExit × View) := [(.exit 0, ⟨0, [8], [(false, [.rowh 0])], [.row 30 (.prod (.int .i64) (.int .i64))]⟩)]
@[reducible] def ref03_Clip_p1_G (p : zq4b) {β : Type} (d : zq4c.den) (ks : Outs.K β zq4d) : Option β :=
  p (fun a0 => ks.1 (((), ()), (a0, ()))) d.1.1.1 d.1.2.1.1 d.1.2.2.1.1 d.1.2.2.2.2.1.1 d.2.1
section
variable (c_ref03_Valid : zq1y)
@[reducible] def ref03_Clip_X : Ctx := ⟨look tab, pick1 [(25, .spec (zq1z c_ref03_Valid))], false, false, false⟩
def zq4e {β : Type} (rec : (List (Int × Int)) → Int → Int → Int → (List (Int × Int)) → Option β) (k1 : zq4a β) (l : List (Int × Int)) (from_ : Int) (to_ : Int) (i_ : Int) (out : List (Int × Int)) : Option β :=
  cond (decide (i_ < (List.length l : Int)))
  (cond (decide (0 ≤ i_) && decide (i_ < (List.length l : Int)))
  (let e : (Int × Int) := List.getD l (Int.toNat i_) ((0 : Int), (0 : Int));
  cond (decide (0 ≤ i_) && decide (i_ < (List.length l : Int)))
  (let e2 : (Int × Int) := List.getD l (Int.toNat i_) ((0 : Int), (0 : Int));
  cond (decide ((if from_ > e.1 then from_ else e.1) < (if to_ < e2.2 then to_ else e2.2)))
  (let l2 : List (Int × Int) := ([((if from_ > e.1 then from_ else e.1), (if to_ < e2.2 then to_ else e2.2))] : List (Int × Int));
  cond (decide ((List.length out + List.length l2) * 16 ≤ roomMax))
  (let l3 : List (Int × Int) := (out ++ l2);
  let i_2 : Int := (IntKind.i64.wrap (i_ + (1 : Int)));
  rec l from_ to_ i_2 l3)
  none)
  (let i_2 : Int := (IntKind.i64.wrap (i_ + (1 : Int)));
  rec l from_ to_ i_2 out))
  none)
  none)
  (k1 out)
def zq4f {β : Type} : Nat → zq4a β → (List (Int × Int)) → Int → Int → Int → (List (Int × Int)) → Option β
  | 0 => fun _ _ _ _ _ _ => none
  | i + 1 => fun k1 l from_ to_ i_ out => zq4e (zq4f i k1) k1 l from_ to_ i_ out
theorem zq4g (hΓ : ΓOk Try.prog (ref03_Clip_X c_ref03_Valid).Γ) (i : Nat) : PieceOk Try.prog 45 0 ref03_Clip_p1_code zq4c zq4d (ref03_Clip_p1_G (zq4f i)) := by
  rw [show ref03_Clip_p1_code = .loop (loopBody ref03_Clip_p1_code) by kernel_rfl]
  exact piece_loop (X := (ref03_Clip_X c_ref03_Valid)) (p := 1) (Λ := pick1 []) (G := fun i => @fun β d ks => ref03_Clip_p1_G (zq4f i) d ks) mixed tab_ok hΓ rfl (by kernel_rfl) CutsOk_nil (fun _ _ => rfl) (fun i => @fun β d ks r h => Eq.trans (b := ref03_Clip_p1_G (zq4f (i + 1)) d ks) (by kernel_rfl) h) i
def zq4h (p1 : zq4b) {β : Type} (l : List (Int × Int)) (from_ : Int) (to_ : Int) (k : (Int → (List (Int × Int)) → Option β)) : Option β :=
  c_ref03_Valid l (fun (rValid : Bool) =>
  cond (!rValid)
  (k (8 : Int) ([] : List (Int × Int)))
  (p1 (fun (out : List (Int × Int)) =>
  k (0 : Int) out) l from_ to_ (0 : Int) ([] : List (Int × Int))))
theorem zq4i (hΓ : ΓOk Try.prog (ref03_Clip_X c_ref03_Valid).Γ) (p1 : zq4b) (hp1 : PieceOk Try.prog 45 0 ref03_Clip_p1_code zq4c zq4d (ref03_Clip_p1_G p1)) : SpecOk Try.prog 34 (zq49 (zq4h c_ref03_Valid p1)) :=
  spec_exec (X := (ref03_Clip_X c_ref03_Valid)) (Λ := pick1 [(122, pieceCut zq4c zq4d (ref03_Clip_p1_G p1))]) (rs := [.tmp 6, .tmp 7]) (c := bodyOf Try.f34) mixed tab_ok hΓ Try.func34 (by kernel_rfl) (by kernel_rfl) (by kernel_rfl) (by kernel_rfl) (CutsOk_cons (q := 122) (c' := ref03_Clip_p1_code) (by kernel_rfl) rfl hp1 CutsOk_nil) (fun x k r h => Eq.trans (b := (zq49 (zq4h c_ref03_Valid p1)).run x k) (by kernel_rfl) h)
end
theorem zq4jΓ : ΓOk Try.prog (pick1 [(25, .spec (zq1z zq2f))]) := (ΓOk_cons zq2g ΓOk_nil)
def zq4k (m : Nat) : zq4b := zq4f m
theorem zq4l {β : Type} (i : Nat) (k1 l from_ to_ i_ out) : (zq4k (i + 1) k1 l from_ to_ i_ out : Option β) = zq4e (zq4k i k1) k1 l from_ to_ i_ out := rfl
def zq4m : zq4b := zq4k fuel
theorem zq4n : PieceOk Try.prog 45 0 ref03_Clip_p1_code zq4c zq4d (ref03_Clip_p1_G zq4m) := zq4g zq2f zq4jΓ fuel
def zq4o : zq48 := zq4h zq2f zq4m
theorem zq4p : SpecOk Try.prog 34 (zq49 zq4o) := zq4i zq2f zq4jΓ zq4m zq4n

/-- (*pagewatch/pagewatchmade.Dice).Span -/
abbrev zq4q := {β : Type} → (List Int × Int) → ((Int × Int) → (List Int × Int) → Option β) → Option β
def zq4r (c : zq4q) : Spec :=
  ⟨[(false, [.ptr 0 0])], [.cells 51 [.data (.prod (.slice (.int .i64)) (.int .i64))]], [(true, [.data (.prod (.int .i64) (.int .i64))])], [.cells 51 [.data (.prod (.slice (.int .i64)) (.int .i64))]], fun x k => c x.2.1.1 (fun r0 r1 => k (((r0, ()), ()), ((r1, ()), ())))⟩
section
variable (c_made_Dice_Next : zq2z)
@[reducible] def made_Dice_Span_X : Ctx := ⟨look tab, pick1 [(30, .spec (zq30 c_made_Dice_Next))], false, false, false⟩
def zq4s {β : Type} (d : (List Int × Int)) (k : ((Int × Int) → (List Int × Int) → Option β)) : Option β :=
  c_made_Dice_Next (60 : Int) d (fun (rNext : Int) (mrNext : (List Int × Int)) =>
  c_made_Dice_Next (9 : Int) mrNext (fun (rNext2 : Int) (mrNext2 : (List Int × Int)) =>
  k (rNext, (IntKind.i64.wrap ((IntKind.i64.wrap (rNext + rNext2)) - (1 : Int)))) mrNext2))
theorem zq4t (hΓ : ΓOk Try.prog (made_Dice_Span_X c_made_Dice_Next).Γ) : SpecOk Try.prog 35 (zq4r (zq4s c_made_Dice_Next)) :=
  spec_exec (X := (made_Dice_Span_X c_made_Dice_Next)) (Λ := pick1 []) (rs := [.cell 2 30]) (c := bodyOf Try.f35) mixed tab_ok hΓ Try.func35 (by kernel_rfl) (by kernel_rfl) (by kernel_rfl) (by kernel_rfl) CutsOk_nil (fun x k r h => Eq.trans (b := (zq4r (zq4s c_made_Dice_Next)).run x k) (by kernel_rfl) h)
end
theorem zq4uΓ : ΓOk Try.prog (pick1 [(30, .spec (zq30 zq34))]) := (ΓOk_cons zq35 ΓOk_nil)
def zq4v : zq4q := zq4s zq34
theorem zq4w : SpecOk Try.prog 35 (zq4r zq4v) := zq4t zq34 zq4uΓ

/-- pagewatch/span.Has$1 -/
abbrev zq4x := {β : Type} → (Int × Int) → Int → (Bool → Int → Option β) → Option β
def zq4y (c : zq4x) : Spec :=
  ⟨[(true, [.data (.prod (.int .i64) (.int .i64))]), (false, [.ptr 0 0])], [.cells 3 [.data (.int .i64)]], [(false, [.data .bool])], [.cells 3 [.data (.int .i64)]], fun x k => c x.1.1.1 x.2.1.1 (fun r0 r1 => k (((r0, ()), ()), ((r1, ()), ())))⟩
section
@[reducible] def span_Has_f1_X : Ctx := ⟨look tab, pick1 [], false, false, false⟩
def zq4z {β : Type} (s : (Int × Int)) (t1 : Int) (k : (Bool → Int → Option β)) : Option β :=
  cond (decide (s.1 ≤ t1))
  (k (decide (t1 < s.2)) t1)
  (k false t1)
theorem zq50 (hΓ : ΓOk Try.prog span_Has_f1_X.Γ) : SpecOk Try.prog 38 (zq4y (zq4z)) :=
  spec_exec (X := span_Has_f1_X) (Λ := pick1 []) (rs := [.tmp 3]) (c := bodyOf Try.f38) mixed tab_ok hΓ Try.func38 (by kernel_rfl) (by kernel_rfl) (by kernel_rfl) (by kernel_rfl) CutsOk_nil (fun x k r h => Eq.trans (b := (zq4y (zq4z)).run x k) (by kernel_rfl) h)
end
theorem zq51Γ : ΓOk Try.prog (pick1 []) := ΓOk_nil
def zq52 : zq4x := zq4z
theorem zq53 : SpecOk Try.prog 38 (zq4y zq52) := zq50 zq51Γ

/-- pagewatch/span.Common -/
abbrev zq54 := {β : Type} → (List (Int × Int)) → (List (Int × Int)) → ((List (Int × Int)) → Option β) → Option β
def zq55 (c : zq54) : Spec :=
  ⟨[(false, [.data (.slice (.prod (.int .i64) (.int .i64)))]), (false, [.data (.slice (.prod (.int .i64) (.int .i64)))])], [], [(false, [.rowh 0])], [.row 30 (.prod (.int .i64) (.int .i64))], fun x k => c x.1.1.1 x.1.2.1.1 (fun r0 => k (((), ()), (r0, ())))⟩
noncomputable def span_Common_p2_code : Code := codeAt 58 (bodyOf Try.f42)
noncomputable def span_Common_p1_code : Code := codeAt 13 (loopBody span_Common_p2_code)
abbrev zq56 (β : Type) := (List (Int × Int)) → (List (Int × Int)) → Int → Int → (List (Int × Int)) → Option β
abbrev zq57 := {β : Type} → zq56 β → (List (Int × Int)) → (List (Int × Int)) → Int → Int → (List (Int × Int)) → Option β
def zq58 : View := ⟨0, [0, 1, 5, 6, 7], [(false, [.data (.slice (.prod (.int .i64) (.int .i64)))]), (false, [.data (.slice (.prod (.int .i64) (.int .i64)))]), (false, [.rowh 0]), (false, [.data (.int .i64)]), (false, [.data (.int .i64)])], [.row 30 (.prod (.int .i64) (.int .i64))]⟩
def zq59 : List (AExit × View) := [(.normal, ⟨0, [0, 1, 5, 6, 7], [(false, [.data (.slice (.prod (.int .i64) (.int .i64)))]), (false, [.data (.slice (.prod (.int .i64) (.int .i64)))]), (false, [.rowh 0]), (false, [.data (.int .i64)]), (false, [.data (.int .i64)])], [.row 30 (.prod (.int .i64) (.int .i64))]⟩)]
@[reducible] def span_Common_p1_G (p : zq57) {β : Type} (d : zq58.den) (ks : Outs.K β zq59) : Option β :=
  p (fun a0 a1 a2 a3 a4 => ks.1 (((a0, ()), (a1, ()), (), (a2, ()), (a3, ()), ()), (a4, ()))) d.1.1.1 d.1.2.1.1 d.1.2.2.2.1.1 d.1.2.2.2.2.1.1 d.2.1
abbrev zq5a (β : Type) := (List (Int × Int)) → Option β
abbrev zq5b := {β : Type} → zq5a β → (List (Int × Int)) → (List (Int × Int)) → Int → Int → (List (Int × Int)) → Option β
def zq5c : View := ⟨0, [0, 1, 5, 6, 7], [(false, [.data (.slice (.prod (.int .i64) (.int .i64)))]), (false, [.data (.slice (.prod (.int .i64) (.int .i64)))]), (false, [.rowh 0]), (false, [.data (.int .i64)]), (false, [.data (.int .i64)])], [.row 30 (.prod (.int .i64) (.int .i64))]⟩
def zq5d : List (AExit × View) := [(.exit 0, ⟨0, [5], [(false, [.rowh 0])], [.row 30 (.prod (.int .i64) (.int .i64))]⟩)]
@[reducible] def span_Common_p2_G (p : zq5b) {β : Type} (d : zq5c.den) (ks : Outs.K β zq5d) : Option β :=
  p (fun a0 => ks.1 (((), ()), (a0, ()))) d.1.1.1 d.1.2.1.1 d.1.2.2.2.1.1 d.1.2.2.2.2.1.1 d.2.1
section
@[reducible] def span_Common_X : Ctx := ⟨look tab, pick1 [], false, false, false⟩
def zq5e {β : Type} (k1 : zq56 β) (a : List (Int × Int)) (b : List (Int × Int)) (i_ : Int) (k_ : Int) (out : List (Int × Int)) : Option β :=
  cond (decide (0 ≤ i_) && decide (i_ < (List.length a : Int)))
  (let e : (Int × Int) := List.getD a (Int.toNat i_) ((0 : Int), (0 : Int));
  cond (decide (0 ≤ k_) && decide (k_ < (List.length b : Int)))
  (let e2 : (Int × Int) := List.getD b (Int.toNat k_) ((0 : Int), (0 : Int));
  cond (decide (e.2 < e2.2))
  (let i_2 : Int := (IntKind.i64.wrap (i_ + (1 : Int)));
  k1 a b i_2 k_ out)
  (let k_2 : Int := (IntKind.i64.wrap (k_ + (1 : Int)));
  k1 a b i_ k_2 out))
  none)
  none
def zq5f {β : Type} (k1 : zq56 β) (a : List (Int × Int)) (b : List (Int × Int)) (i_ : Int) (k_ : Int) (out : List (Int × Int)) : Option β := zq5e k1 a b i_ k_ out
theorem zq5g (hΓ : ΓOk Try.prog span_Common_X.Γ) : PieceOk Try.prog 67 0 span_Common_p1_code zq58 zq59 (span_Common_p1_G (zq5f)) :=
  piece_exec (X := span_Common_X) (p := 13) (Λ := pick1 []) mixed tab_ok hΓ (by kernel_rfl) CutsOk_nil (fun d ks r h => Eq.trans (b := span_Common_p1_G (zq5f) d ks) (by kernel_rfl) h)
def zq5h (p1 : zq57) {β : Type} (rec : (List (Int × Int)) → (List (Int × Int)) → Int → Int → (List (Int × Int)) → Option β) (k1 : zq5a β) (a : List (Int × Int)) (b : List (Int × Int)) (i_ : Int) (k_ : Int) (out : List (Int × Int)) : Option β :=
  cond (decide (i_ < (List.length a : Int)))
  (cond (decide (k_ < (List.length b : Int)))
  (cond (decide (0 ≤ i_) && decide (i_ < (List.length a : Int)))
  (let e : (Int × Int) := List.getD a (Int.toNat i_) ((0 : Int), (0 : Int));
  cond (decide (0 ≤ k_) && decide (k_ < (List.length b : Int)))
  (let e2 : (Int × Int) := List.getD b (Int.toNat k_) ((0 : Int), (0 : Int));
  cond (decide (0 ≤ i_) && decide (i_ < (List.length a : Int)))
  (let e3 : (Int × Int) := List.getD a (Int.toNat i_) ((0 : Int), (0 : Int));
  cond (decide (0 ≤ k_) && decide (k_ < (List.length b : Int)))
  (let e4 : (Int × Int) := List.getD b (Int.toNat k_) ((0 : Int), (0 : Int));
  cond (decide ((if e2.1 > e.1 then e2.1 else e.1) < (if e4.2 < e3.2 then e4.2 else e3.2)))
  (let l : List (Int × Int) := ([((if e2.1 > e.1 then e2.1 else e.1), (if e4.2 < e3.2 then e4.2 else e3.2))] : List (Int × Int));
  cond (decide ((List.length out + List.length l) * 16 ≤ roomMax))
  (let l2 : List (Int × Int) := (out ++ l);
  p1 (fun (a2 : List (Int × Int)) (b2 : List (Int × Int)) (i_2 : Int) (k_2 : Int) (out2 : List (Int × Int)) =>
  rec a2 b2 i_2 k_2 out2) a b i_ k_ l2)
  none)
  (p1 (fun (a2 : List (Int × Int)) (b2 : List (Int × Int)) (i_2 : Int) (k_2 : Int) (out2 : List (Int × Int)) =>
  rec a2 b2 i_2 k_2 out2) a b i_ k_ out))
  none)
  none)
  none)
  none)
  (k1 out))
  (k1 out)
def zq5i (p1 : zq57) {β : Type} : Nat → zq5a β → (List (Int × Int)) → (List (Int × Int)) → Int → Int → (List (Int × Int)) → Option β
  | 0 => fun _ _ _ _ _ _ => none
  | i + 1 => fun k1 a b i_ k_ out => zq5h p1 (zq5i p1 i k1) k1 a b i_ k_ out
theorem zq5j (hΓ : ΓOk Try.prog span_Common_X.Γ) (p1 : zq57) (hp1 : PieceOk Try.prog 67 0 span_Common_p1_code zq58 zq59 (span_Common_p1_G p1)) (i : Nat) : PieceOk Try.prog 67 0 span_Common_p2_code zq5c zq5d (span_Common_p2_G (zq5i p1 i)) := by
  rw [show span_Common_p2_code = .loop (loopBody span_Common_p2_code) by kernel_rfl]
  exact piece_loop (X := span_Common_X) (p := 1) (Λ := pick1 [(13, pieceCut zq58 zq59 (span_Common_p1_G p1))]) (G := fun i => @fun β d ks => span_Common_p2_G (zq5i p1 i) d ks) mixed tab_ok hΓ rfl (by kernel_rfl) (CutsOk_cons (q := 13) (c' := span_Common_p1_code) (by kernel_rfl) rfl hp1 CutsOk_nil) (fun _ _ => rfl) (fun i => @fun β d ks r h => Eq.trans (b := span_Common_p2_G (zq5i p1 (i + 1)) d ks) (by kernel_rfl) h) i
def zq5k (p2 : zq5b) {β : Type} (a : List (Int × Int)) (b : List (Int × Int)) (k : ((List (Int × Int)) → Option β)) : Option β :=
  p2 (fun (out : List (Int × Int)) =>
  k out) a b (0 : Int) (0 : Int) ([] : List (Int × Int))
theorem zq5l (hΓ : ΓOk Try.prog span_Common_X.Γ) (p2 : zq5b) (hp2 : PieceOk Try.prog 67 0 span_Common_p2_code zq5c zq5d (span_Common_p2_G p2)) : SpecOk Try.prog 42 (zq55 (zq5k p2)) :=
  spec_exec (X := span_Common_X) (Λ := pick1 [(58, pieceCut zq5c zq5d (span_Common_p2_G p2))]) (rs := [.tmp 4]) (c := bodyOf Try.f42) mixed tab_ok hΓ Try.func42 (by kernel_rfl) (by kernel_rfl) (by kernel_rfl) (by kernel_rfl) (CutsOk_cons (q := 58) (c' := span_Common_p2_code) (by kernel_rfl) rfl hp2 CutsOk_nil) (fun x k r h => Eq.trans (b := (zq55 (zq5k p2)).run x k) (by kernel_rfl) h)
end
theorem zq5mΓ : ΓOk Try.prog (pick1 []) := ΓOk_nil
def zq5n : zq57 := zq5f
theorem zq5o : PieceOk Try.prog 67 0 span_Common_p1_code zq58 zq59 (span_Common_p1_G zq5n) := zq5g zq5mΓ
def zq5p (m : Nat) : zq5b := zq5i zq5n m
theorem zq5q {β : Type} (i : Nat) (k1 a b i_ k_ out) : (zq5p (i + 1) k1 a b i_ k_ out : Option β) = zq5h zq5n (zq5p i k1) k1 a b i_ k_ out := rfl
def zq5r : zq5b := zq5p fuel
theorem zq5s : PieceOk Try.prog 67 0 span_Common_p2_code zq5c zq5d (span_Common_p2_G zq5r) := zq5j zq5mΓ zq5n zq5o fuel
def zq5t : zq54 := zq5k zq5r
theorem zq5u : SpecOk Try.prog 42 (zq55 zq5t) := zq5l zq5mΓ zq5r zq5s

/-- pagewatch/span.Without -/
abbrev zq5v := {β : Type} → (List (Int × Int)) → (List (Int × Int)) → ((List (Int × Int)) → Option β) → Option β
def zq5w (c : zq5v) : Spec :=
  ⟨[(false, [.data (.slice (.prod (.int .i64) (.int .i64)))]), (false, [.data (.slice (.prod (.int .i64) (.int .i64)))])], [], [(false, [.rowh 0])], [.row 30 (.prod (.int .i64) (.int .i64))], fun x k => c x.1.1.1 x.1.2.1.1 (fun r0 => k (((), ()), (r0, ())))⟩
noncomputable def span_Without_p3_code : Code := codeAt 122 (bodyOf Try.f43)
noncomputable def span_Without_p1_code : Code := codeAt 228 (loopBody span_Without_p3_code)
noncomputable def span_Without_p2_code : Code := codeAt 1850 (loopBody span_Without_p3_code)
abbrev zq5x (β : Type) := (List (Int × Int)) → Int → (List (Int × Int)) → Int → Int → (List (Int × Int)) → Int → Int → Option β
abbrev zq5y := {β : Type} → zq5x β → (List (Int × Int)) → Int → (List (Int × Int)) → Int → Int → (List (Int × Int)) → Int → Int → Option β
def zq5z : View := ⟨0, [1, 5, 6, 8, 11, 12, 13], [(false, [.data (.slice (.prod (.int .i64) (.int .i64)))]), (false, [.rowh 0]), (false, [.data (.int .i64)]), (false, [.ptr 1 0]), (false, [.data (.slice (.prod (.int .i64) (.int .i64)))]), (false, [.data (.int .i64)]), (false, [.data (.int .i64)])], [.row 30 (.prod (.int .i64) (.int .i64)), .cells 30 [.data (.int .i64), .data (.int .i64)]]⟩
def zq60 : List (AExit × View) := [(.exit 2, ⟨0, [1, 5, 6, 8, 11, 12, 13], [(false, [.data (.slice (.prod (.int .i64) (.int .i64)))]), (false, [.rowh 0]), (false, [.data (.int .i64)]), (false, [.ptr 1 0]), (false, [.data (.slice (.prod (.int .i64) (.int .i64)))]), (false, [.data (.int .i64)]), (false, [.data (.int .i64)])], [.row 30 (.prod (.int .i64) (.int .i64)), .cells 30 [.data (.int .i64), .data (.int .i64)]]⟩)]
@[reducible] def span_Without_p1_G (p : zq5y) {β : Type} (d : zq5z.den) (ks : Outs.K β zq60) : Option β :=
  p (fun a0 a1 a2 a3 a4 a5 a6 a7 => ks.1 (((a0, ()), (), (a1, ()), (), (a2, ()), (a3, ()), (a4, ()), ()), (a5, (a6, a7, ()), ()))) d.1.1.1 d.1.2.2.1.1 d.1.2.2.2.2.1.1 d.1.2.2.2.2.2.1.1 d.1.2.2.2.2.2.2.1.1 d.2.1 d.2.2.1.1 d.2.2.1.2.1
abbrev zq61 (β : Type) := (List (Int × Int)) → Int → Int → (List (Int × Int)) → Int → Int → (List (Int × Int)) → Int → Int → Option β
abbrev zq62 := {β : Type} → zq61 β → (List (Int × Int)) → Int → Int → Int → (List (Int × Int)) → Int → Int → (List (Int × Int)) → Int → Int → Option β
def zq63 : View := ⟨0, [1, 5, 6, 8, 9, 10, 11, 12, 13], [(false, [.data (.slice (.prod (.int .i64) (.int .i64)))]), (false, [.rowh 0]), (false, [.data (.int .i64)]), (false, [.ptr 1 0]), (false, [.data (.int .i64)]), (false, [.data (.int .i64)]), (false, [.data (.slice (.prod (.int .i64) (.int .i64)))]), (false, [.data (.int .i64)]), (false, [.data (.int .i64)])], [.row 30 (.prod (.int .i64) (.int .i64)), .cells 30 [.data (.int .i64), .data (.int .i64)]]⟩
def zq64 : List (AExit × View) := [(.exit 4, ⟨0, [1, 5, 6, 8, 9, 11, 12, 13], [(false, [.data (.slice (.prod (.int .i64) (.int .i64)))]), (false, [.rowh 0]), (false, [.data (.int .i64)]), (false, [.ptr 1 0]), (false, [.data (.int .i64)]), (false, [.data (.slice (.prod (.int .i64) (.int .i64)))]), (false, [.data (.int .i64)]), (false, [.data (.int .i64)])], [.row 30 (.prod (.int .i64) (.int .i64)), .cells 30 [.data (.int .i64), .data (.int .i64)]]⟩)]
@[reducible] def span_Without_p2_G (p : zq62) {β : Type} (d : zq63.den) (ks : Outs.K β zq64) : Option β :=
  p (fun a0 a1 a2 a3 a4 a5 a6 a7 a8 => ks.1 (((a0, ()), (), (a1, ()), (), (a2, ()), (a3, ()), (a4, ()), (a5, ()), ()), (a6, (a7, a8, ()), ()))) d.1.1.1 d.1.2.2.1.1 d.1.2.2.2.2.1.1 d.1.2.2.2.2.2.1.1 d.1.2.2.2.2.2.2.1.1 d.1.2.2.2.2.2.2.2.1.1 d.1.2.2.2.2.2.2.2.2.1.1 d.2.1 d.2.2.1.1 d.2.2.1.2.1
abbrev zq65 (β : Type) := (List (Int × Int)) → Option β
abbrev zq66 := {β : Type} → zq65 β → (List (Int × Int)) → Int → (List (Int × Int)) → Int → Int → (List (Int × Int)) → Option β
def zq67 : View := ⟨0, [1, 5, 6, 11, 12, 13], [(false, [.data (.slice (.prod (.int .i64) (.int .i64)))]), (false, [.rowh 0]), (false, [.data (.int .i64)]), (false, [.data (.slice (.prod (.int .i64) (.int .i64)))]), (false, [.data (.int .i64)]), (false, [.data (.int .i64)])], [.row 30 (.prod (.int .i64) (.int .i64))]⟩
def zq68 : List (AExit × View) := [(.exit 0, ⟨0, [5], [(false, [.rowh 0])], [.row 30 (.prod (.int .i64) (.int .i64))]⟩)]
@[reducible] def span_Without_p3_G (p : zq66) {β : Type} (d : zq67.den) (ks : Outs.K β zq68) : Option β :=
  p (fun a0 => ks.1 (((), ()), (a0, ()))) d.1.1.1 d.1.2.2.1.1 d.1.2.2.2.1.1 d.1.2.2.2.2.1.1 d.1.2.2.2.2.2.1.1 d.2.1
section
@[reducible] def span_Without_X : Ctx := ⟨look tab, pick1 [], false, false, false⟩
def zq69 {β : Type} (rec : (List (Int × Int)) → Int → (List (Int × Int)) → Int → Int → (List (Int × Int)) → Int → Int → Option β) (k1 : zq5x β) (b : List (Int × Int)) (k_ : Int) (t11 : List (Int × Int)) (t12 : Int) (t13 : Int) (out : List (Int × Int)) (s : Int) (s2 : Int) : Option β :=
  cond (decide (k_ < (List.length b : Int)))
  (cond (decide (0 ≤ k_) && decide (k_ < (List.length b : Int)))
  (let e : (Int × Int) := List.getD b (Int.toNat k_) ((0 : Int), (0 : Int));
  cond (decide (e.2 ≤ s))
  (let k_2 : Int := (IntKind.i64.wrap (k_ + (1 : Int)));
  rec b k_2 t11 t12 t13 out s s2)
  (k1 b k_ t11 t12 t13 out s s2))
  none)
  (k1 b k_ t11 t12 t13 out s s2)
def zq6a {β : Type} : Nat → zq5x β → (List (Int × Int)) → Int → (List (Int × Int)) → Int → Int → (List (Int × Int)) → Int → Int → Option β
  | 0 => fun _ _ _ _ _ _ _ _ _ => none
  | i + 1 => fun k1 b k_ t11 t12 t13 out s s2 => zq69 (zq6a i k1) k1 b k_ t11 t12 t13 out s s2
theorem zq6b (hΓ : ΓOk Try.prog span_Without_X.Γ) (i : Nat) : PieceOk Try.prog 89 0 span_Without_p1_code zq5z zq60 (span_Without_p1_G (zq6a i)) := by
  rw [show span_Without_p1_code = .loop (loopBody span_Without_p1_code) by kernel_rfl]
  exact piece_loop (X := span_Without_X) (p := 1) (Λ := pick1 []) (G := fun i => @fun β d ks => span_Without_p1_G (zq6a i) d ks) mixed tab_ok hΓ rfl (by kernel_rfl) CutsOk_nil (fun _ _ => rfl) (fun i => @fun β d ks r h => Eq.trans (b := span_Without_p1_G (zq6a (i + 1)) d ks) (by kernel_rfl) h) i
def zq6c {β : Type} (rec : (List (Int × Int)) → Int → Int → Int → (List (Int × Int)) → Int → Int → (List (Int × Int)) → Int → Int → Option β) (k1 : zq61 β) (b : List (Int × Int)) (k_ : Int) (at_ : Int) (i_ : Int) (t11 : List (Int × Int)) (t12 : Int) (t13 : Int) (out : List (Int × Int)) (s : Int) (s2 : Int) : Option β :=
  cond (decide (i_ < (List.length b : Int)))
  (cond (decide (0 ≤ i_) && decide (i_ < (List.length b : Int)))
  (let e : (Int × Int) := List.getD b (Int.toNat i_) ((0 : Int), (0 : Int));
  cond (decide (e.1 < s2))
  (cond (decide (0 ≤ i_) && decide (i_ < (List.length b : Int)))
  (let e2 : (Int × Int) := List.getD b (Int.toNat i_) ((0 : Int), (0 : Int));
  cond (decide (at_ < e2.1))
  (cond (decide (0 ≤ i_) && decide (i_ < (List.length b : Int)))
  (let e3 : (Int × Int) := List.getD b (Int.toNat i_) ((0 : Int), (0 : Int));
  let l : List (Int × Int) := ([(at_, e3.1)] : List (Int × Int));
  cond (decide ((List.length out + List.length l) * 16 ≤ roomMax))
  (let l2 : List (Int × Int) := (out ++ l);
  cond (decide (0 ≤ i_) && decide (i_ < (List.length b : Int)))
  (let e4 : (Int × Int) := List.getD b (Int.toNat i_) ((0 : Int), (0 : Int));
  let at_2 : Int := (if e4.2 > at_ then e4.2 else at_);
  let i_2 : Int := (IntKind.i64.wrap (i_ + (1 : Int)));
  rec b k_ at_2 i_2 t11 t12 t13 l2 s s2)
  none)
  none)
  none)
  (cond (decide (0 ≤ i_) && decide (i_ < (List.length b : Int)))
  (let e3 : (Int × Int) := List.getD b (Int.toNat i_) ((0 : Int), (0 : Int));
  let at_2 : Int := (if e3.2 > at_ then e3.2 else at_);
  let i_2 : Int := (IntKind.i64.wrap (i_ + (1 : Int)));
  rec b k_ at_2 i_2 t11 t12 t13 out s s2)
  none))
  none)
  (k1 b k_ at_ t11 t12 t13 out s s2))
  none)
  (k1 b k_ at_ t11 t12 t13 out s s2)
def zq6d {β : Type} : Nat → zq61 β → (List (Int × Int)) → Int → Int → Int → (List (Int × Int)) → Int → Int → (List (Int × Int)) → Int → Int → Option β
  | 0 => fun _ _ _ _ _ _ _ _ _ _ _ => none
  | i + 1 => fun k1 b k_ at_ i_ t11 t12 t13 out s s2 => zq6c (zq6d i k1) k1 b k_ at_ i_ t11 t12 t13 out s s2
theorem zq6e (hΓ : ΓOk Try.prog span_Without_X.Γ) (i : Nat) : PieceOk Try.prog 89 0 span_Without_p2_code zq63 zq64 (span_Without_p2_G (zq6d i)) := by
  rw [show span_Without_p2_code = .loop (loopBody span_Without_p2_code) by kernel_rfl]
  exact piece_loop (X := span_Without_X) (p := 1) (Λ := pick1 []) (G := fun i => @fun β d ks => span_Without_p2_G (zq6d i) d ks) mixed tab_ok hΓ rfl (by kernel_rfl) CutsOk_nil (fun _ _ => rfl) (fun i => @fun β d ks r h => Eq.trans (b := span_Without_p2_G (zq6d (i + 1)) d ks) (by kernel_rfl) h) i
def zq6f (p1 : zq5y) (p2 : zq62) {β : Type} (rec : (List (Int × Int)) → Int → (List (Int × Int)) → Int → Int → (List (Int × Int)) → Option β) (k1 : zq65 β) (b : List (Int × Int)) (k_ : Int) (t11 : List (Int × Int)) (t12 : Int) (t13 : Int) (out : List (Int × Int)) : Option β :=
  cond (decide (t13 < t12))
  (cond (decide (0 ≤ t13) && decide (t13 < (List.length t11 : Int)))
  (let e : (Int × Int) := List.getD t11 (Int.toNat t13) ((0 : Int), (0 : Int));
  p1 (fun (b2 : List (Int × Int)) (k_2 : Int) (t112 : List (Int × Int)) (t122 : Int) (t132 : Int) (out2 : List (Int × Int)) (s : Int) (s2 : Int) =>
  p2 (fun (b3 : List (Int × Int)) (k_3 : Int) (at_ : Int) (t113 : List (Int × Int)) (t123 : Int) (t133 : Int) (out3 : List (Int × Int)) (s3 : Int) (s4 : Int) =>
  cond (decide (at_ < s4))
  (let l : List (Int × Int) := ([(at_, s4)] : List (Int × Int));
  cond (decide ((List.length out3 + List.length l) * 16 ≤ roomMax))
  (let l2 : List (Int × Int) := (out3 ++ l);
  rec b3 k_3 t113 t123 (IntKind.i64.wrap (t133 + (1 : Int))) l2)
  none)
  (rec b3 k_3 t113 t123 (IntKind.i64.wrap (t133 + (1 : Int))) out3)) b2 k_2 s k_2 t112 t122 t132 out2 s s2) b k_ t11 t12 t13 out e.1 e.2)
  none)
  (k1 out)
def zq6g (p1 : zq5y) (p2 : zq62) {β : Type} : Nat → zq65 β → (List (Int × Int)) → Int → (List (Int × Int)) → Int → Int → (List (Int × Int)) → Option β
  | 0 => fun _ _ _ _ _ _ _ => none
  | i + 1 => fun k1 b k_ t11 t12 t13 out => zq6f p1 p2 (zq6g p1 p2 i k1) k1 b k_ t11 t12 t13 out
theorem zq6h (hΓ : ΓOk Try.prog span_Without_X.Γ) (p1 : zq5y) (p2 : zq62) (hp1 : PieceOk Try.prog 89 0 span_Without_p1_code zq5z zq60 (span_Without_p1_G p1)) (hp2 : PieceOk Try.prog 89 0 span_Without_p2_code zq63 zq64 (span_Without_p2_G p2)) (i : Nat) : PieceOk Try.prog 89 0 span_Without_p3_code zq67 zq68 (span_Without_p3_G (zq6g p1 p2 i)) := by
  rw [show span_Without_p3_code = .loop (loopBody span_Without_p3_code) by kernel_rfl]
  exact piece_loop (X := span_Without_X) (p := 1) (Λ := pick1 [(228, pieceCut zq5z zq60 (span_Without_p1_G p1)), (1850, pieceCut zq63 zq64 (span_Without_p2_G p2))]) (G := fun i => @fun β d ks => span_Without_p3_G (zq6g p1 p2 i) d ks) mixed tab_ok hΓ rfl (by kernel_rfl) (CutsOk_cons (q := 228) (c' := span_Without_p1_code) (by kernel_rfl) rfl hp1 (CutsOk_cons (q := 1850) (c' := span_Without_p2_code) (by kernel_rfl) rfl hp2 CutsOk_nil)) (fun _ _ => rfl) (fun i => @fun β d ks r h => Eq.trans (b := span_Without_p3_G (zq6g p1 p2 (i + 1)) d ks) (by kernel_rfl) h) i
def zq6i (p3 : zq66) {β : Type} (a : List (Int × Int)) (b : List (Int × Int)) (k : ((List (Int × Int)) → Option β)) : Option β :=
  p3 (fun (out : List (Int × Int)) =>
  k out) b (0 : Int) a (List.length a : Int) (0 : Int) ([] : List (Int × Int))
theorem zq6j (hΓ : ΓOk Try.prog span_Without_X.Γ) (p3 : zq66) (hp3 : PieceOk Try.prog 89 0 span_Without_p3_code zq67 zq68 (span_Without_p3_G p3)) : SpecOk Try.prog 43 (zq5w (zq6i p3)) :=
  spec_exec (X := span_Without_X) (Λ := pick1 [(122, pieceCut zq67 zq68 (span_Without_p3_G p3))]) (rs := [.tmp 4]) (c := bodyOf Try.f43) mixed tab_ok hΓ Try.func43 (by kernel_rfl) (by kernel_rfl) (by kernel_rfl) (by kernel_rfl) (CutsOk_cons (q := 122) (c' := span_Without_p3_code) (by kernel_rfl) rfl hp3 CutsOk_nil) (fun x k r h => Eq.trans (b := (zq5w (zq6i p3)).run x k) (by kernel_rfl) h)
end
theorem zq6kΓ : ΓOk Try.prog (pick1 []) := ΓOk_nil
def zq6l (m : Nat) : zq5y := zq6a m
theorem zq6m {β : Type} (i : Nat) (k1 b k_ t11 t12 t13 out s s2) : (zq6l (i + 1) k1 b k_ t11 t12 t13 out s s2 : Option β) = zq69 (zq6l i k1) k1 b k_ t11 t12 t13 out s s2 := rfl
def zq6n : zq5y := zq6l fuel
theorem zq6o : PieceOk Try.prog 89 0 span_Without_p1_code zq5z zq60 (span_Without_p1_G zq6n) := zq6b zq6kΓ fuel
def zq6p (m : Nat) : zq62 := zq6d m
theorem zq6q {β : Type} (i : Nat) (k1 b k_ at_ i_ t11 t12 t13 out s s2) : (zq6p (i + 1) k1 b k_ at_ i_ t11 t12 t13 out s s2 : Option β) = zq6c (zq6p i k1) k1 b k_ at_ i_ t11 t12 t13 out s s2 := rfl
def zq6r : zq62 := zq6p fuel
theorem zq6s : PieceOk Try.prog 89 0 span_Without_p2_code zq63 zq64 (span_Without_p2_G zq6r) := zq6e zq6kΓ fuel
def zq6t (m : Nat) : zq66 := zq6g zq6n zq6r m
theorem zq6u {β : Type} (i : Nat) (k1 b k_ t11 t12 t13 out) : (zq6t (i + 1) k1 b k_ t11 t12 t13 out : Option β) = zq6f zq6n zq6r (zq6t i k1) k1 b k_ t11 t12 t13 out := rfl
def zq6v : zq66 := zq6t fuel
theorem zq6w : PieceOk Try.prog 89 0 span_Without_p3_code zq67 zq68 (span_Without_p3_G zq6v) := zq6h zq6kΓ zq6n zq6r zq6o zq6s fuel
def zq6x : zq5v := zq6i zq6v
theorem zq6y : SpecOk Try.prog 43 (zq5w zq6x) := zq6j zq6kΓ zq6v zq6w

/-- pagewatch/pagewatchref03.Sort -/
abbrev zq6z := {β : Type} → (List Int) → ((List Int) → Option β) → Option β
def zq70 (c : zq6z) : Spec :=
  ⟨[(false, [.data (.slice (.int .i64))])], [], [(false, [.rowh 0])], [.row 3 (.int .i64)], fun x k => c x.1.1.1 (fun r0 => k (((), ()), (r0, ())))⟩
noncomputable def ref03_Sort_p4_code : Code := codeAt 252 (bodyOf Try.f44)
noncomputable def ref03_Sort_p1_code : Code := codeAt 27 (loopBody ref03_Sort_p4_code)
noncomputable def ref03_Sort_p2_code : Code := codeAt 53 (loopBody ref03_Sort_p4_code)
noncomputable def ref03_Sort_p3_code : Code := codeAt 3 (loopBody ref03_Sort_p4_code)
abbrev zq71 (β : Type) := Int → Int → (List Int) → (List Int) → (List Int) → Option β
abbrev zq72 := {β : Type} → zq71 β → Int → Int → Int → (List Int) → (List Int) → (List Int) → Option β
def zq73 : View := ⟨0, [3, 4, 5, 6, 7, 8], [(false, [.rowh 0]), (false, [.rowh 1]), (false, [.rowh 2]), (false, [.data (.int .i64)]), (false, [.data (.int .i64)]), (false, [.data (.int .i64)])], [.row 3 (.int .i64), .row 3 (.int .i64), .row 3 (.int .i64)]⟩
def zq74 : List (AExit × View) := [(.normal, ⟨0, [3, 4, 5, 6, 7], [(false, [.rowh 0]), (false, [.rowh 1]), (false, [.rowh 2]), (false, [.data (.int .i64)]), (false, [.data (.int .i64)])], [.row 3 (.int .i64), .row 3 (.int .i64), .row 3 (.int .i64)]⟩)]
@[reducible] def ref03_Sort_p1_G (p : zq72) {β : Type} (d : zq73.den) (ks : Outs.K β zq74) : Option β :=
  p (fun a0 a1 a2 a3 a4 => ks.1 (((), (), (), (a0, ()), (a1, ()), ()), (a2, a3, a4, ()))) d.1.2.2.2.1.1 d.1.2.2.2.2.1.1 d.1.2.2.2.2.2.1.1 d.2.1 d.2.2.1 d.2.2.2.1
abbrev zq75 (β : Type) := Int → Int → Int → (List Int) → (List Int) → (List Int) → Option β
abbrev zq76 := {β : Type} → zq75 β → Int → Int → Bool → (List Int) → (List Int) → (List Int) → Option β
def zq77 : View := ⟨0, [3, 4, 5, 6, 7, 57], [(false, [.rowh 0]), (false, [.rowh 1]), (false, [.rowh 2]), (false, [.data (.int .i64)]), (false, [.data (.int .i64)]), (false, [.data .bool])], [.row 3 (.int .i64), .row 3 (.int .i64), .row 3 (.int .i64)]⟩
def zq78 : List (AExit × View) := [(.normal, ⟨0, [3, 4, 5, 6, 7, 8], [(false, [.rowh 0]), (false, [.rowh 1]), (false, [.rowh 2]), (false, [.data (.int .i64)]), (false, [.data (.int .i64)]), (false, [.data (.int .i64)])], [.row 3 (.int .i64), .row 3 (.int .i64), .row 3 (.int .i64)]⟩)]
@[reducible] def ref03_Sort_p2_G (p : zq76) {β : Type} (d : zq77.den) (ks : Outs.K β zq78) : Option β :=
  p (fun a0 a1 a2 a3 a4 a5 => ks.1 (((), (), (), (a0, ()), (a1, ()), (a2, ()), ()), (a3, a4, a5, ()))) d.1.2.2.2.1.1 d.1.2.2.2.2.1.1 d.1.2.2.2.2.2.1.1 d.2.1 d.2.2.1 d.2.2.2.1
abbrev zq79 (β : Type) := Int → Int → (List Int) → (List Int) → (List Int) → Option β
abbrev zq7a := {β : Type} → zq79 β → Int → Int → (List Int) → (List Int) → (List Int) → Option β
def zq7b : View := ⟨0, [3, 4, 5, 6, 7], [(false, [.rowh 0]), (false, [.rowh 1]), (false, [.rowh 2]), (false, [.data (.int .i64)]), (false, [.data (.int .i64)])], [.row 3 (.int .i64), .row 3 (.int .i64), .row 3 (.int .i64)]⟩
def zq7c : List (AExit × View) := [(.normal, ⟨0, [3, 4, 5, 6, 7], [(false, [.rowh 0]), (false, [.rowh 1]), (false, [.rowh 2]), (false, [.data (.int .i64)]), (false, [.data (.int .i64)])], [.row 3 (.int .i64), .row 3 (.int .i64), .row 3 (.int .i64)]⟩)]
@[reducible] def ref03_Sort_p3_G (p : zq7a) {β : Type} (d : zq7b.den) (ks : Outs.K β zq7c) : Option β :=
  p (fun a0 a1 a2 a3 a4 => ks.1 (((), (), (), (a0, ()), (a1, ()), ()), (a2, a3, a4, ()))) d.1.2.2.2.1.1 d.1.2.2.2.2.1.1 d.2.1 d.2.2.1 d.2.2.2.1
abbrev zq7d (β : Type) := (List Int) → Option β
abbrev zq7e := {β : Type} → zq7d β → Int → Int → (List Int) → (List Int) → (List Int) → Option β
def zq7f : View := ⟨0, [3, 4, 5, 6, 7], [(false, [.rowh 0]), (false, [.rowh 1]), (false, [.rowh 2]), (false, [.data (.int .i64)]), (false, [.data (.int .i64)])], [.row 3 (.int .i64), .row 3 (.int .i64), .row 3 (.int .i64)]⟩
def zq7g : List (AExit × View) := [(.exit 0, ⟨0, [3], [(false, [.rowh 0])], [.row 3 (.int .i64)]⟩)]
@[reducible] def ref03_Sort_p4_G (p : zq7e) {β : Type} (d : zq7f.den) (ks : Outs.K β zq7g) : Option β :=
  p (fun a0 => ks.1 (((), ()), (a0, ()))) d.1.2.2.2.1.1 d.1.2.2.2.2.1.1 d.2.1 d.2.2.1 d.2.2.2.1
section
variable (c_ref03_Sort : zq6z)
@[reducible] def ref03_Sort_X : Ctx := ⟨look tab, pick1 [(44, .spec (zq70 c_ref03_Sort))], false, false, false⟩
def zq7h {β : Type} (k1 : zq71 β) (i_ : Int) (j : Int) (x : Int) (out : List Int) (a : List Int) (b : List Int) : Option β :=
  cond (decide ((List.length out : Int) = (0 : Int)))
  (let l : List Int := ([x] : List Int);
  cond (decide ((List.length out + List.length l) * 8 ≤ roomMax))
  (let l2 : List Int := (out ++ l);
  k1 i_ j l2 a b)
  none)
  (cond (decide (0 ≤ (IntKind.i64.wrap ((List.length out : Int) - (1 : Int)))) && decide ((IntKind.i64.wrap ((List.length out : Int) - (1 : Int))) < (List.length out : Int)))
  (cond (!decide ((List.getD out (Int.toNat (IntKind.i64.wrap ((List.length out : Int) - (1 : Int)))) (0 : Int)) = x))
  (let l : List Int := ([x] : List Int);
  cond (decide ((List.length out + List.length l) * 8 ≤ roomMax))
  (let l2 : List Int := (out ++ l);
  k1 i_ j l2 a b)
  none)
  (k1 i_ j out a b))
  none)
def zq7i {β : Type} (k1 : zq71 β) (i_ : Int) (j : Int) (x : Int) (out : List Int) (a : List Int) (b : List Int) : Option β := zq7h k1 i_ j x out a b
theorem zq7j (hΓ : ΓOk Try.prog (ref03_Sort_X c_ref03_Sort).Γ) : PieceOk Try.prog 88 0 ref03_Sort_p1_code zq73 zq74 (ref03_Sort_p1_G (zq7i)) :=
  piece_exec (X := (ref03_Sort_X c_ref03_Sort)) (p := 27) (Λ := pick1 []) mixed tab_ok hΓ (by kernel_rfl) CutsOk_nil (fun d ks r h => Eq.trans (b := ref03_Sort_p1_G (zq7i) d ks) (by kernel_rfl) h)
def zq7k {β : Type} (k1 : zq75 β) (i_ : Int) (j : Int) (t57 : Bool) (out : List Int) (a : List Int) (b : List Int) : Option β :=
  cond t57
  (cond (decide (0 ≤ i_) && decide (i_ < (List.length a : Int)))
  (let x : Int := (List.getD a (Int.toNat i_) (0 : Int));
  let i_2 : Int := (IntKind.i64.wrap (i_ + (1 : Int)));
  k1 i_2 j x out a b)
  none)
  (cond (decide (0 ≤ j) && decide (j < (List.length b : Int)))
  (let x : Int := (List.getD b (Int.toNat j) (0 : Int));
  let j2 : Int := (IntKind.i64.wrap (j + (1 : Int)));
  k1 i_ j2 x out a b)
  none)
def zq7l {β : Type} (k1 : zq75 β) (i_ : Int) (j : Int) (t57 : Bool) (out : List Int) (a : List Int) (b : List Int) : Option β := zq7k k1 i_ j t57 out a b
theorem zq7m (hΓ : ΓOk Try.prog (ref03_Sort_X c_ref03_Sort).Γ) : PieceOk Try.prog 88 0 ref03_Sort_p2_code zq77 zq78 (ref03_Sort_p2_G (zq7l)) :=
  piece_exec (X := (ref03_Sort_X c_ref03_Sort)) (p := 53) (Λ := pick1 []) mixed tab_ok hΓ (by kernel_rfl) CutsOk_nil (fun d ks r h => Eq.trans (b := ref03_Sort_p2_G (zq7l) d ks) (by kernel_rfl) h)
def zq7n (p1 : zq72) (p2 : zq76) {β : Type} (k1 : zq79 β) (i_ : Int) (j : Int) (out : List Int) (a : List Int) (b : List Int) : Option β :=
  cond (decide (j = (List.length b : Int)))
  (p2 (fun (i_2 : Int) (j2 : Int) (x : Int) (out2 : List Int) (a2 : List Int) (b2 : List Int) =>
  p1 (fun (i_3 : Int) (j3 : Int) (out3 : List Int) (a3 : List Int) (b3 : List Int) =>
  k1 i_3 j3 out3 a3 b3) i_2 j2 x out2 a2 b2) i_ j true out a b)
  (cond (decide (i_ < (List.length a : Int)))
  (cond (decide (0 ≤ i_) && decide (i_ < (List.length a : Int)))
  (cond (decide (0 ≤ j) && decide (j < (List.length b : Int)))
  (p2 (fun (i_2 : Int) (j2 : Int) (x : Int) (out2 : List Int) (a2 : List Int) (b2 : List Int) =>
  p1 (fun (i_3 : Int) (j3 : Int) (out3 : List Int) (a3 : List Int) (b3 : List Int) =>
  k1 i_3 j3 out3 a3 b3) i_2 j2 x out2 a2 b2) i_ j (decide ((List.getD a (Int.toNat i_) (0 : Int)) ≤ (List.getD b (Int.toNat j) (0 : Int)))) out a b)
  none)
  none)
  (p2 (fun (i_2 : Int) (j2 : Int) (x : Int) (out2 : List Int) (a2 : List Int) (b2 : List Int) =>
  p1 (fun (i_3 : Int) (j3 : Int) (out3 : List Int) (a3 : List Int) (b3 : List Int) =>
  k1 i_3 j3 out3 a3 b3) i_2 j2 x out2 a2 b2) i_ j false out a b))
def zq7o (p1 : zq72) (p2 : zq76) {β : Type} (k1 : zq79 β) (i_ : Int) (j : Int) (out : List Int) (a : List Int) (b : List Int) : Option β := zq7n p1 p2 k1 i_ j out a b
theorem zq7p (hΓ : ΓOk Try.prog (ref03_Sort_X c_ref03_Sort).Γ) (p1 : zq72) (p2 : zq76) (hp1 : PieceOk Try.prog 88 0 ref03_Sort_p1_code zq73 zq74 (ref03_Sort_p1_G p1)) (hp2 : PieceOk Try.prog 88 0 ref03_Sort_p2_code zq77 zq78 (ref03_Sort_p2_G p2)) : PieceOk Try.prog 88 0 ref03_Sort_p3_code zq7b zq7c (ref03_Sort_p3_G (zq7o p1 p2)) :=
  piece_exec (X := (ref03_Sort_X c_ref03_Sort)) (p := 3) (Λ := pick1 [(27, pieceCut zq73 zq74 (ref03_Sort_p1_G p1)), (53, pieceCut zq77 zq78 (ref03_Sort_p2_G p2))]) mixed tab_ok hΓ (by kernel_rfl) (CutsOk_cons (q := 27) (c' := ref03_Sort_p1_code) (by kernel_rfl) rfl hp1 (CutsOk_cons (q := 53) (c' := ref03_Sort_p2_code) (by kernel_rfl) rfl hp2 CutsOk_nil)) (fun d ks r h => Eq.trans (b := ref03_Sort_p3_G (zq7o p1 p2) d ks) (by kernel_rfl) h)
def zq7q (p3 : zq7a) {β : Type} (rec : Int → Int → (List Int) → (List Int) → (List Int) → Option β) (k1 : zq7d β) (i_ : Int) (j : Int) (out : List Int) (a : List Int) (b : List Int) : Option β :=
  cond (decide (i_ < (List.length a : Int)))
  (p3 (fun (i_2 : Int) (j2 : Int) (out2 : List Int) (a2 : List Int) (b2 : List Int) =>
  rec i_2 j2 out2 a2 b2) i_ j out a b)
  (cond (decide (j < (List.length b : Int)))
  (p3 (fun (i_2 : Int) (j2 : Int) (out2 : List Int) (a2 : List Int) (b2 : List Int) =>
  rec i_2 j2 out2 a2 b2) i_ j out a b)
  (k1 out))
def zq7r (p3 : zq7a) {β : Type} : Nat → zq7d β → Int → Int → (List Int) → (List Int) → (List Int) → Option β
  | 0 => fun _ _ _ _ _ _ => none
  | i + 1 => fun k1 i_ j out a b => zq7q p3 (zq7r p3 i k1) k1 i_ j out a b
theorem zq7s (hΓ : ΓOk Try.prog (ref03_Sort_X c_ref03_Sort).Γ) (p3 : zq7a) (hp3 : PieceOk Try.prog 88 0 ref03_Sort_p3_code zq7b zq7c (ref03_Sort_p3_G p3)) (i : Nat) : PieceOk Try.prog 88 0 ref03_Sort_p4_code zq7f zq7g (ref03_Sort_p4_G (zq7r p3 i)) := by
  rw [show ref03_Sort_p4_code = .loop (loopBody ref03_Sort_p4_code) by kernel_rfl]
  exact piece_loop (X := (ref03_Sort_X c_ref03_Sort)) (p := 1) (Λ := pick1 [(3, pieceCut zq7b zq7c (ref03_Sort_p3_G p3))]) (G := fun i => @fun β d ks => ref03_Sort_p4_G (zq7r p3 i) d ks) mixed tab_ok hΓ rfl (by kernel_rfl) (CutsOk_cons (q := 3) (c' := ref03_Sort_p3_code) (by kernel_rfl) rfl hp3 CutsOk_nil) (fun _ _ => rfl) (fun i => @fun β d ks r h => Eq.trans (b := ref03_Sort_p4_G (zq7r p3 (i + 1)) d ks) (by kernel_rfl) h) i
def zq7t (p4 : zq7e) {β : Type} (l : List Int) (k : ((List Int) → Option β)) : Option β :=
  cond (decide ((List.length l : Int) < (2 : Int)))
  (cond (decide (List.length l * 8 ≤ roomMax))
  (k l)
  none)
  (cond (!decide ((2 : Int) = 0))
  (cond (decide (0 ≤ (0 : Int)) && (decide ((0 : Int) ≤ (IntKind.i64.wrap (Int.tdiv (List.length l : Int) (2 : Int)))) && decide ((IntKind.i64.wrap (Int.tdiv (List.length l : Int) (2 : Int))) ≤ (List.length l : Int))))
  (c_ref03_Sort (List.drop (Int.toNat (0 : Int)) (List.take (Int.toNat (IntKind.i64.wrap (Int.tdiv (List.length l : Int) (2 : Int)))) l)) (fun (lrSort : List Int) =>
  cond (!decide ((2 : Int) = 0))
  (cond (decide (0 ≤ (IntKind.i64.wrap (Int.tdiv (List.length l : Int) (2 : Int)))) && (decide ((IntKind.i64.wrap (Int.tdiv (List.length l : Int) (2 : Int))) ≤ (List.length l : Int)) && decide ((List.length l : Int) ≤ (List.length l : Int))))
  (c_ref03_Sort (List.drop (Int.toNat (IntKind.i64.wrap (Int.tdiv (List.length l : Int) (2 : Int)))) (List.take (Int.toNat (List.length l : Int)) l)) (fun (lrSort2 : List Int) =>
  p4 (fun (out : List Int) =>
  k out) (0 : Int) (0 : Int) ([] : List Int) lrSort lrSort2))
  none)
  none))
  none)
  none)
theorem zq7u (hΓ : ΓOk Try.prog (ref03_Sort_X c_ref03_Sort).Γ) (p4 : zq7e) (hp4 : PieceOk Try.prog 88 0 ref03_Sort_p4_code zq7f zq7g (ref03_Sort_p4_G p4)) : SpecOk Try.prog 44 (zq70 (zq7t c_ref03_Sort p4)) :=
  spec_exec (X := (ref03_Sort_X c_ref03_Sort)) (Λ := pick1 [(252, pieceCut zq7f zq7g (ref03_Sort_p4_G p4))]) (rs := [.tmp 2]) (c := bodyOf Try.f44) mixed tab_ok hΓ Try.func44 (by kernel_rfl) (by kernel_rfl) (by kernel_rfl) (by kernel_rfl) (CutsOk_cons (q := 252) (c' := ref03_Sort_p4_code) (by kernel_rfl) rfl hp4 CutsOk_nil) (fun x k r h => Eq.trans (b := (zq70 (zq7t c_ref03_Sort p4)).run x k) (by kernel_rfl) h)
end
theorem zq7vΓ (me : zq6z) (hme : SpecOk Try.prog 44 (zq70 me)) : ΓOk Try.prog (pick1 [(44, .spec (zq70 me))]) := (ΓOk_cons hme ΓOk_nil)
def zq7w (me : zq6z) : zq72 := zq7i
theorem zq7x (me : zq6z) (hme : SpecOk Try.prog 44 (zq70 me)) : PieceOk Try.prog 88 0 ref03_Sort_p1_code zq73 zq74 (ref03_Sort_p1_G (zq7w me)) := zq7j me (zq7vΓ me hme)
def zq7y (me : zq6z) : zq76 := zq7l
theorem zq7z (me : zq6z) (hme : SpecOk Try.prog 44 (zq70 me)) : PieceOk Try.prog 88 0 ref03_Sort_p2_code zq77 zq78 (ref03_Sort_p2_G (zq7y me)) := zq7m me (zq7vΓ me hme)
def zq80 (me : zq6z) : zq7a := zq7o (zq7w me) (zq7y me)
theorem zq81 (me : zq6z) (hme : SpecOk Try.prog 44 (zq70 me)) : PieceOk Try.prog 88 0 ref03_Sort_p3_code zq7b zq7c (ref03_Sort_p3_G (zq80 me)) := zq7p me (zq7vΓ me hme) (zq7w me) (zq7y me) (zq7x me hme) (zq7z me hme)
def zq82 (me : zq6z) (m : Nat) : zq7e := zq7r (zq80 me) m
theorem zq83 {β : Type} (me : zq6z) (i : Nat) (k1 i_ j out a b) : (zq82 me (i + 1) k1 i_ j out a b : Option β) = zq7q (zq80 me) (zq82 me i k1) k1 i_ j out a b := rfl
def zq84 (me : zq6z) : zq7e := zq82 me fuel
theorem zq85 (me : zq6z) (hme : SpecOk Try.prog 44 (zq70 me)) : PieceOk Try.prog 88 0 ref03_Sort_p4_code zq7f zq7g (ref03_Sort_p4_G (zq84 me)) := zq7s me (zq7vΓ me hme) (zq80 me) (zq81 me hme) fuel
def zq86 : Nat → zq6z
  | 0 => fun _ _ => none
  | i + 1 => zq7t (zq86 i) (zq84 (zq86 i))
theorem zq87 : ∀ i, SpecOk Try.prog 44 (zq70 (zq86 i))
  | 0 => SpecOk.never ⟨_, Try.func44, by kernel_rfl, by kernel_rfl⟩ (fun _ _ => rfl)
  | i + 1 =>
    have hme := zq87 i
    have me_ok := hme
    zq7u (zq86 i) (zq7vΓ (zq86 i) hme) (zq84 (zq86 i)) (zq85 (zq86 i) hme)
theorem zq88 {β : Type} (i : Nat) (l k) : (zq86 (i + 1) l k : Option β) = zq7t (zq86 i) (zq84 (zq86 i)) l k := rfl
def zq89 : zq6z := zq86 fuel
theorem zq8a : SpecOk Try.prog 44 (zq70 zq89) := zq87 fuel

/-- pagewatch/pagewatchref03.has -/
abbrev zq8b := {β : Type} → (List (Int × Int)) → Int → (Bool → Option β) → Option β
def zq8c (c : zq8b) : Spec :=
  ⟨[(false, [.data (.slice (.prod (.int .i64) (.int .i64)))]), (false, [.data (.int .i64)])], [], [(false, [.data .bool])], [], fun x k => c x.1.1.1 x.1.2.1.1 (fun r0 => k (((r0, ()), ()), ()))⟩
noncomputable def ref03_has_p1_code : Code := codeAt 28 (bodyOf Try.f46)
abbrev zq8d (β : Type) := (List (Int × Int)) → Int → Int → Option β
abbrev zq8e := {β : Type} → zq8d β → (List (Int × Int)) → Int → Int → Int → Option β
def zq8f : View := ⟨0, [0, 1, 5, 6], [(false, [.data (.slice (.prod (.int .i64) (.int .i64)))]), (false, [.data (.int .i64)]), (false, [.data (.int .i64)]), (false, [.data (.int .i64)])], []⟩
def zq8g : List (AExit × View) := [(.exit 0, ⟨0, [0, 1, 5], [(false, [.data (.slice (.prod (.int .i64) (.int .i64)))]), (false, [.data (.int .i64)]), (false, [.data (.int .i64)])], []⟩)]
@[reducible] def ref03_has_p1_G (p : zq8e) {β : Type} (d : zq8f.den) (ks : Outs.K β zq8g) : Option β :=
  p (fun a0 a1 a2 => ks.1 (((a0, ()), (a1, ()), (a2, ()), ()), ())) d.1.1.1 d.1.2.1.1 d.1.2.2.1.1 d.1.2.2.2.1.1
section
@[reducible] def ref03_has_X : Ctx := ⟨look tab, pick1 [], false, false, false⟩
def zq8h {β : Type} (rec : (List (Int × Int)) → Int → Int → Int → Option β) (k1 : zq8d β) (l : List (Int × Int)) (x : Int) (lo : Int) (hi : Int) : Option β :=
  cond (decide (lo < hi))
  (cond (!decide ((2 : Int) = 0))
  (let m : Int := (IntKind.i64.wrap (Int.tdiv (IntKind.i64.wrap (lo + hi)) (2 : Int)));
  cond (decide (0 ≤ m) && decide (m < (List.length l : Int)))
  (let e : (Int × Int) := List.getD l (Int.toNat m) ((0 : Int), (0 : Int));
  cond (decide (e.2 ≤ x))
  (let lo2 : Int := (IntKind.i64.wrap (m + (1 : Int)));
  rec l x lo2 hi)
  (rec l x lo m))
  none)
  none)
  (k1 l x lo)
def zq8i {β : Type} : Nat → zq8d β → (List (Int × Int)) → Int → Int → Int → Option β
  | 0 => fun _ _ _ _ _ => none
  | i + 1 => fun k1 l x lo hi => zq8h (zq8i i k1) k1 l x lo hi
theorem zq8j (hΓ : ΓOk Try.prog ref03_has_X.Γ) (i : Nat) : PieceOk Try.prog 40 0 ref03_has_p1_code zq8f zq8g (ref03_has_p1_G (zq8i i)) := by
  rw [show ref03_has_p1_code = .loop (loopBody ref03_has_p1_code) by kernel_rfl]
  exact piece_loop (X := ref03_has_X) (p := 1) (Λ := pick1 []) (G := fun i => @fun β d ks => ref03_has_p1_G (zq8i i) d ks) mixed tab_ok hΓ rfl (by kernel_rfl) CutsOk_nil (fun _ _ => rfl) (fun i => @fun β d ks r h => Eq.trans (b := ref03_has_p1_G (zq8i (i + 1)) d ks) (by kernel_rfl) h) i
def zq8k (p1 : zq8e) {β : Type} (l : List (Int × Int)) (x : Int) (k : (Bool → Option β)) : Option β :=
  p1 (fun (l2 : List (Int × Int)) (x2 : Int) (lo : Int) =>
  cond (decide (lo < (List.length l2 : Int)))
  (cond (decide (0 ≤ lo) && decide (lo < (List.length l2 : Int)))
  (let e : (Int × Int) := List.getD l2 (Int.toNat lo) ((0 : Int), (0 : Int));
  k (decide (e.1 ≤ x2)))
  none)
  (k false)) l x (0 : Int) (List.length l : Int)
theorem zq8l (hΓ : ΓOk Try.prog ref03_has_X.Γ) (p1 : zq8e) (hp1 : PieceOk Try.prog 40 0 ref03_has_p1_code zq8f zq8g (ref03_has_p1_G p1)) : SpecOk Try.prog 46 (zq8c (zq8k p1)) :=
  spec_exec (X := ref03_has_X) (Λ := pick1 [(28, pieceCut zq8f zq8g (ref03_has_p1_G p1))]) (rs := [.tmp 4]) (c := bodyOf Try.f46) mixed tab_ok hΓ Try.func46 (by kernel_rfl) (by kernel_rfl) (by kernel_rfl) (by kernel_rfl) (CutsOk_cons (q := 28) (c' := ref03_has_p1_code) (by kernel_rfl) rfl hp1 CutsOk_nil) (fun x k r h => Eq.trans (b := (zq8c (zq8k p1)).run x k) (by kernel_rfl) h)
end
theorem zq8mΓ : ΓOk Try.prog (pick1 []) := ΓOk_nil
def zq8n (m : Nat) : zq8e := zq8i m
theorem zq8o {β : Type} (i : Nat) (k1 l x lo hi) : (zq8n (i + 1) k1 l x lo hi : Option β) = zq8h (zq8n i k1) k1 l x lo hi := rfl
def zq8p : zq8e := zq8n fuel
theorem zq8q : PieceOk Try.prog 40 0 ref03_has_p1_code zq8f zq8g (ref03_has_p1_G zq8p) := zq8j zq8mΓ fuel
def zq8r : zq8b := zq8k zq8p
theorem zq8s : SpecOk Try.prog 46 (zq8c zq8r) := zq8l zq8mΓ zq8p zq8q

/-- slices.Clone[[]pagewatch/api.Span,pagewatch/api.Span] -/
abbrev zq8t := {β : Type} → (List (Int × Int)) → ((List (Int × Int)) → Option β) → Option β
def zq8u (c : zq8t) : Spec :=
  ⟨[(false, [.data (.slice (.prod (.int .i64) (.int .i64)))])], [], [(false, [.rowh 0])], [.row 30 (.prod (.int .i64) (.int .i64))], fun x k => c x.1.1.1 (fun r0 => k (((), ()), (r0, ())))⟩
def zq8v : zq8t := fun l k => cloneF (.prod (.int .i64) (.int .i64)) 16 l k
theorem zq8w : SpecOk Try.prog 48 (zq8u zq8v) :=
  clone_ok (et := 30) (e := (.prod (.int .i64) (.int .i64))) (bytes := 16) (by kernel_rfl)
    (spec_exec (X := ⟨look tab, pick1 [], false, false, false⟩) (Λ := pick1 []) (rs := [.tmp 2]) (c := bodyOf Try.f48) mixed tab_ok ΓOk_nil Try.func48 (by kernel_rfl) (by kernel_rfl) (by kernel_rfl) (by kernel_rfl) CutsOk_nil (fun x k r h => Eq.trans (b := (clone1S 30 (.prod (.int .i64) (.int .i64)) 16).run x k) (by kernel_rfl) h))
    (spec_exec (X := ⟨look tab, pick1 [], false, false, false⟩) (Λ := pick1 []) (rs := [.tmp 2]) (c := bodyOf Try.f48) mixed tab_ok ΓOk_nil Try.func48 (by kernel_rfl) (by kernel_rfl) (by kernel_rfl) (by kernel_rfl) CutsOk_nil (fun x k r h => Eq.trans (b := (clone2S 30 (.prod (.int .i64) (.int .i64))).run x k) (by kernel_rfl) h))

/-- pagewatch/span.Merge$1 -/
abbrev zq8x := {β : Type} → (Int × Int) → (Bool → Option β) → Option β
def zq8y (c : zq8x) : Spec :=
  ⟨[(true, [.data (.prod (.int .i64) (.int .i64))])], [], [(false, [.data .bool])], [], fun x k => c x.1.1.1 (fun r0 => k (((r0, ()), ()), ()))⟩
section
@[reducible] def span_Merge_f1_X : Ctx := ⟨look tab, pick1 [], false, false, false⟩
def zq8z {β : Type} (s : (Int × Int)) (k : (Bool → Option β)) : Option β :=
  k (decide (s.2 ≤ s.1))
theorem zq90 (hΓ : ΓOk Try.prog span_Merge_f1_X.Γ) : SpecOk Try.prog 49 (zq8y (zq8z)) :=
  spec_exec (X := span_Merge_f1_X) (Λ := pick1 []) (rs := [.tmp 2]) (c := bodyOf Try.f49) mixed tab_ok hΓ Try.func49 (by kernel_rfl) (by kernel_rfl) (by kernel_rfl) (by kernel_rfl) CutsOk_nil (fun x k r h => Eq.trans (b := (zq8y (zq8z)).run x k) (by kernel_rfl) h)
end
theorem zq91Γ : ΓOk Try.prog (pick1 []) := ΓOk_nil
def zq92 : zq8x := zq8z
theorem zq93 : SpecOk Try.prog 49 (zq8y zq92) := zq90 zq91Γ

/-- pagewatch/span.First -/
abbrev zq94 := {β : Type} → (List (Int × Int)) → Int → (Int → Bool → Option β) → Option β
def zq95 (c : zq94) : Spec :=
  ⟨[(false, [.data (.slice (.prod (.int .i64) (.int .i64)))]), (false, [.data (.int .i64)])], [], [(false, [.data (.int .i64)]), (false, [.data .bool])], [], fun x k => c x.1.1.1 x.1.2.1.1 (fun r0 r1 => k (((r0, ()), (r1, ()), ()), ()))⟩
noncomputable def span_First_p1_code : Code := codeAt 58 (bodyOf Try.f15)
abbrev zq96 (β : Type) := Int → Bool → Option β
abbrev zq97 (β : Type) := Unit → Option β
abbrev zq98 := {β : Type} → zq96 β → zq97 β → Int → (List (Int × Int)) → Int → Int → Option β
def zq99 : View := ⟨0, [1, 11, 12, 13], [(false, [.data (.int .i64)]), (false, [.data (.slice (.prod (.int .i64) (.int .i64)))]), (false, [.data (.int .i64)]), (false, [.data (.int .i64)])], []⟩
def zq9a : List (AExit × View) := [(.ret, ⟨0, [4, 5], [(false, [.data (.int .i64)]), (false, [.data .bool])], []⟩), (.exit 0, ⟨0, [], [], []⟩)]
@[reducible] def span_First_p1_G (p : zq98) {β : Type} (d : zq99.den) (ks : Outs.K β zq9a) : Option β :=
  p (fun a0 a1 => ks.1 (((a0, ()), (a1, ()), ()), ())) (fun _ => ks.2.1 ((), ())) d.1.1.1 d.1.2.1.1 d.1.2.2.1.1 d.1.2.2.2.1.1
section
variable (c_span_Valid : zqx)
@[reducible] def span_First_X : Ctx := ⟨look tab, pick1 [(22, .spec (zqy c_span_Valid))], false, false, false⟩
def zq9b {β : Type} (rec : Int → (List (Int × Int)) → Int → Int → Option β) (k1 : zq96 β) (k2 : zq97 β) (x : Int) (t11 : List (Int × Int)) (t12 : Int) (t13 : Int) : Option β :=
  cond (decide (t13 < t12))
  (cond (decide (0 ≤ t13) && decide (t13 < (List.length t11 : Int)))
  (let e : (Int × Int) := List.getD t11 (Int.toNat t13) ((0 : Int), (0 : Int));
  cond (decide (x < e.2))
  (let t : Int := (if e.1 > x then e.1 else x);
  k1 t true)
  (rec x t11 t12 (IntKind.i64.wrap (t13 + (1 : Int)))))
  none)
  (k2 ())
def zq9c {β : Type} : Nat → zq96 β → zq97 β → Int → (List (Int × Int)) → Int → Int → Option β
  | 0 => fun _ _ _ _ _ _ => none
  | i + 1 => fun k1 k2 x t11 t12 t13 => zq9b (zq9c i k1 k2) k1 k2 x t11 t12 t13
theorem zq9d (hΓ : ΓOk Try.prog (span_First_X c_span_Valid).Γ) (i : Nat) : PieceOk Try.prog 26 0 span_First_p1_code zq99 zq9a (span_First_p1_G (zq9c i)) := by
  rw [show span_First_p1_code = .loop (loopBody span_First_p1_code) by kernel_rfl]
  exact piece_loop (X := (span_First_X c_span_Valid)) (p := 1) (Λ := pick1 []) (G := fun i => @fun β d ks => span_First_p1_G (zq9c i) d ks) mixed tab_ok hΓ rfl (by kernel_rfl) CutsOk_nil (fun _ _ => rfl) (fun i => @fun β d ks r h => Eq.trans (b := span_First_p1_G (zq9c (i + 1)) d ks) (by kernel_rfl) h) i
def zq9e (p1 : zq98) {β : Type} (l : List (Int × Int)) (x : Int) (k : (Int → Bool → Option β)) : Option β :=
  c_span_Valid l (fun (rValid : Bool) =>
  cond (!rValid)
  (k (0 : Int) false)
  (p1 (fun (t4 : Int) (t5 : Bool) =>
  k t4 t5) (fun (_ : Unit) =>
  k (0 : Int) false) x l (List.length l : Int) (0 : Int)))
theorem zq9f (hΓ : ΓOk Try.prog (span_First_X c_span_Valid).Γ) (p1 : zq98) (hp1 : PieceOk Try.prog 26 0 span_First_p1_code zq99 zq9a (span_First_p1_G p1)) : SpecOk Try.prog 15 (zq95 (zq9e c_span_Valid p1)) :=
  spec_exec (X := (span_First_X c_span_Valid)) (Λ := pick1 [(58, pieceCut zq99 zq9a (span_First_p1_G p1))]) (rs := [.tmp 4, .tmp 5]) (c := bodyOf Try.f15) mixed tab_ok hΓ Try.func15 (by kernel_rfl) (by kernel_rfl) (by kernel_rfl) (by kernel_rfl) (CutsOk_cons (q := 58) (c' := span_First_p1_code) (by kernel_rfl) rfl hp1 CutsOk_nil) (fun x k r h => Eq.trans (b := (zq95 (zq9e c_span_Valid p1)).run x k) (by kernel_rfl) h)
end
theorem zq9gΓ : ΓOk Try.prog (pick1 [(22, .spec (zqy zq1e))]) := (ΓOk_cons zq1f ΓOk_nil)
def zq9h (m : Nat) : zq98 := zq9c m
theorem zq9i {β : Type} (i : Nat) (k1 k2 x t11 t12 t13) : (zq9h (i + 1) k1 k2 x t11 t12 t13 : Option β) = zq9b (zq9h i k1 k2) k1 k2 x t11 t12 t13 := rfl
def zq9j : zq98 := zq9h fuel
theorem zq9k : PieceOk Try.prog 26 0 span_First_p1_code zq99 zq9a (span_First_p1_G zq9j) := zq9d zq1e zq9gΓ fuel
def zq9l : zq94 := zq9e zq1e zq9j
theorem zq9m : SpecOk Try.prog 15 (zq95 zq9l) := zq9f zq1e zq9gΓ zq9j zq9k

/-- pagewatch/span.Gap -/
abbrev zq9n := {β : Type} → (List (Int × Int)) → Int → (Int → Option β) → Option β
def zq9o (c : zq9n) : Spec :=
  ⟨[(false, [.data (.slice (.prod (.int .i64) (.int .i64)))]), (false, [.data (.int .i64)])], [], [(false, [.data (.int .i64)])], [], fun x k => c x.1.1.1 x.1.2.1.1 (fun r0 => k (((r0, ()), ()), ()))⟩
noncomputable def span_Gap_p1_code : Code := codeAt 58 (bodyOf Try.f16)
abbrev zq9p (β : Type) := Int → Option β
abbrev zq9q (β : Type) := Int → Option β
abbrev zq9r := {β : Type} → zq9p β → zq9q β → Int → (List (Int × Int)) → Int → Int → Option β
def zq9s : View := ⟨0, [1, 11, 12, 13], [(false, [.data (.int .i64)]), (false, [.data (.slice (.prod (.int .i64) (.int .i64)))]), (false, [.data (.int .i64)]), (false, [.data (.int .i64)])], []⟩
def zq9t : List (AExit × View) := [(.ret, ⟨0, [4], [(false, [.data (.int .i64)])], []⟩), (.exit 0, ⟨0, [1], [(false, [.data (.int .i64)])], []⟩)]
@[reducible] def span_Gap_p1_G (p : zq9r) {β : Type} (d : zq9s.den) (ks : Outs.K β zq9t) : Option β :=
  p (fun a0 => ks.1 (((a0, ()), ()), ())) (fun a0 => ks.2.1 (((a0, ()), ()), ())) d.1.1.1 d.1.2.1.1 d.1.2.2.1.1 d.1.2.2.2.1.1
section
variable (c_span_Valid : zqx)
@[reducible] def span_Gap_X : Ctx := ⟨look tab, pick1 [(22, .spec (zqy c_span_Valid))], false, false, false⟩
def zq9u {β : Type} (rec : Int → (List (Int × Int)) → Int → Int → Option β) (k1 : zq9p β) (k2 : zq9q β) (x : Int) (t11 : List (Int × Int)) (t12 : Int) (t13 : Int) : Option β :=
  cond (decide (t13 < t12))
  (cond (decide (0 ≤ t13) && decide (t13 < (List.length t11 : Int)))
  (let e : (Int × Int) := List.getD t11 (Int.toNat t13) ((0 : Int), (0 : Int));
  cond (decide (e.1 ≤ x))
  (cond (decide (x < e.2))
  (k1 e.2)
  (rec x t11 t12 (IntKind.i64.wrap (t13 + (1 : Int)))))
  (rec x t11 t12 (IntKind.i64.wrap (t13 + (1 : Int)))))
  none)
  (k2 x)
def zq9v {β : Type} : Nat → zq9p β → zq9q β → Int → (List (Int × Int)) → Int → Int → Option β
  | 0 => fun _ _ _ _ _ _ => none
  | i + 1 => fun k1 k2 x t11 t12 t13 => zq9u (zq9v i k1 k2) k1 k2 x t11 t12 t13
theorem zq9w (hΓ : ΓOk Try.prog (span_Gap_X c_span_Valid).Γ) (i : Nat) : PieceOk Try.prog 31 0 span_Gap_p1_code zq9s zq9t (span_Gap_p1_G (zq9v i)) := by
  rw [show span_Gap_p1_code = .loop (loopBody span_Gap_p1_code) by kernel_rfl]
  exact piece_loop (X := (span_Gap_X c_span_Valid)) (p := 1) (Λ := pick1 []) (G := fun i => @fun β d ks => span_Gap_p1_G (zq9v i) d ks) mixed tab_ok hΓ rfl (by kernel_rfl) CutsOk_nil (fun _ _ => rfl) (fun i => @fun β d ks r h => Eq.trans (b := span_Gap_p1_G (zq9v (i + 1)) d ks) (by kernel_rfl) h) i
def zq9x (p1 : zq9r) {β : Type} (l : List (Int × Int)) (x : Int) (k : (Int → Option β)) : Option β :=
  c_span_Valid l (fun (rValid : Bool) =>
  cond (!rValid)
  (k x)
  (p1 (fun (t4 : Int) =>
  k t4) (fun (x2 : Int) =>
  k x2) x l (List.length l : Int) (0 : Int)))
theorem zq9y (hΓ : ΓOk Try.prog (span_Gap_X c_span_Valid).Γ) (p1 : zq9r) (hp1 : PieceOk Try.prog 31 0 span_Gap_p1_code zq9s zq9t (span_Gap_p1_G p1)) : SpecOk Try.prog 16 (zq9o (zq9x c_span_Valid p1)) :=
  spec_exec (X := (span_Gap_X c_span_Valid)) (Λ := pick1 [(58, pieceCut zq9s zq9t (span_Gap_p1_G p1))]) (rs := [.tmp 4]) (c := bodyOf Try.f16) mixed tab_ok hΓ Try.func16 (by kernel_rfl) (by kernel_rfl) (by kernel_rfl) (by kernel_rfl) (CutsOk_cons (q := 58) (c' := span_Gap_p1_code) (by kernel_rfl) rfl hp1 CutsOk_nil) (fun x k r h => Eq.trans (b := (zq9o (zq9x c_span_Valid p1)).run x k) (by kernel_rfl) h)
end
theorem zq9zΓ : ΓOk Try.prog (pick1 [(22, .spec (zqy zq1e))]) := (ΓOk_cons zq1f ΓOk_nil)
def zqa0 (m : Nat) : zq9r := zq9v m
theorem zqa1 {β : Type} (i : Nat) (k1 k2 x t11 t12 t13) : (zqa0 (i + 1) k1 k2 x t11 t12 t13 : Option β) = zq9u (zqa0 i k1 k2) k1 k2 x t11 t12 t13 := rfl
def zqa2 : zq9r := zqa0 fuel
theorem zqa3 : PieceOk Try.prog 31 0 span_Gap_p1_code zq9s zq9t (span_Gap_p1_G zqa2) := zq9w zq1e zq9zΓ fuel
def zqa4 : zq9n := zq9x zq1e zqa2
theorem zqa5 : SpecOk Try.prog 16 (zq9o zqa4) := zq9y zq1e zq9zΓ zqa2 zqa3

/-- pagewatch/span.Clip -/
abbrev zqa6 := {β : Type} → (List (Int × Int)) → Int → Int → (Int → (List (Int × Int)) → Option β) → Option β
def zqa7 (c : zqa6) : Spec :=
  ⟨[(false, [.data (.slice (.prod (.int .i64) (.int .i64)))]), (false, [.data (.int .i64)]), (false, [.data (.int .i64)])], [], [(false, [.rowh 0]), (false, [.data (.int .i64)])], [.row 30 (.prod (.int .i64) (.int .i64))], fun x k => c x.1.1.1 x.1.2.1.1 x.1.2.2.1.1 (fun r0 r1 => k (((), (r0, ()), ()), (r1, ())))⟩
section
variable (c_span_Common : zq54) (c_span_Valid : zqx)
@[reducible] def span_Clip_X : Ctx := ⟨look tab, pick1 [(42, .spec (zq55 c_span_Common)), (22, .spec (zqy c_span_Valid))], false, false, false⟩
def zqa8 {β : Type} (l : List (Int × Int)) (from_ : Int) (to_ : Int) (k : (Int → (List (Int × Int)) → Option β)) : Option β :=
  c_span_Valid l (fun (rValid : Bool) =>
  cond (!rValid)
  (k (8 : Int) ([] : List (Int × Int)))
  (cond (decide (to_ ≤ from_))
  (k (0 : Int) ([] : List (Int × Int)))
  (let l2 : List (Int × Int) := ([(from_, to_)] : List (Int × Int));
  c_span_Common l l2 (fun (lrCommon : List (Int × Int)) =>
  k (0 : Int) lrCommon))))
theorem zqa9 (hΓ : ΓOk Try.prog (span_Clip_X c_span_Common c_span_Valid).Γ) : SpecOk Try.prog 21 (zqa7 (zqa8 c_span_Common c_span_Valid)) :=
  spec_exec (X := (span_Clip_X c_span_Common c_span_Valid)) (Λ := pick1 []) (rs := [.tmp 6, .tmp 7]) (c := bodyOf Try.f21) mixed tab_ok hΓ Try.func21 (by kernel_rfl) (by kernel_rfl) (by kernel_rfl) (by kernel_rfl) CutsOk_nil (fun x k r h => Eq.trans (b := (zqa7 (zqa8 c_span_Common c_span_Valid)).run x k) (by kernel_rfl) h)
end
theorem zqaaΓ : ΓOk Try.prog (pick1 [(42, .spec (zq55 zq5t)), (22, .spec (zqy zq1e))]) := (ΓOk_cons zq5u (ΓOk_cons zq1f ΓOk_nil))
def zqab : zqa6 := zqa8 zq5t zq1e
theorem zqac : SpecOk Try.prog 21 (zqa7 zqab) := zqa9 zq5t zq1e zqaaΓ

/-- pagewatch/pagewatchref03.Normal -/
abbrev zqad := {β : Type} → (List (Int × Int)) → (Int → (List (Int × Int)) → Option β) → Option β
def zqae (c : zqad) : Spec :=
  ⟨[(false, [.data (.slice (.prod (.int .i64) (.int .i64)))])], [], [(false, [.rowh 0]), (false, [.data (.int .i64)])], [.row 30 (.prod (.int .i64) (.int .i64))], fun x k => c x.1.1.1 (fun r0 r1 => k (((), (r0, ()), ()), (r1, ())))⟩
noncomputable def ref03_Normal_p1_code : Code := codeAt 250 (bodyOf Try.f24)
noncomputable def ref03_Normal_p5_code : Code := codeAt 4090 (bodyOf Try.f24)
noncomputable def ref03_Normal_p2_code : Code := codeAt 207 (loopBody ref03_Normal_p5_code)
noncomputable def ref03_Normal_p3_code : Code := codeAt 103 (loopBody ref03_Normal_p5_code)
noncomputable def ref03_Normal_p4_code : Code := codeAt 205 (loopBody ref03_Normal_p5_code)
abbrev zqaf (β : Type) := Int → (List (Int × Int)) → Option β
abbrev zqag (β : Type) := (List Int) → (List (Int × Int)) → (List (Int × Int)) → Option β
abbrev zqah := {β : Type} → zqaf β → zqag β → (List (Int × Int)) → Int → (List Int) → (List (Int × Int)) → (List (Int × Int)) → Option β
def zqai : View := ⟨0, [0, 4, 5, 6, 7], [(false, [.data (.slice (.prod (.int .i64) (.int .i64)))]), (false, [.rowh 0]), (false, [.maph 1]), (false, [.maph 2]), (false, [.data (.int .i64)])], [.row 3 (.int .i64), .map 59 (.int .i64) (.int .i64) false, .map 59 (.int .i64) (.int .i64) false]⟩
def zqaj : List (AExit × View) := [(.ret, ⟨0, [2, 3], [(false, [.rowh 0]), (false, [.data (.int .i64)])], [.row 30 (.prod (.int .i64) (.int .i64))]⟩), (.exit 0, ⟨0, [4, 5, 6], [(false, [.rowh 0]), (false, [.maph 1]), (false, [.maph 2])], [.row 3 (.int .i64), .map 59 (.int .i64) (.int .i64) false, .map 59 (.int .i64) (.int .i64) false]⟩)]
@[reducible] def ref03_Normal_p1_G (p : zqah) {β : Type} (d : zqai.den) (ks : Outs.K β zqaj) : Option β :=
  p (fun a0 a1 => ks.1 (((), (a0, ()), ()), (a1, ()))) (fun a0 a1 a2 => ks.2.1 (((), (), (), ()), (a0, a1, a2, ()))) d.1.1.1 d.1.2.2.2.2.1.1 d.2.1 d.2.2.1 d.2.2.2.1
abbrev zqak (β : Type) := Int → Int → (List Int) → (List (Int × Int)) → (List (Int × Int)) → (List (Int × Int)) → Option β
abbrev zqal := {β : Type} → zqak β → Int → Int → Bool → (List Int) → (List (Int × Int)) → (List (Int × Int)) → (List (Int × Int)) → Option β
def zqam : View := ⟨0, [4, 5, 6, 9, 10, 11, 101], [(false, [.rowh 0]), (false, [.maph 1]), (false, [.maph 2]), (false, [.rowh 3]), (false, [.data (.int .i64)]), (false, [.data (.int .i64)]), (false, [.data .bool])], [.row 3 (.int .i64), .map 59 (.int .i64) (.int .i64) false, .map 59 (.int .i64) (.int .i64) false, .row 30 (.prod (.int .i64) (.int .i64))]⟩
def zqan : List (AExit × View) := [(.normal, ⟨0, [4, 5, 6, 9, 10, 11], [(false, [.rowh 0]), (false, [.maph 1]), (false, [.maph 2]), (false, [.rowh 3]), (false, [.data (.int .i64)]), (false, [.data (.int .i64)])], [.row 3 (.int .i64), .map 59 (.int .i64) (.int .i64) false, .map 59 (.int .i64) (.int .i64) false, .row 30 (.prod (.int .i64) (.int .i64))]⟩)]
@[reducible] def ref03_Normal_p2_G (p : zqal) {β : Type} (d : zqam.den) (ks : Outs.K β zqan) : Option β :=
  p (fun a0 a1 a2 a3 a4 a5 => ks.1 (((), (), (), (), (a0, ()), (a1, ()), ()), (a2, a3, a4, a5, ()))) d.1.2.2.2.2.1.1 d.1.2.2.2.2.2.1.1 d.1.2.2.2.2.2.2.1.1 d.2.1 d.2.2.1 d.2.2.2.1 d.2.2.2.2.1
abbrev zqao (β : Type) := Int → Int → (List Int) → (List (Int × Int)) → (List (Int × Int)) → (List (Int × Int)) → Option β
abbrev zqap := {β : Type} → zqao β → Int → Int → Int → (List Int) → (List (Int × Int)) → (List (Int × Int)) → (List (Int × Int)) → Option β
def zqaq : View := ⟨0, [4, 5, 6, 9, 10, 11, 12], [(false, [.rowh 0]), (false, [.maph 1]), (false, [.maph 2]), (false, [.rowh 3]), (false, [.data (.int .i64)]), (false, [.data (.int .i64)]), (false, [.data (.int .i64)])], [.row 3 (.int .i64), .map 59 (.int .i64) (.int .i64) false, .map 59 (.int .i64) (.int .i64) false, .row 30 (.prod (.int .i64) (.int .i64))]⟩
def zqar : List (AExit × View) := [(.normal, ⟨0, [4, 5, 6, 9, 10, 11], [(false, [.rowh 0]), (false, [.maph 1]), (false, [.maph 2]), (false, [.rowh 3]), (false, [.data (.int .i64)]), (false, [.data (.int .i64)])], [.row 3 (.int .i64), .map 59 (.int .i64) (.int .i64) false, .map 59 (.int .i64) (.int .i64) false, .row 30 (.prod (.int .i64) (.int .i64))]⟩)]
@[reducible] def ref03_Normal_p3_G (p : zqap) {β : Type} (d : zqaq.den) (ks : Outs.K β zqar) : Option β :=
  p (fun a0 a1 a2 a3 a4 a5 => ks.1 (((), (), (), (), (a0, ()), (a1, ()), ()), (a2, a3, a4, a5, ()))) d.1.2.2.2.2.1.1 d.1.2.2.2.2.2.1.1 d.1.2.2.2.2.2.2.1.1 d.2.1 d.2.2.1 d.2.2.2.1 d.2.2.2.2.1
abbrev zqas (β : Type) := Int → Int → Int → (List Int) → (List (Int × Int)) → (List (Int × Int)) → (List (Int × Int)) → Option β
abbrev zqat := {β : Type} → zqas β → Int → Int → Int → Bool → (List Int) → (List (Int × Int)) → (List (Int × Int)) → (List (Int × Int)) → Option β
def zqau : View := ⟨0, [4, 5, 6, 9, 10, 11, 12, 87], [(false, [.rowh 0]), (false, [.maph 1]), (false, [.maph 2]), (false, [.rowh 3]), (false, [.data (.int .i64)]), (false, [.data (.int .i64)]), (false, [.data (.int .i64)]), (false, [.data .bool])], [.row 3 (.int .i64), .map 59 (.int .i64) (.int .i64) false, .map 59 (.int .i64) (.int .i64) false, .row 30 (.prod (.int .i64) (.int .i64))]⟩
def zqav : List (AExit × View) := [(.normal, ⟨0, [4, 5, 6, 9, 10, 11, 12], [(false, [.rowh 0]), (false, [.maph 1]), (false, [.maph 2]), (false, [.rowh 3]), (false, [.data (.int .i64)]), (false, [.data (.int .i64)]), (false, [.data (.int .i64)])], [.row 3 (.int .i64), .map 59 (.int .i64) (.int .i64) false, .map 59 (.int .i64) (.int .i64) false, .row 30 (.prod (.int .i64) (.int .i64))]⟩)]
@[reducible] def ref03_Normal_p4_G (p : zqat) {β : Type} (d : zqau.den) (ks : Outs.K β zqav) : Option β :=
  p (fun a0 a1 a2 a3 a4 a5 a6 => ks.1 (((), (), (), (), (a0, ()), (a1, ()), (a2, ()), ()), (a3, a4, a5, a6, ()))) d.1.2.2.2.2.1.1 d.1.2.2.2.2.2.1.1 d.1.2.2.2.2.2.2.1.1 d.1.2.2.2.2.2.2.2.1.1 d.2.1 d.2.2.1 d.2.2.2.1 d.2.2.2.2.1
abbrev zqaw (β : Type) := (List (Int × Int)) → Option β
abbrev zqax := {β : Type} → zqaw β → Int → Int → (List Int) → (List (Int × Int)) → (List (Int × Int)) → (List (Int × Int)) → Option β
def zqay : View := ⟨0, [4, 5, 6, 9, 10, 11], [(false, [.rowh 0]), (false, [.maph 1]), (false, [.maph 2]), (false, [.rowh 3]), (false, [.data (.int .i64)]), (false, [.data (.int .i64)])], [.row 3 (.int .i64), .map 59 (.int .i64) (.int .i64) false, .map 59 (.int .i64) (.int .i64) false, .row 30 (.prod (.int .i64) (.int .i64))]⟩
def zqaz : List (AExit × View) := [(.exit 2, ⟨0, [9], [(false, [.rowh 0])], [.row 30 (.prod (.int .i64) (.int .i64))]⟩)]
@[reducible] def ref03_Normal_p5_G (p : zqax) {β : Type} (d : zqay.den) (ks : Outs.K β zqaz) : Option β :=
  p (fun a0 => ks.1 (((), ()), (a0, ()))) d.1.2.2.2.2.1.1 d.1.2.2.2.2.2.1.1 d.2.1 d.2.2.1 d.2.2.2.1 d.2.2.2.2.1
section
variable (c_ref03_Sort : zq6z)
@[reducible] def ref03_Normal_X : Ctx := ⟨look tab, pick1 [(44, .spec (zq70 c_ref03_Sort))], false, false, false⟩
def zqb0 {β : Type} (rec : (List (Int × Int)) → Int → (List Int) → (List (Int × Int)) → (List (Int × Int)) → Option β) (k1 : zqaf β) (k2 : zqag β) (l : List (Int × Int)) (i_ : Int) (at_ : List Int) (open_ : List (Int × Int)) (shut : List (Int × Int)) : Option β :=
  cond (decide (i_ < (List.length l : Int)))
  (cond (decide (0 ≤ i_) && decide (i_ < (List.length l : Int)))
  (let e : (Int × Int) := List.getD l (Int.toNat i_) ((0 : Int), (0 : Int));
  cond (decide (e.2 ≤ e.1))
  (let i_2 : Int := (IntKind.i64.wrap (i_ + (1 : Int)));
  rec l i_2 at_ open_ shut)
  (cond (decide (e.1 < (0 : Int)))
  (k1 (1 : Int) ([] : List (Int × Int)))
  (cond (decide ((8589934592 : Int) < e.2))
  (k1 (1 : Int) ([] : List (Int × Int)))
  (let l2 : List Int := ([e.1, e.2] : List Int);
  cond (decide ((List.length at_ + List.length l2) * 8 ≤ roomMax))
  (let l3 : List Int := (at_ ++ l2);
  let g : Int := (mGet (.int .i64) open_ e.1 (0 : Int));
  let m_ : List (Int × Int) := (mPut (.int .i64) open_ e.1 (IntKind.i64.wrap (g + (1 : Int))));
  let g2 : Int := (mGet (.int .i64) shut e.2 (0 : Int));
  let m_2 : List (Int × Int) := (mPut (.int .i64) shut e.2 (IntKind.i64.wrap (g2 + (1 : Int))));
  let i_2 : Int := (IntKind.i64.wrap (i_ + (1 : Int)));
  rec l i_2 l3 m_ m_2)
  none))))
  none)
  (k2 at_ open_ shut)
def zqb1 {β : Type} : Nat → zqaf β → zqag β → (List (Int × Int)) → Int → (List Int) → (List (Int × Int)) → (List (Int × Int)) → Option β
  | 0 => fun _ _ _ _ _ _ _ => none
  | i + 1 => fun k1 k2 l i_ at_ open_ shut => zqb0 (zqb1 i k1 k2) k1 k2 l i_ at_ open_ shut
theorem zqb2 (hΓ : ΓOk Try.prog (ref03_Normal_X c_ref03_Sort).Γ) (i : Nat) : PieceOk Try.prog 113 0 ref03_Normal_p1_code zqai zqaj (ref03_Normal_p1_G (zqb1 i)) := by
  rw [show ref03_Normal_p1_code = .loop (loopBody ref03_Normal_p1_code) by kernel_rfl]
  exact piece_loop (X := (ref03_Normal_X c_ref03_Sort)) (p := 1) (Λ := pick1 []) (G := fun i => @fun β d ks => ref03_Normal_p1_G (zqb1 i) d ks) mixed tab_ok hΓ rfl (by kernel_rfl) CutsOk_nil (fun _ _ => rfl) (fun i => @fun β d ks r h => Eq.trans (b := ref03_Normal_p1_G (zqb1 (i + 1)) d ks) (by kernel_rfl) h) i
def zqb3 {β : Type} (k1 : zqak β) (depth : Int) (i_ : Int) (t101 : Bool) (at_ : List Int) (open_ : List (Int × Int)) (shut : List (Int × Int)) (out : List (Int × Int)) : Option β :=
  cond t101
  (cond (decide (0 ≤ i_) && decide (i_ < (List.length at_ : Int)))
  (cond (decide (0 ≤ (IntKind.i64.wrap ((List.length out : Int) - (1 : Int)))) && decide ((IntKind.i64.wrap ((List.length out : Int) - (1 : Int))) < (List.length out : Int)))
  (let l : List (Int × Int) := (List.set out (Int.toNat (IntKind.i64.wrap ((List.length out : Int) - (1 : Int)))) ((List.getD out (Int.toNat (IntKind.i64.wrap ((List.length out : Int) - (1 : Int)))) ((0 : Int), (0 : Int))).1, (List.getD at_ (Int.toNat i_) (0 : Int))));
  k1 depth i_ at_ open_ shut l)
  none)
  none)
  (k1 depth i_ at_ open_ shut out)
def zqb4 {β : Type} (k1 : zqak β) (depth : Int) (i_ : Int) (t101 : Bool) (at_ : List Int) (open_ : List (Int × Int)) (shut : List (Int × Int)) (out : List (Int × Int)) : Option β := zqb3 k1 depth i_ t101 at_ open_ shut out
theorem zqb5 (hΓ : ΓOk Try.prog (ref03_Normal_X c_ref03_Sort).Γ) : PieceOk Try.prog 113 0 ref03_Normal_p2_code zqam zqan (ref03_Normal_p2_G (zqb4)) :=
  piece_exec (X := (ref03_Normal_X c_ref03_Sort)) (p := 207) (Λ := pick1 []) mixed tab_ok hΓ (by kernel_rfl) CutsOk_nil (fun d ks r h => Eq.trans (b := ref03_Normal_p2_G (zqb4) d ks) (by kernel_rfl) h)
def zqb6 (p2 : zqal) {β : Type} (k1 : zqao β) (depth : Int) (i_ : Int) (before : Int) (at_ : List Int) (open_ : List (Int × Int)) (shut : List (Int × Int)) (out : List (Int × Int)) : Option β :=
  cond (decide ((0 : Int) < before))
  (p2 (fun (depth2 : Int) (i_2 : Int) (at_2 : List Int) (open_2 : List (Int × Int)) (shut2 : List (Int × Int)) (out2 : List (Int × Int)) =>
  k1 depth2 i_2 at_2 open_2 shut2 out2) depth i_ (decide (depth = (0 : Int))) at_ open_ shut out)
  (p2 (fun (depth2 : Int) (i_2 : Int) (at_2 : List Int) (open_2 : List (Int × Int)) (shut2 : List (Int × Int)) (out2 : List (Int × Int)) =>
  k1 depth2 i_2 at_2 open_2 shut2 out2) depth i_ false at_ open_ shut out)
def zqb7 (p2 : zqal) {β : Type} (k1 : zqao β) (depth : Int) (i_ : Int) (before : Int) (at_ : List Int) (open_ : List (Int × Int)) (shut : List (Int × Int)) (out : List (Int × Int)) : Option β := zqb6 p2 k1 depth i_ before at_ open_ shut out
theorem zqb8 (hΓ : ΓOk Try.prog (ref03_Normal_X c_ref03_Sort).Γ) (p2 : zqal) (hp2 : PieceOk Try.prog 113 0 ref03_Normal_p2_code zqam zqan (ref03_Normal_p2_G p2)) : PieceOk Try.prog 113 0 ref03_Normal_p3_code zqaq zqar (ref03_Normal_p3_G (zqb7 p2)) :=
  piece_exec (X := (ref03_Normal_X c_ref03_Sort)) (p := 103) (Λ := pick1 [(207, pieceCut zqam zqan (ref03_Normal_p2_G p2))]) mixed tab_ok hΓ (by kernel_rfl) (CutsOk_cons (q := 207) (c' := ref03_Normal_p2_code) (by kernel_rfl) rfl hp2 CutsOk_nil) (fun d ks r h => Eq.trans (b := ref03_Normal_p3_G (zqb7 p2) d ks) (by kernel_rfl) h)
def zqb9 {β : Type} (k1 : zqas β) (depth : Int) (i_ : Int) (before : Int) (t87 : Bool) (at_ : List Int) (open_ : List (Int × Int)) (shut : List (Int × Int)) (out : List (Int × Int)) : Option β :=
  cond t87
  (cond (decide (0 ≤ i_) && decide (i_ < (List.length at_ : Int)))
  (let l : List (Int × Int) := ([((List.getD at_ (Int.toNat i_) (0 : Int)), (0 : Int))] : List (Int × Int));
  cond (decide ((List.length out + List.length l) * 16 ≤ roomMax))
  (let l2 : List (Int × Int) := (out ++ l);
  k1 depth i_ before at_ open_ shut l2)
  none)
  none)
  (k1 depth i_ before at_ open_ shut out)
def zqba {β : Type} (k1 : zqas β) (depth : Int) (i_ : Int) (before : Int) (t87 : Bool) (at_ : List Int) (open_ : List (Int × Int)) (shut : List (Int × Int)) (out : List (Int × Int)) : Option β := zqb9 k1 depth i_ before t87 at_ open_ shut out
theorem zqbb (hΓ : ΓOk Try.prog (ref03_Normal_X c_ref03_Sort).Γ) : PieceOk Try.prog 113 0 ref03_Normal_p4_code zqau zqav (ref03_Normal_p4_G (zqba)) :=
  piece_exec (X := (ref03_Normal_X c_ref03_Sort)) (p := 205) (Λ := pick1 []) mixed tab_ok hΓ (by kernel_rfl) CutsOk_nil (fun d ks r h => Eq.trans (b := ref03_Normal_p4_G (zqba) d ks) (by kernel_rfl) h)
def zqbc (p3 : zqap) (p4 : zqat) {β : Type} (rec : Int → Int → (List Int) → (List (Int × Int)) → (List (Int × Int)) → (List (Int × Int)) → Option β) (k1 : zqaw β) (depth : Int) (i_ : Int) (at_ : List Int) (open_ : List (Int × Int)) (shut : List (Int × Int)) (out : List (Int × Int)) : Option β :=
  cond (decide (i_ < (List.length at_ : Int)))
  (cond (decide (0 ≤ i_) && decide (i_ < (List.length at_ : Int)))
  (let g : Int := (mGet (.int .i64) open_ (List.getD at_ (Int.toNat i_) (0 : Int)) (0 : Int));
  cond (decide (0 ≤ i_) && decide (i_ < (List.length at_ : Int)))
  (let g2 : Int := (mGet (.int .i64) shut (List.getD at_ (Int.toNat i_) (0 : Int)) (0 : Int));
  let depth2 : Int := (IntKind.i64.wrap (depth + (IntKind.i64.wrap (g - g2))));
  cond (decide (depth = (0 : Int)))
  (p4 (fun (depth3 : Int) (i_2 : Int) (before : Int) (at_2 : List Int) (open_2 : List (Int × Int)) (shut2 : List (Int × Int)) (out2 : List (Int × Int)) =>
  p3 (fun (depth4 : Int) (i_3 : Int) (at_3 : List Int) (open_3 : List (Int × Int)) (shut3 : List (Int × Int)) (out3 : List (Int × Int)) =>
  let i_4 : Int := (IntKind.i64.wrap (i_3 + (1 : Int)));
  rec depth4 i_4 at_3 open_3 shut3 out3) depth3 i_2 before at_2 open_2 shut2 out2) depth2 i_ depth (decide ((0 : Int) < depth2)) at_ open_ shut out)
  (p4 (fun (depth3 : Int) (i_2 : Int) (before : Int) (at_2 : List Int) (open_2 : List (Int × Int)) (shut2 : List (Int × Int)) (out2 : List (Int × Int)) =>
  p3 (fun (depth4 : Int) (i_3 : Int) (at_3 : List Int) (open_3 : List (Int × Int)) (shut3 : List (Int × Int)) (out3 : List (Int × Int)) =>
  let i_4 : Int := (IntKind.i64.wrap (i_3 + (1 : Int)));
  rec depth4 i_4 at_3 open_3 shut3 out3) depth3 i_2 before at_2 open_2 shut2 out2) depth2 i_ depth false at_ open_ shut out))
  none)
  none)
  (k1 out)
def zqbd (p3 : zqap) (p4 : zqat) {β : Type} : Nat → zqaw β → Int → Int → (List Int) → (List (Int × Int)) → (List (Int × Int)) → (List (Int × Int)) → Option β
  | 0 => fun _ _ _ _ _ _ _ => none
  | i + 1 => fun k1 depth i_ at_ open_ shut out => zqbc p3 p4 (zqbd p3 p4 i k1) k1 depth i_ at_ open_ shut out
theorem zqbe (hΓ : ΓOk Try.prog (ref03_Normal_X c_ref03_Sort).Γ) (p3 : zqap) (p4 : zqat) (hp3 : PieceOk Try.prog 113 0 ref03_Normal_p3_code zqaq zqar (ref03_Normal_p3_G p3)) (hp4 : PieceOk Try.prog 113 0 ref03_Normal_p4_code zqau zqav (ref03_Normal_p4_G p4)) (i : Nat) : PieceOk Try.prog 113 0 ref03_Normal_p5_code zqay zqaz (ref03_Normal_p5_G (zqbd p3 p4 i)) := by
  rw [show ref03_Normal_p5_code = .loop (loopBody ref03_Normal_p5_code) by kernel_rfl]
  exact piece_loop (X := (ref03_Normal_X c_ref03_Sort)) (p := 1) (Λ := pick1 [(103, pieceCut zqaq zqar (ref03_Normal_p3_G p3)), (205, pieceCut zqau zqav (ref03_Normal_p4_G p4))]) (G := fun i => @fun β d ks => ref03_Normal_p5_G (zqbd p3 p4 i) d ks) mixed tab_ok hΓ rfl (by kernel_rfl) (CutsOk_cons (q := 103) (c' := ref03_Normal_p3_code) (by kernel_rfl) rfl hp3 (CutsOk_cons (q := 205) (c' := ref03_Normal_p4_code) (by kernel_rfl) rfl hp4 CutsOk_nil)) (fun _ _ => rfl) (fun i => @fun β d ks r h => Eq.trans (b := ref03_Normal_p5_G (zqbd p3 p4 (i + 1)) d ks) (by kernel_rfl) h) i
def zqbf (p1 : zqah) (p5 : zqax) {β : Type} (l : List (Int × Int)) (k : (Int → (List (Int × Int)) → Option β)) : Option β :=
  cond (decide ((4096 : Int) < (List.length l : Int)))
  (k (5 : Int) ([] : List (Int × Int)))
  (let m_ : List (Int × Int) := ([] : List (Int × Int));
  let m_2 : List (Int × Int) := ([] : List (Int × Int));
  p1 (fun (t3 : Int) (t2 : List (Int × Int)) =>
  k t3 t2) (fun (at_ : List Int) (open_ : List (Int × Int)) (shut : List (Int × Int)) =>
  c_ref03_Sort at_ (fun (lrSort : List Int) =>
  p5 (fun (out : List (Int × Int)) =>
  k (0 : Int) out) (0 : Int) (0 : Int) lrSort open_ shut ([] : List (Int × Int)))) l (0 : Int) ([] : List Int) m_ m_2)
theorem zqbg (hΓ : ΓOk Try.prog (ref03_Normal_X c_ref03_Sort).Γ) (p1 : zqah) (p5 : zqax) (hp1 : PieceOk Try.prog 113 0 ref03_Normal_p1_code zqai zqaj (ref03_Normal_p1_G p1)) (hp5 : PieceOk Try.prog 113 0 ref03_Normal_p5_code zqay zqaz (ref03_Normal_p5_G p5)) : SpecOk Try.prog 24 (zqae (zqbf c_ref03_Sort p1 p5)) :=
  spec_exec (X := (ref03_Normal_X c_ref03_Sort)) (Λ := pick1 [(250, pieceCut zqai zqaj (ref03_Normal_p1_G p1)), (4090, pieceCut zqay zqaz (ref03_Normal_p5_G p5))]) (rs := [.tmp 2, .tmp 3]) (c := bodyOf Try.f24) mixed tab_ok hΓ Try.func24 (by kernel_rfl) (by kernel_rfl) (by kernel_rfl) (by kernel_rfl) (CutsOk_cons (q := 250) (c' := ref03_Normal_p1_code) (by kernel_rfl) rfl hp1 (CutsOk_cons (q := 4090) (c' := ref03_Normal_p5_code) (by kernel_rfl) rfl hp5 CutsOk_nil)) (fun x k r h => Eq.trans (b := (zqae (zqbf c_ref03_Sort p1 p5)).run x k) (by kernel_rfl) h)
end
theorem zqbhΓ : ΓOk Try.prog (pick1 [(44, .spec (zq70 zq89))]) := (ΓOk_cons zq8a ΓOk_nil)
def zqbi (m : Nat) : zqah := zqb1 m
theorem zqbj {β : Type} (i : Nat) (k1 k2 l i_ at_ open_ shut) : (zqbi (i + 1) k1 k2 l i_ at_ open_ shut : Option β) = zqb0 (zqbi i k1 k2) k1 k2 l i_ at_ open_ shut := rfl
def zqbk : zqah := zqbi fuel
theorem zqbl : PieceOk Try.prog 113 0 ref03_Normal_p1_code zqai zqaj (ref03_Normal_p1_G zqbk) := zqb2 zq89 zqbhΓ fuel
def zqbm : zqal := zqb4
theorem zqbn : PieceOk Try.prog 113 0 ref03_Normal_p2_code zqam zqan (ref03_Normal_p2_G zqbm) := zqb5 zq89 zqbhΓ
def zqbo : zqap := zqb7 zqbm
theorem zqbp : PieceOk Try.prog 113 0 ref03_Normal_p3_code zqaq zqar (ref03_Normal_p3_G zqbo) := zqb8 zq89 zqbhΓ zqbm zqbn
def zqbq : zqat := zqba
theorem zqbr : PieceOk Try.prog 113 0 ref03_Normal_p4_code zqau zqav (ref03_Normal_p4_G zqbq) := zqbb zq89 zqbhΓ
def zqbs (m : Nat) : zqax := zqbd zqbo zqbq m
theorem zqbt {β : Type} (i : Nat) (k1 depth i_ at_ open_ shut out) : (zqbs (i + 1) k1 depth i_ at_ open_ shut out : Option β) = zqbc zqbo zqbq (zqbs i k1) k1 depth i_ at_ open_ shut out := rfl
def zqbu : zqax := zqbs fuel
theorem zqbv : PieceOk Try.prog 113 0 ref03_Normal_p5_code zqay zqaz (ref03_Normal_p5_G zqbu) := zqbe zq89 zqbhΓ zqbo zqbq zqbp zqbr fuel
def zqbw : zqad := zqbf zq89 zqbk zqbu
theorem zqbx : SpecOk Try.prog 24 (zqae zqbw) := zqbg zq89 zqbhΓ zqbk zqbu zqbl zqbv

/-- pagewatch/pagewatchref03.Has -/
abbrev zqby := {β : Type} → (List (Int × Int)) → Int → (Bool → Option β) → Option β
def zqbz (c : zqby) : Spec :=
  ⟨[(false, [.data (.slice (.prod (.int .i64) (.int .i64)))]), (false, [.data (.int .i64)])], [], [(false, [.data .bool])], [], fun x k => c x.1.1.1 x.1.2.1.1 (fun r0 => k (((r0, ()), ()), ()))⟩
section
variable (c_ref03_Valid : zq1y) (c_ref03_has : zq8b)
@[reducible] def ref03_Has_X : Ctx := ⟨look tab, pick1 [(25, .spec (zq1z c_ref03_Valid)), (46, .spec (zq8c c_ref03_has))], false, false, false⟩
def zqc0 {β : Type} (l : List (Int × Int)) (x : Int) (k : (Bool → Option β)) : Option β :=
  c_ref03_Valid l (fun (rValid : Bool) =>
  cond rValid
  (c_ref03_has l x (fun (rhas : Bool) =>
  k rhas))
  (k false))
theorem zqc1 (hΓ : ΓOk Try.prog (ref03_Has_X c_ref03_Valid c_ref03_has).Γ) : SpecOk Try.prog 32 (zqbz (zqc0 c_ref03_Valid c_ref03_has)) :=
  spec_exec (X := (ref03_Has_X c_ref03_Valid c_ref03_has)) (Λ := pick1 []) (rs := [.tmp 4]) (c := bodyOf Try.f32) mixed tab_ok hΓ Try.func32 (by kernel_rfl) (by kernel_rfl) (by kernel_rfl) (by kernel_rfl) CutsOk_nil (fun x k r h => Eq.trans (b := (zqbz (zqc0 c_ref03_Valid c_ref03_has)).run x k) (by kernel_rfl) h)
end
theorem zqc2Γ : ΓOk Try.prog (pick1 [(25, .spec (zq1z zq2f)), (46, .spec (zq8c zq8r))]) := (ΓOk_cons zq2g (ΓOk_cons zq8s ΓOk_nil))
def zqc3 : zqby := zqc0 zq2f zq8r
theorem zqc4 : SpecOk Try.prog 32 (zqbz zqc3) := zqc1 zq2f zq8r zqc2Γ

/-- pagewatch/pagewatchref03.combine -/
abbrev zqc5 := {β : Type} → (List (Int × Int)) → (List (Int × Int)) → Int → (Int → (List (Int × Int)) → Option β) → Option β
def zqc6 (c : zqc5) : Spec :=
  ⟨[(false, [.data (.slice (.prod (.int .i64) (.int .i64)))]), (false, [.data (.slice (.prod (.int .i64) (.int .i64)))]), (false, [.data (.int .i64)])], [], [(false, [.rowh 0]), (false, [.data (.int .i64)])], [.row 30 (.prod (.int .i64) (.int .i64))], fun x k => c x.1.1.1 x.1.2.1.1 x.1.2.2.1.1 (fun r0 r1 => k (((), (r0, ()), ()), (r1, ())))⟩
noncomputable def ref03_combine_p1_code : Code := codeAt 122 (bodyOf Try.f45)
noncomputable def ref03_combine_p2_code : Code := codeAt 250 (bodyOf Try.f45)
noncomputable def ref03_combine_p5_code : Code := codeAt 2042 (bodyOf Try.f45)
noncomputable def ref03_combine_p3_code : Code := codeAt 207 (loopBody ref03_combine_p5_code)
noncomputable def ref03_combine_p4_code : Code := codeAt 51 (loopBody ref03_combine_p5_code)
abbrev zqc7 (β : Type) := (List (Int × Int)) → (List (Int × Int)) → Int → (List Int) → Option β
abbrev zqc8 := {β : Type} → zqc7 β → (List (Int × Int)) → (List (Int × Int)) → Int → Int → (List Int) → Option β
def zqc9 : View := ⟨0, [0, 1, 2, 8, 9], [(false, [.data (.slice (.prod (.int .i64) (.int .i64)))]), (false, [.data (.slice (.prod (.int .i64) (.int .i64)))]), (false, [.data (.int .i64)]), (false, [.rowh 0]), (false, [.data (.int .i64)])], [.row 3 (.int .i64)]⟩
def zqca : List (AExit × View) := [(.exit 0, ⟨0, [0, 1, 2, 8], [(false, [.data (.slice (.prod (.int .i64) (.int .i64)))]), (false, [.data (.slice (.prod (.int .i64) (.int .i64)))]), (false, [.data (.int .i64)]), (false, [.rowh 0])], [.row 3 (.int .i64)]⟩)]
@[reducible] def ref03_combine_p1_G (p : zqc8) {β : Type} (d : zqc9.den) (ks : Outs.K β zqca) : Option β :=
  p (fun a0 a1 a2 a3 => ks.1 (((a0, ()), (a1, ()), (a2, ()), (), ()), (a3, ()))) d.1.1.1 d.1.2.1.1 d.1.2.2.1.1 d.1.2.2.2.2.1.1 d.2.1
abbrev zqcb (β : Type) := (List (Int × Int)) → (List (Int × Int)) → Int → (List Int) → Option β
abbrev zqcc := {β : Type} → zqcb β → (List (Int × Int)) → (List (Int × Int)) → Int → Int → (List Int) → Option β
def zqcd : View := ⟨0, [0, 1, 2, 8, 10], [(false, [.data (.slice (.prod (.int .i64) (.int .i64)))]), (false, [.data (.slice (.prod (.int .i64) (.int .i64)))]), (false, [.data (.int .i64)]), (false, [.rowh 0]), (false, [.data (.int .i64)])], [.row 3 (.int .i64)]⟩
def zqce : List (AExit × View) := [(.exit 2, ⟨0, [0, 1, 2, 8], [(false, [.data (.slice (.prod (.int .i64) (.int .i64)))]), (false, [.data (.slice (.prod (.int .i64) (.int .i64)))]), (false, [.data (.int .i64)]), (false, [.rowh 0])], [.row 3 (.int .i64)]⟩)]
@[reducible] def ref03_combine_p2_G (p : zqcc) {β : Type} (d : zqcd.den) (ks : Outs.K β zqce) : Option β :=
  p (fun a0 a1 a2 a3 => ks.1 (((a0, ()), (a1, ()), (a2, ()), (), ()), (a3, ()))) d.1.1.1 d.1.2.1.1 d.1.2.2.1.1 d.1.2.2.2.2.1.1 d.2.1
abbrev zqcf (β : Type) := (List (Int × Int)) → (List (Int × Int)) → Int → Int → (List Int) → (List (Int × Int)) → Option β
abbrev zqcg := {β : Type} → zqcf β → (List (Int × Int)) → (List (Int × Int)) → Int → Int → Int → Bool → (List Int) → (List (Int × Int)) → Option β
def zqch : View := ⟨0, [0, 1, 2, 8, 11, 12, 15, 132], [(false, [.data (.slice (.prod (.int .i64) (.int .i64)))]), (false, [.data (.slice (.prod (.int .i64) (.int .i64)))]), (false, [.data (.int .i64)]), (false, [.rowh 0]), (false, [.rowh 1]), (false, [.data (.int .i64)]), (false, [.data (.int .i64)]), (false, [.data .bool])], [.row 3 (.int .i64), .row 30 (.prod (.int .i64) (.int .i64))]⟩
def zqci : List (AExit × View) := [(.normal, ⟨0, [0, 1, 2, 8, 11, 12], [(false, [.data (.slice (.prod (.int .i64) (.int .i64)))]), (false, [.data (.slice (.prod (.int .i64) (.int .i64)))]), (false, [.data (.int .i64)]), (false, [.rowh 0]), (false, [.rowh 1]), (false, [.data (.int .i64)])], [.row 3 (.int .i64), .row 30 (.prod (.int .i64) (.int .i64))]⟩)]
@[reducible] def ref03_combine_p3_G (p : zqcg) {β : Type} (d : zqch.den) (ks : Outs.K β zqci) : Option β :=
  p (fun a0 a1 a2 a3 a4 a5 => ks.1 (((a0, ()), (a1, ()), (a2, ()), (), (), (a3, ()), ()), (a4, a5, ()))) d.1.1.1 d.1.2.1.1 d.1.2.2.1.1 d.1.2.2.2.2.2.1.1 d.1.2.2.2.2.2.2.1.1 d.1.2.2.2.2.2.2.2.1.1 d.2.1 d.2.2.1
abbrev zqcj (β : Type) := (List (Int × Int)) → (List (Int × Int)) → Int → Int → (List Int) → (List (Int × Int)) → Option β
abbrev zqck := {β : Type} → zqcj β → (List (Int × Int)) → (List (Int × Int)) → Int → Int → (List Int) → (List (Int × Int)) → Option β
def zqcl : View := ⟨0, [0, 1, 2, 8, 11, 12], [(false, [.data (.slice (.prod (.int .i64) (.int .i64)))]), (false, [.data (.slice (.prod (.int .i64) (.int .i64)))]), (false, [.data (.int .i64)]), (false, [.rowh 0]), (false, [.rowh 1]), (false, [.data (.int .i64)])], [.row 3 (.int .i64), .row 30 (.prod (.int .i64) (.int .i64))]⟩
def zqcm : List (AExit × View) := [(.normal, ⟨0, [0, 1, 2, 8, 11, 12], [(false, [.data (.slice (.prod (.int .i64) (.int .i64)))]), (false, [.data (.slice (.prod (.int .i64) (.int .i64)))]), (false, [.data (.int .i64)]), (false, [.rowh 0]), (false, [.rowh 1]), (false, [.data (.int .i64)])], [.row 3 (.int .i64), .row 30 (.prod (.int .i64) (.int .i64))]⟩)]
@[reducible] def ref03_combine_p4_G (p : zqck) {β : Type} (d : zqcl.den) (ks : Outs.K β zqcm) : Option β :=
  p (fun a0 a1 a2 a3 a4 a5 => ks.1 (((a0, ()), (a1, ()), (a2, ()), (), (), (a3, ()), ()), (a4, a5, ()))) d.1.1.1 d.1.2.1.1 d.1.2.2.1.1 d.1.2.2.2.2.2.1.1 d.2.1 d.2.2.1
abbrev zqcn (β : Type) := (List (Int × Int)) → Option β
abbrev zqco := {β : Type} → zqcn β → (List (Int × Int)) → (List (Int × Int)) → Int → Int → (List Int) → (List (Int × Int)) → Option β
def zqcp : View := ⟨0, [0, 1, 2, 8, 11, 12], [(false, [.data (.slice (.prod (.int .i64) (.int .i64)))]), (false, [.data (.slice (.prod (.int .i64) (.int .i64)))]), (false, [.data (.int .i64)]), (false, [.rowh 0]), (false, [.rowh 1]), (false, [.data (.int .i64)])], [.row 3 (.int .i64), .row 30 (.prod (.int .i64) (.int .i64))]⟩
def zqcq : List (AExit × View) := [(.exit 4, ⟨0, [11], [(false, [.rowh 0])], [.row 30 (.prod (.int .i64) (.int .i64))]⟩)]
@[reducible] def ref03_combine_p5_G (p : zqco) {β : Type} (d : zqcp.den) (ks : Outs.K β zqcq) : Option β :=
  p (fun a0 => ks.1 (((), ()), (a0, ()))) d.1.1.1 d.1.2.1.1 d.1.2.2.1.1 d.1.2.2.2.2.2.1.1 d.2.1 d.2.2.1
section
variable (c_ref03_Sort : zq6z) (c_ref03_Valid : zq1y) (c_ref03_has : zq8b)
@[reducible] def ref03_combine_X : Ctx := ⟨look tab, pick1 [(44, .spec (zq70 c_ref03_Sort)), (25, .spec (zq1z c_ref03_Valid)), (46, .spec (zq8c c_ref03_has))], false, false, false⟩
def zqcr {β : Type} (rec : (List (Int × Int)) → (List (Int × Int)) → Int → Int → (List Int) → Option β) (k1 : zqc7 β) (a : List (Int × Int)) (b : List (Int × Int)) (kind : Int) (i_ : Int) (at_ : List Int) : Option β :=
  cond (decide (i_ < (List.length a : Int)))
  (cond (decide (0 ≤ i_) && decide (i_ < (List.length a : Int)))
  (let e : (Int × Int) := List.getD a (Int.toNat i_) ((0 : Int), (0 : Int));
  cond (decide (0 ≤ i_) && decide (i_ < (List.length a : Int)))
  (let e2 : (Int × Int) := List.getD a (Int.toNat i_) ((0 : Int), (0 : Int));
  let l : List Int := ([e.1, e2.2] : List Int);
  cond (decide ((List.length at_ + List.length l) * 8 ≤ roomMax))
  (let l2 : List Int := (at_ ++ l);
  let i_2 : Int := (IntKind.i64.wrap (i_ + (1 : Int)));
  rec a b kind i_2 l2)
  none)
  none)
  none)
  (k1 a b kind at_)
def zqcs {β : Type} : Nat → zqc7 β → (List (Int × Int)) → (List (Int × Int)) → Int → Int → (List Int) → Option β
  | 0 => fun _ _ _ _ _ _ => none
  | i + 1 => fun k1 a b kind i_ at_ => zqcr (zqcs i k1) k1 a b kind i_ at_
theorem zqct (hΓ : ΓOk Try.prog (ref03_combine_X c_ref03_Sort c_ref03_Valid c_ref03_has).Γ) (i : Nat) : PieceOk Try.prog 160 0 ref03_combine_p1_code zqc9 zqca (ref03_combine_p1_G (zqcs i)) := by
  rw [show ref03_combine_p1_code = .loop (loopBody ref03_combine_p1_code) by kernel_rfl]
  exact piece_loop (X := (ref03_combine_X c_ref03_Sort c_ref03_Valid c_ref03_has)) (p := 1) (Λ := pick1 []) (G := fun i => @fun β d ks => ref03_combine_p1_G (zqcs i) d ks) mixed tab_ok hΓ rfl (by kernel_rfl) CutsOk_nil (fun _ _ => rfl) (fun i => @fun β d ks r h => Eq.trans (b := ref03_combine_p1_G (zqcs (i + 1)) d ks) (by kernel_rfl) h) i
def zqcu {β : Type} (rec : (List (Int × Int)) → (List (Int × Int)) → Int → Int → (List Int) → Option β) (k1 : zqcb β) (a : List (Int × Int)) (b : List (Int × Int)) (kind : Int) (i_ : Int) (at_ : List Int) : Option β :=
  cond (decide (i_ < (List.length b : Int)))
  (cond (decide (0 ≤ i_) && decide (i_ < (List.length b : Int)))
  (let e : (Int × Int) := List.getD b (Int.toNat i_) ((0 : Int), (0 : Int));
  cond (decide (0 ≤ i_) && decide (i_ < (List.length b : Int)))
  (let e2 : (Int × Int) := List.getD b (Int.toNat i_) ((0 : Int), (0 : Int));
  let l : List Int := ([e.1, e2.2] : List Int);
  cond (decide ((List.length at_ + List.length l) * 8 ≤ roomMax))
  (let l2 : List Int := (at_ ++ l);
  let i_2 : Int := (IntKind.i64.wrap (i_ + (1 : Int)));
  rec a b kind i_2 l2)
  none)
  none)
  none)
  (k1 a b kind at_)
def zqcv {β : Type} : Nat → zqcb β → (List (Int × Int)) → (List (Int × Int)) → Int → Int → (List Int) → Option β
  | 0 => fun _ _ _ _ _ _ => none
  | i + 1 => fun k1 a b kind i_ at_ => zqcu (zqcv i k1) k1 a b kind i_ at_
theorem zqcw (hΓ : ΓOk Try.prog (ref03_combine_X c_ref03_Sort c_ref03_Valid c_ref03_has).Γ) (i : Nat) : PieceOk Try.prog 160 0 ref03_combine_p2_code zqcd zqce (ref03_combine_p2_G (zqcv i)) := by
  rw [show ref03_combine_p2_code = .loop (loopBody ref03_combine_p2_code) by kernel_rfl]
  exact piece_loop (X := (ref03_combine_X c_ref03_Sort c_ref03_Valid c_ref03_has)) (p := 1) (Λ := pick1 []) (G := fun i => @fun β d ks => ref03_combine_p2_G (zqcv i) d ks) mixed tab_ok hΓ rfl (by kernel_rfl) CutsOk_nil (fun _ _ => rfl) (fun i => @fun β d ks r h => Eq.trans (b := ref03_combine_p2_G (zqcv (i + 1)) d ks) (by kernel_rfl) h) i
def zqcx {β : Type} (k1 : zqcf β) (a : List (Int × Int)) (b : List (Int × Int)) (kind : Int) (i_ : Int) (n : Int) (t132 : Bool) (at_ : List Int) (out : List (Int × Int)) : Option β :=
  cond t132
  (cond (decide (0 ≤ (IntKind.i64.wrap (i_ + (1 : Int)))) && decide ((IntKind.i64.wrap (i_ + (1 : Int))) < (List.length at_ : Int)))
  (cond (decide (0 ≤ (IntKind.i64.wrap (n - (1 : Int)))) && decide ((IntKind.i64.wrap (n - (1 : Int))) < (List.length out : Int)))
  (let l : List (Int × Int) := (List.set out (Int.toNat (IntKind.i64.wrap (n - (1 : Int)))) ((List.getD out (Int.toNat (IntKind.i64.wrap (n - (1 : Int)))) ((0 : Int), (0 : Int))).1, (List.getD at_ (Int.toNat (IntKind.i64.wrap (i_ + (1 : Int)))) (0 : Int))));
  k1 a b kind i_ at_ l)
  none)
  none)
  (cond (decide (0 ≤ i_) && decide (i_ < (List.length at_ : Int)))
  (cond (decide (0 ≤ (IntKind.i64.wrap (i_ + (1 : Int)))) && decide ((IntKind.i64.wrap (i_ + (1 : Int))) < (List.length at_ : Int)))
  (let l : List (Int × Int) := ([((List.getD at_ (Int.toNat i_) (0 : Int)), (List.getD at_ (Int.toNat (IntKind.i64.wrap (i_ + (1 : Int)))) (0 : Int)))] : List (Int × Int));
  cond (decide ((List.length out + List.length l) * 16 ≤ roomMax))
  (let l2 : List (Int × Int) := (out ++ l);
  k1 a b kind i_ at_ l2)
  none)
  none)
  none)
def zqcy {β : Type} (k1 : zqcf β) (a : List (Int × Int)) (b : List (Int × Int)) (kind : Int) (i_ : Int) (n : Int) (t132 : Bool) (at_ : List Int) (out : List (Int × Int)) : Option β := zqcx k1 a b kind i_ n t132 at_ out
theorem zqcz (hΓ : ΓOk Try.prog (ref03_combine_X c_ref03_Sort c_ref03_Valid c_ref03_has).Γ) : PieceOk Try.prog 160 0 ref03_combine_p3_code zqch zqci (ref03_combine_p3_G (zqcy)) :=
  piece_exec (X := (ref03_combine_X c_ref03_Sort c_ref03_Valid c_ref03_has)) (p := 207) (Λ := pick1 []) mixed tab_ok hΓ (by kernel_rfl) CutsOk_nil (fun d ks r h => Eq.trans (b := ref03_combine_p3_G (zqcy) d ks) (by kernel_rfl) h)
def zqd0 (p3 : zqcg) {β : Type} (k1 : zqcj β) (a : List (Int × Int)) (b : List (Int × Int)) (kind : Int) (i_ : Int) (at_ : List Int) (out : List (Int × Int)) : Option β :=
  cond (decide ((0 : Int) < (List.length out : Int)))
  (cond (decide (0 ≤ (IntKind.i64.wrap ((List.length out : Int) - (1 : Int)))) && decide ((IntKind.i64.wrap ((List.length out : Int) - (1 : Int))) < (List.length out : Int)))
  (cond (decide (0 ≤ i_) && decide (i_ < (List.length at_ : Int)))
  (p3 (fun (a2 : List (Int × Int)) (b2 : List (Int × Int)) (kind2 : Int) (i_2 : Int) (at_2 : List Int) (out2 : List (Int × Int)) =>
  k1 a2 b2 kind2 i_2 at_2 out2) a b kind i_ (List.length out : Int) (decide (((List.getD out (Int.toNat (IntKind.i64.wrap ((List.length out : Int) - (1 : Int)))) ((0 : Int), (0 : Int))).2) = (List.getD at_ (Int.toNat i_) (0 : Int)))) at_ out)
  none)
  none)
  (p3 (fun (a2 : List (Int × Int)) (b2 : List (Int × Int)) (kind2 : Int) (i_2 : Int) (at_2 : List Int) (out2 : List (Int × Int)) =>
  k1 a2 b2 kind2 i_2 at_2 out2) a b kind i_ (List.length out : Int) false at_ out)
def zqd1 (p3 : zqcg) {β : Type} (k1 : zqcj β) (a : List (Int × Int)) (b : List (Int × Int)) (kind : Int) (i_ : Int) (at_ : List Int) (out : List (Int × Int)) : Option β := zqd0 p3 k1 a b kind i_ at_ out
theorem zqd2 (hΓ : ΓOk Try.prog (ref03_combine_X c_ref03_Sort c_ref03_Valid c_ref03_has).Γ) (p3 : zqcg) (hp3 : PieceOk Try.prog 160 0 ref03_combine_p3_code zqch zqci (ref03_combine_p3_G p3)) : PieceOk Try.prog 160 0 ref03_combine_p4_code zqcl zqcm (ref03_combine_p4_G (zqd1 p3)) :=
  piece_exec (X := (ref03_combine_X c_ref03_Sort c_ref03_Valid c_ref03_has)) (p := 51) (Λ := pick1 [(207, pieceCut zqch zqci (ref03_combine_p3_G p3))]) mixed tab_ok hΓ (by kernel_rfl) (CutsOk_cons (q := 207) (c' := ref03_combine_p3_code) (by kernel_rfl) rfl hp3 CutsOk_nil) (fun d ks r h => Eq.trans (b := ref03_combine_p4_G (zqd1 p3) d ks) (by kernel_rfl) h)
def zqd3 (p4 : zqck) {β : Type} (rec : (List (Int × Int)) → (List (Int × Int)) → Int → Int → (List Int) → (List (Int × Int)) → Option β) (k1 : zqcn β) (a : List (Int × Int)) (b : List (Int × Int)) (kind : Int) (i_ : Int) (at_ : List Int) (out : List (Int × Int)) : Option β :=
  cond (decide ((IntKind.i64.wrap (i_ + (1 : Int))) < (List.length at_ : Int)))
  (cond (decide (0 ≤ i_) && decide (i_ < (List.length at_ : Int)))
  (c_ref03_has a (List.getD at_ (Int.toNat i_) (0 : Int)) (fun (rhas : Bool) =>
  cond (decide (0 ≤ i_) && decide (i_ < (List.length at_ : Int)))
  (c_ref03_has b (List.getD at_ (Int.toNat i_) (0 : Int)) (fun (rhas2 : Bool) =>
  cond (decide (kind = (1 : Int)))
  (cond (!rhas)
  (cond (!rhas2)
  (let i_2 : Int := (IntKind.i64.wrap (i_ + (1 : Int)));
  rec a b kind i_2 at_ out)
  (cond (decide (kind = (2 : Int)))
  (cond (!rhas)
  (let i_2 : Int := (IntKind.i64.wrap (i_ + (1 : Int)));
  rec a b kind i_2 at_ out)
  (cond (!rhas2)
  (let i_2 : Int := (IntKind.i64.wrap (i_ + (1 : Int)));
  rec a b kind i_2 at_ out)
  (cond (decide (kind = (3 : Int)))
  (cond (!rhas)
  (let i_2 : Int := (IntKind.i64.wrap (i_ + (1 : Int)));
  rec a b kind i_2 at_ out)
  (cond rhas2
  (let i_2 : Int := (IntKind.i64.wrap (i_ + (1 : Int)));
  rec a b kind i_2 at_ out)
  (p4 (fun (a2 : List (Int × Int)) (b2 : List (Int × Int)) (kind2 : Int) (i_2 : Int) (at_2 : List Int) (out2 : List (Int × Int)) =>
  let i_3 : Int := (IntKind.i64.wrap (i_2 + (1 : Int)));
  rec a2 b2 kind2 i_3 at_2 out2) a b kind i_ at_ out)))
  (p4 (fun (a2 : List (Int × Int)) (b2 : List (Int × Int)) (kind2 : Int) (i_2 : Int) (at_2 : List Int) (out2 : List (Int × Int)) =>
  let i_3 : Int := (IntKind.i64.wrap (i_2 + (1 : Int)));
  rec a2 b2 kind2 i_3 at_2 out2) a b kind i_ at_ out))))
  (cond (decide (kind = (3 : Int)))
  (cond (!rhas)
  (let i_2 : Int := (IntKind.i64.wrap (i_ + (1 : Int)));
  rec a b kind i_2 at_ out)
  (cond rhas2
  (let i_2 : Int := (IntKind.i64.wrap (i_ + (1 : Int)));
  rec a b kind i_2 at_ out)
  (p4 (fun (a2 : List (Int × Int)) (b2 : List (Int × Int)) (kind2 : Int) (i_2 : Int) (at_2 : List Int) (out2 : List (Int × Int)) =>
  let i_3 : Int := (IntKind.i64.wrap (i_2 + (1 : Int)));
  rec a2 b2 kind2 i_3 at_2 out2) a b kind i_ at_ out)))
  (p4 (fun (a2 : List (Int × Int)) (b2 : List (Int × Int)) (kind2 : Int) (i_2 : Int) (at_2 : List Int) (out2 : List (Int × Int)) =>
  let i_3 : Int := (IntKind.i64.wrap (i_2 + (1 : Int)));
  rec a2 b2 kind2 i_3 at_2 out2) a b kind i_ at_ out))))
  (cond (decide (kind = (2 : Int)))
  (cond (!rhas)
  (let i_2 : Int := (IntKind.i64.wrap (i_ + (1 : Int)));
  rec a b kind i_2 at_ out)
  (cond (!rhas2)
  (let i_2 : Int := (IntKind.i64.wrap (i_ + (1 : Int)));
  rec a b kind i_2 at_ out)
  (cond (decide (kind = (3 : Int)))
  (cond (!rhas)
  (let i_2 : Int := (IntKind.i64.wrap (i_ + (1 : Int)));
  rec a b kind i_2 at_ out)
  (cond rhas2
  (let i_2 : Int := (IntKind.i64.wrap (i_ + (1 : Int)));
  rec a b kind i_2 at_ out)
  (p4 (fun (a2 : List (Int × Int)) (b2 : List (Int × Int)) (kind2 : Int) (i_2 : Int) (at_2 : List Int) (out2 : List (Int × Int)) =>
  let i_3 : Int := (IntKind.i64.wrap (i_2 + (1 : Int)));
  rec a2 b2 kind2 i_3 at_2 out2) a b kind i_ at_ out)))
  (p4 (fun (a2 : List (Int × Int)) (b2 : List (Int × Int)) (kind2 : Int) (i_2 : Int) (at_2 : List Int) (out2 : List (Int × Int)) =>
  let i_3 : Int := (IntKind.i64.wrap (i_2 + (1 : Int)));
  rec a2 b2 kind2 i_3 at_2 out2) a b kind i_ at_ out))))
  (cond (decide (kind = (3 : Int)))
  (cond (!rhas)
  (let i_2 : Int := (IntKind.i64.wrap (i_ + (1 : Int)));
  rec a b kind i_2 at_ out)
  (cond rhas2
  (let i_2 : Int := (IntKind.i64.wrap (i_ + (1 : Int)));
  rec a b kind i_2 at_ out)
  (p4 (fun (a2 : List (Int × Int)) (b2 : List (Int × Int)) (kind2 : Int) (i_2 : Int) (at_2 : List Int) (out2 : List (Int × Int)) =>
  let i_3 : Int := (IntKind.i64.wrap (i_2 + (1 : Int)));
  rec a2 b2 kind2 i_3 at_2 out2) a b kind i_ at_ out)))
  (p4 (fun (a2 : List (Int × Int)) (b2 : List (Int × Int)) (kind2 : Int) (i_2 : Int) (at_2 : List Int) (out2 : List (Int × Int)) =>
  let i_3 : Int := (IntKind.i64.wrap (i_2 + (1 : Int)));
  rec a2 b2 kind2 i_3 at_2 out2) a b kind i_ at_ out))))
  (cond (decide (kind = (2 : Int)))
  (cond (!rhas)
  (let i_2 : Int := (IntKind.i64.wrap (i_ + (1 : Int)));
  rec a b kind i_2 at_ out)
  (cond (!rhas2)
  (let i_2 : Int := (IntKind.i64.wrap (i_ + (1 : Int)));
  rec a b kind i_2 at_ out)
  (cond (decide (kind = (3 : Int)))
  (cond (!rhas)
  (let i_2 : Int := (IntKind.i64.wrap (i_ + (1 : Int)));
  rec a b kind i_2 at_ out)
  (cond rhas2
  (let i_2 : Int := (IntKind.i64.wrap (i_ + (1 : Int)));
  rec a b kind i_2 at_ out)
  (p4 (fun (a2 : List (Int × Int)) (b2 : List (Int × Int)) (kind2 : Int) (i_2 : Int) (at_2 : List Int) (out2 : List (Int × Int)) =>
  let i_3 : Int := (IntKind.i64.wrap (i_2 + (1 : Int)));
  rec a2 b2 kind2 i_3 at_2 out2) a b kind i_ at_ out)))
  (p4 (fun (a2 : List (Int × Int)) (b2 : List (Int × Int)) (kind2 : Int) (i_2 : Int) (at_2 : List Int) (out2 : List (Int × Int)) =>
  let i_3 : Int := (IntKind.i64.wrap (i_2 + (1 : Int)));
  rec a2 b2 kind2 i_3 at_2 out2) a b kind i_ at_ out))))
  (cond (decide (kind = (3 : Int)))
  (cond (!rhas)
  (let i_2 : Int := (IntKind.i64.wrap (i_ + (1 : Int)));
  rec a b kind i_2 at_ out)
  (cond rhas2
  (let i_2 : Int := (IntKind.i64.wrap (i_ + (1 : Int)));
  rec a b kind i_2 at_ out)
  (p4 (fun (a2 : List (Int × Int)) (b2 : List (Int × Int)) (kind2 : Int) (i_2 : Int) (at_2 : List Int) (out2 : List (Int × Int)) =>
  let i_3 : Int := (IntKind.i64.wrap (i_2 + (1 : Int)));
  rec a2 b2 kind2 i_3 at_2 out2) a b kind i_ at_ out)))
  (p4 (fun (a2 : List (Int × Int)) (b2 : List (Int × Int)) (kind2 : Int) (i_2 : Int) (at_2 : List Int) (out2 : List (Int × Int)) =>
  let i_3 : Int := (IntKind.i64.wrap (i_2 + (1 : Int)));
  rec a2 b2 kind2 i_3 at_2 out2) a b kind i_ at_ out)))))
  none))
  none)
  (k1 out)
def zqd4 (p4 : zqck) {β : Type} : Nat → zqcn β → (List (Int × Int)) → (List (Int × Int)) → Int → Int → (List Int) → (List (Int × Int)) → Option β
  | 0 => fun _ _ _ _ _ _ _ => none
  | i + 1 => fun k1 a b kind i_ at_ out => zqd3 c_ref03_has p4 (zqd4 p4 i k1) k1 a b kind i_ at_ out
theorem zqd5 (hΓ : ΓOk Try.prog (ref03_combine_X c_ref03_Sort c_ref03_Valid c_ref03_has).Γ) (p4 : zqck) (hp4 : PieceOk Try.prog 160 0 ref03_combine_p4_code zqcl zqcm (ref03_combine_p4_G p4)) (i : Nat) : PieceOk Try.prog 160 0 ref03_combine_p5_code zqcp zqcq (ref03_combine_p5_G (zqd4 c_ref03_has p4 i)) := by
  rw [show ref03_combine_p5_code = .loop (loopBody ref03_combine_p5_code) by kernel_rfl]
  exact piece_loop (X := (ref03_combine_X c_ref03_Sort c_ref03_Valid c_ref03_has)) (p := 1) (Λ := pick1 [(51, pieceCut zqcl zqcm (ref03_combine_p4_G p4))]) (G := fun i => @fun β d ks => ref03_combine_p5_G (zqd4 c_ref03_has p4 i) d ks) mixed tab_ok hΓ rfl (by kernel_rfl) (CutsOk_cons (q := 51) (c' := ref03_combine_p4_code) (by kernel_rfl) rfl hp4 CutsOk_nil) (fun _ _ => rfl) (fun i => @fun β d ks r h => Eq.trans (b := ref03_combine_p5_G (zqd4 c_ref03_has p4 (i + 1)) d ks) (by kernel_rfl) h) i
def zqd6 (p1 : zqc8) (p2 : zqcc) (p5 : zqco) {β : Type} (a : List (Int × Int)) (b : List (Int × Int)) (kind : Int) (k : (Int → (List (Int × Int)) → Option β)) : Option β :=
  c_ref03_Valid a (fun (rValid : Bool) =>
  cond (!rValid)
  (k (8 : Int) ([] : List (Int × Int)))
  (c_ref03_Valid b (fun (rValid2 : Bool) =>
  cond (!rValid2)
  (k (8 : Int) ([] : List (Int × Int)))
  (p1 (fun (a2 : List (Int × Int)) (b2 : List (Int × Int)) (kind2 : Int) (at_ : List Int) =>
  p2 (fun (a3 : List (Int × Int)) (b3 : List (Int × Int)) (kind3 : Int) (at_2 : List Int) =>
  c_ref03_Sort at_2 (fun (lrSort : List Int) =>
  p5 (fun (out : List (Int × Int)) =>
  cond (decide ((4096 : Int) < (List.length out : Int)))
  (k (5 : Int) ([] : List (Int × Int)))
  (k (0 : Int) out)) a3 b3 kind3 (0 : Int) lrSort ([] : List (Int × Int)))) a2 b2 kind2 (0 : Int) at_) a b kind (0 : Int) ([] : List Int)))))
theorem zqd7 (hΓ : ΓOk Try.prog (ref03_combine_X c_ref03_Sort c_ref03_Valid c_ref03_has).Γ) (p1 : zqc8) (p2 : zqcc) (p5 : zqco) (hp1 : PieceOk Try.prog 160 0 ref03_combine_p1_code zqc9 zqca (ref03_combine_p1_G p1)) (hp2 : PieceOk Try.prog 160 0 ref03_combine_p2_code zqcd zqce (ref03_combine_p2_G p2)) (hp5 : PieceOk Try.prog 160 0 ref03_combine_p5_code zqcp zqcq (ref03_combine_p5_G p5)) : SpecOk Try.prog 45 (zqc6 (zqd6 c_ref03_Sort c_ref03_Valid p1 p2 p5)) :=
  spec_exec (X := (ref03_combine_X c_ref03_Sort c_ref03_Valid c_ref03_has)) (Λ := pick1 [(122, pieceCut zqc9 zqca (ref03_combine_p1_G p1)), (250, pieceCut zqcd zqce (ref03_combine_p2_G p2)), (2042, pieceCut zqcp zqcq (ref03_combine_p5_G p5))]) (rs := [.tmp 6, .tmp 7]) (c := bodyOf Try.f45) mixed tab_ok hΓ Try.func45 (by kernel_rfl) (by kernel_rfl) (by kernel_rfl) (by kernel_rfl) (CutsOk_cons (q := 122) (c' := ref03_combine_p1_code) (by kernel_rfl) rfl hp1 (CutsOk_cons (q := 250) (c' := ref03_combine_p2_code) (by kernel_rfl) rfl hp2 (CutsOk_cons (q := 2042) (c' := ref03_combine_p5_code) (by kernel_rfl) rfl hp5 CutsOk_nil))) (fun x k r h => Eq.trans (b := (zqc6 (zqd6 c_ref03_Sort c_ref03_Valid p1 p2 p5)).run x k) (by kernel_rfl) h)
end
theorem zqd8Γ : ΓOk Try.prog (pick1 [(44, .spec (zq70 zq89)), (25, .spec (zq1z zq2f)), (46, .spec (zq8c zq8r))]) := (ΓOk_cons zq8a (ΓOk_cons zq2g (ΓOk_cons zq8s ΓOk_nil)))
def zqd9 (m : Nat) : zqc8 := zqcs m
theorem zqda {β : Type} (i : Nat) (k1 a b kind i_ at_) : (zqd9 (i + 1) k1 a b kind i_ at_ : Option β) = zqcr (zqd9 i k1) k1 a b kind i_ at_ := rfl
def zqdb : zqc8 := zqd9 fuel
theorem zqdc : PieceOk Try.prog 160 0 ref03_combine_p1_code zqc9 zqca (ref03_combine_p1_G zqdb) := zqct zq89 zq2f zq8r zqd8Γ fuel
def zqdd (m : Nat) : zqcc := zqcv m
theorem zqde {β : Type} (i : Nat) (k1 a b kind i_ at_) : (zqdd (i + 1) k1 a b kind i_ at_ : Option β) = zqcu (zqdd i k1) k1 a b kind i_ at_ := rfl
def zqdf : zqcc := zqdd fuel
theorem zqdg : PieceOk Try.prog 160 0 ref03_combine_p2_code zqcd zqce (ref03_combine_p2_G zqdf) := zqcw zq89 zq2f zq8r zqd8Γ fuel
def zqdh : zqcg := zqcy
theorem zqdi : PieceOk Try.prog 160 0 ref03_combine_p3_code zqch zqci (ref03_combine_p3_G zqdh) := zqcz zq89 zq2f zq8r zqd8Γ
def zqdj : zqck := zqd1 zqdh
theorem zqdk : PieceOk Try.prog 160 0 ref03_combine_p4_code zqcl zqcm (ref03_combine_p4_G zqdj) := zqd2 zq89 zq2f zq8r zqd8Γ zqdh zqdi
def zqdl (m : Nat) : zqco := zqd4 zq8r zqdj m
theorem zqdm {β : Type} (i : Nat) (k1 a b kind i_ at_ out) : (zqdl (i + 1) k1 a b kind i_ at_ out : Option β) = zqd3 zq8r zqdj (zqdl i k1) k1 a b kind i_ at_ out := rfl
def zqdn : zqco := zqdl fuel
theorem zqdo : PieceOk Try.prog 160 0 ref03_combine_p5_code zqcp zqcq (ref03_combine_p5_G zqdn) := zqd5 zq89 zq2f zq8r zqd8Γ zqdj zqdk fuel
def zqdp : zqc5 := zqd6 zq89 zq2f zqdb zqdf zqdn
theorem zqdq : SpecOk Try.prog 45 (zqc6 zqdp) := zqd7 zq89 zq2f zq8r zqd8Γ zqdb zqdf zqdn zqdc zqdg zqdo

/-- pagewatch/span.two -/
abbrev zqdr := {β : Type} → (List (Int × Int)) → (List (Int × Int)) → (Int → (List (Int × Int)) → Option β) → Option β
def zqds (c : zqdr) : Spec :=
  ⟨[(false, [.data (.slice (.prod (.int .i64) (.int .i64)))]), (false, [.data (.slice (.prod (.int .i64) (.int .i64)))]), (false, [.fn 42 []])], [], [(false, [.rowh 0]), (false, [.data (.int .i64)])], [.row 30 (.prod (.int .i64) (.int .i64))], fun x k => c x.1.1.1 x.1.2.1.1 (fun r0 r1 => k (((), (r0, ()), ()), (r1, ())))⟩
section
variable (c_span_Common : zq54) (c_span_Valid : zqx)
@[reducible] def span_two_vspan_Common_X : Ctx := ⟨look tab, pick1 [(42, .spec (zq55 c_span_Common)), (22, .spec (zqy c_span_Valid))], false, false, false⟩
def zqdt {β : Type} (a : List (Int × Int)) (b : List (Int × Int)) (k : (Int → (List (Int × Int)) → Option β)) : Option β :=
  c_span_Valid a (fun (rValid : Bool) =>
  cond (!rValid)
  (k (8 : Int) ([] : List (Int × Int)))
  (c_span_Valid b (fun (rValid2 : Bool) =>
  cond (!rValid2)
  (k (8 : Int) ([] : List (Int × Int)))
  (c_span_Common a b (fun (lrCommon : List (Int × Int)) =>
  cond (decide ((4096 : Int) < (List.length lrCommon : Int)))
  (k (5 : Int) ([] : List (Int × Int)))
  (k (0 : Int) lrCommon))))))
theorem zqdu (hΓ : ΓOk Try.prog (span_two_vspan_Common_X c_span_Common c_span_Valid).Γ) : SpecOk Try.prog 39 (zqds (zqdt c_span_Common c_span_Valid)) :=
  spec_exec (X := (span_two_vspan_Common_X c_span_Common c_span_Valid)) (Λ := pick1 []) (rs := [.tmp 6, .tmp 7]) (c := bodyOf Try.f39) mixed tab_ok hΓ Try.func39 (by kernel_rfl) (by kernel_rfl) (by kernel_rfl) (by kernel_rfl) CutsOk_nil (fun x k r h => Eq.trans (b := (zqds (zqdt c_span_Common c_span_Valid)).run x k) (by kernel_rfl) h)
end
theorem zqdvΓ : ΓOk Try.prog (pick1 [(42, .spec (zq55 zq5t)), (22, .spec (zqy zq1e))]) := (ΓOk_cons zq5u (ΓOk_cons zq1f ΓOk_nil))
def zqdw : zqdr := zqdt zq5t zq1e
theorem zqdx : SpecOk Try.prog 39 (zqds zqdw) := zqdu zq5t zq1e zqdvΓ

/-- pagewatch/span.two -/
abbrev zqdy := {β : Type} → (List (Int × Int)) → (List (Int × Int)) → (Int → (List (Int × Int)) → Option β) → Option β
def zqdz (c : zqdy) : Spec :=
  ⟨[(false, [.data (.slice (.prod (.int .i64) (.int .i64)))]), (false, [.data (.slice (.prod (.int .i64) (.int .i64)))]), (false, [.fn 43 []])], [], [(false, [.rowh 0]), (false, [.data (.int .i64)])], [.row 30 (.prod (.int .i64) (.int .i64))], fun x k => c x.1.1.1 x.1.2.1.1 (fun r0 r1 => k (((), (r0, ()), ()), (r1, ())))⟩
section
variable (c_span_Valid : zqx) (c_span_Without : zq5v)
@[reducible] def span_two_vspan_Without_X : Ctx := ⟨look tab, pick1 [(22, .spec (zqy c_span_Valid)), (43, .spec (zq5w c_span_Without))], false, false, false⟩
def zqe0 {β : Type} (a : List (Int × Int)) (b : List (Int × Int)) (k : (Int → (List (Int × Int)) → Option β)) : Option β :=
  c_span_Valid a (fun (rValid : Bool) =>
  cond (!rValid)
  (k (8 : Int) ([] : List (Int × Int)))
  (c_span_Valid b (fun (rValid2 : Bool) =>
  cond (!rValid2)
  (k (8 : Int) ([] : List (Int × Int)))
  (c_span_Without a b (fun (lrWithout : List (Int × Int)) =>
  cond (decide ((4096 : Int) < (List.length lrWithout : Int)))
  (k (5 : Int) ([] : List (Int × Int)))
  (k (0 : Int) lrWithout))))))
theorem zqe1 (hΓ : ΓOk Try.prog (span_two_vspan_Without_X c_span_Valid c_span_Without).Γ) : SpecOk Try.prog 39 (zqdz (zqe0 c_span_Valid c_span_Without)) :=
  spec_exec (X := (span_two_vspan_Without_X c_span_Valid c_span_Without)) (Λ := pick1 []) (rs := [.tmp 6, .tmp 7]) (c := bodyOf Try.f39) mixed tab_ok hΓ Try.func39 (by kernel_rfl) (by kernel_rfl) (by kernel_rfl) (by kernel_rfl) CutsOk_nil (fun x k r h => Eq.trans (b := (zqdz (zqe0 c_span_Valid c_span_Without)).run x k) (by kernel_rfl) h)
end
theorem zqe2Γ : ΓOk Try.prog (pick1 [(22, .spec (zqy zq1e)), (43, .spec (zq5w zq6x))]) := (ΓOk_cons zq1f (ΓOk_cons zq6y ΓOk_nil))
def zqe3 : zqdy := zqe0 zq1e zq6x
theorem zqe4 : SpecOk Try.prog 39 (zqdz zqe3) := zqe1 zq1e zq6x zqe2Γ

/-- slices.Grow[[]pagewatch/api.Span,pagewatch/api.Span] -/
abbrev zqe5 := {β : Type} → Int → ((List (Int × Int)) → Option β) → Option β
def zqe6 (c : zqe5) : Spec :=
  ⟨[(false, [.nils]), (false, [.data (.int .i64)])], [], [(false, [.rowh 0])], [.row 30 (.prod (.int .i64) (.int .i64))], fun x k => c x.1.2.1.1 (fun r0 => k (((), ()), (r0, ())))⟩
section
@[reducible] def slices_Grow_api_Span_api_Span_vnil_X : Ctx := ⟨look tab, pick1 [], false, true, false⟩
def zqe7 {β : Type} (n : Int) (k : ((List (Int × Int)) → Option β)) : Option β :=
  cond (decide (n < (0 : Int)))
  (none)
  (let n2 : Int := (IntKind.i64.wrap (n - (IntKind.i64.wrap ((0 : Int) - (0 : Int)))));
  cond (decide ((0 : Int) < n2))
  (cond (decide (0 ≤ (0 : Int)) && (decide ((0 : Int) ≤ (0 : Int)) && decide ((0 : Int) ≤ (0 : Int))))
  (cond (decide (0 ≤ n2) && decide (Int.toNat n2 * 16 ≤ roomMax))
  (let l : List (Int × Int) := (List.replicate (Int.toNat n2) ((0 : Int), (0 : Int)));
  cond (decide (0 ≤ (0 : Int)) && decide ((0 : Int) ≤ (List.length l : Int)))
  (let l2 : List (Int × Int) := (List.take (Int.toNat (0 : Int)) l);
  k l2)
  none)
  none)
  none)
  (k ([] : List (Int × Int))))
theorem zqe8 (hΓ : ΓOk Try.prog slices_Grow_api_Span_api_Span_vnil_X.Γ) : SpecOk Try.prog 53 (zqe6 (zqe7)) :=
  spec_exec (X := slices_Grow_api_Span_api_Span_vnil_X) (Λ := pick1 []) (rs := [.tmp 4]) (c := bodyOf Try.f53) mixed tab_ok hΓ Try.func53 (by kernel_rfl) (by kernel_rfl) (by kernel_rfl) (by kernel_rfl) CutsOk_nil (fun x k r h => Eq.trans (b := (zqe6 (zqe7)).run x k) (by kernel_rfl) h)
end
theorem zqe9Γ : ΓOk Try.prog (pick1 []) := ΓOk_nil
def zqea : zqe5 := zqe7
theorem zqeb : SpecOk Try.prog 53 (zqe6 zqea) := zqe8 zqe9Γ

/-- (*pagewatch/pagewatchmade.Dice).Set -/
abbrev zqec := {β : Type} → (List Int × Int) → ((List Int × Int) → (List (Int × Int)) → Option β) → Option β
def zqed (c : zqec) : Spec :=
  ⟨[(false, [.ptr 0 0])], [.cells 51 [.data (.prod (.slice (.int .i64)) (.int .i64))]], [(false, [.rowh 1])], [.cells 51 [.data (.prod (.slice (.int .i64)) (.int .i64))], .row 30 (.prod (.int .i64) (.int .i64))], fun x k => c x.2.1.1 (fun r0 r1 => k (((), ()), ((r0, ()), r1, ())))⟩
noncomputable def made_Dice_Set_p1_code : Code := codeAt 58 (bodyOf Try.f11)
abbrev zqee (β : Type) := (List Int) → Int → (List (Int × Int)) → Option β
abbrev zqef := {β : Type} → zqee β → Int → (List Int) → Int → (List (Int × Int)) → Option β
def zqeg : View := ⟨1, [0, 3, 4], [(false, [.ptr 0 0]), (false, [.rowh 1]), (false, [.data (.int .i64)])], [.cells 51 [.data (.slice (.int .i64)), .data (.int .i64)], .row 30 (.prod (.int .i64) (.int .i64))]⟩
def zqeh : List (AExit × View) := [(.exit 0, ⟨1, [3], [(false, [.rowh 1])], [.cells 51 [.data (.slice (.int .i64)), .data (.int .i64)], .row 30 (.prod (.int .i64) (.int .i64))]⟩)]
@[reducible] def made_Dice_Set_p1_G (p : zqef) {β : Type} (d : zqeg.den) (ks : Outs.K β zqeh) : Option β :=
  p (fun a0 a1 a2 => ks.1 (((), ()), ((a0, a1, ()), a2, ()))) d.1.2.2.1.1 d.2.1.1 d.2.1.2.1 d.2.2.1
section
variable (c_made_Dice_Next : zq2z) (c_made_Dice_Span : zq4q) (c_ref03_Normal : zqad)
@[reducible] def made_Dice_Set_X : Ctx := ⟨look tab, pick1 [(30, .spec (zq30 c_made_Dice_Next)), (35, .spec (zq4r c_made_Dice_Span)), (24, .spec (zqae c_ref03_Normal))], false, false, false⟩
def zqei {β : Type} (rec : Int → (List Int) → Int → (List (Int × Int)) → Option β) (k1 : zqee β) (i_ : Int) (d : List Int) (d2 : Int) (l : List (Int × Int)) : Option β :=
  cond (decide ((0 : Int) < i_))
  (c_made_Dice_Span (d, d2) (fun (rSpan : (Int × Int)) (mrSpan : (List Int × Int)) =>
  cond (decide (rSpan.1 < rSpan.2))
  (let l2 : List (Int × Int) := ([rSpan] : List (Int × Int));
  cond (decide ((List.length l + List.length l2) * 16 ≤ roomMax))
  (let l3 : List (Int × Int) := (l ++ l2);
  let i_2 : Int := (IntKind.i64.wrap (i_ - (1 : Int)));
  rec i_2 mrSpan.1 mrSpan.2 l3)
  none)
  (let i_2 : Int := (IntKind.i64.wrap (i_ - (1 : Int)));
  rec i_2 mrSpan.1 mrSpan.2 l)))
  (k1 d d2 l)
def zqej {β : Type} : Nat → zqee β → Int → (List Int) → Int → (List (Int × Int)) → Option β
  | 0 => fun _ _ _ _ _ => none
  | i + 1 => fun k1 i_ d d2 l => zqei c_made_Dice_Span (zqej i k1) k1 i_ d d2 l
theorem zqek (hΓ : ΓOk Try.prog (made_Dice_Set_X c_made_Dice_Next c_made_Dice_Span c_ref03_Normal).Γ) (i : Nat) : PieceOk Try.prog 31 1 made_Dice_Set_p1_code zqeg zqeh (made_Dice_Set_p1_G (zqej c_made_Dice_Span i)) := by
  rw [show made_Dice_Set_p1_code = .loop (loopBody made_Dice_Set_p1_code) by kernel_rfl]
  exact piece_loop (X := (made_Dice_Set_X c_made_Dice_Next c_made_Dice_Span c_ref03_Normal)) (p := 1) (Λ := pick1 []) (G := fun i => @fun β d ks => made_Dice_Set_p1_G (zqej c_made_Dice_Span i) d ks) mixed tab_ok hΓ rfl (by kernel_rfl) CutsOk_nil (fun _ _ => rfl) (fun i => @fun β d ks r h => Eq.trans (b := made_Dice_Set_p1_G (zqej c_made_Dice_Span (i + 1)) d ks) (by kernel_rfl) h) i
def zqel (p1 : zqef) {β : Type} (d : (List Int × Int)) (k : ((List Int × Int) → (List (Int × Int)) → Option β)) : Option β :=
  c_made_Dice_Next (7 : Int) d (fun (rNext : Int) (mrNext : (List Int × Int)) =>
  p1 (fun (b0_ : List Int) (b0_2 : Int) (l : List (Int × Int)) =>
  c_ref03_Normal l (fun (rNormal : Int) (lrNormal : List (Int × Int)) =>
  k (b0_, b0_2) lrNormal)) rNext mrNext.1 mrNext.2 ([] : List (Int × Int)))
theorem zqem (hΓ : ΓOk Try.prog (made_Dice_Set_X c_made_Dice_Next c_made_Dice_Span c_ref03_Normal).Γ) (p1 : zqef) (hp1 : PieceOk Try.prog 31 1 made_Dice_Set_p1_code zqeg zqeh (made_Dice_Set_p1_G p1)) : SpecOk Try.prog 11 (zqed (zqel c_made_Dice_Next c_ref03_Normal p1)) :=
  spec_exec (X := (made_Dice_Set_X c_made_Dice_Next c_made_Dice_Span c_ref03_Normal)) (Λ := pick1 [(58, pieceCut zqeg zqeh (made_Dice_Set_p1_G p1))]) (rs := [.tmp 2]) (c := bodyOf Try.f11) mixed tab_ok hΓ Try.func11 (by kernel_rfl) (by kernel_rfl) (by kernel_rfl) (by kernel_rfl) (CutsOk_cons (q := 58) (c' := made_Dice_Set_p1_code) (by kernel_rfl) rfl hp1 CutsOk_nil) (fun x k r h => Eq.trans (b := (zqed (zqel c_made_Dice_Next c_ref03_Normal p1)).run x k) (by kernel_rfl) h)
end
theorem zqenΓ : ΓOk Try.prog (pick1 [(30, .spec (zq30 zq34)), (35, .spec (zq4r zq4v)), (24, .spec (zqae zqbw))]) := (ΓOk_cons zq35 (ΓOk_cons zq4w (ΓOk_cons zqbx ΓOk_nil)))
def zqeo (m : Nat) : zqef := zqej zq4v m
theorem zqep {β : Type} (i : Nat) (k1 i_ d d2 l) : (zqeo (i + 1) k1 i_ d d2 l : Option β) = zqei zq4v (zqeo i k1) k1 i_ d d2 l := rfl
def zqeq : zqef := zqeo fuel
theorem zqer : PieceOk Try.prog 31 1 made_Dice_Set_p1_code zqeg zqeh (made_Dice_Set_p1_G zqeq) := zqek zq34 zq4v zqbw zqenΓ fuel
def zqes : zqec := zqel zq34 zqbw zqeq
theorem zqet : SpecOk Try.prog 11 (zqed zqes) := zqem zq34 zq4v zqbw zqenΓ zqeq zqer

/-- pagewatch/span.Meet -/
abbrev zqeu := {β : Type} → (List (Int × Int)) → (List (Int × Int)) → (Int → (List (Int × Int)) → Option β) → Option β
def zqev (c : zqeu) : Spec :=
  ⟨[(false, [.data (.slice (.prod (.int .i64) (.int .i64)))]), (false, [.data (.slice (.prod (.int .i64) (.int .i64)))])], [], [(false, [.rowh 0]), (false, [.data (.int .i64)])], [.row 30 (.prod (.int .i64) (.int .i64))], fun x k => c x.1.1.1 x.1.2.1.1 (fun r0 r1 => k (((), (r0, ()), ()), (r1, ())))⟩
section
variable (c_span_two_vspan_Common : zqdr)
@[reducible] def span_Meet_X : Ctx := ⟨look tab, pick1 [(39, .spec (zqds c_span_two_vspan_Common))], false, false, false⟩
def zqew {β : Type} (a : List (Int × Int)) (b : List (Int × Int)) (k : (Int → (List (Int × Int)) → Option β)) : Option β :=
  c_span_two_vspan_Common a b (fun (rtwo : Int) (lrtwo : List (Int × Int)) =>
  k rtwo lrtwo)
theorem zqex (hΓ : ΓOk Try.prog (span_Meet_X c_span_two_vspan_Common).Γ) : SpecOk Try.prog 19 (zqev (zqew c_span_two_vspan_Common)) :=
  spec_exec (X := (span_Meet_X c_span_two_vspan_Common)) (Λ := pick1 []) (rs := [.tmp 4, .tmp 5]) (c := bodyOf Try.f19) mixed tab_ok hΓ Try.func19 (by kernel_rfl) (by kernel_rfl) (by kernel_rfl) (by kernel_rfl) CutsOk_nil (fun x k r h => Eq.trans (b := (zqev (zqew c_span_two_vspan_Common)).run x k) (by kernel_rfl) h)
end
theorem zqeyΓ : ΓOk Try.prog (pick1 [(39, .spec (zqds zqdw))]) := (ΓOk_cons zqdx ΓOk_nil)
def zqez : zqeu := zqew zqdw
theorem zqf0 : SpecOk Try.prog 19 (zqev zqez) := zqex zqdw zqeyΓ

/-- pagewatch/span.Minus -/
abbrev zqf1 := {β : Type} → (List (Int × Int)) → (List (Int × Int)) → (Int → (List (Int × Int)) → Option β) → Option β
def zqf2 (c : zqf1) : Spec :=
  ⟨[(false, [.data (.slice (.prod (.int .i64) (.int .i64)))]), (false, [.data (.slice (.prod (.int .i64) (.int .i64)))])], [], [(false, [.rowh 0]), (false, [.data (.int .i64)])], [.row 30 (.prod (.int .i64) (.int .i64))], fun x k => c x.1.1.1 x.1.2.1.1 (fun r0 r1 => k (((), (r0, ()), ()), (r1, ())))⟩
section
variable (c_span_two_vspan_Without : zqdy)
@[reducible] def span_Minus_X : Ctx := ⟨look tab, pick1 [(39, .spec (zqdz c_span_two_vspan_Without))], false, false, false⟩
def zqf3 {β : Type} (a : List (Int × Int)) (b : List (Int × Int)) (k : (Int → (List (Int × Int)) → Option β)) : Option β :=
  c_span_two_vspan_Without a b (fun (rtwo : Int) (lrtwo : List (Int × Int)) =>
  k rtwo lrtwo)
theorem zqf4 (hΓ : ΓOk Try.prog (span_Minus_X c_span_two_vspan_Without).Γ) : SpecOk Try.prog 20 (zqf2 (zqf3 c_span_two_vspan_Without)) :=
  spec_exec (X := (span_Minus_X c_span_two_vspan_Without)) (Λ := pick1 []) (rs := [.tmp 4, .tmp 5]) (c := bodyOf Try.f20) mixed tab_ok hΓ Try.func20 (by kernel_rfl) (by kernel_rfl) (by kernel_rfl) (by kernel_rfl) CutsOk_nil (fun x k r h => Eq.trans (b := (zqf2 (zqf3 c_span_two_vspan_Without)).run x k) (by kernel_rfl) h)
end
theorem zqf5Γ : ΓOk Try.prog (pick1 [(39, .spec (zqdz zqe3))]) := (ΓOk_cons zqe4 ΓOk_nil)
def zqf6 : zqf1 := zqf3 zqe3
theorem zqf7 : SpecOk Try.prog 20 (zqf2 zqf6) := zqf4 zqe3 zqf5Γ

/-- pagewatch/pagewatchref03.Union -/
abbrev zqf8 := {β : Type} → (List (Int × Int)) → (List (Int × Int)) → (Int → (List (Int × Int)) → Option β) → Option β
def zqf9 (c : zqf8) : Spec :=
  ⟨[(false, [.data (.slice (.prod (.int .i64) (.int .i64)))]), (false, [.data (.slice (.prod (.int .i64) (.int .i64)))])], [], [(false, [.rowh 0]), (false, [.data (.int .i64)])], [.row 30 (.prod (.int .i64) (.int .i64))], fun x k => c x.1.1.1 x.1.2.1.1 (fun r0 r1 => k (((), (r0, ()), ()), (r1, ())))⟩
section
variable (c_ref03_combine : zqc5)
@[reducible] def ref03_Union_X : Ctx := ⟨look tab, pick1 [(45, .spec (zqc6 c_ref03_combine))], false, false, false⟩
def zqfa {β : Type} (a : List (Int × Int)) (b : List (Int × Int)) (k : (Int → (List (Int × Int)) → Option β)) : Option β :=
  c_ref03_combine a b (1 : Int) (fun (rcombine : Int) (lrcombine : List (Int × Int)) =>
  k rcombine lrcombine)
theorem zqfb (hΓ : ΓOk Try.prog (ref03_Union_X c_ref03_combine).Γ) : SpecOk Try.prog 27 (zqf9 (zqfa c_ref03_combine)) :=
  spec_exec (X := (ref03_Union_X c_ref03_combine)) (Λ := pick1 []) (rs := [.tmp 4, .tmp 5]) (c := bodyOf Try.f27) mixed tab_ok hΓ Try.func27 (by kernel_rfl) (by kernel_rfl) (by kernel_rfl) (by kernel_rfl) CutsOk_nil (fun x k r h => Eq.trans (b := (zqf9 (zqfa c_ref03_combine)).run x k) (by kernel_rfl) h)
end
theorem zqfcΓ : ΓOk Try.prog (pick1 [(45, .spec (zqc6 zqdp))]) := (ΓOk_cons zqdq ΓOk_nil)
def zqfd : zqf8 := zqfa zqdp
theorem zqfe : SpecOk Try.prog 27 (zqf9 zqfd) := zqfb zqdp zqfcΓ

/-- pagewatch/pagewatchref03.Meet -/
abbrev zqff := {β : Type} → (List (Int × Int)) → (List (Int × Int)) → (Int → (List (Int × Int)) → Option β) → Option β
def zqfg (c : zqff) : Spec :=
  ⟨[(false, [.data (.slice (.prod (.int .i64) (.int .i64)))]), (false, [.data (.slice (.prod (.int .i64) (.int .i64)))])], [], [(false, [.rowh 0]), (false, [.data (.int .i64)])], [.row 30 (.prod (.int .i64) (.int .i64))], fun x k => c x.1.1.1 x.1.2.1.1 (fun r0 r1 => k (((), (r0, ()), ()), (r1, ())))⟩
section
variable (c_ref03_combine : zqc5)
@[reducible] def ref03_Meet_X : Ctx := ⟨look tab, pick1 [(45, .spec (zqc6 c_ref03_combine))], false, false, false⟩
def zqfh {β : Type} (a : List (Int × Int)) (b : List (Int × Int)) (k : (Int → (List (Int × Int)) → Option β)) : Option β :=
  c_ref03_combine a b (2 : Int) (fun (rcombine : Int) (lrcombine : List (Int × Int)) =>
  k rcombine lrcombine)
theorem zqfi (hΓ : ΓOk Try.prog (ref03_Meet_X c_ref03_combine).Γ) : SpecOk Try.prog 28 (zqfg (zqfh c_ref03_combine)) :=
  spec_exec (X := (ref03_Meet_X c_ref03_combine)) (Λ := pick1 []) (rs := [.tmp 4, .tmp 5]) (c := bodyOf Try.f28) mixed tab_ok hΓ Try.func28 (by kernel_rfl) (by kernel_rfl) (by kernel_rfl) (by kernel_rfl) CutsOk_nil (fun x k r h => Eq.trans (b := (zqfg (zqfh c_ref03_combine)).run x k) (by kernel_rfl) h)
end
theorem zqfjΓ : ΓOk Try.prog (pick1 [(45, .spec (zqc6 zqdp))]) := (ΓOk_cons zqdq ΓOk_nil)
def zqfk : zqff := zqfh zqdp
theorem zqfl : SpecOk Try.prog 28 (zqfg zqfk) := zqfi zqdp zqfjΓ

/-- pagewatch/pagewatchref03.Minus -/
abbrev zqfm := {β : Type} → (List (Int × Int)) → (List (Int × Int)) → (Int → (List (Int × Int)) → Option β) → Option β
def zqfn (c : zqfm) : Spec :=
  ⟨[(false, [.data (.slice (.prod (.int .i64) (.int .i64)))]), (false, [.data (.slice (.prod (.int .i64) (.int .i64)))])], [], [(false, [.rowh 0]), (false, [.data (.int .i64)])], [.row 30 (.prod (.int .i64) (.int .i64))], fun x k => c x.1.1.1 x.1.2.1.1 (fun r0 r1 => k (((), (r0, ()), ()), (r1, ())))⟩
section
variable (c_ref03_combine : zqc5)
@[reducible] def ref03_Minus_X : Ctx := ⟨look tab, pick1 [(45, .spec (zqc6 c_ref03_combine))], false, false, false⟩
def zqfo {β : Type} (a : List (Int × Int)) (b : List (Int × Int)) (k : (Int → (List (Int × Int)) → Option β)) : Option β :=
  c_ref03_combine a b (3 : Int) (fun (rcombine : Int) (lrcombine : List (Int × Int)) =>
  k rcombine lrcombine)
theorem zqfp (hΓ : ΓOk Try.prog (ref03_Minus_X c_ref03_combine).Γ) : SpecOk Try.prog 29 (zqfn (zqfo c_ref03_combine)) :=
  spec_exec (X := (ref03_Minus_X c_ref03_combine)) (Λ := pick1 []) (rs := [.tmp 4, .tmp 5]) (c := bodyOf Try.f29) mixed tab_ok hΓ Try.func29 (by kernel_rfl) (by kernel_rfl) (by kernel_rfl) (by kernel_rfl) CutsOk_nil (fun x k r h => Eq.trans (b := (zqfn (zqfo c_ref03_combine)).run x k) (by kernel_rfl) h)
end
theorem zqfqΓ : ΓOk Try.prog (pick1 [(45, .spec (zqc6 zqdp))]) := (ΓOk_cons zqdq ΓOk_nil)
def zqfr : zqfm := zqfo zqdp
theorem zqfs : SpecOk Try.prog 29 (zqfn zqfr) := zqfp zqdp zqfqΓ

/-- slices.Concat[[]pagewatch/api.Span,pagewatch/api.Span] -/
abbrev zqft := {β : Type} → (List (List (Int × Int))) → ((List (Int × Int)) → Option β) → Option β
def zqfu (c : zqft) : Spec :=
  ⟨[(false, [.data (.slice (.slice (.prod (.int .i64) (.int .i64))))])], [], [(false, [.rowh 0])], [.row 30 (.prod (.int .i64) (.int .i64))], fun x k => c x.1.1.1 (fun r0 => k (((), ()), (r0, ())))⟩
noncomputable def slices_Concat_api_Span_api_Span_p1_code : Code := codeAt 58 (bodyOf Try.f41)
noncomputable def slices_Concat_api_Span_api_Span_p2_code : Code := codeAt 250 (bodyOf Try.f41)
abbrev zqfv (β : Type) := (List (List (Int × Int))) → Int → Option β
abbrev zqfw := {β : Type} → zqfv β → (List (List (Int × Int))) → Int → (List (List (Int × Int))) → Int → Int → Option β
def zqfx : View := ⟨0, [0, 3, 9, 10, 11], [(false, [.data (.slice (.slice (.prod (.int .i64) (.int .i64))))]), (false, [.data (.int .i64)]), (false, [.data (.slice (.slice (.prod (.int .i64) (.int .i64))))]), (false, [.data (.int .i64)]), (false, [.data (.int .i64)])], []⟩
def zqfy : List (AExit × View) := [(.exit 0, ⟨0, [0, 3], [(false, [.data (.slice (.slice (.prod (.int .i64) (.int .i64))))]), (false, [.data (.int .i64)])], []⟩)]
@[reducible] def slices_Concat_api_Span_api_Span_p1_G (p : zqfw) {β : Type} (d : zqfx.den) (ks : Outs.K β zqfy) : Option β :=
  p (fun a0 a1 => ks.1 (((a0, ()), (a1, ()), ()), ())) d.1.1.1 d.1.2.1.1 d.1.2.2.1.1 d.1.2.2.2.1.1 d.1.2.2.2.2.1.1
abbrev zqfz (β : Type) := (List (Int × Int)) → Option β
abbrev zqg0 := {β : Type} → zqfz β → (List (List (Int × Int))) → Int → Int → (List (Int × Int)) → Option β
def zqg1 : View := ⟨0, [6, 25, 26, 27], [(false, [.rowh 0]), (false, [.data (.slice (.slice (.prod (.int .i64) (.int .i64))))]), (false, [.data (.int .i64)]), (false, [.data (.int .i64)])], [.row 30 (.prod (.int .i64) (.int .i64))]⟩
def zqg2 : List (AExit × View) := [(.exit 2, ⟨0, [6], [(false, [.rowh 0])], [.row 30 (.prod (.int .i64) (.int .i64))]⟩)]
@[reducible] def slices_Concat_api_Span_api_Span_p2_G (p : zqg0) {β : Type} (d : zqg1.den) (ks : Outs.K β zqg2) : Option β :=
  p (fun a0 => ks.1 (((), ()), (a0, ()))) d.1.2.1.1 d.1.2.2.1.1 d.1.2.2.2.1.1 d.2.1
section
variable (c_slices_Grow_api_Span_api_Span_vnil : zqe5)
@[reducible] def slices_Concat_api_Span_api_Span_X : Ctx := ⟨look tab, pick1 [(53, .spec (zqe6 c_slices_Grow_api_Span_api_Span_vnil))], false, false, false⟩
def zqg3 {β : Type} (rec : (List (List (Int × Int))) → Int → (List (List (Int × Int))) → Int → Int → Option β) (k1 : zqfv β) (slices : List (List (Int × Int))) (size : Int) (t9 : List (List (Int × Int))) (t10 : Int) (t11 : Int) : Option β :=
  cond (decide (t11 < t10))
  (cond (decide (0 ≤ t11) && decide (t11 < (List.length t9 : Int)))
  (let e : List (Int × Int) := List.getD t9 (Int.toNat t11) ([] : List (Int × Int));
  let size2 : Int := (IntKind.i64.wrap (size + (List.length e : Int)));
  cond (decide (size2 < (0 : Int)))
  (none)
  (rec slices size2 t9 t10 (IntKind.i64.wrap (t11 + (1 : Int)))))
  none)
  (k1 slices size)
def zqg4 {β : Type} : Nat → zqfv β → (List (List (Int × Int))) → Int → (List (List (Int × Int))) → Int → Int → Option β
  | 0 => fun _ _ _ _ _ _ => none
  | i + 1 => fun k1 slices size t9 t10 t11 => zqg3 (zqg4 i k1) k1 slices size t9 t10 t11
theorem zqg5 (hΓ : ΓOk Try.prog (slices_Concat_api_Span_api_Span_X c_slices_Grow_api_Span_api_Span_vnil).Γ) (i : Nat) : PieceOk Try.prog 36 0 slices_Concat_api_Span_api_Span_p1_code zqfx zqfy (slices_Concat_api_Span_api_Span_p1_G (zqg4 i)) := by
  rw [show slices_Concat_api_Span_api_Span_p1_code = .loop (loopBody slices_Concat_api_Span_api_Span_p1_code) by kernel_rfl]
  exact piece_loop (X := (slices_Concat_api_Span_api_Span_X c_slices_Grow_api_Span_api_Span_vnil)) (p := 1) (Λ := pick1 []) (G := fun i => @fun β d ks => slices_Concat_api_Span_api_Span_p1_G (zqg4 i) d ks) mixed tab_ok hΓ rfl (by kernel_rfl) CutsOk_nil (fun _ _ => rfl) (fun i => @fun β d ks r h => Eq.trans (b := slices_Concat_api_Span_api_Span_p1_G (zqg4 (i + 1)) d ks) (by kernel_rfl) h) i
def zqg6 {β : Type} (rec : (List (List (Int × Int))) → Int → Int → (List (Int × Int)) → Option β) (k1 : zqfz β) (t25 : List (List (Int × Int))) (t26 : Int) (t27 : Int) (newslice : List (Int × Int)) : Option β :=
  cond (decide (t27 < t26))
  (cond (decide (0 ≤ t27) && decide (t27 < (List.length t25 : Int)))
  (let e : List (Int × Int) := List.getD t25 (Int.toNat t27) ([] : List (Int × Int));
  cond (decide ((List.length newslice + List.length e) * 16 ≤ roomMax))
  (let l : List (Int × Int) := (newslice ++ e);
  rec t25 t26 (IntKind.i64.wrap (t27 + (1 : Int))) l)
  none)
  none)
  (k1 newslice)
def zqg7 {β : Type} : Nat → zqfz β → (List (List (Int × Int))) → Int → Int → (List (Int × Int)) → Option β
  | 0 => fun _ _ _ _ _ => none
  | i + 1 => fun k1 t25 t26 t27 newslice => zqg6 (zqg7 i k1) k1 t25 t26 t27 newslice
theorem zqg8 (hΓ : ΓOk Try.prog (slices_Concat_api_Span_api_Span_X c_slices_Grow_api_Span_api_Span_vnil).Γ) (i : Nat) : PieceOk Try.prog 36 0 slices_Concat_api_Span_api_Span_p2_code zqg1 zqg2 (slices_Concat_api_Span_api_Span_p2_G (zqg7 i)) := by
  rw [show slices_Concat_api_Span_api_Span_p2_code = .loop (loopBody slices_Concat_api_Span_api_Span_p2_code) by kernel_rfl]
  exact piece_loop (X := (slices_Concat_api_Span_api_Span_X c_slices_Grow_api_Span_api_Span_vnil)) (p := 1) (Λ := pick1 []) (G := fun i => @fun β d ks => slices_Concat_api_Span_api_Span_p2_G (zqg7 i) d ks) mixed tab_ok hΓ rfl (by kernel_rfl) CutsOk_nil (fun _ _ => rfl) (fun i => @fun β d ks r h => Eq.trans (b := slices_Concat_api_Span_api_Span_p2_G (zqg7 (i + 1)) d ks) (by kernel_rfl) h) i
def zqg9 (p1 : zqfw) (p2 : zqg0) {β : Type} (slices : List (List (Int × Int))) (k : ((List (Int × Int)) → Option β)) : Option β :=
  p1 (fun (slices2 : List (List (Int × Int))) (size : Int) =>
  c_slices_Grow_api_Span_api_Span_vnil size (fun (lrSpan : List (Int × Int)) =>
  p2 (fun (newslice : List (Int × Int)) =>
  k newslice) slices2 (List.length slices2 : Int) (0 : Int) lrSpan)) slices (0 : Int) slices (List.length slices : Int) (0 : Int)
theorem zqga (hΓ : ΓOk Try.prog (slices_Concat_api_Span_api_Span_X c_slices_Grow_api_Span_api_Span_vnil).Γ) (p1 : zqfw) (p2 : zqg0) (hp1 : PieceOk Try.prog 36 0 slices_Concat_api_Span_api_Span_p1_code zqfx zqfy (slices_Concat_api_Span_api_Span_p1_G p1)) (hp2 : PieceOk Try.prog 36 0 slices_Concat_api_Span_api_Span_p2_code zqg1 zqg2 (slices_Concat_api_Span_api_Span_p2_G p2)) : SpecOk Try.prog 41 (zqfu (zqg9 c_slices_Grow_api_Span_api_Span_vnil p1 p2)) :=
  spec_exec (X := (slices_Concat_api_Span_api_Span_X c_slices_Grow_api_Span_api_Span_vnil)) (Λ := pick1 [(58, pieceCut zqfx zqfy (slices_Concat_api_Span_api_Span_p1_G p1)), (250, pieceCut zqg1 zqg2 (slices_Concat_api_Span_api_Span_p2_G p2))]) (rs := [.tmp 2]) (c := bodyOf Try.f41) mixed tab_ok hΓ Try.func41 (by kernel_rfl) (by kernel_rfl) (by kernel_rfl) (by kernel_rfl) (CutsOk_cons (q := 58) (c' := slices_Concat_api_Span_api_Span_p1_code) (by kernel_rfl) rfl hp1 (CutsOk_cons (q := 250) (c' := slices_Concat_api_Span_api_Span_p2_code) (by kernel_rfl) rfl hp2 CutsOk_nil)) (fun x k r h => Eq.trans (b := (zqfu (zqg9 c_slices_Grow_api_Span_api_Span_vnil p1 p2)).run x k) (by kernel_rfl) h)
end
theorem zqgbΓ : ΓOk Try.prog (pick1 [(53, .spec (zqe6 zqea))]) := (ΓOk_cons zqeb ΓOk_nil)
def zqgc (m : Nat) : zqfw := zqg4 m
theorem zqgd {β : Type} (i : Nat) (k1 slices size t9 t10 t11) : (zqgc (i + 1) k1 slices size t9 t10 t11 : Option β) = zqg3 (zqgc i k1) k1 slices size t9 t10 t11 := rfl
def zqge : zqfw := zqgc fuel
theorem zqgf : PieceOk Try.prog 36 0 slices_Concat_api_Span_api_Span_p1_code zqfx zqfy (slices_Concat_api_Span_api_Span_p1_G zqge) := zqg5 zqea zqgbΓ fuel
def zqgg (m : Nat) : zqg0 := zqg7 m
theorem zqgh {β : Type} (i : Nat) (k1 t25 t26 t27 newslice) : (zqgg (i + 1) k1 t25 t26 t27 newslice : Option β) = zqg6 (zqgg i k1) k1 t25 t26 t27 newslice := rfl
def zqgi : zqg0 := zqgg fuel
theorem zqgj : PieceOk Try.prog 36 0 slices_Concat_api_Span_api_Span_p2_code zqg1 zqg2 (slices_Concat_api_Span_api_Span_p2_G zqgi) := zqg8 zqea zqgbΓ fuel
def zqgk : zqft := zqg9 zqea zqge zqgi
theorem zqgl : SpecOk Try.prog 41 (zqfu zqgk) := zqga zqea zqgbΓ zqge zqgi zqgf zqgj

/-- slices.IndexFunc[[]pagewatch/api.Span,pagewatch/api.Span] -/
abbrev zqgm := {β : Type} → (List (Int × Int)) → Int → (Int → Int → Option β) → Option β
def zqgn (c : zqgm) : Spec :=
  ⟨[(false, [.data (.slice (.prod (.int .i64) (.int .i64)))]), (false, [.fn 38 [0]])], [.cells 3 [.data (.int .i64)]], [(false, [.data (.int .i64)])], [.cells 3 [.data (.int .i64)]], fun x k => c x.1.1.1 x.2.1.1 (fun r0 r1 => k (((r0, ()), ()), ((r1, ()), ())))⟩
noncomputable def slices_IndexFunc_api_Span_api_Span_vspan_Has_f1_p1_code : Code := codeAt 26 (bodyOf Try.f52)
abbrev zqgo (β : Type) := Int → Int → Option β
abbrev zqgp (β : Type) := Int → Option β
abbrev zqgq := {β : Type} → zqgo β → zqgp β → (List (Int × Int)) → Int → Int → Int → Option β
def zqgr : View := ⟨1, [0, 1, 7, 8], [(false, [.data (.slice (.prod (.int .i64) (.int .i64)))]), (false, [.fn 38 [0]]), (false, [.data (.int .i64)]), (false, [.data (.int .i64)])], [.cells 3 [.data (.int .i64)]]⟩
def zqgs : List (AExit × View) := [(.ret, ⟨1, [4], [(false, [.data (.int .i64)])], [.cells 3 [.data (.int .i64)]]⟩), (.exit 0, ⟨1, [], [], [.cells 3 [.data (.int .i64)]]⟩)]
@[reducible] def slices_IndexFunc_api_Span_api_Span_vspan_Has_f1_p1_G (p : zqgq) {β : Type} (d : zqgr.den) (ks : Outs.K β zqgs) : Option β :=
  p (fun a0 a1 => ks.1 (((a0, ()), ()), ((a1, ()), ()))) (fun a0 => ks.2.1 ((), ((a0, ()), ()))) d.1.1.1 d.1.2.2.1.1 d.1.2.2.2.1.1 d.2.1.1
section
variable (c_span_Has_f1 : zq4x)
@[reducible] def slices_IndexFunc_api_Span_api_Span_vspan_Has_f1_X : Ctx := ⟨look tab, pick1 [(38, .spec (zq4y c_span_Has_f1))], false, false, false⟩
def zqgt {β : Type} (rec : (List (Int × Int)) → Int → Int → Int → Option β) (k1 : zqgo β) (k2 : zqgp β) (s : List (Int × Int)) (t7 : Int) (t8 : Int) (b0_ : Int) : Option β :=
  cond (decide (t8 < t7))
  (cond (decide (0 ≤ t8) && decide (t8 < (List.length s : Int)))
  (let e : (Int × Int) := List.getD s (Int.toNat t8) ((0 : Int), (0 : Int));
  c_span_Has_f1 e b0_ (fun (rHas1 : Bool) (mrHas1 : Int) =>
  cond rHas1
  (k1 t8 mrHas1)
  (rec s t7 (IntKind.i64.wrap (t8 + (1 : Int))) mrHas1)))
  none)
  (k2 b0_)
def zqgu {β : Type} : Nat → zqgo β → zqgp β → (List (Int × Int)) → Int → Int → Int → Option β
  | 0 => fun _ _ _ _ _ _ => none
  | i + 1 => fun k1 k2 s t7 t8 b0_ => zqgt c_span_Has_f1 (zqgu i k1 k2) k1 k2 s t7 t8 b0_
theorem zqgv (hΓ : ΓOk Try.prog (slices_IndexFunc_api_Span_api_Span_vspan_Has_f1_X c_span_Has_f1).Γ) (i : Nat) : PieceOk Try.prog 19 1 slices_IndexFunc_api_Span_api_Span_vspan_Has_f1_p1_code zqgr zqgs (slices_IndexFunc_api_Span_api_Span_vspan_Has_f1_p1_G (zqgu c_span_Has_f1 i)) := by
  rw [show slices_IndexFunc_api_Span_api_Span_vspan_Has_f1_p1_code = .loop (loopBody slices_IndexFunc_api_Span_api_Span_vspan_Has_f1_p1_code) by kernel_rfl]
  exact piece_loop (X := (slices_IndexFunc_api_Span_api_Span_vspan_Has_f1_X c_span_Has_f1)) (p := 1) (Λ := pick1 []) (G := fun i => @fun β d ks => slices_IndexFunc_api_Span_api_Span_vspan_Has_f1_p1_G (zqgu c_span_Has_f1 i) d ks) mixed tab_ok hΓ rfl (by kernel_rfl) CutsOk_nil (fun _ _ => rfl) (fun i => @fun β d ks r h => Eq.trans (b := slices_IndexFunc_api_Span_api_Span_vspan_Has_f1_p1_G (zqgu c_span_Has_f1 (i + 1)) d ks) (by kernel_rfl) h) i
def zqgw (p1 : zqgq) {β : Type} (s : List (Int × Int)) (b0_ : Int) (k : (Int → Int → Option β)) : Option β :=
  p1 (fun (t4 : Int) (b0_2 : Int) =>
  k t4 b0_2) (fun (b0_2 : Int) =>
  k (-1 : Int) b0_2) s (List.length s : Int) (0 : Int) b0_
theorem zqgx (hΓ : ΓOk Try.prog (slices_IndexFunc_api_Span_api_Span_vspan_Has_f1_X c_span_Has_f1).Γ) (p1 : zqgq) (hp1 : PieceOk Try.prog 19 1 slices_IndexFunc_api_Span_api_Span_vspan_Has_f1_p1_code zqgr zqgs (slices_IndexFunc_api_Span_api_Span_vspan_Has_f1_p1_G p1)) : SpecOk Try.prog 52 (zqgn (zqgw p1)) :=
  spec_exec (X := (slices_IndexFunc_api_Span_api_Span_vspan_Has_f1_X c_span_Has_f1)) (Λ := pick1 [(26, pieceCut zqgr zqgs (slices_IndexFunc_api_Span_api_Span_vspan_Has_f1_p1_G p1))]) (rs := [.tmp 4]) (c := bodyOf Try.f52) mixed tab_ok hΓ Try.func52 (by kernel_rfl) (by kernel_rfl) (by kernel_rfl) (by kernel_rfl) (CutsOk_cons (q := 26) (c' := slices_IndexFunc_api_Span_api_Span_vspan_Has_f1_p1_code) (by kernel_rfl) rfl hp1 CutsOk_nil) (fun x k r h => Eq.trans (b := (zqgn (zqgw p1)).run x k) (by kernel_rfl) h)
end
theorem zqgyΓ : ΓOk Try.prog (pick1 [(38, .spec (zq4y zq52))]) := (ΓOk_cons zq53 ΓOk_nil)
def zqgz (m : Nat) : zqgq := zqgu zq52 m
theorem zqh0 {β : Type} (i : Nat) (k1 k2 s t7 t8 b0_) : (zqgz (i + 1) k1 k2 s t7 t8 b0_ : Option β) = zqgt zq52 (zqgz i k1 k2) k1 k2 s t7 t8 b0_ := rfl
def zqh1 : zqgq := zqgz fuel
theorem zqh2 : PieceOk Try.prog 19 1 slices_IndexFunc_api_Span_api_Span_vspan_Has_f1_p1_code zqgr zqgs (slices_IndexFunc_api_Span_api_Span_vspan_Has_f1_p1_G zqh1) := zqgv zq52 zqgyΓ fuel
def zqh3 : zqgm := zqgw zqh1
theorem zqh4 : SpecOk Try.prog 52 (zqgn zqh3) := zqgx zq52 zqgyΓ zqh1 zqh2

/-- slices.IndexFunc[[]pagewatch/api.Span,pagewatch/api.Span] -/
abbrev zqh5 := {β : Type} → (List (Int × Int)) → (Int → Option β) → Option β
def zqh6 (c : zqh5) : Spec :=
  ⟨[(false, [.data (.slice (.prod (.int .i64) (.int .i64)))]), (false, [.fn 49 []])], [], [(false, [.data (.int .i64)])], [], fun x k => c x.1.1.1 (fun r0 => k (((r0, ()), ()), ()))⟩
noncomputable def slices_IndexFunc_api_Span_api_Span_vspan_Merge_f1_p1_code : Code := codeAt 26 (bodyOf Try.f52)
abbrev zqh7 (β : Type) := Int → Option β
abbrev zqh8 (β : Type) := Unit → Option β
abbrev zqh9 := {β : Type} → zqh7 β → zqh8 β → (List (Int × Int)) → Int → Int → Option β
def zqha : View := ⟨0, [0, 1, 7, 8], [(false, [.data (.slice (.prod (.int .i64) (.int .i64)))]), (false, [.fn 49 []]), (false, [.data (.int .i64)]), (false, [.data (.int .i64)])], []⟩
def zqhb : List (AExit × View) := [(.ret, ⟨0, [4], [(false, [.data (.int .i64)])], []⟩), (.exit 0, ⟨0, [], [], []⟩)]
@[reducible] def slices_IndexFunc_api_Span_api_Span_vspan_Merge_f1_p1_G (p : zqh9) {β : Type} (d : zqha.den) (ks : Outs.K β zqhb) : Option β :=
  p (fun a0 => ks.1 (((a0, ()), ()), ())) (fun _ => ks.2.1 ((), ())) d.1.1.1 d.1.2.2.1.1 d.1.2.2.2.1.1
section
variable (c_span_Merge_f1 : zq8x)
@[reducible] def slices_IndexFunc_api_Span_api_Span_vspan_Merge_f1_X : Ctx := ⟨look tab, pick1 [(49, .spec (zq8y c_span_Merge_f1))], false, false, false⟩
def zqhc {β : Type} (rec : (List (Int × Int)) → Int → Int → Option β) (k1 : zqh7 β) (k2 : zqh8 β) (s : List (Int × Int)) (t7 : Int) (t8 : Int) : Option β :=
  cond (decide (t8 < t7))
  (cond (decide (0 ≤ t8) && decide (t8 < (List.length s : Int)))
  (let e : (Int × Int) := List.getD s (Int.toNat t8) ((0 : Int), (0 : Int));
  c_span_Merge_f1 e (fun (rMerge1 : Bool) =>
  cond rMerge1
  (k1 t8)
  (rec s t7 (IntKind.i64.wrap (t8 + (1 : Int))))))
  none)
  (k2 ())
def zqhd {β : Type} : Nat → zqh7 β → zqh8 β → (List (Int × Int)) → Int → Int → Option β
  | 0 => fun _ _ _ _ _ => none
  | i + 1 => fun k1 k2 s t7 t8 => zqhc c_span_Merge_f1 (zqhd i k1 k2) k1 k2 s t7 t8
theorem zqhe (hΓ : ΓOk Try.prog (slices_IndexFunc_api_Span_api_Span_vspan_Merge_f1_X c_span_Merge_f1).Γ) (i : Nat) : PieceOk Try.prog 19 0 slices_IndexFunc_api_Span_api_Span_vspan_Merge_f1_p1_code zqha zqhb (slices_IndexFunc_api_Span_api_Span_vspan_Merge_f1_p1_G (zqhd c_span_Merge_f1 i)) := by
  rw [show slices_IndexFunc_api_Span_api_Span_vspan_Merge_f1_p1_code = .loop (loopBody slices_IndexFunc_api_Span_api_Span_vspan_Merge_f1_p1_code) by kernel_rfl]
  exact piece_loop (X := (slices_IndexFunc_api_Span_api_Span_vspan_Merge_f1_X c_span_Merge_f1)) (p := 1) (Λ := pick1 []) (G := fun i => @fun β d ks => slices_IndexFunc_api_Span_api_Span_vspan_Merge_f1_p1_G (zqhd c_span_Merge_f1 i) d ks) mixed tab_ok hΓ rfl (by kernel_rfl) CutsOk_nil (fun _ _ => rfl) (fun i => @fun β d ks r h => Eq.trans (b := slices_IndexFunc_api_Span_api_Span_vspan_Merge_f1_p1_G (zqhd c_span_Merge_f1 (i + 1)) d ks) (by kernel_rfl) h) i
def zqhf (p1 : zqh9) {β : Type} (s : List (Int × Int)) (k : (Int → Option β)) : Option β :=
  p1 (fun (t4 : Int) =>
  k t4) (fun (_ : Unit) =>
  k (-1 : Int)) s (List.length s : Int) (0 : Int)
theorem zqhg (hΓ : ΓOk Try.prog (slices_IndexFunc_api_Span_api_Span_vspan_Merge_f1_X c_span_Merge_f1).Γ) (p1 : zqh9) (hp1 : PieceOk Try.prog 19 0 slices_IndexFunc_api_Span_api_Span_vspan_Merge_f1_p1_code zqha zqhb (slices_IndexFunc_api_Span_api_Span_vspan_Merge_f1_p1_G p1)) : SpecOk Try.prog 52 (zqh6 (zqhf p1)) :=
  spec_exec (X := (slices_IndexFunc_api_Span_api_Span_vspan_Merge_f1_X c_span_Merge_f1)) (Λ := pick1 [(26, pieceCut zqha zqhb (slices_IndexFunc_api_Span_api_Span_vspan_Merge_f1_p1_G p1))]) (rs := [.tmp 4]) (c := bodyOf Try.f52) mixed tab_ok hΓ Try.func52 (by kernel_rfl) (by kernel_rfl) (by kernel_rfl) (by kernel_rfl) (CutsOk_cons (q := 26) (c' := slices_IndexFunc_api_Span_api_Span_vspan_Merge_f1_p1_code) (by kernel_rfl) rfl hp1 CutsOk_nil) (fun x k r h => Eq.trans (b := (zqh6 (zqhf p1)).run x k) (by kernel_rfl) h)
end
theorem zqhhΓ : ΓOk Try.prog (pick1 [(49, .spec (zq8y zq92))]) := (ΓOk_cons zq93 ΓOk_nil)
def zqhi (m : Nat) : zqh9 := zqhd zq92 m
theorem zqhj {β : Type} (i : Nat) (k1 k2 s t7 t8) : (zqhi (i + 1) k1 k2 s t7 t8 : Option β) = zqhc zq92 (zqhi i k1 k2) k1 k2 s t7 t8 := rfl
def zqhk : zqh9 := zqhi fuel
theorem zqhl : PieceOk Try.prog 19 0 slices_IndexFunc_api_Span_api_Span_vspan_Merge_f1_p1_code zqha zqhb (slices_IndexFunc_api_Span_api_Span_vspan_Merge_f1_p1_G zqhk) := zqhe zq92 zqhhΓ fuel
def zqhm : zqh5 := zqhf zqhk
theorem zqhn : SpecOk Try.prog 52 (zqh6 zqhm) := zqhg zq92 zqhhΓ zqhk zqhl

/-- slices.ContainsFunc[[]pagewatch/api.Span,pagewatch/api.Span] -/
abbrev zqho := {β : Type} → (List (Int × Int)) → Int → (Bool → Int → Option β) → Option β
def zqhp (c : zqho) : Spec :=
  ⟨[(false, [.data (.slice (.prod (.int .i64) (.int .i64)))]), (false, [.fn 38 [0]])], [.cells 3 [.data (.int .i64)]], [(false, [.data .bool])], [.cells 3 [.data (.int .i64)]], fun x k => c x.1.1.1 x.2.1.1 (fun r0 r1 => k (((r0, ()), ()), ((r1, ()), ())))⟩
section
variable (c_slices_IndexFunc_api_Span_api_Span_vspan_Has_f1 : zqgm)
@[reducible] def slices_ContainsFunc_api_Span_api_Span_vspan_Has_f1_X : Ctx := ⟨look tab, pick1 [(52, .spec (zqgn c_slices_IndexFunc_api_Span_api_Span_vspan_Has_f1))], false, false, false⟩
def zqhq {β : Type} (s : List (Int × Int)) (b0_ : Int) (k : (Bool → Int → Option β)) : Option β :=
  c_slices_IndexFunc_api_Span_api_Span_vspan_Has_f1 s b0_ (fun (rSpan : Int) (mrSpan : Int) =>
  let t : Bool := (decide ((0 : Int) ≤ rSpan));
  k t mrSpan)
theorem zqhr (hΓ : ΓOk Try.prog (slices_ContainsFunc_api_Span_api_Span_vspan_Has_f1_X c_slices_IndexFunc_api_Span_api_Span_vspan_Has_f1).Γ) : SpecOk Try.prog 37 (zqhp (zqhq c_slices_IndexFunc_api_Span_api_Span_vspan_Has_f1)) :=
  spec_exec (X := (slices_ContainsFunc_api_Span_api_Span_vspan_Has_f1_X c_slices_IndexFunc_api_Span_api_Span_vspan_Has_f1)) (Λ := pick1 []) (rs := [.tmp 4]) (c := bodyOf Try.f37) mixed tab_ok hΓ Try.func37 (by kernel_rfl) (by kernel_rfl) (by kernel_rfl) (by kernel_rfl) CutsOk_nil (fun x k r h => Eq.trans (b := (zqhp (zqhq c_slices_IndexFunc_api_Span_api_Span_vspan_Has_f1)).run x k) (by kernel_rfl) h)
end
theorem zqhsΓ : ΓOk Try.prog (pick1 [(52, .spec (zqgn zqh3))]) := (ΓOk_cons zqh4 ΓOk_nil)
def zqht : zqho := zqhq zqh3
theorem zqhu : SpecOk Try.prog 37 (zqhp zqht) := zqhr zqh3 zqhsΓ

/-- slices.DeleteFunc[[]pagewatch/api.Span,pagewatch/api.Span] -/
abbrev zqhv := {β : Type} → (List (Int × Int)) → ((List (Int × Int)) → Option β) → Option β
def zqhw (c : zqhv) : Spec :=
  ⟨[(false, [.rowh 0]), (false, [.fn 49 []])], [.row 30 (.prod (.int .i64) (.int .i64))], [(false, [.rowh 0])], [.row 30 (.prod (.int .i64) (.int .i64))], fun x k => c x.2.1 (fun r0 => k (((), ()), (r0, ())))⟩
noncomputable def slices_DeleteFunc_api_Span_api_Span_vspan_Merge_f1_p1_code : Code := codeAt 122 (bodyOf Try.f47)
abbrev zqhx (β : Type) := Int → (List (Int × Int)) → Option β
abbrev zqhy := {β : Type} → zqhx β → Int → Int → (List (Int × Int)) → Option β
def zqhz : View := ⟨1, [0, 1, 5, 6], [(false, [.rowh 0]), (false, [.fn 49 []]), (false, [.data (.int .i64)]), (false, [.data (.int .i64)])], [.row 30 (.prod (.int .i64) (.int .i64))]⟩
def zqi0 : List (AExit × View) := [(.exit 0, ⟨1, [0, 5], [(false, [.rowh 0]), (false, [.data (.int .i64)])], [.row 30 (.prod (.int .i64) (.int .i64))]⟩)]
@[reducible] def slices_DeleteFunc_api_Span_api_Span_vspan_Merge_f1_p1_G (p : zqhy) {β : Type} (d : zqhz.den) (ks : Outs.K β zqi0) : Option β :=
  p (fun a0 a1 => ks.1 (((), (a0, ()), ()), (a1, ()))) d.1.2.2.1.1 d.1.2.2.2.1.1 d.2.1
section
variable (c_slices_IndexFunc_api_Span_api_Span_vspan_Merge_f1 : zqh5) (c_span_Merge_f1 : zq8x)
@[reducible] def slices_DeleteFunc_api_Span_api_Span_vspan_Merge_f1_X : Ctx := ⟨look tab, pick1 [(52, .spec (zqh6 c_slices_IndexFunc_api_Span_api_Span_vspan_Merge_f1)), (49, .spec (zq8y c_span_Merge_f1))], false, true, false⟩
def zqi1 {β : Type} (rec : Int → Int → (List (Int × Int)) → Option β) (k1 : zqhx β) (i_ : Int) (j : Int) (s : List (Int × Int)) : Option β :=
  cond (decide (j < (List.length s : Int)))
  (cond (decide (0 ≤ j) && decide (j < (List.length s : Int)))
  (c_span_Merge_f1 (List.getD s (Int.toNat j) ((0 : Int), (0 : Int))) (fun (rMerge1 : Bool) =>
  cond (!rMerge1)
  (cond (decide (0 ≤ i_) && decide (i_ < (List.length s : Int)))
  (let l : List (Int × Int) := (List.set s (Int.toNat i_) (List.getD s (Int.toNat j) ((0 : Int), (0 : Int))));
  let i_2 : Int := (IntKind.i64.wrap (i_ + (1 : Int)));
  let j2 : Int := (IntKind.i64.wrap (j + (1 : Int)));
  rec i_2 j2 l)
  none)
  (let j2 : Int := (IntKind.i64.wrap (j + (1 : Int)));
  rec i_ j2 s)))
  none)
  (k1 i_ s)
def zqi2 {β : Type} : Nat → zqhx β → Int → Int → (List (Int × Int)) → Option β
  | 0 => fun _ _ _ _ => none
  | i + 1 => fun k1 i_ j s => zqi1 c_span_Merge_f1 (zqi2 i k1) k1 i_ j s
theorem zqi3 (hΓ : ΓOk Try.prog (slices_DeleteFunc_api_Span_api_Span_vspan_Merge_f1_X c_slices_IndexFunc_api_Span_api_Span_vspan_Merge_f1 c_span_Merge_f1).Γ) (i : Nat) : PieceOk Try.prog 42 1 slices_DeleteFunc_api_Span_api_Span_vspan_Merge_f1_p1_code zqhz zqi0 (slices_DeleteFunc_api_Span_api_Span_vspan_Merge_f1_p1_G (zqi2 c_span_Merge_f1 i)) := by
  rw [show slices_DeleteFunc_api_Span_api_Span_vspan_Merge_f1_p1_code = .loop (loopBody slices_DeleteFunc_api_Span_api_Span_vspan_Merge_f1_p1_code) by kernel_rfl]
  exact piece_loop (X := (slices_DeleteFunc_api_Span_api_Span_vspan_Merge_f1_X c_slices_IndexFunc_api_Span_api_Span_vspan_Merge_f1 c_span_Merge_f1)) (p := 1) (Λ := pick1 []) (G := fun i => @fun β d ks => slices_DeleteFunc_api_Span_api_Span_vspan_Merge_f1_p1_G (zqi2 c_span_Merge_f1 i) d ks) mixed tab_ok hΓ rfl (by kernel_rfl) CutsOk_nil (fun _ _ => rfl) (fun i => @fun β d ks r h => Eq.trans (b := slices_DeleteFunc_api_Span_api_Span_vspan_Merge_f1_p1_G (zqi2 c_span_Merge_f1 (i + 1)) d ks) (by kernel_rfl) h) i
def zqi4 (p1 : zqhy) {β : Type} (s : List (Int × Int)) (k : ((List (Int × Int)) → Option β)) : Option β :=
  c_slices_IndexFunc_api_Span_api_Span_vspan_Merge_f1 s (fun (rSpan : Int) =>
  cond (decide (rSpan = (-1 : Int)))
  (k s)
  (let j : Int := (IntKind.i64.wrap (rSpan + (1 : Int)));
  p1 (fun (i_ : Int) (s2 : List (Int × Int)) =>
  cond (decide (0 ≤ i_) && (decide (i_ ≤ (List.length s2 : Int)) && decide ((List.length s2 : Int) ≤ (List.length s2 : Int))))
  (let l : List (Int × Int) := (List.take (Int.toNat i_) s2 ++ (List.replicate ((List.length s2) - (Int.toNat i_)) ((0 : Int), (0 : Int)) ++ List.drop (List.length s2) s2));
  cond (decide (0 ≤ i_) && decide (i_ ≤ (List.length l : Int)))
  (let l2 : List (Int × Int) := (List.take (Int.toNat i_) l);
  k l2)
  none)
  none) rSpan j s))
theorem zqi5 (hΓ : ΓOk Try.prog (slices_DeleteFunc_api_Span_api_Span_vspan_Merge_f1_X c_slices_IndexFunc_api_Span_api_Span_vspan_Merge_f1 c_span_Merge_f1).Γ) (p1 : zqhy) (hp1 : PieceOk Try.prog 42 1 slices_DeleteFunc_api_Span_api_Span_vspan_Merge_f1_p1_code zqhz zqi0 (slices_DeleteFunc_api_Span_api_Span_vspan_Merge_f1_p1_G p1)) : SpecOkB Try.prog 47 (zqhw (zqi4 c_slices_IndexFunc_api_Span_api_Span_vspan_Merge_f1 p1)) :=
  spec_execB (X := (slices_DeleteFunc_api_Span_api_Span_vspan_Merge_f1_X c_slices_IndexFunc_api_Span_api_Span_vspan_Merge_f1 c_span_Merge_f1)) (Λ := pick1 [(122, pieceCut zqhz zqi0 (slices_DeleteFunc_api_Span_api_Span_vspan_Merge_f1_p1_G p1))]) (rs := [.tmp 4]) (c := bodyOf Try.f47) mixed tab_ok hΓ Try.func47 (by kernel_rfl) (by kernel_rfl) (by kernel_rfl) (by kernel_rfl) (CutsOk_cons (q := 122) (c' := slices_DeleteFunc_api_Span_api_Span_vspan_Merge_f1_p1_code) (by kernel_rfl) rfl hp1 CutsOk_nil) (fun x k r h => Eq.trans (b := (zqhw (zqi4 c_slices_IndexFunc_api_Span_api_Span_vspan_Merge_f1 p1)).run x k) (by kernel_rfl) h)
end
theorem zqi6Γ : ΓOk Try.prog (pick1 [(52, .spec (zqh6 zqhm)), (49, .spec (zq8y zq92))]) := (ΓOk_cons zqhn (ΓOk_cons zq93 ΓOk_nil))
def zqi7 (m : Nat) : zqhy := zqi2 zq92 m
theorem zqi8 {β : Type} (i : Nat) (k1 i_ j s) : (zqi7 (i + 1) k1 i_ j s : Option β) = zqi1 zq92 (zqi7 i k1) k1 i_ j s := rfl
def zqi9 : zqhy := zqi7 fuel
theorem zqia : PieceOk Try.prog 42 1 slices_DeleteFunc_api_Span_api_Span_vspan_Merge_f1_p1_code zqhz zqi0 (slices_DeleteFunc_api_Span_api_Span_vspan_Merge_f1_p1_G zqi9) := zqi3 zqhm zq92 zqi6Γ fuel
def zqib : zqhv := zqi4 zqhm zqi9
theorem zqic : SpecOkB Try.prog 47 (zqhw zqib) := zqi5 zqhm zq92 zqi6Γ zqi9 zqia
def zqid (l : List (Int × Int)) : Bool := (zqib l (some : (List (Int × Int)) → Option (List (Int × Int)))).isSome
def zqie (l : List (Int × Int)) : List (Int × Int) := (zqib l (some : (List (Int × Int)) → Option (List (Int × Int)))).getD []
def zqif : RowF := ⟨30, (.prod (.int .i64) (.int .i64)), true, zqid, zqie, (some 49)⟩
theorem zqig : RowOk Try.prog 47 zqif :=
  SpecOkB.toRow (t := 30) (e := (.prod (.int .i64) (.int .i64))) (c := @zqib) rfl zqic (fun l h => by obtain ⟨x, hx⟩ := Option.isSome_iff_exists.1 (show (zqib l (some : (List (Int × Int)) → Option (List (Int × Int)))).isSome = true from h); exact hx.trans (congrArg some (show x = (zqib l (some : (List (Int × Int)) → Option (List (Int × Int)))).getD [] by rw [hx]; rfl)))

/-- pagewatch/span.Has -/
abbrev zqih := {β : Type} → (List (Int × Int)) → Int → (Bool → Option β) → Option β
def zqii (c : zqih) : Spec :=
  ⟨[(false, [.data (.slice (.prod (.int .i64) (.int .i64)))]), (false, [.data (.int .i64)])], [], [(false, [.data .bool])], [], fun x k => c x.1.1.1 x.1.2.1.1 (fun r0 => k (((r0, ()), ()), ()))⟩
section
variable (c_slices_ContainsFunc_api_Span_api_Span_vspan_Has_f1 : zqho) (c_span_Valid : zqx)
@[reducible] def span_Has_X : Ctx := ⟨look tab, pick1 [(37, .spec (zqhp c_slices_ContainsFunc_api_Span_api_Span_vspan_Has_f1)), (22, .spec (zqy c_span_Valid))], false, false, false⟩
def zqij {β : Type} (l : List (Int × Int)) (x : Int) (k : (Bool → Option β)) : Option β :=
  c_span_Valid l (fun (rValid : Bool) =>
  cond rValid
  (c_slices_ContainsFunc_api_Span_api_Span_vspan_Has_f1 l x (fun (rSpan : Bool) (mrSpan : Int) =>
  k rSpan))
  (k false))
theorem zqik (hΓ : ΓOk Try.prog (span_Has_X c_slices_ContainsFunc_api_Span_api_Span_vspan_Has_f1 c_span_Valid).Γ) : SpecOk Try.prog 17 (zqii (zqij c_slices_ContainsFunc_api_Span_api_Span_vspan_Has_f1 c_span_Valid)) :=
  spec_exec (X := (span_Has_X c_slices_ContainsFunc_api_Span_api_Span_vspan_Has_f1 c_span_Valid)) (Λ := pick1 []) (rs := [.tmp 4]) (c := bodyOf Try.f17) mixed tab_ok hΓ Try.func17 (by kernel_rfl) (by kernel_rfl) (by kernel_rfl) (by kernel_rfl) CutsOk_nil (fun x k r h => Eq.trans (b := (zqii (zqij c_slices_ContainsFunc_api_Span_api_Span_vspan_Has_f1 c_span_Valid)).run x k) (by kernel_rfl) h)
end
theorem zqilΓ : ΓOk Try.prog (pick1 [(37, .spec (zqhp zqht)), (22, .spec (zqy zq1e))]) := (ΓOk_cons zqhu (ΓOk_cons zq1f ΓOk_nil))
def zqim : zqih := zqij zqht zq1e
theorem zqin : SpecOk Try.prog 17 (zqii zqim) := zqik zqht zq1e zqilΓ

/-- slices.SortFunc[[]pagewatch/api.Span,pagewatch/api.Span] with pagewatch/span.Merge$2 -/
def zqio : Shelf.Ren :=
      { 
      f := fun x =>
        match x with
        | 6 => 50
        | 15 => 55
        | 14 => 54
        | 28 => 64
        | 29 => 65
        | 20 => 56
        | 21 => 57
        | 22 => 58
        | 23 => 59
        | 24 => 60
        | 25 => 61
        | 26 => 62
        | 27 => 63
        | 46 => 66
        | 47 => 67
        | 48 => 68
        | 49 => 69
        | 50 => 70
        | 57 => 71
        | n => n,
      t := fun x =>
        match x with
        | 22 => 27
        | 24 => 30
        | 25 => 64
        | 3 => 3
        | 39 => 70
        | 0 => 0
        | 53 => 79
        | 55 => 81
        | 4 => 4
        | 46 => 73
        | 45 => 72
        | 50 => 37
        | 5 => 5
        | 9 => 9
        | 66 => 82
        | 70 => 86
        | 76 => 88
        | 77 => 89
        | n => n,
      g := fun x => x }
theorem zqip : Go.Proofs.SlLaysF0.n6 Try.prog zqio :=
  { mixed := by kernel_rfl,
    f6 := Exists.intro "slices.SortFunc[[]pagewatch/api.Span,pagewatch/api.Span]" ⟨of_decide_eq_true (by kernel_rfl), Eq.trans Try.func50 (congrArg some (by kernel_rfl))⟩,
    f14 := Exists.intro "slices.pdqsortCmpFunc[pagewatch/api.Span]" ⟨of_decide_eq_true (by kernel_rfl), Eq.trans Try.func54 (congrArg some (by kernel_rfl))⟩,
    f15 := Eq.trans Try.func55 (congrArg some (by kernel_rfl)),
    f20 := Exists.intro "slices.insertionSortCmpFunc[pagewatch/api.Span]" ⟨of_decide_eq_true (by kernel_rfl), Eq.trans Try.func56 (congrArg some (by kernel_rfl))⟩,
    f21 := Exists.intro "slices.heapSortCmpFunc[pagewatch/api.Span]" ⟨of_decide_eq_true (by kernel_rfl), Eq.trans Try.func57 (congrArg some (by kernel_rfl))⟩,
    f22 := Exists.intro "slices.breakPatternsCmpFunc[pagewatch/api.Span]" ⟨of_decide_eq_true (by kernel_rfl), Eq.trans Try.func58 (congrArg some (by kernel_rfl))⟩,
    f23 := Exists.intro "slices.choosePivotCmpFunc[pagewatch/api.Span]" ⟨of_decide_eq_true (by kernel_rfl), Eq.trans Try.func59 (congrArg some (by kernel_rfl))⟩,
    f24 := Exists.intro "slices.reverseRangeCmpFunc[pagewatch/api.Span]" ⟨of_decide_eq_true (by kernel_rfl), Eq.trans Try.func60 (congrArg some (by kernel_rfl))⟩,
    f25 := Exists.intro "slices.partialInsertionSortCmpFunc[pagewatch/api.Span]" ⟨of_decide_eq_true (by kernel_rfl), Eq.trans Try.func61 (congrArg some (by kernel_rfl))⟩,
    f26 := Exists.intro "slices.partitionEqualCmpFunc[pagewatch/api.Span]" ⟨of_decide_eq_true (by kernel_rfl), Eq.trans Try.func62 (congrArg some (by kernel_rfl))⟩,
    f27 := Exists.intro "slices.partitionCmpFunc[pagewatch/api.Span]" ⟨of_decide_eq_true (by kernel_rfl), Eq.trans Try.func63 (congrArg some (by kernel_rfl))⟩,
    f28 := Eq.trans Try.func64 (congrArg some (by kernel_rfl)),
    f29 := Eq.trans Try.func65 (congrArg some (by kernel_rfl)),
    f46 := Exists.intro "slices.siftDownCmpFunc[pagewatch/api.Span]" ⟨of_decide_eq_true (by kernel_rfl), Eq.trans Try.func66 (congrArg some (by kernel_rfl))⟩,
    f47 := Eq.trans Try.func67 (congrArg some (by kernel_rfl)),
    f48 := Eq.trans Try.func68 (congrArg some (by kernel_rfl)),
    f49 := Exists.intro "slices.medianAdjacentCmpFunc[pagewatch/api.Span]" ⟨of_decide_eq_true (by kernel_rfl), Eq.trans Try.func69 (congrArg some (by kernel_rfl))⟩,
    f50 := Exists.intro "slices.medianCmpFunc[pagewatch/api.Span]" ⟨of_decide_eq_true (by kernel_rfl), Eq.trans Try.func70 (congrArg some (by kernel_rfl))⟩,
    f57 := Exists.intro "slices.order2CmpFunc[pagewatch/api.Span]" ⟨of_decide_eq_true (by kernel_rfl), Eq.trans Try.func71 (congrArg some (by kernel_rfl))⟩,
    t0 := Try.underlying0,
    a0 := Try.isAgg0,
    z0 := Try.sizeOf0,
    v0 := Try.zeroValue0,
    t3 := Try.underlying3,
    a3 := Try.isAgg3,
    z3 := Try.sizeOf3,
    v3 := Try.zeroValue3,
    t4 := Try.underlying4,
    a4 := Try.isAgg4,
    z4 := Try.sizeOf4,
    v4 := Try.zeroValue4,
    t5 := Try.underlying5,
    a5 := Try.isAgg5,
    z5 := Try.sizeOf5,
    v5 := Try.zeroValue5,
    t9 := Try.underlying9,
    a9 := Try.isAgg9,
    z9 := Try.sizeOf9,
    v9 := Try.zeroValue9,
    t22 := Try.underlying27,
    a22 := Try.isAgg27,
    z22 := Try.sizeOf27,
    v22 := Try.zeroValue27,
    t25 := Try.underlying64,
    a25 := Try.isAgg64,
    z25 := Try.sizeOf64,
    v25 := Try.zeroValue64,
    t39 := Try.underlying70,
    a39 := Try.isAgg70,
    z39 := Try.sizeOf70,
    v39 := Try.zeroValue70,
    t45 := Try.underlying72,
    a45 := Try.isAgg72,
    z45 := Try.sizeOf72,
    v45 := Try.zeroValue72,
    t46 := Try.underlying73,
    a46 := Try.isAgg73,
    z46 := Try.sizeOf73,
    v46 := Try.zeroValue73,
    t50 := Try.underlying37,
    a50 := Try.isAgg37,
    z50 := Try.sizeOf37,
    v50 := Try.zeroValue37,
    t53 := Try.underlying79,
    a53 := Try.isAgg79,
    z53 := Try.sizeOf79,
    v53 := Try.zeroValue79,
    t55 := Try.underlying81,
    a55 := Try.isAgg81,
    z55 := Try.sizeOf81,
    v55 := Try.zeroValue81,
    t66 := Try.underlying82,
    a66 := Try.isAgg82,
    z66 := Try.sizeOf82,
    v66 := Try.zeroValue82,
    t70 := Try.underlying86,
    a70 := Try.isAgg86,
    z70 := Try.sizeOf86,
    v70 := Try.zeroValue86,
    t76 := Try.underlying88,
    a76 := Try.isAgg88,
    z76 := Try.sizeOf88,
    v76 := Try.zeroValue88,
    t77 := Try.underlying89,
    a77 := Try.isAgg89,
    z77 := Try.sizeOf89,
    v77 := Try.zeroValue89 }
def zqiq : (Int × Int) → Bool := fun x => decide (0 ≤ x.1) && decide (x.1 ≤ 4611686018427387904)
def zqir : (Int × Int) → (Int × Int) → Int := fun x y => x.1 - y.1
def zqis : List (Int × Int) → List (Int × Int) := sortRun zqiq ((0, 0) : Int × Int) rfl zqir
theorem zqit (x y : Int × Int) (hx : zqiq x = true) (hy : zqiq y = true) (W : World) : Calls Try.prog 51 #[.agg (encT (.prod (.int .i64) (.int .i64)) x).toArray, .agg (encT (.prod (.int .i64) (.int .i64)) y).toArray] W fun e w' => e = .returned (.int .i64 (zqir x y)) ∧ ∃ q os', w' = Go.Sort.grow (W.drewN q) os' := by
  obtain ⟨a, b⟩ := x
  obtain ⟨c, d⟩ := y
  simp only [zqiq, Bool.and_eq_true, decide_eq_true_eq] at hx hy
  obtain ⟨h1, h2⟩ := hx
  obtain ⟨h3, h4⟩ := hy
  change Calls Try.prog 51 #[.agg #[.int .i64 a, .int .i64 b], .agg #[.int .i64 c, .int .i64 d]] W fun e w' => e = .returned (.int .i64 (a - c)) ∧ _
  have hw : Go.RowKit.wrap64 (a - c) = a - c := by unfold Go.RowKit.wrap64; omega
  go_enter Try.func51, Try.ntmps51
  go_wp2
  go_ret
  exact ⟨rfl, 0, _, by rw [Go.Sort.alloc_eq_grow, Go.Sort.alloc_eq_grow, Go.Sort.grow_grow]; rfl⟩
theorem zqiu : Go.Sort.SWO (Go.Proofs.ltOf fun (x y : {x : Int × Int // zqiq x = true}) => zqir x.1 y.1) := by
  constructor
  · intro x
    refine decide_eq_false ?_
    show ¬ x.1.1 - x.1.1 < 0
    omega
  · intro x y z h1 h2
    have h1 : x.1.1 - y.1.1 < 0 := of_decide_eq_true h1
    have h2 : y.1.1 - z.1.1 < 0 := of_decide_eq_true h2
    refine decide_eq_true ?_
    show x.1.1 - z.1.1 < 0
    omega
  · intro x y z h1 h2
    have h1 : ¬ x.1.1 - y.1.1 < 0 := of_decide_eq_false h1
    have h2 : ¬ y.1.1 - z.1.1 < 0 := of_decide_eq_false h2
    refine decide_eq_false ?_
    show ¬ x.1.1 - z.1.1 < 0
    omega
def zqiv : RowF := ⟨30, (.prod (.int .i64) (.int .i64)), false, fun l => List.all l zqiq && decide (List.length l < 4611686018427387904), zqis, some 51⟩
theorem zqiw : RowOk Try.prog 50 zqiv :=
  sortFunc_rowok (t := 30) (e := (.prod (.int .i64) (.int .i64))) (good := zqiq) (d0 := ((0, 0) : Int × Int)) (h0 := rfl) (cf := zqir) (g := 51) rfl (by decide) zqip rfl Try.isAgg30 Try.sizeOf30 zqiu (Go.Proofs.enters_of Try.func51 (by kernel_rfl) rfl) zqit ⟨_, Try.func50, by kernel_rfl, by kernel_rfl⟩

/-- pagewatch/span.Merge -/
abbrev zqix := {β : Type} → (List (Int × Int)) → ((List (Int × Int)) → Option β) → Option β
def zqiy (c : zqix) : Spec :=
  ⟨[(false, [.data (.slice (.prod (.int .i64) (.int .i64)))])], [], [(false, [.rowh 0])], [.row 30 (.prod (.int .i64) (.int .i64))], fun x k => c x.1.1.1 (fun r0 => k (((), ()), (r0, ())))⟩
noncomputable def span_Merge_p2_code : Code := codeAt 250 (bodyOf Try.f36)
noncomputable def span_Merge_p1_code : Code := codeAt 231 (loopBody span_Merge_p2_code)
abbrev zqiz (β : Type) := Int → Int → (List (Int × Int)) → (List (Int × Int)) → Option β
abbrev zqj0 := {β : Type} → zqiz β → Int → Int → Int → Bool → (List (Int × Int)) → Int → Int → (List (Int × Int)) → Option β
def zqj1 : View := ⟨0, [4, 6, 7, 13, 14, 15, 33], [(false, [.rowh 0]), (false, [.ptr 1 0]), (false, [.data (.int .i64)]), (false, [.rowh 2]), (false, [.data (.int .i64)]), (false, [.data (.int .i64)]), (false, [.data .bool])], [.row 30 (.prod (.int .i64) (.int .i64)), .cells 30 [.data (.int .i64), .data (.int .i64)], .row 30 (.prod (.int .i64) (.int .i64))]⟩
def zqj2 : List (AExit × View) := [(.normal, ⟨0, [4, 13, 14, 15], [(false, [.rowh 0]), (false, [.rowh 1]), (false, [.data (.int .i64)]), (false, [.data (.int .i64)])], [.row 30 (.prod (.int .i64) (.int .i64)), .row 30 (.prod (.int .i64) (.int .i64))]⟩)]
@[reducible] def span_Merge_p1_G (p : zqj0) {β : Type} (d : zqj1.den) (ks : Outs.K β zqj2) : Option β :=
  p (fun a0 a1 a2 a3 => ks.1 (((), (), (a0, ()), (a1, ()), ()), (a2, a3, ()))) d.1.2.2.1.1 d.1.2.2.2.2.1.1 d.1.2.2.2.2.2.1.1 d.1.2.2.2.2.2.2.1.1 d.2.1 d.2.2.1.1 d.2.2.1.2.1 d.2.2.2.1
abbrev zqj3 (β : Type) := (List (Int × Int)) → Option β
abbrev zqj4 := {β : Type} → zqj3 β → Int → Int → (List (Int × Int)) → (List (Int × Int)) → Option β
def zqj5 : View := ⟨0, [4, 13, 14, 15], [(false, [.rowh 0]), (false, [.rowh 1]), (false, [.data (.int .i64)]), (false, [.data (.int .i64)])], [.row 30 (.prod (.int .i64) (.int .i64)), .row 30 (.prod (.int .i64) (.int .i64))]⟩
def zqj6 : List (AExit × View) := [(.exit 0, ⟨0, [4], [(false, [.rowh 0])], [.row 30 (.prod (.int .i64) (.int .i64))]⟩)]
@[reducible] def span_Merge_p2_G (p : zqj4) {β : Type} (d : zqj5.den) (ks : Outs.K β zqj6) : Option β :=
  p (fun a0 => ks.1 (((), ()), (a0, ()))) d.1.2.2.1.1 d.1.2.2.2.1.1 d.2.1 d.2.2.1
section
variable (c_slices_Clone_api_Span_api_Span : zq8t)
@[reducible] def span_Merge_X : Ctx := ⟨look tab, pick1 [(48, .spec (zq8u c_slices_Clone_api_Span_api_Span)), (47, .rows zqif), (50, .rows zqiv)], false, false, false⟩
def zqj7 {β : Type} (k1 : zqiz β) (n : Int) (t14 : Int) (t15 : Int) (t33 : Bool) (out : List (Int × Int)) (s : Int) (s2 : Int) (t13 : List (Int × Int)) : Option β :=
  cond t33
  (cond (decide (0 ≤ (IntKind.i64.wrap (n - (1 : Int)))) && decide ((IntKind.i64.wrap (n - (1 : Int))) < (List.length out : Int)))
  (cond (decide (0 ≤ (IntKind.i64.wrap (n - (1 : Int)))) && decide ((IntKind.i64.wrap (n - (1 : Int))) < (List.length out : Int)))
  (let l : List (Int × Int) := (List.set out (Int.toNat (IntKind.i64.wrap (n - (1 : Int)))) ((List.getD out (Int.toNat (IntKind.i64.wrap (n - (1 : Int)))) ((0 : Int), (0 : Int))).1, (if s2 > (List.getD out (Int.toNat (IntKind.i64.wrap (n - (1 : Int)))) ((0 : Int), (0 : Int))).2 then s2 else (List.getD out (Int.toNat (IntKind.i64.wrap (n - (1 : Int)))) ((0 : Int), (0 : Int))).2)));
  k1 t14 t15 l t13)
  none)
  none)
  (let l : List (Int × Int) := ([(s, s2)] : List (Int × Int));
  cond (decide ((List.length out + List.length l) * 16 ≤ roomMax))
  (let l2 : List (Int × Int) := (out ++ l);
  k1 t14 t15 l2 t13)
  none)
def zqj8 {β : Type} (k1 : zqiz β) (n : Int) (t14 : Int) (t15 : Int) (t33 : Bool) (out : List (Int × Int)) (s : Int) (s2 : Int) (t13 : List (Int × Int)) : Option β := zqj7 k1 n t14 t15 t33 out s s2 t13
theorem zqj9 (hΓ : ΓOk Try.prog (span_Merge_X c_slices_Clone_api_Span_api_Span).Γ) : PieceOk Try.prog 54 0 span_Merge_p1_code zqj1 zqj2 (span_Merge_p1_G (zqj8)) :=
  piece_exec (X := (span_Merge_X c_slices_Clone_api_Span_api_Span)) (p := 231) (Λ := pick1 []) mixed tab_ok hΓ (by kernel_rfl) CutsOk_nil (fun d ks r h => Eq.trans (b := span_Merge_p1_G (zqj8) d ks) (by kernel_rfl) h)
def zqja (p1 : zqj0) {β : Type} (rec : Int → Int → (List (Int × Int)) → (List (Int × Int)) → Option β) (k1 : zqj3 β) (t14 : Int) (t15 : Int) (out : List (Int × Int)) (t13 : List (Int × Int)) : Option β :=
  cond (decide (t15 < t14))
  (cond (decide (0 ≤ t15) && decide (t15 < (List.length t13 : Int)))
  (cond (decide ((0 : Int) < (List.length out : Int)))
  (cond (decide (0 ≤ (IntKind.i64.wrap ((List.length out : Int) - (1 : Int)))) && decide ((IntKind.i64.wrap ((List.length out : Int) - (1 : Int))) < (List.length out : Int)))
  (p1 (fun (t142 : Int) (t152 : Int) (out2 : List (Int × Int)) (t132 : List (Int × Int)) =>
  rec t142 (IntKind.i64.wrap (t152 + (1 : Int))) out2 t132) (List.length out : Int) t14 t15 (decide (((List.getD t13 (Int.toNat t15) ((0 : Int), (0 : Int))).1) ≤ ((List.getD out (Int.toNat (IntKind.i64.wrap ((List.length out : Int) - (1 : Int)))) ((0 : Int), (0 : Int))).2))) out ((List.getD t13 (Int.toNat t15) ((0 : Int), (0 : Int))).1) ((List.getD t13 (Int.toNat t15) ((0 : Int), (0 : Int))).2) t13)
  none)
  (p1 (fun (t142 : Int) (t152 : Int) (out2 : List (Int × Int)) (t132 : List (Int × Int)) =>
  rec t142 (IntKind.i64.wrap (t152 + (1 : Int))) out2 t132) (List.length out : Int) t14 t15 false out ((List.getD t13 (Int.toNat t15) ((0 : Int), (0 : Int))).1) ((List.getD t13 (Int.toNat t15) ((0 : Int), (0 : Int))).2) t13))
  none)
  (k1 out)
def zqjb (p1 : zqj0) {β : Type} : Nat → zqj3 β → Int → Int → (List (Int × Int)) → (List (Int × Int)) → Option β
  | 0 => fun _ _ _ _ _ => none
  | i + 1 => fun k1 t14 t15 out t13 => zqja p1 (zqjb p1 i k1) k1 t14 t15 out t13
theorem zqjc (hΓ : ΓOk Try.prog (span_Merge_X c_slices_Clone_api_Span_api_Span).Γ) (p1 : zqj0) (hp1 : PieceOk Try.prog 54 0 span_Merge_p1_code zqj1 zqj2 (span_Merge_p1_G p1)) (i : Nat) : PieceOk Try.prog 54 0 span_Merge_p2_code zqj5 zqj6 (span_Merge_p2_G (zqjb p1 i)) := by
  rw [show span_Merge_p2_code = .loop (loopBody span_Merge_p2_code) by kernel_rfl]
  exact piece_loop (X := (span_Merge_X c_slices_Clone_api_Span_api_Span)) (p := 1) (Λ := pick1 [(231, pieceCut zqj1 zqj2 (span_Merge_p1_G p1))]) (G := fun i => @fun β d ks => span_Merge_p2_G (zqjb p1 i) d ks) mixed tab_ok hΓ rfl (by kernel_rfl) (CutsOk_cons (q := 231) (c' := span_Merge_p1_code) (by kernel_rfl) rfl hp1 CutsOk_nil) (fun _ _ => rfl) (fun i => @fun β d ks r h => Eq.trans (b := span_Merge_p2_G (zqjb p1 (i + 1)) d ks) (by kernel_rfl) h) i
def zqjd (p2 : zqj4) {β : Type} (l : List (Int × Int)) (k : ((List (Int × Int)) → Option β)) : Option β :=
  c_slices_Clone_api_Span_api_Span l (fun (lrSpan : List (Int × Int)) =>
  cond (zqid lrSpan)
  (let l2 : List (Int × Int) := (zqie lrSpan);
  cond ((List.all l2 zqiq) && decide (List.length l2 < 4611686018427387904))
  (let l3 : List (Int × Int) := (zqis l2);
  p2 (fun (out : List (Int × Int)) =>
  k out) (List.length l3 : Int) (0 : Int) ([] : List (Int × Int)) l3)
  none)
  none)
theorem zqje (hΓ : ΓOk Try.prog (span_Merge_X c_slices_Clone_api_Span_api_Span).Γ) (p2 : zqj4) (hp2 : PieceOk Try.prog 54 0 span_Merge_p2_code zqj5 zqj6 (span_Merge_p2_G p2)) : SpecOk Try.prog 36 (zqiy (zqjd c_slices_Clone_api_Span_api_Span p2)) :=
  spec_exec (X := (span_Merge_X c_slices_Clone_api_Span_api_Span)) (Λ := pick1 [(250, pieceCut zqj5 zqj6 (span_Merge_p2_G p2))]) (rs := [.tmp 2]) (c := bodyOf Try.f36) mixed tab_ok hΓ Try.func36 (by kernel_rfl) (by kernel_rfl) (by kernel_rfl) (by kernel_rfl) (CutsOk_cons (q := 250) (c' := span_Merge_p2_code) (by kernel_rfl) rfl hp2 CutsOk_nil) (fun x k r h => Eq.trans (b := (zqiy (zqjd c_slices_Clone_api_Span_api_Span p2)).run x k) (by kernel_rfl) h)
end
theorem zqjfΓ : ΓOk Try.prog (pick1 [(48, .spec (zq8u zq8v)), (47, .rows zqif), (50, .rows zqiv)]) := (ΓOk_cons zq8w (ΓOk_row zqig (ΓOk_row zqiw ΓOk_nil)))
def zqjg : zqj0 := zqj8
theorem zqjh : PieceOk Try.prog 54 0 span_Merge_p1_code zqj1 zqj2 (span_Merge_p1_G zqjg) := zqj9 zq8v zqjfΓ
def zqji (m : Nat) : zqj4 := zqjb zqjg m
theorem zqjj {β : Type} (i : Nat) (k1 t14 t15 out t13) : (zqji (i + 1) k1 t14 t15 out t13 : Option β) = zqja zqjg (zqji i k1) k1 t14 t15 out t13 := rfl
def zqjk : zqj4 := zqji fuel
theorem zqjl : PieceOk Try.prog 54 0 span_Merge_p2_code zqj5 zqj6 (span_Merge_p2_G zqjk) := zqjc zq8v zqjfΓ zqjg zqjh fuel
def zqjm : zqix := zqjd zq8v zqjk
theorem zqjn : SpecOk Try.prog 36 (zqiy zqjm) := zqje zq8v zqjfΓ zqjk zqjl

/-- pagewatch/span.Union$1 -/
abbrev zqjo := {β : Type} → (List (Int × Int)) → (List (Int × Int)) → ((List (Int × Int)) → Option β) → Option β
def zqjp (c : zqjo) : Spec :=
  ⟨[(false, [.data (.slice (.prod (.int .i64) (.int .i64)))]), (false, [.data (.slice (.prod (.int .i64) (.int .i64)))])], [], [(false, [.rowh 0])], [.row 30 (.prod (.int .i64) (.int .i64))], fun x k => c x.1.1.1 x.1.2.1.1 (fun r0 => k (((), ()), (r0, ())))⟩
section
variable (c_slices_Concat_api_Span_api_Span : zqft) (c_span_Merge : zqix)
@[reducible] def span_Union_f1_X : Ctx := ⟨look tab, pick1 [(41, .spec (zqfu c_slices_Concat_api_Span_api_Span)), (36, .spec (zqiy c_span_Merge))], false, false, false⟩
def zqjq {β : Type} (a : List (Int × Int)) (b : List (Int × Int)) (k : ((List (Int × Int)) → Option β)) : Option β :=
  let l : List (List (Int × Int)) := ([a, b] : List (List (Int × Int)));
  c_slices_Concat_api_Span_api_Span l (fun (lrSpan : List (Int × Int)) =>
  c_span_Merge lrSpan (fun (lrMerge : List (Int × Int)) =>
  k lrMerge))
theorem zqjr (hΓ : ΓOk Try.prog (span_Union_f1_X c_slices_Concat_api_Span_api_Span c_span_Merge).Γ) : SpecOk Try.prog 40 (zqjp (zqjq c_slices_Concat_api_Span_api_Span c_span_Merge)) :=
  spec_exec (X := (span_Union_f1_X c_slices_Concat_api_Span_api_Span c_span_Merge)) (Λ := pick1 []) (rs := [.tmp 4]) (c := bodyOf Try.f40) mixed tab_ok hΓ Try.func40 (by kernel_rfl) (by kernel_rfl) (by kernel_rfl) (by kernel_rfl) CutsOk_nil (fun x k r h => Eq.trans (b := (zqjp (zqjq c_slices_Concat_api_Span_api_Span c_span_Merge)).run x k) (by kernel_rfl) h)
end
theorem zqjsΓ : ΓOk Try.prog (pick1 [(41, .spec (zqfu zqgk)), (36, .spec (zqiy zqjm))]) := (ΓOk_cons zqgl (ΓOk_cons zqjn ΓOk_nil))
def zqjt : zqjo := zqjq zqgk zqjm
theorem zqju : SpecOk Try.prog 40 (zqjp zqjt) := zqjr zqgk zqjm zqjsΓ

/-- pagewatch/span.two -/
abbrev zqjv := {β : Type} → (List (Int × Int)) → (List (Int × Int)) → (Int → (List (Int × Int)) → Option β) → Option β
def zqjw (c : zqjv) : Spec :=
  ⟨[(false, [.data (.slice (.prod (.int .i64) (.int .i64)))]), (false, [.data (.slice (.prod (.int .i64) (.int .i64)))]), (false, [.fn 40 []])], [], [(false, [.rowh 0]), (false, [.data (.int .i64)])], [.row 30 (.prod (.int .i64) (.int .i64))], fun x k => c x.1.1.1 x.1.2.1.1 (fun r0 r1 => k (((), (r0, ()), ()), (r1, ())))⟩
section
variable (c_span_Union_f1 : zqjo) (c_span_Valid : zqx)
@[reducible] def span_two_vspan_Union_f1_X : Ctx := ⟨look tab, pick1 [(40, .spec (zqjp c_span_Union_f1)), (22, .spec (zqy c_span_Valid))], false, false, false⟩
def zqjx {β : Type} (a : List (Int × Int)) (b : List (Int × Int)) (k : (Int → (List (Int × Int)) → Option β)) : Option β :=
  c_span_Valid a (fun (rValid : Bool) =>
  cond (!rValid)
  (k (8 : Int) ([] : List (Int × Int)))
  (c_span_Valid b (fun (rValid2 : Bool) =>
  cond (!rValid2)
  (k (8 : Int) ([] : List (Int × Int)))
  (c_span_Union_f1 a b (fun (lrUnion1 : List (Int × Int)) =>
  cond (decide ((4096 : Int) < (List.length lrUnion1 : Int)))
  (k (5 : Int) ([] : List (Int × Int)))
  (k (0 : Int) lrUnion1))))))
theorem zqjy (hΓ : ΓOk Try.prog (span_two_vspan_Union_f1_X c_span_Union_f1 c_span_Valid).Γ) : SpecOk Try.prog 39 (zqjw (zqjx c_span_Union_f1 c_span_Valid)) :=
  spec_exec (X := (span_two_vspan_Union_f1_X c_span_Union_f1 c_span_Valid)) (Λ := pick1 []) (rs := [.tmp 6, .tmp 7]) (c := bodyOf Try.f39) mixed tab_ok hΓ Try.func39 (by kernel_rfl) (by kernel_rfl) (by kernel_rfl) (by kernel_rfl) CutsOk_nil (fun x k r h => Eq.trans (b := (zqjw (zqjx c_span_Union_f1 c_span_Valid)).run x k) (by kernel_rfl) h)
end
theorem zqjzΓ : ΓOk Try.prog (pick1 [(40, .spec (zqjp zqjt)), (22, .spec (zqy zq1e))]) := (ΓOk_cons zqju (ΓOk_cons zq1f ΓOk_nil))
def zqk0 : zqjv := zqjx zqjt zq1e
theorem zqk1 : SpecOk Try.prog 39 (zqjw zqk0) := zqjy zqjt zq1e zqjzΓ

/-- pagewatch/span.Normal -/
abbrev zqk2 := {β : Type} → (List (Int × Int)) → (Int → (List (Int × Int)) → Option β) → Option β
def zqk3 (c : zqk2) : Spec :=
  ⟨[(false, [.data (.slice (.prod (.int .i64) (.int .i64)))])], [], [(false, [.rowh 0]), (false, [.data (.int .i64)])], [.row 30 (.prod (.int .i64) (.int .i64))], fun x k => c x.1.1.1 (fun r0 r1 => k (((), (r0, ()), ()), (r1, ())))⟩
noncomputable def span_Normal_p1_code : Code := codeAt 58 (bodyOf Try.f13)
abbrev zqk4 (β : Type) := Int → (List (Int × Int)) → Option β
abbrev zqk5 (β : Type) := (List (Int × Int)) → Option β
abbrev zqk6 := {β : Type} → zqk4 β → zqk5 β → (List (Int × Int)) → (List (Int × Int)) → Int → Int → Option β
def zqk7 : View := ⟨0, [0, 9, 10, 11], [(false, [.data (.slice (.prod (.int .i64) (.int .i64)))]), (false, [.data (.slice (.prod (.int .i64) (.int .i64)))]), (false, [.data (.int .i64)]), (false, [.data (.int .i64)])], []⟩
def zqk8 : List (AExit × View) := [(.ret, ⟨0, [2, 3], [(false, [.rowh 0]), (false, [.data (.int .i64)])], [.row 30 (.prod (.int .i64) (.int .i64))]⟩), (.exit 0, ⟨0, [0], [(false, [.data (.slice (.prod (.int .i64) (.int .i64)))])], []⟩)]
@[reducible] def span_Normal_p1_G (p : zqk6) {β : Type} (d : zqk7.den) (ks : Outs.K β zqk8) : Option β :=
  p (fun a0 a1 => ks.1 (((), (a0, ()), ()), (a1, ()))) (fun a0 => ks.2.1 (((a0, ()), ()), ())) d.1.1.1 d.1.2.1.1 d.1.2.2.1.1 d.1.2.2.2.1.1
section
variable (c_span_Merge : zqix)
@[reducible] def span_Normal_X : Ctx := ⟨look tab, pick1 [(36, .spec (zqiy c_span_Merge))], false, false, false⟩
def zqk9 {β : Type} (rec : (List (Int × Int)) → (List (Int × Int)) → Int → Int → Option β) (k1 : zqk4 β) (k2 : zqk5 β) (l : List (Int × Int)) (t9 : List (Int × Int)) (t10 : Int) (t11 : Int) : Option β :=
  cond (decide (t11 < t10))
  (cond (decide (0 ≤ t11) && decide (t11 < (List.length t9 : Int)))
  (let e : (Int × Int) := List.getD t9 (Int.toNat t11) ((0 : Int), (0 : Int));
  cond (decide (e.1 < e.2))
  (cond (decide (e.1 < (0 : Int)))
  (k1 (1 : Int) ([] : List (Int × Int)))
  (cond (decide ((8589934592 : Int) < e.2))
  (k1 (1 : Int) ([] : List (Int × Int)))
  (rec l t9 t10 (IntKind.i64.wrap (t11 + (1 : Int))))))
  (rec l t9 t10 (IntKind.i64.wrap (t11 + (1 : Int)))))
  none)
  (k2 l)
def zqka {β : Type} : Nat → zqk4 β → zqk5 β → (List (Int × Int)) → (List (Int × Int)) → Int → Int → Option β
  | 0 => fun _ _ _ _ _ _ => none
  | i + 1 => fun k1 k2 l t9 t10 t11 => zqk9 (zqka i k1 k2) k1 k2 l t9 t10 t11
theorem zqkb (hΓ : ΓOk Try.prog (span_Normal_X c_span_Merge).Γ) (i : Nat) : PieceOk Try.prog 33 0 span_Normal_p1_code zqk7 zqk8 (span_Normal_p1_G (zqka i)) := by
  rw [show span_Normal_p1_code = .loop (loopBody span_Normal_p1_code) by kernel_rfl]
  exact piece_loop (X := (span_Normal_X c_span_Merge)) (p := 1) (Λ := pick1 []) (G := fun i => @fun β d ks => span_Normal_p1_G (zqka i) d ks) mixed tab_ok hΓ rfl (by kernel_rfl) CutsOk_nil (fun _ _ => rfl) (fun i => @fun β d ks r h => Eq.trans (b := span_Normal_p1_G (zqka (i + 1)) d ks) (by kernel_rfl) h) i
def zqkc (p1 : zqk6) {β : Type} (l : List (Int × Int)) (k : (Int → (List (Int × Int)) → Option β)) : Option β :=
  cond (decide ((4096 : Int) < (List.length l : Int)))
  (k (5 : Int) ([] : List (Int × Int)))
  (p1 (fun (t3 : Int) (t2 : List (Int × Int)) =>
  k t3 t2) (fun (l2 : List (Int × Int)) =>
  c_span_Merge l2 (fun (lrMerge : List (Int × Int)) =>
  k (0 : Int) lrMerge)) l l (List.length l : Int) (0 : Int))
theorem zqkd (hΓ : ΓOk Try.prog (span_Normal_X c_span_Merge).Γ) (p1 : zqk6) (hp1 : PieceOk Try.prog 33 0 span_Normal_p1_code zqk7 zqk8 (span_Normal_p1_G p1)) : SpecOk Try.prog 13 (zqk3 (zqkc c_span_Merge p1)) :=
  spec_exec (X := (span_Normal_X c_span_Merge)) (Λ := pick1 [(58, pieceCut zqk7 zqk8 (span_Normal_p1_G p1))]) (rs := [.tmp 2, .tmp 3]) (c := bodyOf Try.f13) mixed tab_ok hΓ Try.func13 (by kernel_rfl) (by kernel_rfl) (by kernel_rfl) (by kernel_rfl) (CutsOk_cons (q := 58) (c' := span_Normal_p1_code) (by kernel_rfl) rfl hp1 CutsOk_nil) (fun x k r h => Eq.trans (b := (zqk3 (zqkc c_span_Merge p1)).run x k) (by kernel_rfl) h)
end
theorem zqkeΓ : ΓOk Try.prog (pick1 [(36, .spec (zqiy zqjm))]) := (ΓOk_cons zqjn ΓOk_nil)
def zqkf (m : Nat) : zqk6 := zqka m
theorem zqkg {β : Type} (i : Nat) (k1 k2 l t9 t10 t11) : (zqkf (i + 1) k1 k2 l t9 t10 t11 : Option β) = zqk9 (zqkf i k1 k2) k1 k2 l t9 t10 t11 := rfl
def zqkh : zqk6 := zqkf fuel
theorem zqki : PieceOk Try.prog 33 0 span_Normal_p1_code zqk7 zqk8 (span_Normal_p1_G zqkh) := zqkb zqjm zqkeΓ fuel
def zqkj : zqk2 := zqkc zqjm zqkh
theorem zqkk : SpecOk Try.prog 13 (zqk3 zqkj) := zqkd zqjm zqkeΓ zqkh zqki

/-- pagewatch/span.Union -/
abbrev zqkl := {β : Type} → (List (Int × Int)) → (List (Int × Int)) → (Int → (List (Int × Int)) → Option β) → Option β
def zqkm (c : zqkl) : Spec :=
  ⟨[(false, [.data (.slice (.prod (.int .i64) (.int .i64)))]), (false, [.data (.slice (.prod (.int .i64) (.int .i64)))])], [], [(false, [.rowh 0]), (false, [.data (.int .i64)])], [.row 30 (.prod (.int .i64) (.int .i64))], fun x k => c x.1.1.1 x.1.2.1.1 (fun r0 r1 => k (((), (r0, ()), ()), (r1, ())))⟩
section
variable (c_span_two_vspan_Union_f1 : zqjv)
@[reducible] def span_Union_X : Ctx := ⟨look tab, pick1 [(39, .spec (zqjw c_span_two_vspan_Union_f1))], false, false, false⟩
def zqkn {β : Type} (a : List (Int × Int)) (b : List (Int × Int)) (k : (Int → (List (Int × Int)) → Option β)) : Option β :=
  c_span_two_vspan_Union_f1 a b (fun (rtwo : Int) (lrtwo : List (Int × Int)) =>
  k rtwo lrtwo)
theorem zqko (hΓ : ΓOk Try.prog (span_Union_X c_span_two_vspan_Union_f1).Γ) : SpecOk Try.prog 18 (zqkm (zqkn c_span_two_vspan_Union_f1)) :=
  spec_exec (X := (span_Union_X c_span_two_vspan_Union_f1)) (Λ := pick1 []) (rs := [.tmp 4, .tmp 5]) (c := bodyOf Try.f18) mixed tab_ok hΓ Try.func18 (by kernel_rfl) (by kernel_rfl) (by kernel_rfl) (by kernel_rfl) CutsOk_nil (fun x k r h => Eq.trans (b := (zqkm (zqkn c_span_two_vspan_Union_f1)).run x k) (by kernel_rfl) h)
end
theorem zqkpΓ : ΓOk Try.prog (pick1 [(39, .spec (zqjw zqk0))]) := (ΓOk_cons zqk1 ΓOk_nil)
def zqkq : zqkl := zqkn zqk0
theorem zqkr : SpecOk Try.prog 18 (zqkm zqkq) := zqko zqk0 zqkpΓ

/-- pagewatch/pagewatchlaw03.sane -/
abbrev zqks := {β : Type} → (Bool → Option β) → Option β
def zqkt (c : zqks) : Spec :=
  ⟨[], [], [(false, [.data .bool])], [], fun x k => c  (fun r0 => k (((r0, ()), ()), ()))⟩
section
variable (c_law03_same : zqe) (c_span_Gap : zq9n) (c_span_Minus : zqf1) (c_span_Normal : zqk2)
@[reducible] def law03_sane_X : Ctx := ⟨look tab, pick1 [(14, .spec (zqf c_law03_same)), (16, .spec (zq9o c_span_Gap)), (20, .spec (zqf2 c_span_Minus)), (13, .spec (zqk3 c_span_Normal))], false, false, false⟩
def zqku {β : Type} (k : (Bool → Option β)) : Option β :=
  let l : List (Int × Int) := ([((5 : Int), (9 : Int)), ((1 : Int), (3 : Int)), ((3 : Int), (4 : Int)), ((7 : Int), (6 : Int))] : List (Int × Int));
  c_span_Normal l (fun (rNormal : Int) (lrNormal : List (Int × Int)) =>
  let l2 : List (Int × Int) := ([((0 : Int), (10 : Int))] : List (Int × Int));
  let l3 : List (Int × Int) := ([((2 : Int), (3 : Int)), ((5 : Int), (20 : Int))] : List (Int × Int));
  c_span_Minus l2 l3 (fun (rMinus : Int) (lrMinus : List (Int × Int)) =>
  cond (decide (rNormal = (0 : Int)))
  (cond (decide (rMinus = (0 : Int)))
  (let l4 : List (Int × Int) := ([((1 : Int), (4 : Int)), ((5 : Int), (9 : Int))] : List (Int × Int));
  c_law03_same lrNormal l4 (fun (rsame : Bool) =>
  cond rsame
  (let l5 : List (Int × Int) := ([((0 : Int), (2 : Int)), ((3 : Int), (5 : Int))] : List (Int × Int));
  c_law03_same lrMinus l5 (fun (rsame2 : Bool) =>
  cond rsame2
  (let l6 : List (Int × Int) := ([((0 : Int), (10 : Int))] : List (Int × Int));
  c_span_Gap l6 (4 : Int) (fun (rGap : Int) =>
  let t : Bool := (decide (rGap = (10 : Int)));
  k t))
  (k false)))
  (k false)))
  (k false))
  (k false)))
theorem zqkv (hΓ : ΓOk Try.prog (law03_sane_X c_law03_same c_span_Gap c_span_Minus c_span_Normal).Γ) : SpecOk Try.prog 9 (zqkt (zqku c_law03_same c_span_Gap c_span_Minus c_span_Normal)) :=
  spec_exec (X := (law03_sane_X c_law03_same c_span_Gap c_span_Minus c_span_Normal)) (Λ := pick1 []) (rs := [.tmp 0]) (c := bodyOf Try.f9) mixed tab_ok hΓ Try.func9 (by kernel_rfl) (by kernel_rfl) (by kernel_rfl) (by kernel_rfl) CutsOk_nil (fun x k r h => Eq.trans (b := (zqkt (zqku c_law03_same c_span_Gap c_span_Minus c_span_Normal)).run x k) (by kernel_rfl) h)
end
theorem zqkwΓ : ΓOk Try.prog (pick1 [(14, .spec (zqf zqv)), (16, .spec (zq9o zqa4)), (20, .spec (zqf2 zqf6)), (13, .spec (zqk3 zqkj))]) := (ΓOk_cons zqw (ΓOk_cons zqa5 (ΓOk_cons zqf7 (ΓOk_cons zqkk ΓOk_nil))))
def zqkx : zqks := zqku zqv zqa4 zqf6 zqkj
theorem zqky : SpecOk Try.prog 9 (zqkt zqkx) := zqkv zqv zqa4 zqf6 zqkj zqkwΓ
end
end Go.Lift
namespace Go.Lift
open Go.Proofs
noncomputable section
set_option maxRecDepth 100000
set_option linter.unusedVariables false

/-- pagewatch/pagewatchlaw03.SpanExact -/
abbrev zqkz := {β : Type} → (List (Int × Int)) → (List Int) → Int → Int → Int → (Bool → Option β) → Option β
def zql0 (c : zqkz) : Spec :=
  ⟨[(false, [.data (.slice (.prod (.int .i64) (.int .i64)))]), (false, [.data (.slice (.int .i64))]), (false, [.data (.int .i64)]), (false, [.data (.int .i64)]), (false, [.data (.int .i64)])], [], [(false, [.data .bool])], [], fun x k => c x.1.1.1 x.1.2.1.1 x.1.2.2.1.1 x.1.2.2.2.1.1 x.1.2.2.2.2.1.1 (fun r0 => k (((r0, ()), ()), ()))⟩
noncomputable def law03_SpanExact_p2_code : Code := codeAt 250 (bodyOf Try.f7)
noncomputable def law03_SpanExact_p1_code : Code := codeAt 950270 (loopBody law03_SpanExact_p2_code)
abbrev zql1 (β : Type) := Bool → Option β
abbrev zql2 (β : Type) := Int → Int → Int → (List (Int × Int)) → (List (Int × Int)) → (List (Int × Int)) → (List (Int × Int)) → (List (Int × Int)) → (List (Int × Int)) → (List (Int × Int)) → (List (Int × Int)) → Int → (List Int) → Int → Option β
abbrev zql3 := {β : Type} → zql1 β → zql2 β → Int → Int → Int → (List (Int × Int)) → (List (Int × Int)) → (List (Int × Int)) → (List (Int × Int)) → (List (Int × Int)) → (List (Int × Int)) → (List (Int × Int)) → (List (Int × Int)) → Int → Int → Int → Int → Int → (List Int) → Int → (List (Int × Int)) → (List (Int × Int)) → Option β
def zql4 : View := ⟨0, [2, 3, 4, 11, 15, 53, 54, 175, 176], [(false, [.data (.int .i64)]), (false, [.data (.int .i64)]), (false, [.data (.int .i64)]), (false, [.ptr 0 0]), (false, [.ptr 1 0]), (true, [.data (.slice (.prod (.int .i64) (.int .i64))), .data (.slice (.prod (.int .i64) (.int .i64))), .data (.slice (.prod (.int .i64) (.int .i64))), .data (.slice (.prod (.int .i64) (.int .i64))), .data (.slice (.prod (.int .i64) (.int .i64))), .data (.slice (.prod (.int .i64) (.int .i64))), .data (.slice (.prod (.int .i64) (.int .i64))), .data (.slice (.prod (.int .i64) (.int .i64)))]), (false, [.data (.int .i64)]), (true, [.data (.int .i64), .data (.int .i64), .data (.int .i64)]), (false, [.data (.int .i64)])], [.cells 51 [.data (.slice (.int .i64)), .data (.int .i64)], .cells 45 [.data (.slice (.prod (.int .i64) (.int .i64))), .data (.slice (.prod (.int .i64) (.int .i64)))]]⟩
def zql5 : List (AExit × View) := [(.ret, ⟨0, [10], [(false, [.data .bool])], []⟩), (.exit 2, ⟨0, [2, 3, 4, 11, 53, 54], [(false, [.data (.int .i64)]), (false, [.data (.int .i64)]), (false, [.data (.int .i64)]), (false, [.ptr 0 0]), (true, [.data (.slice (.prod (.int .i64) (.int .i64))), .data (.slice (.prod (.int .i64) (.int .i64))), .data (.slice (.prod (.int .i64) (.int .i64))), .data (.slice (.prod (.int .i64) (.int .i64))), .data (.slice (.prod (.int .i64) (.int .i64))), .data (.slice (.prod (.int .i64) (.int .i64))), .data (.slice (.prod (.int .i64) (.int .i64))), .data (.slice (.prod (.int .i64) (.int .i64)))]), (false, [.data (.int .i64)])], [.cells 51 [.data (.slice (.int .i64)), .data (.int .i64)]]⟩)]
@[reducible] def law03_SpanExact_p1_G (p : zql3) {β : Type} (d : zql4.den) (ks : Outs.K β zql5) : Option β :=
  p (fun a0 => ks.1 (((a0, ()), ()), ())) (fun a0 a1 a2 a3 a4 a5 a6 a7 a8 a9 a10 a11 a12 a13 => ks.2.1 (((a0, ()), (a1, ()), (a2, ()), (), (a3, a4, a5, a6, a7, a8, a9, a10, ()), (a11, ()), ()), ((a12, a13, ()), ()))) d.1.1.1 d.1.2.1.1 d.1.2.2.1.1 d.1.2.2.2.2.2.1.1 d.1.2.2.2.2.2.1.2.1 d.1.2.2.2.2.2.1.2.2.1 d.1.2.2.2.2.2.1.2.2.2.1 d.1.2.2.2.2.2.1.2.2.2.2.1 d.1.2.2.2.2.2.1.2.2.2.2.2.1 d.1.2.2.2.2.2.1.2.2.2.2.2.2.1 d.1.2.2.2.2.2.1.2.2.2.2.2.2.2.1 d.1.2.2.2.2.2.2.1.1 d.1.2.2.2.2.2.2.2.1.1 d.1.2.2.2.2.2.2.2.1.2.1 d.1.2.2.2.2.2.2.2.1.2.2.1 d.1.2.2.2.2.2.2.2.2.1.1 d.2.1.1 d.2.1.2.1 d.2.2.1.1 d.2.2.1.2.1
abbrev zql6 (β : Type) := Bool → Option β
abbrev zql7 (β : Type) := Unit → Option β
abbrev zql8 := {β : Type} → zql6 β → zql7 β → Int → Int → Int → (List (Int × Int)) → (List (Int × Int)) → (List (Int × Int)) → (List (Int × Int)) → (List (Int × Int)) → (List (Int × Int)) → (List (Int × Int)) → (List (Int × Int)) → Int → (List Int) → Int → Option β
def zql9 : View := ⟨0, [2, 3, 4, 11, 53, 54], [(false, [.data (.int .i64)]), (false, [.data (.int .i64)]), (false, [.data (.int .i64)]), (false, [.ptr 0 0]), (true, [.data (.slice (.prod (.int .i64) (.int .i64))), .data (.slice (.prod (.int .i64) (.int .i64))), .data (.slice (.prod (.int .i64) (.int .i64))), .data (.slice (.prod (.int .i64) (.int .i64))), .data (.slice (.prod (.int .i64) (.int .i64))), .data (.slice (.prod (.int .i64) (.int .i64))), .data (.slice (.prod (.int .i64) (.int .i64))), .data (.slice (.prod (.int .i64) (.int .i64)))]), (false, [.data (.int .i64)])], [.cells 51 [.data (.slice (.int .i64)), .data (.int .i64)]]⟩
def zqla : List (AExit × View) := [(.ret, ⟨0, [10], [(false, [.data .bool])], []⟩), (.exit 0, ⟨0, [], [], []⟩)]
@[reducible] def law03_SpanExact_p2_G (p : zql8) {β : Type} (d : zql9.den) (ks : Outs.K β zqla) : Option β :=
  p (fun a0 => ks.1 (((a0, ()), ()), ())) (fun _ => ks.2.1 ((), ())) d.1.1.1 d.1.2.1.1 d.1.2.2.1.1 d.1.2.2.2.2.1.1 d.1.2.2.2.2.1.2.1 d.1.2.2.2.2.1.2.2.1 d.1.2.2.2.2.1.2.2.2.1 d.1.2.2.2.2.1.2.2.2.2.1 d.1.2.2.2.2.1.2.2.2.2.2.1 d.1.2.2.2.2.1.2.2.2.2.2.2.1 d.1.2.2.2.2.1.2.2.2.2.2.2.2.1 d.1.2.2.2.2.2.1.1 d.2.1.1 d.2.1.2.1
section
variable (c_law03_same : zqe) (c_law03_sane : zqks) (c_made_Dice_Next : zq2z) (c_made_Dice_Set : zqec) (c_made_Light : zq0) (c_made_Roll : zq7) (c_ref03_Clip : zq48) (c_ref03_First : zq36) (c_ref03_Gap : zq3p) (c_ref03_Has : zqby) (c_ref03_Length : zq2h) (c_ref03_Meet : zqff) (c_ref03_Minus : zqfm) (c_ref03_Normal : zqad) (c_ref03_Union : zqf8) (c_ref03_Valid : zq1y) (c_span_Clip : zqa6) (c_span_First : zq94) (c_span_Gap : zq9n) (c_span_Has : zqih) (c_span_Length : zq1g) (c_span_Meet : zqeu) (c_span_Minus : zqf1) (c_span_Normal : zqk2) (c_span_Union : zqkl) (c_span_Valid : zqx)
@[reducible] def law03_SpanExact_X : Ctx := ⟨look tab, pick1 [(14, .spec (zqf c_law03_same)), (9, .spec (zqkt c_law03_sane)), (30, .spec (zq30 c_made_Dice_Next)), (11, .spec (zqed c_made_Dice_Set)), (8, .spec (zq1 c_made_Light)), (10, .spec (zq8 c_made_Roll)), (34, .spec (zq49 c_ref03_Clip)), (31, .spec (zq37 c_ref03_First)), (33, .spec (zq3q c_ref03_Gap)), (32, .spec (zqbz c_ref03_Has)), (26, .spec (zq2i c_ref03_Length)), (28, .spec (zqfg c_ref03_Meet)), (29, .spec (zqfn c_ref03_Minus)), (24, .spec (zqae c_ref03_Normal)), (27, .spec (zqf9 c_ref03_Union)), (25, .spec (zq1z c_ref03_Valid)), (21, .spec (zqa7 c_span_Clip)), (15, .spec (zq95 c_span_First)), (16, .spec (zq9o c_span_Gap)), (17, .spec (zqii c_span_Has)), (23, .spec (zq1h c_span_Length)), (19, .spec (zqev c_span_Meet)), (20, .spec (zqf2 c_span_Minus)), (13, .spec (zqk3 c_span_Normal)), (18, .spec (zqkm c_span_Union)), (22, .spec (zqy c_span_Valid))], false, false, true⟩
def zqlb {β : Type} (rec : Int → Int → Int → (List (Int × Int)) → (List (Int × Int)) → (List (Int × Int)) → (List (Int × Int)) → (List (Int × Int)) → (List (Int × Int)) → (List (Int × Int)) → (List (Int × Int)) → Int → Int → Int → Int → Int → (List Int) → Int → (List (Int × Int)) → (List (Int × Int)) → Option β) (k1 : zql1 β) (k2 : zql2 β) (x : Int) (from_ : Int) (to_ : Int) (t53 : List (Int × Int)) (t532 : List (Int × Int)) (t533 : List (Int × Int)) (t534 : List (Int × Int)) (t535 : List (Int × Int)) (t536 : List (Int × Int)) (t537 : List (Int × Int)) (t538 : List (Int × Int)) (t54 : Int) (t175 : Int) (t1752 : Int) (t1753 : Int) (t176 : Int) (d : List Int) (d2 : Int) (p_ : List (Int × Int)) (p_2 : List (Int × Int)) : Option β :=
  cond (decide (t176 < (3 : Int)))
  (cond (decide (0 ≤ t176) && decide (t176 < (List.length ([t175, t1752, t1753] : List Int) : Int)))
  (let e : Int := List.getD ([t175, t1752, t1753] : List Int) (Int.toNat t176) (0 : Int);
  c_span_First p_ e (fun (rFirst : Int) (rFirst2 : Bool) =>
  c_ref03_First p_ e (fun (rFirst3 : Int) (rFirst4 : Bool) =>
  cond (!decide (rFirst = rFirst3))
  (k1 false)
  (cond (!(rFirst2 == rFirst4))
  (k1 false)
  (c_span_Has p_ e (fun (rHas : Bool) =>
  c_ref03_Has p_ e (fun (rHas2 : Bool) =>
  cond (!(rHas == rHas2))
  (k1 false)
  (c_span_Gap p_ e (fun (rGap : Int) =>
  c_ref03_Gap p_ e (fun (rGap2 : Int) =>
  cond (!decide (rGap = rGap2))
  (k1 false)
  (c_span_Clip p_ e to_ (fun (rClip : Int) (lrClip : List (Int × Int)) =>
  c_ref03_Clip p_ e to_ (fun (rClip2 : Int) (lrClip2 : List (Int × Int)) =>
  c_law03_same lrClip lrClip2 (fun (rsame : Bool) =>
  cond (!rsame)
  (k1 false)
  (cond (!decide (rClip = rClip2))
  (k1 false)
  (rec x from_ to_ t53 t532 t533 t534 t535 t536 t537 t538 t54 t175 t1752 t1753 (IntKind.i64.wrap (t176 + (1 : Int))) d d2 p_ p_2))))))))))))))))
  none)
  (k2 x from_ to_ t53 t532 t533 t534 t535 t536 t537 t538 t54 d d2)
def zqlc {β : Type} : Nat → zql1 β → zql2 β → Int → Int → Int → (List (Int × Int)) → (List (Int × Int)) → (List (Int × Int)) → (List (Int × Int)) → (List (Int × Int)) → (List (Int × Int)) → (List (Int × Int)) → (List (Int × Int)) → Int → Int → Int → Int → Int → (List Int) → Int → (List (Int × Int)) → (List (Int × Int)) → Option β
  | 0 => fun _ _ _ _ _ _ _ _ _ _ _ _ _ _ _ _ _ _ _ _ _ _ => none
  | i + 1 => fun k1 k2 x from_ to_ t53 t532 t533 t534 t535 t536 t537 t538 t54 t175 t1752 t1753 t176 d d2 p_ p_2 => zqlb c_law03_same c_ref03_Clip c_ref03_First c_ref03_Gap c_ref03_Has c_span_Clip c_span_First c_span_Gap c_span_Has (zqlc i k1 k2) k1 k2 x from_ to_ t53 t532 t533 t534 t535 t536 t537 t538 t54 t175 t1752 t1753 t176 d d2 p_ p_2
theorem zqld (hΓ : ΓOk Try.prog (law03_SpanExact_X c_law03_same c_law03_sane c_made_Dice_Next c_made_Dice_Set c_made_Light c_made_Roll c_ref03_Clip c_ref03_First c_ref03_Gap c_ref03_Has c_ref03_Length c_ref03_Meet c_ref03_Minus c_ref03_Normal c_ref03_Union c_ref03_Valid c_span_Clip c_span_First c_span_Gap c_span_Has c_span_Length c_span_Meet c_span_Minus c_span_Normal c_span_Union c_span_Valid).Γ) (i : Nat) : PieceOk Try.prog 251 0 law03_SpanExact_p1_code zql4 zql5 (law03_SpanExact_p1_G (zqlc c_law03_same c_ref03_Clip c_ref03_First c_ref03_Gap c_ref03_Has c_span_Clip c_span_First c_span_Gap c_span_Has i)) := by
  rw [show law03_SpanExact_p1_code = .loop (loopBody law03_SpanExact_p1_code) by kernel_rfl]
  exact piece_loop (X := (law03_SpanExact_X c_law03_same c_law03_sane c_made_Dice_Next c_made_Dice_Set c_made_Light c_made_Roll c_ref03_Clip c_ref03_First c_ref03_Gap c_ref03_Has c_ref03_Length c_ref03_Meet c_ref03_Minus c_ref03_Normal c_ref03_Union c_ref03_Valid c_span_Clip c_span_First c_span_Gap c_span_Has c_span_Length c_span_Meet c_span_Minus c_span_Normal c_span_Union c_span_Valid)) (p := 1) (Λ := pick1 []) (G := fun i => @fun β d ks => law03_SpanExact_p1_G (zqlc c_law03_same c_ref03_Clip c_ref03_First c_ref03_Gap c_ref03_Has c_span_Clip c_span_First c_span_Gap c_span_Has i) d ks) mixed tab_ok hΓ rfl (by kernel_rfl) CutsOk_nil (fun _ _ => rfl) (fun i => @fun β d ks r h => Eq.trans (b := law03_SpanExact_p1_G (zqlc c_law03_same c_ref03_Clip c_ref03_First c_ref03_Gap c_ref03_Has c_span_Clip c_span_First c_span_Gap c_span_Has (i + 1)) d ks) (by kernel_rfl) h) i
def zqle (p1 : zql3) {β : Type} (rec : Int → Int → Int → (List (Int × Int)) → (List (Int × Int)) → (List (Int × Int)) → (List (Int × Int)) → (List (Int × Int)) → (List (Int × Int)) → (List (Int × Int)) → (List (Int × Int)) → Int → (List Int) → Int → Option β) (k1 : zql6 β) (k2 : zql7 β) (x : Int) (from_ : Int) (to_ : Int) (t53 : List (Int × Int)) (t532 : List (Int × Int)) (t533 : List (Int × Int)) (t534 : List (Int × Int)) (t535 : List (Int × Int)) (t536 : List (Int × Int)) (t537 : List (Int × Int)) (t538 : List (Int × Int)) (t54 : Int) (d : List Int) (d2 : Int) : Option β :=
  cond (decide (t54 < (4 : Int)))
  (cond (decide (0 ≤ t54) && decide (t54 < (List.length ([(t53, t532), (t533, t534), (t535, t536), (t537, t538)] : List (List (Int × Int) × List (Int × Int))) : Int)))
  (let e : (List (Int × Int) × List (Int × Int)) := List.getD ([(t53, t532), (t533, t534), (t535, t536), (t537, t538)] : List (List (Int × Int) × List (Int × Int))) (Int.toNat t54) (([] : List (Int × Int)), ([] : List (Int × Int)));
  c_span_Normal e.1 (fun (rNormal : Int) (lrNormal : List (Int × Int)) =>
  c_ref03_Normal e.1 (fun (rNormal2 : Int) (lrNormal2 : List (Int × Int)) =>
  c_law03_same lrNormal lrNormal2 (fun (rsame : Bool) =>
  cond (!rsame)
  (k1 false)
  (cond (!decide (rNormal = rNormal2))
  (k1 false)
  (c_span_Valid e.1 (fun (rValid : Bool) =>
  c_ref03_Valid e.1 (fun (rValid2 : Bool) =>
  cond (!(rValid == rValid2))
  (k1 false)
  (c_span_Length e.1 (fun (rLength : Int) =>
  c_ref03_Length e.1 (fun (rLength2 : Int) =>
  cond (!decide (rLength = rLength2))
  (k1 false)
  (c_span_Union e.1 e.2 (fun (rUnion : Int) (lrUnion : List (Int × Int)) =>
  c_ref03_Union e.1 e.2 (fun (rUnion2 : Int) (lrUnion2 : List (Int × Int)) =>
  c_law03_same lrUnion lrUnion2 (fun (rsame2 : Bool) =>
  cond (!rsame2)
  (k1 false)
  (cond (!decide (rUnion = rUnion2))
  (k1 false)
  (c_span_Meet e.1 e.2 (fun (rMeet : Int) (lrMeet : List (Int × Int)) =>
  c_ref03_Meet e.1 e.2 (fun (rMeet2 : Int) (lrMeet2 : List (Int × Int)) =>
  c_law03_same lrMeet lrMeet2 (fun (rsame3 : Bool) =>
  cond (!rsame3)
  (k1 false)
  (cond (!decide (rMeet = rMeet2))
  (k1 false)
  (c_span_Minus e.1 e.2 (fun (rMinus : Int) (lrMinus : List (Int × Int)) =>
  c_ref03_Minus e.1 e.2 (fun (rMinus2 : Int) (lrMinus2 : List (Int × Int)) =>
  c_law03_same lrMinus lrMinus2 (fun (rsame4 : Bool) =>
  cond (!rsame4)
  (k1 false)
  (cond (!decide (rMinus = rMinus2))
  (k1 false)
  (c_made_Dice_Next (70 : Int) (d, d2) (fun (rNext : Int) (mrNext : (List Int × Int)) =>
  p1 (fun (t10 : Bool) =>
  k1 t10) (fun (x2 : Int) (from_2 : Int) (to_2 : Int) (t539 : List (Int × Int)) (t5310 : List (Int × Int)) (t5311 : List (Int × Int)) (t5312 : List (Int × Int)) (t5313 : List (Int × Int)) (t5314 : List (Int × Int)) (t5315 : List (Int × Int)) (t5316 : List (Int × Int)) (t542 : Int) (d3 : List Int) (d4 : Int) =>
  rec x2 from_2 to_2 t539 t5310 t5311 t5312 t5313 t5314 t5315 t5316 (IntKind.i64.wrap (t542 + (1 : Int))) d3 d4) x from_ to_ t53 t532 t533 t534 t535 t536 t537 t538 t54 x rNext from_ (0 : Int) mrNext.1 mrNext.2 e.1 e.2))))))))))))))))))))))))))))
  none)
  (k2 ())
def zqlf (p1 : zql3) {β : Type} : Nat → zql6 β → zql7 β → Int → Int → Int → (List (Int × Int)) → (List (Int × Int)) → (List (Int × Int)) → (List (Int × Int)) → (List (Int × Int)) → (List (Int × Int)) → (List (Int × Int)) → (List (Int × Int)) → Int → (List Int) → Int → Option β
  | 0 => fun _ _ _ _ _ _ _ _ _ _ _ _ _ _ _ _ => none
  | i + 1 => fun k1 k2 x from_ to_ t53 t532 t533 t534 t535 t536 t537 t538 t54 d d2 => zqle c_law03_same c_made_Dice_Next c_ref03_Length c_ref03_Meet c_ref03_Minus c_ref03_Normal c_ref03_Union c_ref03_Valid c_span_Length c_span_Meet c_span_Minus c_span_Normal c_span_Union c_span_Valid p1 (zqlf p1 i k1 k2) k1 k2 x from_ to_ t53 t532 t533 t534 t535 t536 t537 t538 t54 d d2
theorem zqlg (hΓ : ΓOk Try.prog (law03_SpanExact_X c_law03_same c_law03_sane c_made_Dice_Next c_made_Dice_Set c_made_Light c_made_Roll c_ref03_Clip c_ref03_First c_ref03_Gap c_ref03_Has c_ref03_Length c_ref03_Meet c_ref03_Minus c_ref03_Normal c_ref03_Union c_ref03_Valid c_span_Clip c_span_First c_span_Gap c_span_Has c_span_Length c_span_Meet c_span_Minus c_span_Normal c_span_Union c_span_Valid).Γ) (p1 : zql3) (hp1 : PieceOk Try.prog 251 0 law03_SpanExact_p1_code zql4 zql5 (law03_SpanExact_p1_G p1)) (i : Nat) : PieceOk Try.prog 251 0 law03_SpanExact_p2_code zql9 zqla (law03_SpanExact_p2_G (zqlf c_law03_same c_made_Dice_Next c_ref03_Length c_ref03_Meet c_ref03_Minus c_ref03_Normal c_ref03_Union c_ref03_Valid c_span_Length c_span_Meet c_span_Minus c_span_Normal c_span_Union c_span_Valid p1 i)) := by
  rw [show law03_SpanExact_p2_code = .loop (loopBody law03_SpanExact_p2_code) by kernel_rfl]
  exact piece_loop (X := (law03_SpanExact_X c_law03_same c_law03_sane c_made_Dice_Next c_made_Dice_Set c_made_Light c_made_Roll c_ref03_Clip c_ref03_First c_ref03_Gap c_ref03_Has c_ref03_Length c_ref03_Meet c_ref03_Minus c_ref03_Normal c_ref03_Union c_ref03_Valid c_span_Clip c_span_First c_span_Gap c_span_Has c_span_Length c_span_Meet c_span_Minus c_span_Normal c_span_Union c_span_Valid)) (p := 1) (Λ := pick1 [(950270, pieceCut zql4 zql5 (law03_SpanExact_p1_G p1))]) (G := fun i => @fun β d ks => law03_SpanExact_p2_G (zqlf c_law03_same c_made_Dice_Next c_ref03_Length c_ref03_Meet c_ref03_Minus c_ref03_Normal c_ref03_Union c_ref03_Valid c_span_Length c_span_Meet c_span_Minus c_span_Normal c_span_Union c_span_Valid p1 i) d ks) mixed tab_ok hΓ rfl (by kernel_rfl) (CutsOk_cons (q := 950270) (c' := law03_SpanExact_p1_code) (by kernel_rfl) rfl hp1 CutsOk_nil) (fun _ _ => rfl) (fun i => @fun β d ks r h => Eq.trans (b := law03_SpanExact_p2_G (zqlf c_law03_same c_made_Dice_Next c_ref03_Length c_ref03_Meet c_ref03_Minus c_ref03_Normal c_ref03_Union c_ref03_Valid c_span_Length c_span_Meet c_span_Minus c_span_Normal c_span_Union c_span_Valid p1 (i + 1)) d ks) (by kernel_rfl) h) i
def zqlh (p2 : zql8) {β : Type} (raw : List (Int × Int)) (t : List Int) (x : Int) (from_ : Int) (to_ : Int) (k : (Bool → Option β)) : Option β :=
  cond (decide ((300 : Int) < (List.length raw : Int)))
  (c_law03_sane  (fun (rsane : Bool) =>
  k rsane))
  (c_made_Light t (fun (rLight : Bool) =>
  cond (!rLight)
  (c_law03_sane  (fun (rsane : Bool) =>
  k rsane))
  (c_made_Roll t (fun (mrRoll : (List Int × Int)) =>
  c_made_Dice_Set mrRoll (fun (mrSet : (List Int × Int)) (lrSet : List (Int × Int)) =>
  c_made_Dice_Set mrSet (fun (mrSet2 : (List Int × Int)) (lrSet2 : List (Int × Int)) =>
  p2 (fun (t10 : Bool) =>
  k t10) (fun (_ : Unit) =>
  c_law03_sane  (fun (rsane : Bool) =>
  k rsane)) x from_ to_ raw lrSet lrSet lrSet2 lrSet raw lrSet lrSet (0 : Int) mrSet2.1 mrSet2.2))))))
theorem zqli (hΓ : ΓOk Try.prog (law03_SpanExact_X c_law03_same c_law03_sane c_made_Dice_Next c_made_Dice_Set c_made_Light c_made_Roll c_ref03_Clip c_ref03_First c_ref03_Gap c_ref03_Has c_ref03_Length c_ref03_Meet c_ref03_Minus c_ref03_Normal c_ref03_Union c_ref03_Valid c_span_Clip c_span_First c_span_Gap c_span_Has c_span_Length c_span_Meet c_span_Minus c_span_Normal c_span_Union c_span_Valid).Γ) (p2 : zql8) (hp2 : PieceOk Try.prog 251 0 law03_SpanExact_p2_code zql9 zqla (law03_SpanExact_p2_G p2)) : SpecOk Try.prog 7 (zql0 (zqlh c_law03_sane c_made_Dice_Set c_made_Light c_made_Roll p2)) :=
  spec_exec (X := (law03_SpanExact_X c_law03_same c_law03_sane c_made_Dice_Next c_made_Dice_Set c_made_Light c_made_Roll c_ref03_Clip c_ref03_First c_ref03_Gap c_ref03_Has c_ref03_Length c_ref03_Meet c_ref03_Minus c_ref03_Normal c_ref03_Union c_ref03_Valid c_span_Clip c_span_First c_span_Gap c_span_Has c_span_Length c_span_Meet c_span_Minus c_span_Normal c_span_Union c_span_Valid)) (Λ := pick1 [(250, pieceCut zql9 zqla (law03_SpanExact_p2_G p2))]) (rs := [.tmp 10]) (c := bodyOf Try.f7) mixed tab_ok hΓ Try.func7 (by kernel_rfl) (by kernel_rfl) (by kernel_rfl) (by kernel_rfl) (CutsOk_cons (q := 250) (c' := law03_SpanExact_p2_code) (by kernel_rfl) rfl hp2 CutsOk_nil) (fun x k r h => Eq.trans (b := (zql0 (zqlh c_law03_sane c_made_Dice_Set c_made_Light c_made_Roll p2)).run x k) (by kernel_rfl) h)
end
theorem zqljΓ : ΓOk Try.prog (pick1 [(14, .spec (zqf zqv)), (9, .spec (zqkt zqkx)), (30, .spec (zq30 zq34)), (11, .spec (zqed zqes)), (8, .spec (zq1 zq5)), (10, .spec (zq8 zqc)), (34, .spec (zq49 zq4o)), (31, .spec (zq37 zq3n)), (33, .spec (zq3q zq46)), (32, .spec (zqbz zqc3)), (26, .spec (zq2i zq2x)), (28, .spec (zqfg zqfk)), (29, .spec (zqfn zqfr)), (24, .spec (zqae zqbw)), (27, .spec (zqf9 zqfd)), (25, .spec (zq1z zq2f)), (21, .spec (zqa7 zqab)), (15, .spec (zq95 zq9l)), (16, .spec (zq9o zqa4)), (17, .spec (zqii zqim)), (23, .spec (zq1h zq1w)), (19, .spec (zqev zqez)), (20, .spec (zqf2 zqf6)), (13, .spec (zqk3 zqkj)), (18, .spec (zqkm zqkq)), (22, .spec (zqy zq1e))]) := (ΓOk_cons zqw (ΓOk_cons zqky (ΓOk_cons zq35 (ΓOk_cons zqet (ΓOk_cons zq6 (ΓOk_cons zqd (ΓOk_cons zq4p (ΓOk_cons zq3o (ΓOk_cons zq47 (ΓOk_cons zqc4 (ΓOk_cons zq2y (ΓOk_cons zqfl (ΓOk_cons zqfs (ΓOk_cons zqbx (ΓOk_cons zqfe (ΓOk_cons zq2g (ΓOk_cons zqac (ΓOk_cons zq9m (ΓOk_cons zqa5 (ΓOk_cons zqin (ΓOk_cons zq1x (ΓOk_cons zqf0 (ΓOk_cons zqf7 (ΓOk_cons zqkk (ΓOk_cons zqkr (ΓOk_cons zq1f ΓOk_nil))))))))))))))))))))))))))
def zqlk (m : Nat) : zql3 := zqlc zqv zq4o zq3n zq46 zqc3 zqab zq9l zqa4 zqim m
theorem zqll {β : Type} (i : Nat) (k1 k2 x from_ to_ t53 t532 t533 t534 t535 t536 t537 t538 t54 t175 t1752 t1753 t176 d d2 p_ p_2) : (zqlk (i + 1) k1 k2 x from_ to_ t53 t532 t533 t534 t535 t536 t537 t538 t54 t175 t1752 t1753 t176 d d2 p_ p_2 : Option β) = zqlb zqv zq4o zq3n zq46 zqc3 zqab zq9l zqa4 zqim (zqlk i k1 k2) k1 k2 x from_ to_ t53 t532 t533 t534 t535 t536 t537 t538 t54 t175 t1752 t1753 t176 d d2 p_ p_2 := rfl
def zqlm : zql3 := zqlk fuel
theorem zqln : PieceOk Try.prog 251 0 law03_SpanExact_p1_code zql4 zql5 (law03_SpanExact_p1_G zqlm) := zqld zqv zqkx zq34 zqes zq5 zqc zq4o zq3n zq46 zqc3 zq2x zqfk zqfr zqbw zqfd zq2f zqab zq9l zqa4 zqim zq1w zqez zqf6 zqkj zqkq zq1e zqljΓ fuel
def zqlo (m : Nat) : zql8 := zqlf zqv zq34 zq2x zqfk zqfr zqbw zqfd zq2f zq1w zqez zqf6 zqkj zqkq zq1e zqlm m
theorem zqlp {β : Type} (i : Nat) (k1 k2 x from_ to_ t53 t532 t533 t534 t535 t536 t537 t538 t54 d d2) : (zqlo (i + 1) k1 k2 x from_ to_ t53 t532 t533 t534 t535 t536 t537 t538 t54 d d2 : Option β) = zqle zqv zq34 zq2x zqfk zqfr zqbw zqfd zq2f zq1w zqez zqf6 zqkj zqkq zq1e zqlm (zqlo i k1 k2) k1 k2 x from_ to_ t53 t532 t533 t534 t535 t536 t537 t538 t54 d d2 := rfl
def zqlq : zql8 := zqlo fuel
theorem zqlr : PieceOk Try.prog 251 0 law03_SpanExact_p2_code zql9 zqla (law03_SpanExact_p2_G zqlq) := zqlg zqv zqkx zq34 zqes zq5 zqc zq4o zq3n zq46 zqc3 zq2x zqfk zqfr zqbw zqfd zq2f zqab zq9l zqa4 zqim zq1w zqez zqf6 zqkj zqkq zq1e zqljΓ zqlm zqln fuel
def zqls : zqkz := zqlh zqkx zqes zq5 zqc zqlq
theorem zqlt : SpecOk Try.prog 7 (zql0 zqls) := zqli zqv zqkx zq34 zqes zq5 zqc zq4o zq3n zq46 zqc3 zq2x zqfk zqfr zqbw zqfd zq2f zqab zq9l zqa4 zqim zq1w zqez zqf6 zqkj zqkq zq1e zqljΓ zqlq zqlr
end
end Go.Lift
/- Plain lemmas about functional forms: tests that are known, loops. -/
namespace Go.Lift
open Go.RowKit Go.IntWalk

section
variable {β : Type}
/-! ### Tests -/
theorem c_inb {i n : Int} {a b : Option β} (h : 0 ≤ i ∧ i < n) : cond (decide (0 ≤ i) && decide (i < n)) a b = a := by
  rw [decide_eq_true h.1, decide_eq_true h.2]; rfl
theorem c_room {n : Nat} {a b : Option β} (h : n ≤ 140737488355328) : cond (decide (n ≤ roomMax)) a b = a := by
  rw [decide_eq_true (p := n ≤ roomMax) h]; rfl
theorem c_pos {p : Prop} [Decidable p] {a b : Option β} (h : p) : cond (decide p) a b = a := by rw [decide_eq_true h]; rfl
theorem c_neg {p : Prop} [Decidable p] {a b : Option β} (h : ¬ p) : cond (decide p) a b = b := by rw [decide_eq_false h]; rfl
theorem c_npos {p : Prop} [Decidable p] {a b : Option β} (h : p) : cond (!decide p) a b = b := by rw [decide_eq_true h]; rfl
theorem c_nneg {p : Prop} [Decidable p] {a b : Option β} (h : ¬ p) : cond (!decide p) a b = a := by rw [decide_eq_false h]; rfl
theorem c_t {a b : Option β} : cond true a b = a := rfl
theorem c_f {a b : Option β} : cond false a b = b := rfl
/-! ### Loops over the numbers from 0 on -/
/-- A loop with an invariant and a measure. -/
theorem while_loop {σ ρ : Type} {Kt : Type → Type} (F : {β : Type} → Kt β → Nat → σ → Option β) (X : {β : Type} → Kt β → ρ → Option β) (I : σ → Prop) (μ : σ → Nat) (Q : ρ → Prop)
    (step : ∀ s, I s → (∃ s', I s' ∧ μ s' < μ s ∧ ∀ {β : Type} (k : Kt β) m, F k (m + 1) s = F k m s') ∨ (∃ r, Q r ∧ ∀ {β : Type} (k : Kt β) m, F k (m + 1) s = X k r)) :
    ∀ (N : Nat) (s : σ), I s → μ s < N → ∃ r, Q r ∧ ∀ {β : Type} (k : Kt β), F k N s = X k r := by
  intro N
  induction N with
  | zero => intro s _ h; omega
  | succ N ih =>
    intro s hI hN
    rcases step s hI with ⟨s', h1, h2, h3⟩ | ⟨r, h1, h2⟩
    · obtain ⟨r, h4, h5⟩ := ih s' h1 (by omega)
      exact ⟨r, h4, fun k => (h3 k N).trans (h5 k)⟩
    · exact ⟨r, h1, fun k => h2 k N⟩
end
end Go.Lift

/- Sets of numbers as lists of spans: plain theory for the chapter 3. -/
namespace Go.Lift
noncomputable section
set_option linter.unusedVariables false
set_option linter.unusedSimpArgs false

abbrev Sp := Int × Int
/-- A number is in one of the spans. -/
def hasS (l : List Sp) (x : Int) : Prop := ∃ s ∈ l, s.1 ≤ x ∧ x < s.2
theorem hasS_nil {x : Int} : ¬ hasS [] x := by rintro ⟨s, h, _⟩; cases h
theorem hasS_cons {s : Sp} {l : List Sp} {x : Int} : hasS (s :: l) x ↔ (s.1 ≤ x ∧ x < s.2) ∨ hasS l x := by
  unfold hasS
  simp only [List.mem_cons, exists_eq_or_imp]
theorem hasS_append {l m : List Sp} {x : Int} : hasS (l ++ m) x ↔ hasS l x ∨ hasS m x := by
  unfold hasS
  simp only [List.mem_append, or_and_right, exists_or]

/-- The least form of a set, all of it beyond a. -/
def NFa : Int → List Sp → Prop
  | _, [] => True
  | a, s :: l => a < s.1 ∧ s.1 < s.2 ∧ NFa s.2 l

theorem NFa.mono {a b : Int} (h : b ≤ a) : ∀ {l : List Sp}, NFa a l → NFa b l
  | [], _ => trivial
  | s :: l, ⟨h1, h2, h3⟩ => ⟨by omega, h2, h3⟩
theorem NFa.lt {a : Int} : ∀ {l : List Sp} {x : Int}, NFa a l → hasS l x → a < x
  | [], x, _, h => absurd h hasS_nil
  | s :: l, x, ⟨h1, h2, h3⟩, h => by
    rcases hasS_cons.1 h with h | h
    · omega
    · have := NFa.lt h3 h
      omega

/-- A set has one form. -/
theorem NFa.uniq : ∀ {l m : List Sp} {a b : Int}, NFa a l → NFa b m → (∀ x, hasS l x ↔ hasS m x) → l = m
  | [], [], _, _, _, _, _ => rfl
  | [], t :: m, _, _, _, ⟨h1, h2, h3⟩, h => absurd ((h t.1).2 (hasS_cons.2 (.inl ⟨by omega, h2⟩))) hasS_nil
  | s :: l, [], _, _, ⟨h1, h2, h3⟩, _, h => absurd ((h s.1).1 (hasS_cons.2 (.inl ⟨by omega, h2⟩))) hasS_nil
  | s :: l, t :: m, _, _, ⟨h1, h2, h3⟩, ⟨g1, g2, g3⟩, h => by
    have a1 : t.1 ≤ s.1 := by
      rcases hasS_cons.1 ((h s.1).1 (hasS_cons.2 (.inl ⟨by omega, h2⟩))) with q | q
      · omega
      · have := g3.lt q; omega
    have a2 : s.1 ≤ t.1 := by
      rcases hasS_cons.1 ((h t.1).2 (hasS_cons.2 (.inl ⟨by omega, g2⟩))) with q | q
      · omega
      · have := h3.lt q; omega
    have e1 : s.1 = t.1 := by omega
    have b1 : ¬ s.2 < t.2 := by
      intro hlt
      rcases hasS_cons.1 ((h s.2).2 (hasS_cons.2 (.inl ⟨by omega, hlt⟩))) with q | q
      · omega
      · have := h3.lt q; omega
    have b2 : ¬ t.2 < s.2 := by
      intro hlt
      rcases hasS_cons.1 ((h t.2).1 (hasS_cons.2 (.inl ⟨by omega, hlt⟩))) with q | q
      · omega
      · have := g3.lt q; omega
    have e2 : s.2 = t.2 := by omega
    have e : s = t := Prod.ext e1 e2
    subst e
    have ht : l = m := by
      refine NFa.uniq h3 g3 fun x => ?_
      constructor
      · intro q
        have hx := h3.lt q
        rcases hasS_cons.1 ((h x).1 (hasS_cons.2 (.inr q))) with p | p
        · omega
        · exact p
      · intro q
        have hx := g3.lt q
        rcases hasS_cons.1 ((h x).2 (hasS_cons.2 (.inr q))) with p | p
        · omega
        · exact p
    rw [ht]

/-! ### What is in both -/
def commonS : Nat → List Sp → List Sp → List Sp
  | 0, _, _ => []
  | _, [], _ => []
  | _, _, [] => []
  | n + 1, a :: ar, b :: bs =>
    (if max a.1 b.1 < min a.2 b.2 then [(max a.1 b.1, min a.2 b.2)] else []) ++ (if a.2 < b.2 then commonS n ar (b :: bs) else commonS n (a :: ar) bs)

theorem commonS_ok : ∀ (n : Nat) (l m : List Sp) (c d : Int), l.length + m.length ≤ n → NFa c l → NFa d m →
    (∀ x, hasS (commonS n l m) x ↔ hasS l x ∧ hasS m x) ∧ NFa (max c d) (commonS n l m)
  | 0, l, m, c, d, h, hl, hm => by
    have : l = [] := List.eq_nil_of_length_eq_zero (by omega)
    subst this
    exact ⟨fun x => ⟨fun h => absurd h hasS_nil, fun h => absurd h.1 hasS_nil⟩, trivial⟩
  | n + 1, [], m, c, d, h, hl, hm => by
    have e : commonS (n + 1) [] m = [] := by unfold commonS; rfl
    rw [e]
    exact ⟨fun x => ⟨fun h => absurd h hasS_nil, fun h => absurd h.1 hasS_nil⟩, trivial⟩
  | n + 1, a :: ar, [], c, d, h, hl, hm => by
    have e : commonS (n + 1) (a :: ar) [] = [] := by unfold commonS; rfl
    rw [e]
    exact ⟨fun x => ⟨fun h => absurd h hasS_nil, fun h => absurd h.2 hasS_nil⟩, trivial⟩
  | n + 1, a :: ar, b :: bs, c, d, h, ⟨l1, l2, l3⟩, ⟨m1, m2, m3⟩ => by
    have e : commonS (n + 1) (a :: ar) (b :: bs) = (if max a.1 b.1 < min a.2 b.2 then [(max a.1 b.1, min a.2 b.2)] else []) ++ (if a.2 < b.2 then commonS n ar (b :: bs) else commonS n (a :: ar) bs) := rfl
    simp only [List.length_cons] at h
    rw [e]
    by_cases hc : a.2 < b.2
    · rw [if_pos hc]
      obtain ⟨i1, i2⟩ := commonS_ok n ar (b :: bs) a.2 d (by simp only [List.length_cons]; omega) l3 ⟨m1, m2, m3⟩
      by_cases hp : max a.1 b.1 < min a.2 b.2
      · rw [if_pos hp]
        refine ⟨fun x => ?_, ?_⟩
        · rw [List.singleton_append, hasS_cons, i1 x, hasS_cons, hasS_cons]
          constructor
          · rintro (q | ⟨q1, q2⟩)
            · exact ⟨.inl (by omega), .inl (by omega)⟩
            · exact ⟨.inr q1, q2⟩
          · rintro ⟨q1 | q1, q2 | q2⟩
            · exact .inl (by simp only; omega)
            · have := m3.lt q2; omega
            · exact .inr ⟨q1, .inl q2⟩
            · exact .inr ⟨q1, .inr q2⟩
        · refine ⟨by simp only; omega, hp, ?_⟩
          have hx : min a.2 b.2 ≤ max a.2 d := by omega
          exact i2.mono hx
      · rw [if_neg hp, List.nil_append]
        refine ⟨fun x => ?_, i2.mono (by omega)⟩
        rw [i1 x, hasS_cons (s := a)]
        constructor
        · rintro ⟨q1, q2⟩
          exact ⟨.inr q1, q2⟩
        · rintro ⟨q1 | q1, q2⟩
          · rcases hasS_cons.1 q2 with q2 | q2
            · omega
            · have := m3.lt q2; omega
          · exact ⟨q1, q2⟩
    · rw [if_neg hc]
      obtain ⟨i1, i2⟩ := commonS_ok n (a :: ar) bs c b.2 (by simp only [List.length_cons]; omega) ⟨l1, l2, l3⟩ m3
      by_cases hp : max a.1 b.1 < min a.2 b.2
      · rw [if_pos hp]
        refine ⟨fun x => ?_, ?_⟩
        · rw [List.singleton_append, hasS_cons, i1 x, hasS_cons (s := b)]
          constructor
          · rintro (q | ⟨q1, q2⟩)
            · exact ⟨hasS_cons.2 (.inl (by omega)), .inl (by omega)⟩
            · exact ⟨q1, .inr q2⟩
          · rintro ⟨q1, q2 | q2⟩
            · rcases hasS_cons.1 q1 with q1 | q1
              · exact .inl (by simp only; omega)
              · have := l3.lt q1; omega
            · exact .inr ⟨q1, q2⟩
        · refine ⟨by simp only; omega, hp, ?_⟩
          have hx : min a.2 b.2 ≤ max c b.2 := by omega
          exact i2.mono hx
      · rw [if_neg hp, List.nil_append]
        refine ⟨fun x => ?_, i2.mono (by omega)⟩
        rw [i1 x, hasS_cons (s := b)]
        constructor
        · rintro ⟨q1, q2⟩
          exact ⟨q1, .inr q2⟩
        · rintro ⟨q1, q2 | q2⟩
          · rcases hasS_cons.1 q1 with q1 | q1
            · omega
            · have := l3.lt q1; omega
          · exact ⟨q1, q2⟩

/-! ### What is in the first alone -/
def restS (e at_ : Int) : List Sp := if at_ < e then [(at_, e)] else []
def cutS (e : Int) : Int → List Sp → List Sp
  | at_, [] => restS e at_
  | at_, b :: bs => if b.1 < e then restS b.1 at_ ++ cutS e (max at_ b.2) bs else restS e at_

theorem restS_ok {e at_ a : Int} (h : a < at_) : (∀ x, hasS (restS e at_) x ↔ at_ ≤ x ∧ x < e) ∧ NFa a (restS e at_) := by
  unfold restS
  split
  · refine ⟨fun x => ?_, h, by assumption, trivial⟩
    rw [hasS_cons]
    constructor
    · rintro (q | q)
      · exact q
      · exact absurd q hasS_nil
    · exact .inl
  · exact ⟨fun x => ⟨fun q => absurd q hasS_nil, fun q => by omega⟩, trivial⟩

theorem cutS_ok {e : Int} : ∀ (bs : List Sp) (at_ a c : Int), a < at_ → NFa c bs → (∀ x, hasS (cutS e at_ bs) x ↔ (at_ ≤ x ∧ x < e) ∧ ¬ hasS bs x) ∧ NFa a (cutS e at_ bs)
  | [], at_, a, c, h, _ => by
    obtain ⟨r1, r2⟩ := restS_ok (e := e) h
    exact ⟨fun x => ⟨fun q => ⟨(r1 x).1 q, hasS_nil⟩, fun q => (r1 x).2 q.1⟩, r2⟩
  | b :: bs, at_, a, c, h, ⟨m1, m2, m3⟩ => by
    unfold cutS
    by_cases hb : b.1 < e
    · rw [if_pos hb]
      by_cases hp : at_ < b.1
      · obtain ⟨i1, i2⟩ := cutS_ok bs (max at_ b.2) b.1 b.2 (by omega) m3
        have er : restS b.1 at_ = [(at_, b.1)] := by unfold restS; rw [if_pos hp]
        rw [er]
        refine ⟨fun x => ?_, h, hp, i2⟩
        rw [List.singleton_append, hasS_cons, i1 x, hasS_cons]
        constructor
        · rintro (q | ⟨q1, q2⟩)
          · simp only at q
            refine ⟨by omega, ?_⟩
            rintro (p | p)
            · omega
            · have := m3.lt p; omega
          · refine ⟨by omega, ?_⟩
            rintro (p | p)
            · omega
            · exact q2 p
        · rintro ⟨q1, q2⟩
          by_cases hx : x < b.1
          · exact .inl (by simp only; omega)
          · refine .inr ⟨⟨?_, q1.2⟩, fun p => q2 (.inr p)⟩
            have : ¬ x < b.2 := fun hlt => q2 (.inl ⟨by omega, hlt⟩)
            omega
      · obtain ⟨i1, i2⟩ := cutS_ok bs (max at_ b.2) a b.2 (by omega) m3
        have er : restS b.1 at_ = [] := by unfold restS; rw [if_neg hp]
        rw [er, List.nil_append]
        refine ⟨fun x => ?_, i2⟩
        rw [i1 x, hasS_cons]
        constructor
        · rintro ⟨q1, q2⟩
          refine ⟨by omega, ?_⟩
          rintro (p | p)
          · omega
          · exact q2 p
        · rintro ⟨q1, q2⟩
          refine ⟨⟨?_, q1.2⟩, fun p => q2 (.inr p)⟩
          have : ¬ x < b.2 := fun hlt => q2 (.inl ⟨by omega, hlt⟩)
          omega
    · rw [if_neg hb]
      obtain ⟨r1, r2⟩ := restS_ok (e := e) h
      refine ⟨fun x => ?_, r2⟩
      rw [r1 x, hasS_cons]
      constructor
      · intro q
        refine ⟨q, ?_⟩
        rintro (p | p)
        · omega
        · have := m3.lt p; omega
      · exact fun q => q.1

def withoutS (l m : List Sp) : List Sp := l.flatMap fun s => cutS s.2 s.1 m

theorem NFa.append {l m : List Sp} {a b : Int} (hl : NFa a l) (hb : ∀ x, hasS l x → x < b) (hm : NFa b m) (hab : a ≤ b) : NFa a (l ++ m) := by
  induction l generalizing a with
  | nil => exact hm.mono hab
  | cons s l ih =>
    obtain ⟨h1, h2, h3⟩ := hl
    have hs : s.2 - 1 < b := hb (s.2 - 1) (hasS_cons.2 (.inl ⟨by omega, by omega⟩))
    exact ⟨h1, h2, ih h3 (fun x hx => hb x (hasS_cons.2 (.inr hx))) (by omega)⟩

theorem withoutS_ok {m : List Sp} {c : Int} (hm : NFa c m) : ∀ (l : List Sp) (a : Int), NFa a l → (∀ x, hasS (withoutS l m) x ↔ hasS l x ∧ ¬ hasS m x) ∧ NFa a (withoutS l m)
  | [], a, _ => ⟨fun x => ⟨fun q => absurd q hasS_nil, fun q => absurd q.1 hasS_nil⟩, trivial⟩
  | s :: l, a, ⟨h1, h2, h3⟩ => by
    obtain ⟨i1, i2⟩ := withoutS_ok hm l s.2 h3
    obtain ⟨j1, j2⟩ := cutS_ok (e := s.2) m s.1 a c h1 hm
    have e : withoutS (s :: l) m = cutS s.2 s.1 m ++ withoutS l m := rfl
    rw [e]
    refine ⟨fun x => ?_, j2.append (fun x hx => ((j1 x).1 hx).1.2) i2 (by omega)⟩
    rw [hasS_append, i1 x, j1 x, hasS_cons]
    constructor
    · rintro (⟨q1, q2⟩ | ⟨q1, q2⟩)
      · exact ⟨.inl q1, q2⟩
      · exact ⟨.inr q1, q2⟩
    · rintro ⟨q1 | q1, q2⟩
      · exact .inl ⟨q1, q2⟩
      · exact .inr ⟨q1, q2⟩

/-! ### Merging spans that ascend -/
def mergeS : Sp → List Sp → List Sp
  | c, [] => [c]
  | c, s :: l => if s.1 ≤ c.2 then mergeS (c.1, max c.2 s.2) l else c :: mergeS s l
theorem mergeS_ok : ∀ (l : List Sp) (c : Sp) (a : Int), a < c.1 → c.1 < c.2 → (∀ s ∈ l, c.1 ≤ s.1 ∧ s.1 < s.2) → l.Pairwise (fun s t => s.1 ≤ t.1) → (∀ x, hasS (mergeS c l) x ↔ hasS (c :: l) x) ∧ NFa a (mergeS c l)
  | [], c, a, h1, h2, _, _ => ⟨fun x => Iff.rfl, h1, h2, trivial⟩
  | s :: l, c, a, h1, h2, hs, hp => by
    rw [List.pairwise_cons] at hp
    obtain ⟨hs1, hs2⟩ := hs s (by simp)
    unfold mergeS
    by_cases hc : s.1 ≤ c.2
    · rw [if_pos hc]
      obtain ⟨i1, i2⟩ := mergeS_ok l (c.1, max c.2 s.2) a h1 (by simp only; omega) (fun t ht => hs t (by simp [ht])) hp.2
      refine ⟨fun x => ?_, i2⟩
      rw [i1 x, hasS_cons, hasS_cons, hasS_cons]
      constructor
      · rintro (q | q)
        · simp only at q
          by_cases hx : x < c.2
          · exact .inl (by omega)
          · exact .inr (.inl (by omega))
        · exact .inr (.inr q)
      · rintro (q | q | q)
        · exact .inl (by simp only; omega)
        · exact .inl (by simp only; omega)
        · exact .inr q
    · rw [if_neg hc]
      obtain ⟨i1, i2⟩ := mergeS_ok l s c.2 (by omega) hs2 (fun t ht => ⟨hp.1 t ht, (hs t (by simp [ht])).2⟩) hp.2
      refine ⟨fun x => ?_, h1, h2, i2⟩
      rw [hasS_cons, i1 x, hasS_cons (s := c)]
end
end Go.Lift

/- Sets of numbers as lists of spans: their length. -/
namespace Go.Lift
noncomputable section
set_option linter.unusedVariables false
set_option linter.unusedSimpArgs false

def hasB (l : List Sp) (x : Int) : Bool := l.any fun s => decide (s.1 ≤ x) && decide (x < s.2)
theorem hasB_iff {l : List Sp} {x : Int} : hasB l x = true ↔ hasS l x := by
  unfold hasB hasS
  rw [List.any_eq_true]
  simp only [Bool.and_eq_true, decide_eq_true_eq]
def lengthS (l : List Sp) : Int := (l.map fun s => s.2 - s.1).sum
theorem NFa.mem {a : Int} : ∀ {l : List Sp}, NFa a l → ∀ s ∈ l, a < s.1 ∧ s.1 < s.2
  | [], _, s, h => by cases h
  | t :: l, ⟨h1, h2, h3⟩, s, h => by
    rcases List.mem_cons.1 h with rfl | h
    · exact ⟨h1, h2⟩
    · have := NFa.mem h3 s h
      omega

/-- The elements of a set below a bound stay below it. -/
theorem below_of_has {l : List Sp} {a N : Int} (h : NFa a l) (hx : ∀ x, hasS l x → x < N) : ∀ s ∈ l, s.2 ≤ N := by
  intro s hs
  have := h.mem s hs
  have := hx (s.2 - 1) ⟨s, hs, by omega, by omega⟩
  omega
end
end Go.Lift

/- Sets of numbers as lists of spans: the normal form of any spans; the next element and the next gap. -/
namespace Go.Lift
noncomputable section
set_option linter.unusedVariables false
set_option linter.unusedSimpArgs false

def mergeAll : List Sp → List Sp
  | [] => []
  | c :: l => mergeS c l
theorem hasS_perm {l m : List Sp} (h : l.Perm m) (x : Int) : hasS l x ↔ hasS m x := by
  unfold hasS
  constructor
  · rintro ⟨s, hs, h2⟩
    exact ⟨s, h.mem_iff.1 hs, h2⟩
  · rintro ⟨s, hs, h2⟩
    exact ⟨s, h.mem_iff.2 hs, h2⟩
theorem hasS_filter {l : List Sp} (x : Int) : hasS (l.filter fun s => decide (s.1 < s.2)) x ↔ hasS l x := by
  unfold hasS
  constructor
  · rintro ⟨s, hs, h2⟩
    exact ⟨s, (List.mem_filter.1 hs).1, h2⟩
  · rintro ⟨s, hs, h2⟩
    exact ⟨s, List.mem_filter.2 ⟨hs, decide_eq_true (by omega)⟩, h2⟩

/-- Any spans, sorted in any way by their beginnings, merged: their set in its one form. -/
theorem norm_ok {l m : List Sp} {a : Int} (hp : m.Perm (l.filter fun s => decide (s.1 < s.2))) (hs : m.Pairwise (fun s t => s.1 ≤ t.1)) (h0 : ∀ s ∈ l, s.1 < s.2 → a < s.1) :
    (∀ x, hasS (mergeAll m) x ↔ hasS l x) ∧ NFa a (mergeAll m) := by
  have hmem : ∀ s ∈ m, s.1 < s.2 ∧ a < s.1 := fun s h => by
    have h1 := List.mem_filter.1 (hp.mem_iff.1 h)
    have h2 := of_decide_eq_true h1.2
    exact ⟨h2, h0 s h1.1 h2⟩
  have hh : ∀ x, hasS m x ↔ hasS l x := fun x => (hasS_perm hp x).trans (hasS_filter x)
  cases m with
  | nil => exact ⟨hh, trivial⟩
  | cons c r =>
    rw [List.pairwise_cons] at hs
    obtain ⟨h1, h2⟩ := mergeS_ok r c a (hmem c (by simp)).2 (hmem c (by simp)).1 (fun s h => ⟨hs.1 s h, (hmem s (by simp [h])).1⟩) hs.2
    exact ⟨fun x => (h1 x).trans (hh x), h2⟩

/-! ### The next element, the next gap -/
def firstS (x : Int) : List Sp → Option Int
  | [] => none
  | s :: l => if x < s.2 then some (max x s.1) else firstS x l
def gapS (x : Int) : List Sp → Int
  | [] => x
  | s :: l => if s.1 ≤ x ∧ x < s.2 then s.2 else gapS x l

/-! ### Laws of sets -/
end
end Go.Lift

/- The reference's sort of numbers: ascending, each once. -/
namespace Go.Lift
open Go.RowKit Go.IntWalk
noncomputable section
set_option linter.unusedVariables false
set_option linter.unusedSimpArgs false

theorem drop_cons {α : Type} {l : List α} {j : Nat} {x : α} {r : List α} (h : l.drop j = x :: r) (d : α) : j < l.length ∧ l.getD j d = x ∧ l.drop (j + 1) = r := by
  have h3 : j < l.length := by
    have := congrArg List.length h
    simp only [List.length_drop, List.length_cons] at this
    omega
  rw [List.drop_eq_getElem_cons h3] at h
  injection h with h1 h2
  exact ⟨h3, by simp [List.getD, h3, h1], h2⟩

theorem wr {x : Int} (h1 : -9223372036854775808 ≤ x) (h2 : x ≤ 9223372036854775807) : IntKind.i64.wrap x = x := by simp (disch := omega) only [i64_in]

abbrev Asc (l : List Int) : Prop := l.Pairwise (· < ·)

/-- A number behind the others, if it is not the last one already. -/
def pushU (out : List Int) (x : Int) : List Int := if out.getLast? = some x then out else out ++ [x]
theorem pushU_len (out : List Int) (x : Int) : (pushU out x).length ≤ out.length + 1 := by
  unfold pushU
  split <;> simp
theorem pushU_mem {out : List Int} {x y : Int} : y ∈ pushU out x ↔ y ∈ out ∨ y = x := by
  unfold pushU
  split
  · rename_i h
    constructor
    · exact .inl
    · rintro (h1 | rfl)
      · exact h1
      · exact List.mem_of_getLast? h
  · simp
theorem pushU_asc {out : List Int} {x : Int} (h : Asc out) (hx : ∀ y ∈ out, y ≤ x) : Asc (pushU out x) := by
  unfold pushU
  split
  · exact h
  · rename_i hne
    rw [Asc, List.pairwise_append]
    refine ⟨h, by simp, fun a ha b hb => ?_⟩
    simp only [List.mem_singleton] at hb
    subst hb
    have h1 := hx a ha
    rcases List.eq_nil_or_concat out with rfl | ⟨L, y, rfl⟩
    · cases ha
    · have hy : y ≠ b := by
        intro e
        exact hne (by simp [e])
      have hyb := hx y (by simp)
      rw [List.concat_eq_append] at h ha
      rcases List.mem_append.1 ha with q | q
      · have := (List.pairwise_append.1 h).2.2 a q y (by simp)
        omega
      · simp only [List.mem_singleton] at q
        omega

section
variable {β : Type} {me : zq6z}

theorem srt_p1 (k1 : zq71 β) (i j x : Int) {out a b : List Int} (hl : out.length ≤ 100000) : zq7w me k1 i j x out a b = k1 i j (pushU out x) a b := by
  show zq7h k1 i j x out a b = _
  unfold zq7h
  rcases List.eq_nil_or_concat out with rfl | ⟨L, y, rfl⟩
  · refine (c_pos (by simp)).trans ?_
    refine (c_room (by simp)).trans ?_
    rfl
  · rw [List.concat_eq_append] at hl ⊢
    have hlen : (L ++ [y]).length = L.length + 1 := by simp
    have e1 : IntKind.i64.wrap (((L ++ [y]).length : Int) - 1) = (L.length : Int) := by
      rw [wr (by omega) (by omega)]; omega
    have e2 : (L ++ [y]).getD (Int.toNat (L.length : Int)) 0 = y := by simp [List.getD]
    refine (c_neg (by omega)).trans ?_
    rw [e1]
    refine (c_inb (by omega)).trans ?_
    rw [e2]
    have e3 : (L ++ [y]).getLast? = some y := by simp
    by_cases hy : y = x
    · refine (c_npos hy).trans ?_
      have : pushU (L ++ [y]) x = L ++ [y] := by unfold pushU; rw [if_pos (by rw [e3, hy])]
      rw [this]
    · refine (c_nneg hy).trans ?_
      refine (c_room (by simp only [List.length_append, List.length_cons, List.length_nil] at hl ⊢; omega)).trans ?_
      have : pushU (L ++ [y]) x = L ++ [y] ++ [x] := by unfold pushU; rw [if_neg (by rw [e3]; simpa using hy)]
      rw [this]

theorem srt_p2t (k1 : zq75 β) {i : Nat} (j : Int) {out a b : List Int} (hi : i < a.length) (hl : a.length ≤ 100000) : zq7y me k1 (i : Int) j true out a b = k1 ((i + 1 : Nat) : Int) j (a.getD i 0) out a b := by
  show zq7k k1 (i : Int) j true out a b = _
  unfold zq7k
  refine c_t.trans ?_
  refine (c_inb (by omega)).trans ?_
  simp only [Int.toNat_natCast]
  rw [wr (by omega) (by omega)]
  rfl
theorem srt_p2f (k1 : zq75 β) {j : Nat} (i : Int) {out a b : List Int} (hj : j < b.length) (hl : b.length ≤ 100000) : zq7y me k1 i (j : Int) false out a b = k1 i ((j + 1 : Nat) : Int) (b.getD j 0) out a b := by
  show zq7k k1 i (j : Int) false out a b = _
  unfold zq7k
  refine c_f.trans ?_
  refine (c_inb (by omega)).trans ?_
  simp only [Int.toNat_natCast]
  rw [wr (by omega) (by omega)]
  rfl

/-- Whose turn it is. -/
def turnA (a b : List Int) (i j : Nat) : Bool := if j = b.length then true else if i < a.length then decide (a.getD i 0 ≤ b.getD j 0) else false

theorem srt_p3 (k1 : zq79 β) {i j : Nat} {out a b : List Int} (ha : a.length ≤ 100000) (hb : b.length ≤ 100000) (ho : out.length ≤ 100000) (hi : i ≤ a.length) (hj : j ≤ b.length) (h : i < a.length ∨ j < b.length) :
    zq80 me k1 (i : Int) (j : Int) out a b = cond (turnA a b i j) (k1 ((i + 1 : Nat) : Int) (j : Int) (pushU out (a.getD i 0)) a b) (k1 (i : Int) ((j + 1 : Nat) : Int) (pushU out (b.getD j 0)) a b) := by
  show zq7n (zq7w me) (zq7y me) k1 (i : Int) (j : Int) out a b = _
  unfold zq7n turnA
  by_cases hjb : j = b.length
  · rw [if_pos hjb]
    refine (c_pos (by omega)).trans ?_
    refine (srt_p2t _ _ (by omega) ha).trans ?_
    exact srt_p1 _ _ _ _ ho
  · rw [if_neg hjb]
    refine (c_neg (by omega)).trans ?_
    by_cases hia : i < a.length
    · rw [if_pos hia]
      refine (c_pos (by omega)).trans ?_
      refine (c_inb (by omega)).trans ?_
      refine (c_inb (by omega)).trans ?_
      simp only [Int.toNat_natCast]
      by_cases hle : a.getD i 0 ≤ b.getD j 0
      · rw [decide_eq_true hle]
        refine (srt_p2t _ _ hia ha).trans ?_
        exact srt_p1 _ _ _ _ ho
      · rw [decide_eq_false hle]
        refine (srt_p2f _ _ (by omega) hb).trans ?_
        exact srt_p1 _ _ _ _ ho
    · rw [if_neg hia]
      refine (c_neg (by omega)).trans ?_
      refine (srt_p2f _ _ (by omega) hb).trans ?_
      exact srt_p1 _ _ _ _ ho

/-- What the merging keeps. -/
structure MI (a b : List Int) (i j : Nat) (out : List Int) : Prop where
  hi : i ≤ a.length
  hj : j ≤ b.length
  asc : Asc out
  mem : ∀ y, y ∈ out ↔ y ∈ a.take i ∨ y ∈ b.take j
  lo1 : ∀ y ∈ out, ∀ z ∈ a.drop i, y ≤ z
  lo2 : ∀ y ∈ out, ∀ z ∈ b.drop j, y ≤ z
  len : out.length ≤ i + j

theorem take_succ_mem {l : List Int} {i : Nat} (h : i < l.length) (y : Int) : y ∈ l.take (i + 1) ↔ y ∈ l.take i ∨ y = l.getD i 0 := by
  rw [List.take_add_one]
  have : l[i]? = some (l.getD i 0) := by simp [List.getD, h]
  rw [this]
  simp

theorem asc_drop {l : List Int} (h : Asc l) {i : Nat} (hi : i < l.length) : ∀ z ∈ l.drop i, l.getD i 0 ≤ z := by
  intro z hz
  have e : l.drop i = l.getD i 0 :: l.drop (i + 1) := by
    rw [List.drop_eq_getElem_cons hi]
    simp [List.getD, hi]
  have hd : Asc (l.drop i) := h.sublist (List.drop_sublist i l)
  rw [e] at hz hd
  rcases List.mem_cons.1 hz with rfl | hz
  · exact Int.le_refl _
  · have := (List.pairwise_cons.1 hd).1 z hz
    omega
theorem mem_drop_succ {l : List Int} {i : Nat} {z : Int} (h : z ∈ l.drop (i + 1)) : z ∈ l.drop i := by
  rw [← List.drop_drop] at h
  exact List.mem_of_mem_drop h
theorem getD_mem_drop {l : List Int} {i : Nat} (h : i < l.length) : l.getD i 0 ∈ l.drop i := by
  rw [List.drop_eq_getElem_cons h]
  have : l.getD i 0 = l[i] := by simp [List.getD, h]
  rw [this]
  exact List.mem_cons_self

theorem MI.stepA {a b : List Int} (ha : Asc a) (hb : Asc b) {i j : Nat} {out : List Int} (h : MI a b i j out) (hi : i < a.length) (hle : ∀ z ∈ b.drop j, a.getD i 0 ≤ z) : MI a b (i + 1) j (pushU out (a.getD i 0)) := by
  have hx : ∀ y ∈ out, y ≤ a.getD i 0 := fun y hy => h.lo1 y hy _ (getD_mem_drop hi)
  refine ⟨hi, h.hj, pushU_asc h.asc hx, fun y => ?_, fun y hy z hz => ?_, fun y hy z hz => ?_, ?_⟩
  · rw [pushU_mem, h.mem, take_succ_mem hi]
    constructor
    · rintro ((q | q) | q)
      · exact .inl (.inl q)
      · exact .inr q
      · exact .inl (.inr q)
    · rintro ((q | q) | q)
      · exact .inl (.inl q)
      · exact .inr q
      · exact .inl (.inr q)
  · rcases pushU_mem.1 hy with q | rfl
    · exact h.lo1 y q z (mem_drop_succ hz)
    · exact asc_drop ha hi z (mem_drop_succ hz)
  · rcases pushU_mem.1 hy with q | rfl
    · exact h.lo2 y q z hz
    · exact hle z hz
  · have := pushU_len out (a.getD i 0)
    have := h.len
    omega
theorem MI.stepB {a b : List Int} (ha : Asc a) (hb : Asc b) {i j : Nat} {out : List Int} (h : MI a b i j out) (hj : j < b.length) (hle : ∀ z ∈ a.drop i, b.getD j 0 ≤ z) : MI a b i (j + 1) (pushU out (b.getD j 0)) := by
  have hx : ∀ y ∈ out, y ≤ b.getD j 0 := fun y hy => h.lo2 y hy _ (getD_mem_drop hj)
  refine ⟨h.hi, hj, pushU_asc h.asc hx, fun y => ?_, fun y hy z hz => ?_, fun y hy z hz => ?_, ?_⟩
  · rw [pushU_mem, h.mem, take_succ_mem hj, or_assoc]
  · rcases pushU_mem.1 hy with q | rfl
    · exact h.lo1 y q z hz
    · exact hle z hz
  · rcases pushU_mem.1 hy with q | rfl
    · exact h.lo2 y q z (mem_drop_succ hz)
    · exact asc_drop hb hj z (mem_drop_succ hz)
  · have := pushU_len out (b.getD j 0)
    have := h.len
    omega
end

/-- The merging. -/
theorem srt_p4 {me : zq6z} {a b : List Int} (ha : Asc a) (hb : Asc b) (hal : a.length ≤ 30000) (hbl : b.length ≤ 30000) :
    ∃ out, (Asc out ∧ (∀ y, y ∈ out ↔ y ∈ a ∨ y ∈ b) ∧ out.length ≤ a.length + b.length) ∧ ∀ {β : Type} (k : List Int → Option β), zq84 me k 0 0 [] a b = k out := by
  have := while_loop (σ := Nat × Nat × List Int) (ρ := List Int) (Kt := fun β => List Int → Option β)
    (fun k N s => zq82 me N k (s.1 : Int) (s.2.1 : Int) s.2.2 a b) (fun k r => k r)
    (fun s => MI a b s.1 s.2.1 s.2.2) (fun s => (a.length - s.1) + (b.length - s.2.1)) (fun out => Asc out ∧ (∀ y, y ∈ out ↔ y ∈ a ∨ y ∈ b) ∧ out.length ≤ a.length + b.length) ?_ fuel (0, 0, []) ?_ ?_
  · exact this
  · rintro ⟨i, j, out⟩ h
    have h : MI a b i j out := h
    have hlen := h.len
    have hi := h.hi
    have hj := h.hj
    by_cases hm : i < a.length ∨ j < b.length
    · left
      have hstep : ∀ {β : Type} (k : List Int → Option β) (m : Nat), zq82 me (m + 1) k (i : Int) (j : Int) out a b =
          zq80 me (fun i2 j2 out2 a2 b2 => zq82 me m k i2 j2 out2 a2 b2) (i : Int) (j : Int) out a b := by
        intro β k m
        rw [zq83]
        unfold zq7q
        by_cases hia : i < a.length
        · exact c_pos (by omega)
        · refine (c_neg (by omega)).trans ?_
          exact c_pos (by omega)
      by_cases ht : turnA a b i j = true
      · have hia : i < a.length := by
          unfold turnA at ht
          split at ht
          · omega
          · split at ht
            · assumption
            · cases ht
        refine ⟨(i + 1, j, pushU out (a.getD i 0)), h.stepA ha hb hia ?_, ?_, fun k m => ?_⟩
        · intro z hz
          unfold turnA at ht
          split at ht
          · rename_i hjb
            rw [hjb, List.drop_length] at hz
            cases hz
          · try rw [if_pos hia] at ht
            have := of_decide_eq_true ht
            have := asc_drop hb (show j < b.length by omega) z hz
            omega
        · show (a.length - (i + 1)) + (b.length - j) < (a.length - i) + (b.length - j)
          omega
        · refine (hstep k m).trans ?_
          rw [srt_p3 _ (by omega) (by omega) (by omega) hi hj hm, ht]
          rfl
      · have ht : turnA a b i j = false := by simpa using ht
        have hjb : j < b.length := by
          unfold turnA at ht
          split at ht
          · cases ht
          · omega
        refine ⟨(i, j + 1, pushU out (b.getD j 0)), h.stepB ha hb hjb ?_, ?_, fun k m => ?_⟩
        · intro z hz
          unfold turnA at ht
          rw [if_neg (by omega)] at ht
          split at ht
          · rename_i hia
            have := of_decide_eq_false ht
            have := asc_drop ha hia z hz
            omega
          · rename_i hia
            rw [List.drop_eq_nil_of_le (by omega)] at hz
            cases hz
        · show (a.length - i) + (b.length - (j + 1)) < (a.length - i) + (b.length - j)
          omega
        · refine (hstep k m).trans ?_
          rw [srt_p3 _ (by omega) (by omega) (by omega) hi hj hm, ht]
          rfl
    · right
      refine ⟨out, ⟨h.asc, fun y => ?_, by omega⟩, fun k m => ?_⟩
      · rw [h.mem, List.take_of_length_le (by omega), List.take_of_length_le (by omega)]
      · show zq82 me (m + 1) k (i : Int) (j : Int) out a b = k out
        rw [zq83]
        unfold zq7q
        refine (c_neg (by omega)).trans ?_
        exact c_neg (by omega)
  · exact ⟨Nat.zero_le _, Nat.zero_le _, List.Pairwise.nil, by simp, by simp, by simp, by simp⟩
  · exact lt_fuel (by show (a.length - 0) + (b.length - 0) < _; omega)

theorem srt_n : ∀ (N : Nat) (l : List Int), l.length < N → l.length ≤ 20000 →
    ∃ out, (Asc out ∧ (∀ y, y ∈ out ↔ y ∈ l) ∧ out.length ≤ l.length) ∧ ∀ {β : Type} (k : List Int → Option β), zq86 N l k = k out
  | 0, l, h, _ => absurd h (Nat.not_lt_zero _)
  | N + 1, l, h, hl => by
    by_cases h2 : l.length < 2
    · refine ⟨l, ⟨?_, fun _ => Iff.rfl, Nat.le_refl _⟩, fun k => ?_⟩
      · match l, h2 with
        | [], _ => exact List.Pairwise.nil
        | [x], _ => exact List.pairwise_singleton _ _
      · rw [zq88]
        unfold zq7t
        refine (c_pos (by omega)).trans ?_
        exact c_room (by omega)
    · have e2 : IntKind.i64.wrap (Int.tdiv (l.length : Int) 2) = ((l.length / 2 : Nat) : Int) := by
        have : Int.tdiv (l.length : Int) 2 = ((l.length / 2 : Nat) : Int) := rfl
        rw [this, wr (by omega) (by omega)]
      obtain ⟨o1, ⟨a1, m1, n1⟩, f1⟩ := srt_n N (l.take (l.length / 2)) (by simp; omega) (by simp; omega)
      obtain ⟨o2, ⟨a2, m2, n2⟩, f2⟩ := srt_n N (l.drop (l.length / 2)) (by simp; omega) (by simp; omega)
      simp only [List.length_take] at n1
      simp only [List.length_drop] at n2
      obtain ⟨o3, ⟨a3, m3, n3⟩, f3⟩ := srt_p4 (me := zq86 N) a1 a2 (by omega) (by omega)
      refine ⟨o3, ⟨a3, fun y => ?_, by omega⟩, fun k => ?_⟩
      · rw [m3, m1, m2, ← List.mem_append, List.take_append_drop]
      · rw [zq88]
        unfold zq7t
        simp only [e2, Int.toNat_natCast, Int.toNat_zero, List.drop_zero, List.take_length]
        refine (c_neg (by omega)).trans ?_
        refine (c_nneg (by omega)).trans ?_
        rw [show (decide (0 ≤ (0 : Int)) && (decide ((0 : Int) ≤ ((l.length / 2 : Nat) : Int)) && decide (((l.length / 2 : Nat) : Int) ≤ (l.length : Int)))) = true by
          rw [decide_eq_true (by omega : (0 : Int) ≤ 0), decide_eq_true (by omega : (0 : Int) ≤ ((l.length / 2 : Nat) : Int)), decide_eq_true (by omega : ((l.length / 2 : Nat) : Int) ≤ (l.length : Int))]; rfl]
        refine c_t.trans ?_
        refine (f1 _).trans ?_
        refine (c_nneg (by omega)).trans ?_
        rw [show (decide (0 ≤ ((l.length / 2 : Nat) : Int)) && (decide (((l.length / 2 : Nat) : Int) ≤ (l.length : Int)) && decide ((l.length : Int) ≤ (l.length : Int)))) = true by
          rw [decide_eq_true (by omega : (0 : Int) ≤ ((l.length / 2 : Nat) : Int)), decide_eq_true (by omega : ((l.length / 2 : Nat) : Int) ≤ (l.length : Int)), decide_eq_true (by omega : (l.length : Int) ≤ (l.length : Int))]; rfl]
        refine c_t.trans ?_
        refine (f2 _).trans ?_
        exact f3 k

theorem srt {l : List Int} (hl : l.length ≤ 20000) : ∃ out, (Asc out ∧ (∀ y, y ∈ out ↔ y ∈ l) ∧ out.length ≤ l.length) ∧ ∀ {β : Type} (k : List Int → Option β), zq89 l k = k out :=
  srt_n fuel l (lt_fuel (by omega)) hl
end
end Go.Lift

