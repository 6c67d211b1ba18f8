/- Part4: Fn0, LBase, LSpanMath, LSpanLen, LSpanMore, LSpanSort, LSpanRef, LSpanFn, LDice, LSpanFn2, LSpanFn3, LSpanLaws. -/
import Derived.Test.YtijaefnfpfnbnaaProg
import Derived.Test.YtijaefnfpfnbnaaPart3
namespace Go.Lift
open Go.Proofs
noncomputable section
set_option maxRecDepth 100000
set_option linter.unusedVariables false



def tab : List (Nat × TI) := [
  (3, ⟨false, 1, 8, [.int .i64 (0 : Int)], [], none, none, (some (.int .i64)), (some .i64), false, false, none, none⟩),
  (22, ⟨false, 1, 24, [.nils], [], (some 3), none, (some (.slice (.int .i64))), none, false, false, none, none⟩),
  (27, ⟨false, 1, 24, [.nils], [], (some 30), none, (some (.slice (.prod (.int .i64) (.int .i64)))), none, false, false, none, none⟩),
  (30, ⟨true, 2, 16, [.int .i64 (0 : Int), .int .i64 (0 : Int)], [(0, 1, false), (1, 1, false)], none, none, (some (.prod (.int .i64) (.int .i64))), none, false, false, (some [.i, .i]), none⟩),
  (51, ⟨true, 2, 32, [.nils, .int .i64 (0 : Int)], [(0, 1, false), (1, 1, false)], none, none, (some (.prod (.slice (.int .i64)) (.int .i64))), none, false, false, none, none⟩),
  (59, ⟨false, 1, 8, [.junk], [], none, none, none, none, false, false, none, (some (3, 3))⟩)]

theorem tab_ok : TOk Try.prog (look tab) := TOk_of (by kernel_rfl)
theorem mixed : Try.prog.follows .mixedOrders = true := by kernel_rfl

/-- pagewatch/pagewatchmade.Light -/
abbrev zq0 := {β : Type} → (List Int) → (Bool → Option β) → Option β
def zq1 (c : zq0) : Spec :=
  ⟨[(false, [.data (.slice (.int .i64))])], [], [(false, [.data .bool])], [], fun x k => c x.1.1.1 (fun r0 => k (((r0, ()), ()), ()))⟩
section
@[reducible] def made_Light_X : Ctx := ⟨look tab, pick1 [], false, false⟩
def zq2 {β : Type} (l : List Int) (k : (Bool → Option β)) : Option β :=
  let t : Bool := (decide ((List.length l : Int) ≤ (500 : Int)));
  k t
theorem zq3 (hΓ : ΓOk Try.prog made_Light_X.Γ) : SpecOk Try.prog 8 (zq1 (zq2)) :=
  spec_exec (X := made_Light_X) (Λ := pick1 []) (rs := [.tmp 2]) (c := bodyOf Try.f8) mixed tab_ok hΓ Try.func8 (by kernel_rfl) (by kernel_rfl) (by kernel_rfl) (by kernel_rfl) CutsOk_nil (fun x k r h => Eq.trans (b := (zq1 (zq2)).run x k) (by kernel_rfl) h)
end
theorem zq4Γ : ΓOk Try.prog (pick1 []) := ΓOk_nil
def zq5 : zq0 := zq2
theorem zq6 : SpecOk Try.prog 8 (zq1 zq5) := zq3 zq4Γ

/-- pagewatch/pagewatchmade.Roll -/
abbrev zq7 := {β : Type} → (List Int) → ((List Int × Int) → Option β) → Option β
def zq8 (c : zq7) : Spec :=
  ⟨[(false, [.data (.slice (.int .i64))])], [], [(false, [.ptr 0 0])], [.cells 51 [.data (.prod (.slice (.int .i64)) (.int .i64))]], fun x k => c x.1.1.1 (fun r0 => k (((), ()), ((r0, ()), ())))⟩
section
@[reducible] def made_Roll_X : Ctx := ⟨look tab, pick1 [], false, false⟩
def zq9 {β : Type} (l : List Int) (k : ((List Int × Int) → Option β)) : Option β :=
  k (l, (0 : Int))
theorem zqa (hΓ : ΓOk Try.prog made_Roll_X.Γ) : SpecOk Try.prog 10 (zq8 (zq9)) :=
  spec_exec (X := made_Roll_X) (Λ := pick1 []) (rs := [.tmp 2]) (c := bodyOf Try.f10) mixed tab_ok hΓ Try.func10 (by kernel_rfl) (by kernel_rfl) (by kernel_rfl) (by kernel_rfl) CutsOk_nil (fun x k r h => Eq.trans (b := (zq8 (zq9)).run x k) (by kernel_rfl) h)
end
theorem zqbΓ : ΓOk Try.prog (pick1 []) := ΓOk_nil
def zqc : zq7 := zq9
theorem zqd : SpecOk Try.prog 10 (zq8 zqc) := zqa zqbΓ

/-- pagewatch/pagewatchmade.Mod -/
abbrev zqe := {β : Type} → Int → Int → (Int → Option β) → Option β
def zqf (c : zqe) : Spec :=
  ⟨[(false, [.data (.int .i64)]), (false, [.data (.int .i64)])], [], [(false, [.data (.int .i64)])], [], fun x k => c x.1.1.1 x.1.2.1.1 (fun r0 => k (((r0, ()), ()), ()))⟩
section
@[reducible] def made_Mod_X : Ctx := ⟨look tab, pick1 [], false, false⟩
def zqg {β : Type} (x : Int) (n : Int) (k : (Int → Option β)) : Option β :=
  cond (!decide (n = 0))
  (cond (!decide (n = 0))
  (let t : Int := (Int.tmod (IntKind.i64.wrap ((Int.tmod x n) + n)) n);
  k t)
  none)
  none
theorem zqh (hΓ : ΓOk Try.prog made_Mod_X.Γ) : SpecOk Try.prog 12 (zqf (zqg)) :=
  spec_exec (X := made_Mod_X) (Λ := pick1 []) (rs := [.tmp 4]) (c := bodyOf Try.f12) mixed tab_ok hΓ Try.func12 (by kernel_rfl) (by kernel_rfl) (by kernel_rfl) (by kernel_rfl) CutsOk_nil (fun x k r h => Eq.trans (b := (zqf (zqg)).run x k) (by kernel_rfl) h)
end
theorem zqiΓ : ΓOk Try.prog (pick1 []) := ΓOk_nil
def zqj : zqe := zqg
theorem zqk : SpecOk Try.prog 12 (zqf zqj) := zqh zqiΓ

/-- pagewatch/pagewatchlaw03.same -/
abbrev zql := {β : Type} → (List (Int × Int)) → (List (Int × Int)) → (Bool → Option β) → Option β
def zqm (c : zql) : Spec :=
  ⟨[(false, [.data (.slice (.prod (.int .i64) (.int .i64)))]), (false, [.data (.slice (.prod (.int .i64) (.int .i64)))])], [], [(false, [.data .bool])], [], fun x k => c x.1.1.1 x.1.2.1.1 (fun r0 => k (((r0, ()), ()), ()))⟩
noncomputable def law03_same_p1_code : Code := codeAt 58 (bodyOf Try.f14)
abbrev zqn (β : Type) := Bool → Option β
abbrev zqo (β : Type) := Unit → Option β
abbrev zqp := {β : Type} → zqn β → zqo β → (List (Int × Int)) → (List (Int × Int)) → Int → Int → Option β
def zqq : View := ⟨0, [0, 1, 12, 13], [(false, [.data (.slice (.prod (.int .i64) (.int .i64)))]), (false, [.data (.slice (.prod (.int .i64) (.int .i64)))]), (false, [.data (.int .i64)]), (false, [.data (.int .i64)])], []⟩
def zqr : List (AExit × View) := [(.ret, ⟨0, [4], [(false, [.data .bool])], []⟩), (.exit 0, ⟨0, [], [], []⟩)]
@[reducible] def law03_same_p1_G (p : zqp) {β : Type} (d : zqq.den) (ks : Outs.K β zqr) : Option β :=
  p (fun a0 => ks.1 (((a0, ()), ()), ())) (fun _ => ks.2.1 ((), ())) d.1.1.1 d.1.2.1.1 d.1.2.2.1.1 d.1.2.2.2.1.1
section
@[reducible] def law03_same_X : Ctx := ⟨look tab, pick1 [], false, false⟩
def zqs {β : Type} (rec : (List (Int × Int)) → (List (Int × Int)) → Int → Int → Option β) (k1 : zqn β) (k2 : zqo β) (a : List (Int × Int)) (b : List (Int × Int)) (t12 : Int) (t13 : Int) : Option β :=
  cond (decide (t13 < t12))
  (cond (decide (0 ≤ t13) && decide (t13 < (List.length a : Int)))
  (let e : (Int × Int) := List.getD a (Int.toNat t13) ((0 : Int), (0 : Int));
  cond (decide (0 ≤ t13) && decide (t13 < (List.length b : Int)))
  (let e2 : (Int × Int) := List.getD b (Int.toNat t13) ((0 : Int), (0 : Int));
  cond (!(decide (e.1 = e2.1) && (decide (e.2 = e2.2) && true)))
  (k1 false)
  (rec a b t12 (IntKind.i64.wrap (t13 + (1 : Int)))))
  none)
  none)
  (k2 ())
def zqt {β : Type} : Nat → zqn β → zqo β → (List (Int × Int)) → (List (Int × Int)) → Int → Int → Option β
  | 0 => fun _ _ _ _ _ _ => none
  | i + 1 => fun k1 k2 a b t12 t13 => zqs (zqt i k1 k2) k1 k2 a b t12 t13
theorem zqu (hΓ : ΓOk Try.prog law03_same_X.Γ) (i : Nat) : PieceOk Try.prog 26 0 law03_same_p1_code zqq zqr (law03_same_p1_G (zqt i)) := by
  rw [show law03_same_p1_code = .loop (loopBody law03_same_p1_code) by kernel_rfl]
  exact piece_loop (X := law03_same_X) (p := 1) (Λ := pick1 []) (G := fun i => @fun β d ks => law03_same_p1_G (zqt i) d ks) mixed tab_ok hΓ rfl (by kernel_rfl) CutsOk_nil (fun _ _ => rfl) (fun i => @fun β d ks r h => Eq.trans (b := law03_same_p1_G (zqt (i + 1)) d ks) (by kernel_rfl) h) i
def zqv (p1 : zqp) {β : Type} (a : List (Int × Int)) (b : List (Int × Int)) (k : (Bool → Option β)) : Option β :=
  cond (!decide ((List.length a : Int) = (List.length b : Int)))
  (k false)
  (p1 (fun (t4 : Bool) =>
  k t4) (fun (_ : Unit) =>
  k true) a b (List.length a : Int) (0 : Int))
theorem zqw (hΓ : ΓOk Try.prog law03_same_X.Γ) (p1 : zqp) (hp1 : PieceOk Try.prog 26 0 law03_same_p1_code zqq zqr (law03_same_p1_G p1)) : SpecOk Try.prog 14 (zqm (zqv p1)) :=
  spec_exec (X := law03_same_X) (Λ := pick1 [(58, pieceCut zqq zqr (law03_same_p1_G p1))]) (rs := [.tmp 4]) (c := bodyOf Try.f14) mixed tab_ok hΓ Try.func14 (by kernel_rfl) (by kernel_rfl) (by kernel_rfl) (by kernel_rfl) (CutsOk_cons (q := 58) (c' := law03_same_p1_code) (by kernel_rfl) rfl hp1 CutsOk_nil) (fun x k r h => Eq.trans (b := (zqm (zqv p1)).run x k) (by kernel_rfl) h)
end
theorem zqxΓ : ΓOk Try.prog (pick1 []) := ΓOk_nil
def zqy (m : Nat) : zqp := zqt m
theorem zqz {β : Type} (i : Nat) (k1 k2 a b t12 t13) : (zqy (i + 1) k1 k2 a b t12 t13 : Option β) = zqs (zqy i k1 k2) k1 k2 a b t12 t13 := rfl
def zq10 : zqp := zqy fuel
theorem zq11 : PieceOk Try.prog 26 0 law03_same_p1_code zqq zqr (law03_same_p1_G zq10) := zqu zqxΓ fuel
def zq12 : zql := zqv zq10
theorem zq13 : SpecOk Try.prog 14 (zqm zq12) := zqw zqxΓ zq10 zq11

/-- pagewatch/span.Valid -/
abbrev zq14 := {β : Type} → (List (Int × Int)) → (Bool → Option β) → Option β
def zq15 (c : zq14) : Spec :=
  ⟨[(false, [.data (.slice (.prod (.int .i64) (.int .i64)))])], [], [(false, [.data .bool])], [], fun x k => c x.1.1.1 (fun r0 => k (((r0, ()), ()), ()))⟩
noncomputable def span_Valid_p1_code : Code := codeAt 58 (bodyOf Try.f22)
abbrev zq16 (β : Type) := Bool → Option β
abbrev zq17 (β : Type) := Unit → Option β
abbrev zq18 := {β : Type} → zq16 β → zq17 β → (List (Int × Int)) → (List (Int × Int)) → Int → Int → Option β
def zq19 : View := ⟨0, [0, 8, 9, 10], [(false, [.data (.slice (.prod (.int .i64) (.int .i64)))]), (false, [.data (.slice (.prod (.int .i64) (.int .i64)))]), (false, [.data (.int .i64)]), (false, [.data (.int .i64)])], []⟩
def zq1a : List (AExit × View) := [(.ret, ⟨0, [2], [(false, [.data .bool])], []⟩), (.exit 0, ⟨0, [], [], []⟩)]
@[reducible] def span_Valid_p1_G (p : zq18) {β : Type} (d : zq19.den) (ks : Outs.K β zq1a) : Option β :=
  p (fun a0 => ks.1 (((a0, ()), ()), ())) (fun _ => ks.2.1 ((), ())) d.1.1.1 d.1.2.1.1 d.1.2.2.1.1 d.1.2.2.2.1.1
section
@[reducible] def span_Valid_X : Ctx := ⟨look tab, pick1 [], false, false⟩
def zq1b {β : Type} (rec : (List (Int × Int)) → (List (Int × Int)) → Int → Int → Option β) (k1 : zq16 β) (k2 : zq17 β) (l : List (Int × Int)) (t8 : List (Int × Int)) (t9 : Int) (t10 : Int) : Option β :=
  cond (decide (t10 < t9))
  (cond (decide (0 ≤ t10) && decide (t10 < (List.length t8 : Int)))
  (let e : (Int × Int) := List.getD t8 (Int.toNat t10) ((0 : Int), (0 : Int));
  cond (decide (e.1 < (0 : Int)))
  (k1 false)
  (cond (decide (e.2 ≤ e.1))
  (k1 false)
  (cond (decide ((8589934592 : Int) < e.2))
  (k1 false)
  (cond (decide ((0 : Int) < t10))
  (cond (decide (0 ≤ (IntKind.i64.wrap (t10 - (1 : Int)))) && decide ((IntKind.i64.wrap (t10 - (1 : Int))) < (List.length l : Int)))
  (let e2 : (Int × Int) := List.getD l (Int.toNat (IntKind.i64.wrap (t10 - (1 : Int)))) ((0 : Int), (0 : Int));
  cond (decide (e.1 ≤ e2.2))
  (k1 false)
  (rec l t8 t9 (IntKind.i64.wrap (t10 + (1 : Int)))))
  none)
  (rec l t8 t9 (IntKind.i64.wrap (t10 + (1 : Int))))))))
  none)
  (k2 ())
def zq1c {β : Type} : Nat → zq16 β → zq17 β → (List (Int × Int)) → (List (Int × Int)) → Int → Int → Option β
  | 0 => fun _ _ _ _ _ _ => none
  | i + 1 => fun k1 k2 l t8 t9 t10 => zq1b (zq1c i k1 k2) k1 k2 l t8 t9 t10
theorem zq1d (hΓ : ΓOk Try.prog span_Valid_X.Γ) (i : Nat) : PieceOk Try.prog 46 0 span_Valid_p1_code zq19 zq1a (span_Valid_p1_G (zq1c i)) := by
  rw [show span_Valid_p1_code = .loop (loopBody span_Valid_p1_code) by kernel_rfl]
  exact piece_loop (X := span_Valid_X) (p := 1) (Λ := pick1 []) (G := fun i => @fun β d ks => span_Valid_p1_G (zq1c i) d ks) mixed tab_ok hΓ rfl (by kernel_rfl) CutsOk_nil (fun _ _ => rfl) (fun i => @fun β d ks r h => Eq.trans (b := span_Valid_p1_G (zq1c (i + 1)) d ks) (by kernel_rfl) h) i
def zq1e (p1 : zq18) {β : Type} (l : List (Int × Int)) (k : (Bool → Option β)) : Option β :=
  cond (decide ((4096 : Int) < (List.length l : Int)))
  (k false)
  (p1 (fun (t2 : Bool) =>
  k t2) (fun (_ : Unit) =>
  k true) l l (List.length l : Int) (0 : Int))
theorem zq1f (hΓ : ΓOk Try.prog span_Valid_X.Γ) (p1 : zq18) (hp1 : PieceOk Try.prog 46 0 span_Valid_p1_code zq19 zq1a (span_Valid_p1_G p1)) : SpecOk Try.prog 22 (zq15 (zq1e p1)) :=
  spec_exec (X := span_Valid_X) (Λ := pick1 [(58, pieceCut zq19 zq1a (span_Valid_p1_G p1))]) (rs := [.tmp 2]) (c := bodyOf Try.f22) mixed tab_ok hΓ Try.func22 (by kernel_rfl) (by kernel_rfl) (by kernel_rfl) (by kernel_rfl) (CutsOk_cons (q := 58) (c' := span_Valid_p1_code) (by kernel_rfl) rfl hp1 CutsOk_nil) (fun x k r h => Eq.trans (b := (zq15 (zq1e p1)).run x k) (by kernel_rfl) h)
end
theorem zq1gΓ : ΓOk Try.prog (pick1 []) := ΓOk_nil
def zq1h (m : Nat) : zq18 := zq1c m
theorem zq1i {β : Type} (i : Nat) (k1 k2 l t8 t9 t10) : (zq1h (i + 1) k1 k2 l t8 t9 t10 : Option β) = zq1b (zq1h i k1 k2) k1 k2 l t8 t9 t10 := rfl
def zq1j : zq18 := zq1h fuel
theorem zq1k : PieceOk Try.prog 46 0 span_Valid_p1_code zq19 zq1a (span_Valid_p1_G zq1j) := zq1d zq1gΓ fuel
def zq1l : zq14 := zq1e zq1j
theorem zq1m : SpecOk Try.prog 22 (zq15 zq1l) := zq1f zq1gΓ zq1j zq1k

/-- pagewatch/span.Length -/
abbrev zq1n := {β : Type} → (List (Int × Int)) → (Int → Option β) → Option β
def zq1o (c : zq1n) : Spec :=
  ⟨[(false, [.data (.slice (.prod (.int .i64) (.int .i64)))])], [], [(false, [.data (.int .i64)])], [], fun x k => c x.1.1.1 (fun r0 => k (((r0, ()), ()), ()))⟩
noncomputable def span_Length_p1_code : Code := codeAt 122 (bodyOf Try.f23)
abbrev zq1p (β : Type) := Int → Option β
abbrev zq1q := {β : Type} → zq1p β → Int → (List (Int × Int)) → Int → Int → Option β
def zq1r : View := ⟨0, [3, 9, 10, 11], [(false, [.data (.int .i64)]), (false, [.data (.slice (.prod (.int .i64) (.int .i64)))]), (false, [.data (.int .i64)]), (false, [.data (.int .i64)])], []⟩
def zq1s : List (AExit × View) := [(.exit 0, ⟨0, [3], [(false, [.data (.int .i64)])], []⟩)]
@[reducible] def span_Length_p1_G (p : zq1q) {β : Type} (d : zq1r.den) (ks : Outs.K β zq1s) : Option β :=
  p (fun a0 => ks.1 (((a0, ()), ()), ())) d.1.1.1 d.1.2.1.1 d.1.2.2.1.1 d.1.2.2.2.1.1
section
variable (c_span_Valid : zq14)
@[reducible] def span_Length_X : Ctx := ⟨look tab, pick1 [(22, .spec (zq15 c_span_Valid))], false, false⟩
def zq1t {β : Type} (rec : Int → (List (Int × Int)) → Int → Int → Option β) (k1 : zq1p β) (n : Int) (t9 : List (Int × Int)) (t10 : Int) (t11 : Int) : Option β :=
  cond (decide (t11 < t10))
  (cond (decide (0 ≤ t11) && decide (t11 < (List.length t9 : Int)))
  (let e : (Int × Int) := List.getD t9 (Int.toNat t11) ((0 : Int), (0 : Int));
  let n2 : Int := (IntKind.i64.wrap (n + (IntKind.i64.wrap (e.2 - e.1))));
  rec n2 t9 t10 (IntKind.i64.wrap (t11 + (1 : Int))))
  none)
  (k1 n)
def zq1u {β : Type} : Nat → zq1p β → Int → (List (Int × Int)) → Int → Int → Option β
  | 0 => fun _ _ _ _ _ => none
  | i + 1 => fun k1 n t9 t10 t11 => zq1t (zq1u i k1) k1 n t9 t10 t11
theorem zq1v (hΓ : ΓOk Try.prog (span_Length_X c_span_Valid).Γ) (i : Nat) : PieceOk Try.prog 24 0 span_Length_p1_code zq1r zq1s (span_Length_p1_G (zq1u i)) := by
  rw [show span_Length_p1_code = .loop (loopBody span_Length_p1_code) by kernel_rfl]
  exact piece_loop (X := (span_Length_X c_span_Valid)) (p := 1) (Λ := pick1 []) (G := fun i => @fun β d ks => span_Length_p1_G (zq1u i) d ks) mixed tab_ok hΓ rfl (by kernel_rfl) CutsOk_nil (fun _ _ => rfl) (fun i => @fun β d ks r h => Eq.trans (b := span_Length_p1_G (zq1u (i + 1)) d ks) (by kernel_rfl) h) i
def zq1w (p1 : zq1q) {β : Type} (l : List (Int × Int)) (k : (Int → Option β)) : Option β :=
  c_span_Valid l (fun (rValid : Bool) =>
  cond (!rValid)
  (k (0 : Int))
  (p1 (fun (n : Int) =>
  k n) (0 : Int) l (List.length l : Int) (0 : Int)))
theorem zq1x (hΓ : ΓOk Try.prog (span_Length_X c_span_Valid).Γ) (p1 : zq1q) (hp1 : PieceOk Try.prog 24 0 span_Length_p1_code zq1r zq1s (span_Length_p1_G p1)) : SpecOk Try.prog 23 (zq1o (zq1w c_span_Valid p1)) :=
  spec_exec (X := (span_Length_X c_span_Valid)) (Λ := pick1 [(122, pieceCut zq1r zq1s (span_Length_p1_G p1))]) (rs := [.tmp 2]) (c := bodyOf Try.f23) mixed tab_ok hΓ Try.func23 (by kernel_rfl) (by kernel_rfl) (by kernel_rfl) (by kernel_rfl) (CutsOk_cons (q := 122) (c' := span_Length_p1_code) (by kernel_rfl) rfl hp1 CutsOk_nil) (fun x k r h => Eq.trans (b := (zq1o (zq1w c_span_Valid p1)).run x k) (by kernel_rfl) h)
end
theorem zq1yΓ : ΓOk Try.prog (pick1 [(22, .spec (zq15 zq1l))]) := (ΓOk_cons zq1m ΓOk_nil)
def zq1z (m : Nat) : zq1q := zq1u m
theorem zq20 {β : Type} (i : Nat) (k1 n t9 t10 t11) : (zq1z (i + 1) k1 n t9 t10 t11 : Option β) = zq1t (zq1z i k1) k1 n t9 t10 t11 := rfl
def zq21 : zq1q := zq1z fuel
theorem zq22 : PieceOk Try.prog 24 0 span_Length_p1_code zq1r zq1s (span_Length_p1_G zq21) := zq1v zq1l zq1yΓ fuel
def zq23 : zq1n := zq1w zq1l zq21
theorem zq24 : SpecOk Try.prog 23 (zq1o zq23) := zq1x zq1l zq1yΓ zq21 zq22

/-- (*pagewatch/pagewatchmade.Dice).Next -/
abbrev zq25 := {β : Type} → Int → (List Int × Int) → (Int → (List Int × Int) → Option β) → Option β
def zq26 (c : zq25) : Spec :=
  ⟨[(false, [.ptr 0 0]), (false, [.data (.int .i64)])], [.cells 51 [.data (.prod (.slice (.int .i64)) (.int .i64))]], [(false, [.data (.int .i64)])], [.cells 51 [.data (.prod (.slice (.int .i64)) (.int .i64))]], fun x k => c x.1.2.1.1 x.2.1.1 (fun r0 r1 => k (((r0, ()), ()), ((r1, ()), ())))⟩
section
@[reducible] def made_Dice_Next_X : Ctx := ⟨look tab, pick1 [], false, false⟩
def zq27 {β : Type} (n : Int) (d : (List Int × Int)) (k : (Int → (List Int × Int) → Option β)) : Option β :=
  cond (decide ((List.length d.1 : Int) ≤ d.2))
  (k (0 : Int) d)
  (cond (decide (n < (1 : Int)))
  (k (0 : Int) d)
  (cond (decide (0 ≤ d.2) && decide (d.2 < (List.length d.1 : Int)))
  (let e : Int := List.getD d.1 (Int.toNat d.2) (0 : Int);
  cond (!decide (n = 0))
  (cond (decide ((Int.tmod e n) < (0 : Int)))
  (let x : Int := (IntKind.i64.wrap ((Int.tmod e n) + n));
  k x (d.1, (IntKind.i64.wrap (d.2 + (1 : Int)))))
  (k (Int.tmod e n) (d.1, (IntKind.i64.wrap (d.2 + (1 : Int))))))
  none)
  none))
theorem zq28 (hΓ : ΓOk Try.prog made_Dice_Next_X.Γ) : SpecOk Try.prog 30 (zq26 (zq27)) :=
  spec_exec (X := made_Dice_Next_X) (Λ := pick1 []) (rs := [.tmp 4]) (c := bodyOf Try.f30) mixed tab_ok hΓ Try.func30 (by kernel_rfl) (by kernel_rfl) (by kernel_rfl) (by kernel_rfl) CutsOk_nil (fun x k r h => Eq.trans (b := (zq26 (zq27)).run x k) (by kernel_rfl) h)
end
theorem zq29Γ : ΓOk Try.prog (pick1 []) := ΓOk_nil
def zq2a : zq25 := zq27
theorem zq2b : SpecOk Try.prog 30 (zq26 zq2a) := zq28 zq29Γ

/-- (*pagewatch/pagewatchmade.Dice).Span -/
abbrev zq2c := {β : Type} → (List Int × Int) → ((Int × Int) → (List Int × Int) → Option β) → Option β
def zq2d (c : zq2c) : Spec :=
  ⟨[(false, [.ptr 0 0])], [.cells 51 [.data (.prod (.slice (.int .i64)) (.int .i64))]], [(true, [.data (.prod (.int .i64) (.int .i64))])], [.cells 51 [.data (.prod (.slice (.int .i64)) (.int .i64))]], fun x k => c x.2.1.1 (fun r0 r1 => k (((r0, ()), ()), ((r1, ()), ())))⟩
section
variable (c_made_Dice_Next : zq25)
@[reducible] def made_Dice_Span_X : Ctx := ⟨look tab, pick1 [(30, .spec (zq26 c_made_Dice_Next))], false, false⟩
def zq2e {β : Type} (d : (List Int × Int)) (k : ((Int × Int) → (List Int × Int) → Option β)) : Option β :=
  c_made_Dice_Next (60 : Int) d (fun (rNext : Int) (mrNext : (List Int × Int)) =>
  c_made_Dice_Next (9 : Int) mrNext (fun (rNext2 : Int) (mrNext2 : (List Int × Int)) =>
  k (rNext, (IntKind.i64.wrap ((IntKind.i64.wrap (rNext + rNext2)) - (1 : Int)))) mrNext2))
theorem zq2f (hΓ : ΓOk Try.prog (made_Dice_Span_X c_made_Dice_Next).Γ) : SpecOk Try.prog 35 (zq2d (zq2e c_made_Dice_Next)) :=
  spec_exec (X := (made_Dice_Span_X c_made_Dice_Next)) (Λ := pick1 []) (rs := [.cell 2 30]) (c := bodyOf Try.f35) mixed tab_ok hΓ Try.func35 (by kernel_rfl) (by kernel_rfl) (by kernel_rfl) (by kernel_rfl) CutsOk_nil (fun x k r h => Eq.trans (b := (zq2d (zq2e c_made_Dice_Next)).run x k) (by kernel_rfl) h)
end
theorem zq2gΓ : ΓOk Try.prog (pick1 [(30, .spec (zq26 zq2a))]) := (ΓOk_cons zq2b ΓOk_nil)
def zq2h : zq2c := zq2e zq2a
theorem zq2i : SpecOk Try.prog 35 (zq2d zq2h) := zq2f zq2a zq2gΓ

/-- pagewatch/span.Without -/
abbrev zq2j := {β : Type} → (List (Int × Int)) → (List (Int × Int)) → ((List (Int × Int)) → Option β) → Option β
def zq2k (c : zq2j) : Spec :=
  ⟨[(false, [.data (.slice (.prod (.int .i64) (.int .i64)))]), (false, [.data (.slice (.prod (.int .i64) (.int .i64)))])], [], [(false, [.rowh 0])], [.row 30 (.prod (.int .i64) (.int .i64))], fun x k => c x.1.1.1 x.1.2.1.1 (fun r0 => k (((), ()), (r0, ())))⟩
noncomputable def span_Without_p3_code : Code := codeAt 122 (bodyOf Try.f43)
noncomputable def span_Without_p1_code : Code := codeAt 228 (loopBody span_Without_p3_code)
noncomputable def span_Without_p2_code : Code := codeAt 1850 (loopBody span_Without_p3_code)
abbrev zq2l (β : Type) := (List (Int × Int)) → Int → (List (Int × Int)) → Int → Int → (List (Int × Int)) → Int → Int → Option β
abbrev zq2m := {β : Type} → zq2l β → (List (Int × Int)) → Int → (List (Int × Int)) → Int → Int → (List (Int × Int)) → Int → Int → Option β
def zq2n : View := ⟨0, [1, 5, 6, 8, 11, 12, 13], [(false, [.data (.slice (.prod (.int .i64) (.int .i64)))]), (false, [.rowh 0]), (false, [.data (.int .i64)]), (false, [.ptr 1 0]), (false, [.data (.slice (.prod (.int .i64) (.int .i64)))]), (false, [.data (.int .i64)]), (false, [.data (.int .i64)])], [.row 30 (.prod (.int .i64) (.int .i64)), .cells 30 [.data (.int .i64), .data (.int .i64)]]⟩
def zq2o : List (AExit × View) := [(.exit 2, ⟨0, [1, 5, 6, 8, 11, 12, 13], [(false, [.data (.slice (.prod (.int .i64) (.int .i64)))]), (false, [.rowh 0]), (false, [.data (.int .i64)]), (false, [.ptr 1 0]), (false, [.data (.slice (.prod (.int .i64) (.int .i64)))]), (false, [.data (.int .i64)]), (false, [.data (.int .i64)])], [.row 30 (.prod (.int .i64) (.int .i64)), .cells 30 [.data (.int .i64), .data (.int .i64)]]⟩)]
@[reducible] def span_Without_p1_G (p : zq2m) {β : Type} (d : zq2n.den) (ks : Outs.K β zq2o) : Option β :=
  p (fun a0 a1 a2 a3 a4 a5 a6 a7 => ks.1 (((a0, ()), (), (a1, ()), (), (a2, ()), (a3, ()), (a4, ()), ()), (a5, (a6, a7, ()), ()))) d.1.1.1 d.1.2.2.1.1 d.1.2.2.2.2.1.1 d.1.2.2.2.2.2.1.1 d.1.2.2.2.2.2.2.1.1 d.2.1 d.2.2.1.1 d.2.2.1.2.1
abbrev zq2p (β : Type) := (List (Int × Int)) → Int → Int → (List (Int × Int)) → Int → Int → (List (Int × Int)) → Int → Int → Option β
abbrev zq2q := {β : Type} → zq2p β → (List (Int × Int)) → Int → Int → Int → (List (Int × Int)) → Int → Int → (List (Int × Int)) → Int → Int → Option β
def zq2r : View := ⟨0, [1, 5, 6, 8, 9, 10, 11, 12, 13], [(false, [.data (.slice (.prod (.int .i64) (.int .i64)))]), (false, [.rowh 0]), (false, [.data (.int .i64)]), (false, [.ptr 1 0]), (false, [.data (.int .i64)]), (false, [.data (.int .i64)]), (false, [.data (.slice (.prod (.int .i64) (.int .i64)))]), (false, [.data (.int .i64)]), (false, [.data (.int .i64)])], [.row 30 (.prod (.int .i64) (.int .i64)), .cells 30 [.data (.int .i64), .data (.int .i64)]]⟩
def zq2s : List (AExit × View) := [(.exit 4, ⟨0, [1, 5, 6, 8, 9, 11, 12, 13], [(false, [.data (.slice (.prod (.int .i64) (.int .i64)))]), (false, [.rowh 0]), (false, [.data (.int .i64)]), (false, [.ptr 1 0]), (false, [.data (.int .i64)]), (false, [.data (.slice (.prod (.int .i64) (.int .i64)))]), (false, [.data (.int .i64)]), (false, [.data (.int .i64)])], [.row 30 (.prod (.int .i64) (.int .i64)), .cells 30 [.data (.int .i64), .data (.int .i64)]]⟩)]
@[reducible] def span_Without_p2_G (p : zq2q) {β : Type} (d : zq2r.den) (ks : Outs.K β zq2s) : Option β :=
  p (fun a0 a1 a2 a3 a4 a5 a6 a7 a8 => ks.1 (((a0, ()), (), (a1, ()), (), (a2, ()), (a3, ()), (a4, ()), (a5, ()), ()), (a6, (a7, a8, ()), ()))) d.1.1.1 d.1.2.2.1.1 d.1.2.2.2.2.1.1 d.1.2.2.2.2.2.1.1 d.1.2.2.2.2.2.2.1.1 d.1.2.2.2.2.2.2.2.1.1 d.1.2.2.2.2.2.2.2.2.1.1 d.2.1 d.2.2.1.1 d.2.2.1.2.1
abbrev zq2t (β : Type) := (List (Int × Int)) → Option β
abbrev zq2u := {β : Type} → zq2t β → (List (Int × Int)) → Int → (List (Int × Int)) → Int → Int → (List (Int × Int)) → Option β
def zq2v : View := ⟨0, [1, 5, 6, 11, 12, 13], [(false, [.data (.slice (.prod (.int .i64) (.int .i64)))]), (false, [.rowh 0]), (false, [.data (.int .i64)]), (false, [.data (.slice (.prod (.int .i64) (.int .i64)))]), (false, [.data (.int .i64)]), (false, [.data (.int .i64)])], [.row 30 (.prod (.int .i64) (.int .i64))]⟩
def zq2w : List (AExit × View) := [(.exit 0, ⟨0, [5], [(false, [.rowh 0])], [.row 30 (.prod (.int .i64) (.int .i64))]⟩)]
@[reducible] def span_Without_p3_G (p : zq2u) {β : Type} (d : zq2v.den) (ks : Outs.K β zq2w) : Option β :=
  p (fun a0 => ks.1 (((), ()), (a0, ()))) d.1.1.1 d.1.2.2.1.1 d.1.2.2.2.1.1 d.1.2.2.2.2.1.1 d.1.2.2.2.2.2.1.1 d.2.1
section
@[reducible] def span_Without_X : Ctx := ⟨look tab, pick1 [], false, false⟩
def zq2x {β : Type} (rec : (List (Int × Int)) → Int → (List (Int × Int)) → Int → Int → (List (Int × Int)) → Int → Int → Option β) (k1 : zq2l β) (b : List (Int × Int)) (k_ : Int) (t11 : List (Int × Int)) (t12 : Int) (t13 : Int) (out : List (Int × Int)) (s : Int) (s2 : Int) : Option β :=
  cond (decide (k_ < (List.length b : Int)))
  (cond (decide (0 ≤ k_) && decide (k_ < (List.length b : Int)))
  (let e : (Int × Int) := List.getD b (Int.toNat k_) ((0 : Int), (0 : Int));
  cond (decide (e.2 ≤ s))
  (let k_2 : Int := (IntKind.i64.wrap (k_ + (1 : Int)));
  rec b k_2 t11 t12 t13 out s s2)
  (k1 b k_ t11 t12 t13 out s s2))
  none)
  (k1 b k_ t11 t12 t13 out s s2)
def zq2y {β : Type} : Nat → zq2l β → (List (Int × Int)) → Int → (List (Int × Int)) → Int → Int → (List (Int × Int)) → Int → Int → Option β
  | 0 => fun _ _ _ _ _ _ _ _ _ => none
  | i + 1 => fun k1 b k_ t11 t12 t13 out s s2 => zq2x (zq2y i k1) k1 b k_ t11 t12 t13 out s s2
theorem zq2z (hΓ : ΓOk Try.prog span_Without_X.Γ) (i : Nat) : PieceOk Try.prog 89 0 span_Without_p1_code zq2n zq2o (span_Without_p1_G (zq2y i)) := by
  rw [show span_Without_p1_code = .loop (loopBody span_Without_p1_code) by kernel_rfl]
  exact piece_loop (X := span_Without_X) (p := 1) (Λ := pick1 []) (G := fun i => @fun β d ks => span_Without_p1_G (zq2y i) d ks) mixed tab_ok hΓ rfl (by kernel_rfl) CutsOk_nil (fun _ _ => rfl) (fun i => @fun β d ks r h => Eq.trans (b := span_Without_p1_G (zq2y (i + 1)) d ks) (by kernel_rfl) h) i
def zq30 {β : Type} (rec : (List (Int × Int)) → Int → Int → Int → (List (Int × Int)) → Int → Int → (List (Int × Int)) → Int → Int → Option β) (k1 : zq2p β) (b : List (Int × Int)) (k_ : Int) (at_ : Int) (i_ : Int) (t11 : List (Int × Int)) (t12 : Int) (t13 : Int) (out : List (Int × Int)) (s : Int) (s2 : Int) : Option β :=
  cond (decide (i_ < (List.length b : Int)))
  (cond (decide (0 ≤ i_) && decide (i_ < (List.length b : Int)))
  (let e : (Int × Int) := List.getD b (Int.toNat i_) ((0 : Int), (0 : Int));
  cond (decide (e.1 < s2))
  (cond (decide (0 ≤ i_) && decide (i_ < (List.length b : Int)))
  (let e2 : (Int × Int) := List.getD b (Int.toNat i_) ((0 : Int), (0 : Int));
  cond (decide (at_ < e2.1))
  (cond (decide (0 ≤ i_) && decide (i_ < (List.length b : Int)))
  (let e3 : (Int × Int) := List.getD b (Int.toNat i_) ((0 : Int), (0 : Int));
  let l : List (Int × Int) := ([(at_, e3.1)] : List (Int × Int));
  cond (decide ((List.length out + List.length l) * 16 ≤ roomMax))
  (let l2 : List (Int × Int) := (out ++ l);
  cond (decide (0 ≤ i_) && decide (i_ < (List.length b : Int)))
  (let e4 : (Int × Int) := List.getD b (Int.toNat i_) ((0 : Int), (0 : Int));
  let at_2 : Int := (if e4.2 > at_ then e4.2 else at_);
  let i_2 : Int := (IntKind.i64.wrap (i_ + (1 : Int)));
  rec b k_ at_2 i_2 t11 t12 t13 l2 s s2)
  none)
  none)
  none)
  (cond (decide (0 ≤ i_) && decide (i_ < (List.length b : Int)))
  (let e3 : (Int × Int) := List.getD b (Int.toNat i_) ((0 : Int), (0 : Int));
  let at_2 : Int := (if e3.2 > at_ then e3.2 else at_);
  let i_2 : Int := (IntKind.i64.wrap (i_ + (1 : Int)));
  rec b k_ at_2 i_2 t11 t12 t13 out s s2)
  none))
  none)
  (k1 b k_ at_ t11 t12 t13 out s s2))
  none)
  (k1 b k_ at_ t11 t12 t13 out s s2)
def zq31 {β : Type} : Nat → zq2p β → (List (Int × Int)) → Int → Int → Int → (List (Int × Int)) → Int → Int → (List (Int × Int)) → Int → Int → Option β
  | 0 => fun _ _ _ _ _ _ _ _ _ _ _ => none
  | i + 1 => fun k1 b k_ at_ i_ t11 t12 t13 out s s2 => zq30 (zq31 i k1) k1 b k_ at_ i_ t11 t12 t13 out s s2
theorem zq32 (hΓ : ΓOk Try.prog span_Without_X.Γ) (i : Nat) : PieceOk Try.prog 89 0 span_Without_p2_code zq2r zq2s (span_Without_p2_G (zq31 i)) := by
  rw [show span_Without_p2_code = .loop (loopBody span_Without_p2_code) by kernel_rfl]
  exact piece_loop (X := span_Without_X) (p := 1) (Λ := pick1 []) (G := fun i => @fun β d ks => span_Without_p2_G (zq31 i) d ks) mixed tab_ok hΓ rfl (by kernel_rfl) CutsOk_nil (fun _ _ => rfl) (fun i => @fun β d ks r h => Eq.trans (b := span_Without_p2_G (zq31 (i + 1)) d ks) (by kernel_rfl) h) i
def zq33 (p1 : zq2m) (p2 : zq2q) {β : Type} (rec : (List (Int × Int)) → Int → (List (Int × Int)) → Int → Int → (List (Int × Int)) → Option β) (k1 : zq2t β) (b : List (Int × Int)) (k_ : Int) (t11 : List (Int × Int)) (t12 : Int) (t13 : Int) (out : List (Int × Int)) : Option β :=
  cond (decide (t13 < t12))
  (cond (decide (0 ≤ t13) && decide (t13 < (List.length t11 : Int)))
  (let e : (Int × Int) := List.getD t11 (Int.toNat t13) ((0 : Int), (0 : Int));
  p1 (fun (b2 : List (Int × Int)) (k_2 : Int) (t112 : List (Int × Int)) (t122 : Int) (t132 : Int) (out2 : List (Int × Int)) (s : Int) (s2 : Int) =>
  p2 (fun (b3 : List (Int × Int)) (k_3 : Int) (at_ : Int) (t113 : List (Int × Int)) (t123 : Int) (t133 : Int) (out3 : List (Int × Int)) (s3 : Int) (s4 : Int) =>
  cond (decide (at_ < s4))
  (let l : List (Int × Int) := ([(at_, s4)] : List (Int × Int));
  cond (decide ((List.length out3 + List.length l) * 16 ≤ roomMax))
  (let l2 : List (Int × Int) := (out3 ++ l);
  rec b3 k_3 t113 t123 (IntKind.i64.wrap (t133 + (1 : Int))) l2)
  none)
  (rec b3 k_3 t113 t123 (IntKind.i64.wrap (t133 + (1 : Int))) out3)) b2 k_2 s k_2 t112 t122 t132 out2 s s2) b k_ t11 t12 t13 out e.1 e.2)
  none)
  (k1 out)
def zq34 (p1 : zq2m) (p2 : zq2q) {β : Type} : Nat → zq2t β → (List (Int × Int)) → Int → (List (Int × Int)) → Int → Int → (List (Int × Int)) → Option β
  | 0 => fun _ _ _ _ _ _ _ => none
  | i + 1 => fun k1 b k_ t11 t12 t13 out => zq33 p1 p2 (zq34 p1 p2 i k1) k1 b k_ t11 t12 t13 out
theorem zq35 (hΓ : ΓOk Try.prog span_Without_X.Γ) (p1 : zq2m) (p2 : zq2q) (hp1 : PieceOk Try.prog 89 0 span_Without_p1_code zq2n zq2o (span_Without_p1_G p1)) (hp2 : PieceOk Try.prog 89 0 span_Without_p2_code zq2r zq2s (span_Without_p2_G p2)) (i : Nat) : PieceOk Try.prog 89 0 span_Without_p3_code zq2v zq2w (span_Without_p3_G (zq34 p1 p2 i)) := by
  rw [show span_Without_p3_code = .loop (loopBody span_Without_p3_code) by kernel_rfl]
  exact piece_loop (X := span_Without_X) (p := 1) (Λ := pick1 [(228, pieceCut zq2n zq2o (span_Without_p1_G p1)), (1850, pieceCut zq2r zq2s (span_Without_p2_G p2))]) (G := fun i => @fun β d ks => span_Without_p3_G (zq34 p1 p2 i) d ks) mixed tab_ok hΓ rfl (by kernel_rfl) (CutsOk_cons (q := 228) (c' := span_Without_p1_code) (by kernel_rfl) rfl hp1 (CutsOk_cons (q := 1850) (c' := span_Without_p2_code) (by kernel_rfl) rfl hp2 CutsOk_nil)) (fun _ _ => rfl) (fun i => @fun β d ks r h => Eq.trans (b := span_Without_p3_G (zq34 p1 p2 (i + 1)) d ks) (by kernel_rfl) h) i
def zq36 (p3 : zq2u) {β : Type} (a : List (Int × Int)) (b : List (Int × Int)) (k : ((List (Int × Int)) → Option β)) : Option β :=
  p3 (fun (out : List (Int × Int)) =>
  k out) b (0 : Int) a (List.length a : Int) (0 : Int) ([] : List (Int × Int))
theorem zq37 (hΓ : ΓOk Try.prog span_Without_X.Γ) (p3 : zq2u) (hp3 : PieceOk Try.prog 89 0 span_Without_p3_code zq2v zq2w (span_Without_p3_G p3)) : SpecOk Try.prog 43 (zq2k (zq36 p3)) :=
  spec_exec (X := span_Without_X) (Λ := pick1 [(122, pieceCut zq2v zq2w (span_Without_p3_G p3))]) (rs := [.tmp 4]) (c := bodyOf Try.f43) mixed tab_ok hΓ Try.func43 (by kernel_rfl) (by kernel_rfl) (by kernel_rfl) (by kernel_rfl) (CutsOk_cons (q := 122) (c' := span_Without_p3_code) (by kernel_rfl) rfl hp3 CutsOk_nil) (fun x k r h => Eq.trans (b := (zq2k (zq36 p3)).run x k) (by kernel_rfl) h)
end
theorem zq38Γ : ΓOk Try.prog (pick1 []) := ΓOk_nil
def zq39 (m : Nat) : zq2m := zq2y m
theorem zq3a {β : Type} (i : Nat) (k1 b k_ t11 t12 t13 out s s2) : (zq39 (i + 1) k1 b k_ t11 t12 t13 out s s2 : Option β) = zq2x (zq39 i k1) k1 b k_ t11 t12 t13 out s s2 := rfl
def zq3b : zq2m := zq39 fuel
theorem zq3c : PieceOk Try.prog 89 0 span_Without_p1_code zq2n zq2o (span_Without_p1_G zq3b) := zq2z zq38Γ fuel
def zq3d (m : Nat) : zq2q := zq31 m
theorem zq3e {β : Type} (i : Nat) (k1 b k_ at_ i_ t11 t12 t13 out s s2) : (zq3d (i + 1) k1 b k_ at_ i_ t11 t12 t13 out s s2 : Option β) = zq30 (zq3d i k1) k1 b k_ at_ i_ t11 t12 t13 out s s2 := rfl
def zq3f : zq2q := zq3d fuel
theorem zq3g : PieceOk Try.prog 89 0 span_Without_p2_code zq2r zq2s (span_Without_p2_G zq3f) := zq32 zq38Γ fuel
def zq3h (m : Nat) : zq2u := zq34 zq3b zq3f m
theorem zq3i {β : Type} (i : Nat) (k1 b k_ t11 t12 t13 out) : (zq3h (i + 1) k1 b k_ t11 t12 t13 out : Option β) = zq33 zq3b zq3f (zq3h i k1) k1 b k_ t11 t12 t13 out := rfl
def zq3j : zq2u := zq3h fuel
theorem zq3k : PieceOk Try.prog 89 0 span_Without_p3_code zq2v zq2w (span_Without_p3_G zq3j) := zq35 zq38Γ zq3b zq3f zq3c zq3g fuel
def zq3l : zq2j := zq36 zq3j
theorem zq3m : SpecOk Try.prog 43 (zq2k zq3l) := zq37 zq38Γ zq3j zq3k

/-- pagewatch/pagewatchref03.Sort -/
abbrev zq3n := {β : Type} → (List Int) → ((List Int) → Option β) → Option β
def zq3o (c : zq3n) : Spec :=
  ⟨[(false, [.data (.slice (.int .i64))])], [], [(false, [.rowh 0])], [.row 3 (.int .i64)], fun x k => c x.1.1.1 (fun r0 => k (((), ()), (r0, ())))⟩
noncomputable def ref03_Sort_p4_code : Code := codeAt 252 (bodyOf Try.f44)
noncomputable def ref03_Sort_p1_code : Code := codeAt 27 (loopBody ref03_Sort_p4_code)
noncomputable def ref03_Sort_p2_code : Code := codeAt 53 (loopBody ref03_Sort_p4_code)
noncomputable def ref03_Sort_p3_code : Code := codeAt 3 (loopBody ref03_Sort_p4_code)
abbrev zq3p (β : Type) := Int → Int → (List Int) → (List Int) → (List Int) → Option β
abbrev zq3q := {β : Type} → zq3p β → Int → Int → Int → (List Int) → (List Int) → (List Int) → Option β
def zq3r : View := ⟨0, [3, 4, 5, 6, 7, 8], [(false, [.rowh 0]), (false, [.rowh 1]), (false, [.rowh 2]), (false, [.data (.int .i64)]), (false, [.data (.int .i64)]), (false, [.data (.int .i64)])], [.row 3 (.int .i64), .row 3 (.int .i64), .row 3 (.int .i64)]⟩
def zq3s : List (AExit × View) := [(.normal, ⟨0, [3, 4, 5, 6, 7], [(false, [.rowh 0]), (false, [.rowh 1]), (false, [.rowh 2]), (false, [.data (.int .i64)]), (false, [.data (.int .i64)])], [.row 3 (.int .i64), .row 3 (.int .i64), .row 3 (.int .i64)]⟩)]
@[reducible] def ref03_Sort_p1_G (p : zq3q) {β : Type} (d : zq3r.den) (ks : Outs.K β zq3s) : Option β :=
  p (fun a0 a1 a2 a3 a4 => ks.1 (((), (), (), (a0, ()), (a1, ()), ()), (a2, a3, a4, ()))) d.1.2.2.2.1.1 d.1.2.2.2.2.1.1 d.1.2.2.2.2.2.1.1 d.2.1 d.2.2.1 d.2.2.2.1
abbrev zq3t (β : Type) := Int → Int → Int → (List Int) → (List Int) → (List Int) → Option β
abbrev zq3u := {β : Type} → zq3t β → Int → Int → Bool → (List Int) → (List Int) → (List Int) → Option β
def zq3v : View := ⟨0, [3, 4, 5, 6, 7, 57], [(false, [.rowh 0]), (false, [.rowh 1]), (false, [.rowh 2]), (false, [.data (.int .i64)]), (false, [.data (.int .i64)]), (false, [.data .bool])], [.row 3 (.int .i64), .row 3 (.int .i64), .row 3 (.int .i64)]⟩
def zq3w : List (AExit × View) := [(.normal, ⟨0, [3, 4, 5, 6, 7, 8], [(false, [.rowh 0]), (false, [.rowh 1]), (false, [.rowh 2]), (false, [.data (.int .i64)]), (false, [.data (.int .i64)]), (false, [.data (.int .i64)])], [.row 3 (.int .i64), .row 3 (.int .i64), .row 3 (.int .i64)]⟩)]
@[reducible] def ref03_Sort_p2_G (p : zq3u) {β : Type} (d : zq3v.den) (ks : Outs.K β zq3w) : Option β :=
  p (fun a0 a1 a2 a3 a4 a5 => ks.1 (((), (), (), (a0, ()), (a1, ()), (a2, ()), ()), (a3, a4, a5, ()))) d.1.2.2.2.1.1 d.1.2.2.2.2.1.1 d.1.2.2.2.2.2.1.1 d.2.1 d.2.2.1 d.2.2.2.1
abbrev zq3x (β : Type) := Int → Int → (List Int) → (List Int) → (List Int) → Option β
abbrev zq3y := {β : Type} → zq3x β → Int → Int → (List Int) → (List Int) → (List Int) → Option β
def zq3z : View := ⟨0, [3, 4, 5, 6, 7], [(false, [.rowh 0]), (false, [.rowh 1]), (false, [.rowh 2]), (false, [.data (.int .i64)]), (false, [.data (.int .i64)])], [.row 3 (.int .i64), .row 3 (.int .i64), .row 3 (.int .i64)]⟩
def zq40 : List (AExit × View) := [(.normal, ⟨0, [3, 4, 5, 6, 7], [(false, [.rowh 0]), (false, [.rowh 1]), (false, [.rowh 2]), (false, [.data (.int .i64)]), (false, [.data (.int .i64)])], [.row 3 (.int .i64), .row 3 (.int .i64), .row 3 (.int .i64)]⟩)]
@[reducible] def ref03_Sort_p3_G (p : zq3y) {β : Type} (d : zq3z.den) (ks : Outs.K β zq40) : Option β :=
  p (fun a0 a1 a2 a3 a4 => ks.1 (((), (), (), (a0, ()), (a1, ()), ()), (a2, a3, a4, ()))) d.1.2.2.2.1.1 d.1.2.2.2.2.1.1 d.2.1 d.2.2.1 d.2.2.2.1
abbrev zq41 (β : Type) := (List Int) → Option β
abbrev zq42 := {β : Type} → zq41 β → Int → Int → (List Int) → (List Int) → (List Int) → Option β
def zq43 : View := ⟨0, [3, 4, 5, 6, 7], [(false, [.rowh 0]), (false, [.rowh 1]), (false, [.rowh 2]), (false, [.data (.int .i64)]), (false, [.data (.int .i64)])], [.row 3 (.int .i64), .row 3 (.int .i64), .row 3 (.int .i64)]⟩
def zq44 : List (AExit × View) := [(.exit 0, ⟨0, [3], [(false, [.rowh 0])], [.row 3 (.int .i64)]⟩)]
@[reducible] def ref03_Sort_p4_G (p : zq42) {β : Type} (d : zq43.den) (ks : Outs.K β zq44) : Option β :=
  p (fun a0 => ks.1 (((), ()), (a0, ()))) d.1.2.2.2.1.1 d.1.2.2.2.2.1.1 d.2.1 d.2.2.1 d.2.2.2.1
section
variable (c_ref03_Sort : zq3n)
@[reducible] def ref03_Sort_X : Ctx := ⟨look tab, pick1 [(44, .spec (zq3o c_ref03_Sort))], false, false⟩
def zq45 {β : Type} (k1 : zq3p β) (i_ : Int) (j : Int) (x : Int) (out : List Int) (a : List Int) (b : List Int) : Option β :=
  cond (decide ((List.length out : Int) = (0 : Int)))
  (let l : List Int := ([x] : List Int);
  cond (decide ((List.length out + List.length l) * 8 ≤ roomMax))
  (let l2 : List Int := (out ++ l);
  k1 i_ j l2 a b)
  none)
  (cond (decide (0 ≤ (IntKind.i64.wrap ((List.length out : Int) - (1 : Int)))) && decide ((IntKind.i64.wrap ((List.length out : Int) - (1 : Int))) < (List.length out : Int)))
  (cond (!decide ((List.getD out (Int.toNat (IntKind.i64.wrap ((List.length out : Int) - (1 : Int)))) (0 : Int)) = x))
  (let l : List Int := ([x] : List Int);
  cond (decide ((List.length out + List.length l) * 8 ≤ roomMax))
  (let l2 : List Int := (out ++ l);
  k1 i_ j l2 a b)
  none)
  (k1 i_ j out a b))
  none)
def zq46 {β : Type} (k1 : zq3p β) (i_ : Int) (j : Int) (x : Int) (out : List Int) (a : List Int) (b : List Int) : Option β := zq45 k1 i_ j x out a b
theorem zq47 (hΓ : ΓOk Try.prog (ref03_Sort_X c_ref03_Sort).Γ) : PieceOk Try.prog 88 0 ref03_Sort_p1_code zq3r zq3s (ref03_Sort_p1_G (zq46)) :=
  piece_exec (X := (ref03_Sort_X c_ref03_Sort)) (p := 27) (Λ := pick1 []) mixed tab_ok hΓ (by kernel_rfl) CutsOk_nil (fun d ks r h => Eq.trans (b := ref03_Sort_p1_G (zq46) d ks) (by kernel_rfl) h)
def zq48 {β : Type} (k1 : zq3t β) (i_ : Int) (j : Int) (t57 : Bool) (out : List Int) (a : List Int) (b : List Int) : Option β :=
  cond t57
  (cond (decide (0 ≤ i_) && decide (i_ < (List.length a : Int)))
  (let x : Int := (List.getD a (Int.toNat i_) (0 : Int));
  let i_2 : Int := (IntKind.i64.wrap (i_ + (1 : Int)));
  k1 i_2 j x out a b)
  none)
  (cond (decide (0 ≤ j) && decide (j < (List.length b : Int)))
  (let x : Int := (List.getD b (Int.toNat j) (0 : Int));
  let j2 : Int := (IntKind.i64.wrap (j + (1 : Int)));
  k1 i_ j2 x out a b)
  none)
def zq49 {β : Type} (k1 : zq3t β) (i_ : Int) (j : Int) (t57 : Bool) (out : List Int) (a : List Int) (b : List Int) : Option β := zq48 k1 i_ j t57 out a b
theorem zq4a (hΓ : ΓOk Try.prog (ref03_Sort_X c_ref03_Sort).Γ) : PieceOk Try.prog 88 0 ref03_Sort_p2_code zq3v zq3w (ref03_Sort_p2_G (zq49)) :=
  piece_exec (X := (ref03_Sort_X c_ref03_Sort)) (p := 53) (Λ := pick1 []) mixed tab_ok hΓ (by kernel_rfl) CutsOk_nil (fun d ks r h => Eq.trans (b := ref03_Sort_p2_G (zq49) d ks) (by kernel_rfl) h)
def zq4b (p1 : zq3q) (p2 : zq3u) {β : Type} (k1 : zq3x β) (i_ : Int) (j : Int) (out : List Int) (a : List Int) (b : List Int) : Option β :=
  cond (decide (j = (List.length b : Int)))
  (p2 (fun (i_2 : Int) (j2 : Int) (x : Int) (out2 : List Int) (a2 : List Int) (b2 : List Int) =>
  p1 (fun (i_3 : Int) (j3 : Int) (out3 : List Int) (a3 : List Int) (b3 : List Int) =>
  k1 i_3 j3 out3 a3 b3) i_2 j2 x out2 a2 b2) i_ j true out a b)
  (cond (decide (i_ < (List.length a : Int)))
  (cond (decide (0 ≤ i_) && decide (i_ < (List.length a : Int)))
  (cond (decide (0 ≤ j) && decide (j < (List.length b : Int)))
  (p2 (fun (i_2 : Int) (j2 : Int) (x : Int) (out2 : List Int) (a2 : List Int) (b2 : List Int) =>
  p1 (fun (i_3 : Int) (j3 : Int) (out3 : List Int) (a3 : List Int) (b3 : List Int) =>
  k1 i_3 j3 out3 a3 b3) i_2 j2 x out2 a2 b2) i_ j (decide ((List.getD a (Int.toNat i_) (0 : Int)) ≤ (List.getD b (Int.toNat j) (0 : Int)))) out a b)
  none)
  none)
  (p2 (fun (i_2 : Int) (j2 : Int) (x : Int) (out2 : List Int) (a2 : List Int) (b2 : List Int) =>
  p1 (fun (i_3 : Int) (j3 : Int) (out3 : List Int) (a3 : List Int) (b3 : List Int) =>
  k1 i_3 j3 out3 a3 b3) i_2 j2 x out2 a2 b2) i_ j false out a b))
def zq4c (p1 : zq3q) (p2 : zq3u) {β : Type} (k1 : zq3x β) (i_ : Int) (j : Int) (out : List Int) (a : List Int) (b : List Int) : Option β := zq4b p1 p2 k1 i_ j out a b
theorem zq4d (hΓ : ΓOk Try.prog (ref03_Sort_X c_ref03_Sort).Γ) (p1 : zq3q) (p2 : zq3u) (hp1 : PieceOk Try.prog 88 0 ref03_Sort_p1_code zq3r zq3s (ref03_Sort_p1_G p1)) (hp2 : PieceOk Try.prog 88 0 ref03_Sort_p2_code zq3v zq3w (ref03_Sort_p2_G p2)) : PieceOk Try.prog 88 0 ref03_Sort_p3_code zq3z zq40 (ref03_Sort_p3_G (zq4c p1 p2)) :=
  piece_exec (X := (ref03_Sort_X c_ref03_Sort)) (p := 3) (Λ := pick1 [(27, pieceCut zq3r zq3s (ref03_Sort_p1_G p1)), (53, pieceCut zq3v zq3w (ref03_Sort_p2_G p2))]) mixed tab_ok hΓ (by kernel_rfl) (CutsOk_cons (q := 27) (c' := ref03_Sort_p1_code) (by kernel_rfl) rfl hp1 (CutsOk_cons (q := 53) (c' := ref03_Sort_p2_code) (by kernel_rfl) rfl hp2 CutsOk_nil)) (fun d ks r h => Eq.trans (b := ref03_Sort_p3_G (zq4c p1 p2) d ks) (by kernel_rfl) h)
def zq4e (p3 : zq3y) {β : Type} (rec : Int → Int → (List Int) → (List Int) → (List Int) → Option β) (k1 : zq41 β) (i_ : Int) (j : Int) (out : List Int) (a : List Int) (b : List Int) : Option β :=
  cond (decide (i_ < (List.length a : Int)))
  (p3 (fun (i_2 : Int) (j2 : Int) (out2 : List Int) (a2 : List Int) (b2 : List Int) =>
  rec i_2 j2 out2 a2 b2) i_ j out a b)
  (cond (decide (j < (List.length b : Int)))
  (p3 (fun (i_2 : Int) (j2 : Int) (out2 : List Int) (a2 : List Int) (b2 : List Int) =>
  rec i_2 j2 out2 a2 b2) i_ j out a b)
  (k1 out))
def zq4f (p3 : zq3y) {β : Type} : Nat → zq41 β → Int → Int → (List Int) → (List Int) → (List Int) → Option β
  | 0 => fun _ _ _ _ _ _ => none
  | i + 1 => fun k1 i_ j out a b => zq4e p3 (zq4f p3 i k1) k1 i_ j out a b
theorem zq4g (hΓ : ΓOk Try.prog (ref03_Sort_X c_ref03_Sort).Γ) (p3 : zq3y) (hp3 : PieceOk Try.prog 88 0 ref03_Sort_p3_code zq3z zq40 (ref03_Sort_p3_G p3)) (i : Nat) : PieceOk Try.prog 88 0 ref03_Sort_p4_code zq43 zq44 (ref03_Sort_p4_G (zq4f p3 i)) := by
  rw [show ref03_Sort_p4_code = .loop (loopBody ref03_Sort_p4_code) by kernel_rfl]
  exact piece_loop (X := (ref03_Sort_X c_ref03_Sort)) (p := 1) (Λ := pick1 [(3, pieceCut zq3z zq40 (ref03_Sort_p3_G p3))]) (G := fun i => @fun β d ks => ref03_Sort_p4_G (zq4f p3 i) d ks) mixed tab_ok hΓ rfl (by kernel_rfl) (CutsOk_cons (q := 3) (c' := ref03_Sort_p3_code) (by kernel_rfl) rfl hp3 CutsOk_nil) (fun _ _ => rfl) (fun i => @fun β d ks r h => Eq.trans (b := ref03_Sort_p4_G (zq4f p3 (i + 1)) d ks) (by kernel_rfl) h) i
def zq4h (p4 : zq42) {β : Type} (l : List Int) (k : ((List Int) → Option β)) : Option β :=
  cond (decide ((List.length l : Int) < (2 : Int)))
  (cond (decide (List.length l * 8 ≤ roomMax))
  (k l)
  none)
  (cond (!decide ((2 : Int) = 0))
  (cond (decide (0 ≤ (0 : Int)) && (decide ((0 : Int) ≤ (IntKind.i64.wrap (Int.tdiv (List.length l : Int) (2 : Int)))) && decide ((IntKind.i64.wrap (Int.tdiv (List.length l : Int) (2 : Int))) ≤ (List.length l : Int))))
  (c_ref03_Sort (List.drop (Int.toNat (0 : Int)) (List.take (Int.toNat (IntKind.i64.wrap (Int.tdiv (List.length l : Int) (2 : Int)))) l)) (fun (lrSort : List Int) =>
  cond (!decide ((2 : Int) = 0))
  (cond (decide (0 ≤ (IntKind.i64.wrap (Int.tdiv (List.length l : Int) (2 : Int)))) && (decide ((IntKind.i64.wrap (Int.tdiv (List.length l : Int) (2 : Int))) ≤ (List.length l : Int)) && decide ((List.length l : Int) ≤ (List.length l : Int))))
  (c_ref03_Sort (List.drop (Int.toNat (IntKind.i64.wrap (Int.tdiv (List.length l : Int) (2 : Int)))) (List.take (Int.toNat (List.length l : Int)) l)) (fun (lrSort2 : List Int) =>
  p4 (fun (out : List Int) =>
  k out) (0 : Int) (0 : Int) ([] : List Int) lrSort lrSort2))
  none)
  none))
  none)
  none)
theorem zq4i (hΓ : ΓOk Try.prog (ref03_Sort_X c_ref03_Sort).Γ) (p4 : zq42) (hp4 : PieceOk Try.prog 88 0 ref03_Sort_p4_code zq43 zq44 (ref03_Sort_p4_G p4)) : SpecOk Try.prog 44 (zq3o (zq4h c_ref03_Sort p4)) :=
  spec_exec (X := (ref03_Sort_X c_ref03_Sort)) (Λ := pick1 [(252, pieceCut zq43 zq44 (ref03_Sort_p4_G p4))]) (rs := [.tmp 2]) (c := bodyOf Try.f44) mixed tab_ok hΓ Try.func44 (by kernel_rfl) (by kernel_rfl) (by kernel_rfl) (by kernel_rfl) (CutsOk_cons (q := 252) (c' := ref03_Sort_p4_code) (by kernel_rfl) rfl hp4 CutsOk_nil) (fun x k r h => Eq.trans (b := (zq3o (zq4h c_ref03_Sort p4)).run x k) (by kernel_rfl) h)
end
theorem zq4jΓ (me : zq3n) (hme : SpecOk Try.prog 44 (zq3o me)) : ΓOk Try.prog (pick1 [(44, .spec (zq3o me))]) := (ΓOk_cons hme ΓOk_nil)
def zq4k (me : zq3n) : zq3q := zq46
theorem zq4l (me : zq3n) (hme : SpecOk Try.prog 44 (zq3o me)) : PieceOk Try.prog 88 0 ref03_Sort_p1_code zq3r zq3s (ref03_Sort_p1_G (zq4k me)) := zq47 me (zq4jΓ me hme)
def zq4m (me : zq3n) : zq3u := zq49
theorem zq4n (me : zq3n) (hme : SpecOk Try.prog 44 (zq3o me)) : PieceOk Try.prog 88 0 ref03_Sort_p2_code zq3v zq3w (ref03_Sort_p2_G (zq4m me)) := zq4a me (zq4jΓ me hme)
def zq4o (me : zq3n) : zq3y := zq4c (zq4k me) (zq4m me)
theorem zq4p (me : zq3n) (hme : SpecOk Try.prog 44 (zq3o me)) : PieceOk Try.prog 88 0 ref03_Sort_p3_code zq3z zq40 (ref03_Sort_p3_G (zq4o me)) := zq4d me (zq4jΓ me hme) (zq4k me) (zq4m me) (zq4l me hme) (zq4n me hme)
def zq4q (me : zq3n) (m : Nat) : zq42 := zq4f (zq4o me) m
theorem zq4r {β : Type} (me : zq3n) (i : Nat) (k1 i_ j out a b) : (zq4q me (i + 1) k1 i_ j out a b : Option β) = zq4e (zq4o me) (zq4q me i k1) k1 i_ j out a b := rfl
def zq4s (me : zq3n) : zq42 := zq4q me fuel
theorem zq4t (me : zq3n) (hme : SpecOk Try.prog 44 (zq3o me)) : PieceOk Try.prog 88 0 ref03_Sort_p4_code zq43 zq44 (ref03_Sort_p4_G (zq4s me)) := zq4g me (zq4jΓ me hme) (zq4o me) (zq4p me hme) fuel
def zq4u : Nat → zq3n
  | 0 => fun _ _ => none
  | i + 1 => zq4h (zq4u i) (zq4s (zq4u i))
theorem zq4v : ∀ i, SpecOk Try.prog 44 (zq3o (zq4u i))
  | 0 => SpecOk.never ⟨_, Try.func44, by kernel_rfl, by kernel_rfl⟩ (fun _ _ => rfl)
  | i + 1 =>
    have hme := zq4v i
    have me_ok := hme
    zq4i (zq4u i) (zq4jΓ (zq4u i) hme) (zq4s (zq4u i)) (zq4t (zq4u i) hme)
theorem zq4w {β : Type} (i : Nat) (l k) : (zq4u (i + 1) l k : Option β) = zq4h (zq4u i) (zq4s (zq4u i)) l k := rfl
def zq4x : zq3n := zq4u fuel
theorem zq4y : SpecOk Try.prog 44 (zq3o zq4x) := zq4v fuel

/-- slices.Clone[[]pagewatch/api.Span,pagewatch/api.Span] -/
abbrev zq4z := {β : Type} → (List (Int × Int)) → ((List (Int × Int)) → Option β) → Option β
def zq50 (c : zq4z) : Spec :=
  ⟨[(false, [.data (.slice (.prod (.int .i64) (.int .i64)))])], [], [(false, [.rowh 0])], [.row 30 (.prod (.int .i64) (.int .i64))], fun x k => c x.1.1.1 (fun r0 => k (((), ()), (r0, ())))⟩
def zq51 : zq4z := fun l k => cloneF (.prod (.int .i64) (.int .i64)) 16 l k
theorem zq52 : SpecOk Try.prog 48 (zq50 zq51) :=
  clone_ok (et := 30) (e := (.prod (.int .i64) (.int .i64))) (bytes := 16) (by kernel_rfl)
    (spec_exec (X := ⟨look tab, pick1 [], false, false⟩) (Λ := pick1 []) (rs := [.tmp 2]) (c := bodyOf Try.f48) mixed tab_ok ΓOk_nil Try.func48 (by kernel_rfl) (by kernel_rfl) (by kernel_rfl) (by kernel_rfl) CutsOk_nil (fun x k r h => Eq.trans (b := (clone1S 30 (.prod (.int .i64) (.int .i64)) 16).run x k) (by kernel_rfl) h))
    (spec_exec (X := ⟨look tab, pick1 [], false, false⟩) (Λ := pick1 []) (rs := [.tmp 2]) (c := bodyOf Try.f48) mixed tab_ok ΓOk_nil Try.func48 (by kernel_rfl) (by kernel_rfl) (by kernel_rfl) (by kernel_rfl) CutsOk_nil (fun x k r h => Eq.trans (b := (clone2S 30 (.prod (.int .i64) (.int .i64))).run x k) (by kernel_rfl) h))

/-- pagewatch/span.Merge$1 -/
abbrev zq53 := {β : Type} → (Int × Int) → (Bool → Option β) → Option β
def zq54 (c : zq53) : Spec :=
  ⟨[(true, [.data (.prod (.int .i64) (.int .i64))])], [], [(false, [.data .bool])], [], fun x k => c x.1.1.1 (fun r0 => k (((r0, ()), ()), ()))⟩
section
@[reducible] def span_Merge_f1_X : Ctx := ⟨look tab, pick1 [], false, false⟩
def zq55 {β : Type} (s : (Int × Int)) (k : (Bool → Option β)) : Option β :=
  k (decide (s.2 ≤ s.1))
theorem zq56 (hΓ : ΓOk Try.prog span_Merge_f1_X.Γ) : SpecOk Try.prog 49 (zq54 (zq55)) :=
  spec_exec (X := span_Merge_f1_X) (Λ := pick1 []) (rs := [.tmp 2]) (c := bodyOf Try.f49) mixed tab_ok hΓ Try.func49 (by kernel_rfl) (by kernel_rfl) (by kernel_rfl) (by kernel_rfl) CutsOk_nil (fun x k r h => Eq.trans (b := (zq54 (zq55)).run x k) (by kernel_rfl) h)
end
theorem zq57Γ : ΓOk Try.prog (pick1 []) := ΓOk_nil
def zq58 : zq53 := zq55
theorem zq59 : SpecOk Try.prog 49 (zq54 zq58) := zq56 zq57Γ

/-- pagewatch/span.Gap -/
abbrev zq5a := {β : Type} → (List (Int × Int)) → Int → (Int → Option β) → Option β
def zq5b (c : zq5a) : Spec :=
  ⟨[(false, [.data (.slice (.prod (.int .i64) (.int .i64)))]), (false, [.data (.int .i64)])], [], [(false, [.data (.int .i64)])], [], fun x k => c x.1.1.1 x.1.2.1.1 (fun r0 => k (((r0, ()), ()), ()))⟩
noncomputable def span_Gap_p1_code : Code := codeAt 58 (bodyOf Try.f16)
abbrev zq5c (β : Type) := Int → Option β
abbrev zq5d (β : Type) := Int → Option β
abbrev zq5e := {β : Type} → zq5c β → zq5d β → Int → (List (Int × Int)) → Int → Int → Option β
def zq5f : View := ⟨0, [1, 11, 12, 13], [(false, [.data (.int .i64)]), (false, [.data (.slice (.prod (.int .i64) (.int .i64)))]), (false, [.data (.int .i64)]), (false, [.data (.int .i64)])], []⟩
def zq5g : List (AExit × View) := [(.ret, ⟨0, [4], [(false, [.data (.int .i64)])], []⟩), (.exit 0, ⟨0, [1], [(false, [.data (.int .i64)])], []⟩)]
@[reducible] def span_Gap_p1_G (p : zq5e) {β : Type} (d : zq5f.den) (ks : Outs.K β zq5g) : Option β :=
  p (fun a0 => ks.1 (((a0, ()), ()), ())) (fun a0 => ks.2.1 (((a0, ()), ()), ())) d.1.1.1 d.1.2.1.1 d.1.2.2.1.1 d.1.2.2.2.1.1
section
variable (c_span_Valid : zq14)
@[reducible] def span_Gap_X : Ctx := ⟨look tab, pick1 [(22, .spec (zq15 c_span_Valid))], false, false⟩
def zq5h {β : Type} (rec : Int → (List (Int × Int)) → Int → Int → Option β) (k1 : zq5c β) (k2 : zq5d β) (x : Int) (t11 : List (Int × Int)) (t12 : Int) (t13 : Int) : Option β :=
  cond (decide (t13 < t12))
  (cond (decide (0 ≤ t13) && decide (t13 < (List.length t11 : Int)))
  (let e : (Int × Int) := List.getD t11 (Int.toNat t13) ((0 : Int), (0 : Int));
  cond (decide (e.1 ≤ x))
  (cond (decide (x < e.2))
  (k1 e.2)
  (rec x t11 t12 (IntKind.i64.wrap (t13 + (1 : Int)))))
  (rec x t11 t12 (IntKind.i64.wrap (t13 + (1 : Int)))))
  none)
  (k2 x)
def zq5i {β : Type} : Nat → zq5c β → zq5d β → Int → (List (Int × Int)) → Int → Int → Option β
  | 0 => fun _ _ _ _ _ _ => none
  | i + 1 => fun k1 k2 x t11 t12 t13 => zq5h (zq5i i k1 k2) k1 k2 x t11 t12 t13
theorem zq5j (hΓ : ΓOk Try.prog (span_Gap_X c_span_Valid).Γ) (i : Nat) : PieceOk Try.prog 31 0 span_Gap_p1_code zq5f zq5g (span_Gap_p1_G (zq5i i)) := by
  rw [show span_Gap_p1_code = .loop (loopBody span_Gap_p1_code) by kernel_rfl]
  exact piece_loop (X := (span_Gap_X c_span_Valid)) (p := 1) (Λ := pick1 []) (G := fun i => @fun β d ks => span_Gap_p1_G (zq5i i) d ks) mixed tab_ok hΓ rfl (by kernel_rfl) CutsOk_nil (fun _ _ => rfl) (fun i => @fun β d ks r h => Eq.trans (b := span_Gap_p1_G (zq5i (i + 1)) d ks) (by kernel_rfl) h) i
def zq5k (p1 : zq5e) {β : Type} (l : List (Int × Int)) (x : Int) (k : (Int → Option β)) : Option β :=
  c_span_Valid l (fun (rValid : Bool) =>
  cond (!rValid)
  (k x)
  (p1 (fun (t4 : Int) =>
  k t4) (fun (x2 : Int) =>
  k x2) x l (List.length l : Int) (0 : Int)))
theorem zq5l (hΓ : ΓOk Try.prog (span_Gap_X c_span_Valid).Γ) (p1 : zq5e) (hp1 : PieceOk Try.prog 31 0 span_Gap_p1_code zq5f zq5g (span_Gap_p1_G p1)) : SpecOk Try.prog 16 (zq5b (zq5k c_span_Valid p1)) :=
  spec_exec (X := (span_Gap_X c_span_Valid)) (Λ := pick1 [(58, pieceCut zq5f zq5g (span_Gap_p1_G p1))]) (rs := [.tmp 4]) (c := bodyOf Try.f16) mixed tab_ok hΓ Try.func16 (by kernel_rfl) (by kernel_rfl) (by kernel_rfl) (by kernel_rfl) (CutsOk_cons (q := 58) (c' := span_Gap_p1_code) (by kernel_rfl) rfl hp1 CutsOk_nil) (fun x k r h => Eq.trans (b := (zq5b (zq5k c_span_Valid p1)).run x k) (by kernel_rfl) h)
end
theorem zq5mΓ : ΓOk Try.prog (pick1 [(22, .spec (zq15 zq1l))]) := (ΓOk_cons zq1m ΓOk_nil)
def zq5n (m : Nat) : zq5e := zq5i m
theorem zq5o {β : Type} (i : Nat) (k1 k2 x t11 t12 t13) : (zq5n (i + 1) k1 k2 x t11 t12 t13 : Option β) = zq5h (zq5n i k1 k2) k1 k2 x t11 t12 t13 := rfl
def zq5p : zq5e := zq5n fuel
theorem zq5q : PieceOk Try.prog 31 0 span_Gap_p1_code zq5f zq5g (span_Gap_p1_G zq5p) := zq5j zq1l zq5mΓ fuel
def zq5r : zq5a := zq5k zq1l zq5p
theorem zq5s : SpecOk Try.prog 16 (zq5b zq5r) := zq5l zq1l zq5mΓ zq5p zq5q

/-- pagewatch/pagewatchref03.Normal -/
abbrev zq5t := {β : Type} → (List (Int × Int)) → (Int → (List (Int × Int)) → Option β) → Option β
def zq5u (c : zq5t) : Spec :=
  ⟨[(false, [.data (.slice (.prod (.int .i64) (.int .i64)))])], [], [(false, [.rowh 0]), (false, [.data (.int .i64)])], [.row 30 (.prod (.int .i64) (.int .i64))], fun x k => c x.1.1.1 (fun r0 r1 => k (((), (r0, ()), ()), (r1, ())))⟩
noncomputable def ref03_Normal_p1_code : Code := codeAt 250 (bodyOf Try.f24)
noncomputable def ref03_Normal_p5_code : Code := codeAt 4090 (bodyOf Try.f24)
noncomputable def ref03_Normal_p2_code : Code := codeAt 207 (loopBody ref03_Normal_p5_code)
noncomputable def ref03_Normal_p3_code : Code := codeAt 103 (loopBody ref03_Normal_p5_code)
noncomputable def ref03_Normal_p4_code : Code := codeAt 205 (loopBody ref03_Normal_p5_code)
abbrev zq5v (β : Type) := Int → (List (Int × Int)) → Option β
abbrev zq5w (β : Type) := (List Int) → (List (Int × Int)) → (List (Int × Int)) → Option β
abbrev zq5x := {β : Type} → zq5v β → zq5w β → (List (Int × Int)) → Int → (List Int) → (List (Int × Int)) → (List (Int × Int)) → Option β
def zq5y : View := ⟨0, [0, 4, 5, 6, 7], [(false, [.data (.slice (.prod (.int .i64) (.int .i64)))]), (false, [.rowh 0]), (false, [.maph 1]), (false, [.maph 2]), (false, [.data (.int .i64)])], [.row 3 (.int .i64), .map 59 (.int .i64) (.int .i64) false, .map 59 (.int .i64) (.int .i64) false]⟩
def zq5z : List (AExit × View) := [(.ret, ⟨0, [2, 3], [(false, [.rowh 0]), (false, [.data (.int .i64)])], [.row 30 (.prod (.int .i64) (.int .i64))]⟩), (.exit 0, ⟨0, [4, 5, 6], [(false, [.rowh 0]), (false, [.maph 1]), (false, [.maph 2])], [.row 3 (.int .i64), .map 59 (.int .i64) (.int .i64) false, .map 59 (.int .i64) (.int .i64) false]⟩)]
@[reducible] def ref03_Normal_p1_G (p : zq5x) {β : Type} (d : zq5y.den) (ks : Outs.K β zq5z) : Option β :=
  p (fun a0 a1 => ks.1 (((), (a0, ()), ()), (a1, ()))) (fun a0 a1 a2 => ks.2.1 (((), (), (), ()), (a0, a1, a2, ()))) d.1.1.1 d.1.2.2.2.2.1.1 d.2.1 d.2.2.1 d.2.2.2.1
abbrev zq60 (β : Type) := Int → Int → (List Int) → (List (Int × Int)) → (List (Int × Int)) → (List (Int × Int)) → Option β
abbrev zq61 := {β : Type} → zq60 β → Int → Int → Bool → (List Int) → (List (Int × Int)) → (List (Int × Int)) → (List (Int × Int)) → Option β
def zq62 : View := ⟨0, [4, 5, 6, 9, 10, 11, 101], [(false, [.rowh 0]), (false, [.maph 1]), (false, [.maph 2]), (false, [.rowh 3]), (false, [.data (.int .i64)]), (false, [.data (.int .i64)]), (false, [.data .bool])], [.row 3 (.int .i64), .map 59 (.int .i64) (.int .i64) false, .map 59 (.int .i64) (.int .i64) false, .row 30 (.prod (.int .i64) (.int .i64))]⟩
def zq63 : List (AExit × View) := [(.normal, ⟨0, [4, 5, 6, 9, 10, 11], [(false, [.rowh 0]), (false, [.maph 1]), (false, [.maph 2]), (false, [.rowh 3]), (false, [.data (.int .i64)]), (false, [.data (.int .i64)])], [.row 3 (.int .i64), .map 59 (.int .i64) (.int .i64) false, .map 59 (.int .i64) (.int .i64) false, .row 30 (.prod (.int .i64) (.int .i64))]⟩)]
@[reducible] def ref03_Normal_p2_G (p : zq61) {β : Type} (d : zq62.den) (ks : Outs.K β zq63) : Option β :=
  p (fun a0 a1 a2 a3 a4 a5 => ks.1 (((), (), (), (), (a0, ()), (a1, ()), ()), (a2, a3, a4, a5, ()))) d.1.2.2.2.2.1.1 d.1.2.2.2.2.2.1.1 d.1.2.2.2.2.2.2.1.1 d.2.1 d.2.2.1 d.2.2.2.1 d.2.2.2.2.1
abbrev zq64 (β : Type) := Int → Int → (List Int) → (List (Int × Int)) → (List (Int × Int)) → (List (Int × Int)) → Option β
abbrev zq65 := {β : Type} → zq64 β → Int → Int → Int → (List Int) → (List (Int × Int)) → (List (Int × Int)) → (List (Int × Int)) → Option β
def zq66 : View := ⟨0, [4, 5, 6, 9, 10, 11, 12], [(false, [.rowh 0]), (false, [.maph 1]), (false, [.maph 2]), (false, [.rowh 3]), (false, [.data (.int .i64)]), (false, [.data (.int .i64)]), (false, [.data (.int .i64)])], [.row 3 (.int .i64), .map 59 (.int .i64) (.int .i64) false, .map 59 (.int .i64) (.int .i64) false, .row 30 (.prod (.int .i64) (.int .i64))]⟩
def zq67 : List (AExit × View) := [(.normal, ⟨0, [4, 5, 6, 9, 10, 11], [(false, [.rowh 0]), (false, [.maph 1]), (false, [.maph 2]), (false, [.rowh 3]), (false, [.data (.int .i64)]), (false, [.data (.int .i64)])], [.row 3 (.int .i64), .map 59 (.int .i64) (.int .i64) false, .map 59 (.int .i64) (.int .i64) false, .row 30 (.prod (.int .i64) (.int .i64))]⟩)]
@[reducible] def ref03_Normal_p3_G (p : zq65) {β : Type} (d : zq66.den) (ks : Outs.K β zq67) : Option β :=
  p (fun a0 a1 a2 a3 a4 a5 => ks.1 (((), (), (), (), (a0, ()), (a1, ()), ()), (a2, a3, a4, a5, ()))) d.1.2.2.2.2.1.1 d.1.2.2.2.2.2.1.1 d.1.2.2.2.2.2.2.1.1 d.2.1 d.2.2.1 d.2.2.2.1 d.2.2.2.2.1
abbrev zq68 (β : Type) := Int → Int → Int → (List Int) → (List (Int × Int)) → (List (Int × Int)) → (List (Int × Int)) → Option β
abbrev zq69 := {β : Type} → zq68 β → Int → Int → Int → Bool → (List Int) → (List (Int × Int)) → (List (Int × Int)) → (List (Int × Int)) → Option β
def zq6a : View := ⟨0, [4, 5, 6, 9, 10, 11, 12, 87], [(false, [.rowh 0]), (false, [.maph 1]), (false, [.maph 2]), (false, [.rowh 3]), (false, [.data (.int .i64)]), (false, [.data (.int .i64)]), (false, [.data (.int .i64)]), (false, [.data .bool])], [.row 3 (.int .i64), .map 59 (.int .i64) (.int .i64) false, .map 59 (.int .i64) (.int .i64) false, .row 30 (.prod (.int .i64) (.int .i64))]⟩
def zq6b : List (AExit × View) := [(.normal, ⟨0, [4, 5, 6, 9, 10, 11, 12], [(false, [.rowh 0]), (false, [.maph 1]), (false, [.maph 2]), (false, [.rowh 3]), (false, [.data (.int .i64)]), (false, [.data (.int .i64)]), (false, [.data (.int .i64)])], [.row 3 (.int .i64), .map 59 (.int .i64) (.int .i64) false, .map 59 (.int .i64) (.int .i64) false, .row 30 (.prod (.int .i64) (.int .i64))]⟩)]
@[reducible] def ref03_Normal_p4_G (p : zq69) {β : Type} (d : zq6a.den) (ks : Outs.K β zq6b) : Option β :=
  p (fun a0 a1 a2 a3 a4 a5 a6 => ks.1 (((), (), (), (), (a0, ()), (a1, ()), (a2, ()), ()), (a3, a4, a5, a6, ()))) d.1.2.2.2.2.1.1 d.1.2.2.2.2.2.1.1 d.1.2.2.2.2.2.2.1.1 d.1.2.2.2.2.2.2.2.1.1 d.2.1 d.2.2.1 d.2.2.2.1 d.2.2.2.2.1
abbrev zq6c (β : Type) := (List (Int × Int)) → Option β
abbrev zq6d := {β : Type} → zq6c β → Int → Int → (List Int) → (List (Int × Int)) → (List (Int × Int)) → (List (Int × Int)) → Option β
def zq6e : View := ⟨0, [4, 5, 6, 9, 10, 11], [(false, [.rowh 0]), (false, [.maph 1]), (false, [.maph 2]), (false, [.rowh 3]), (false, [.data (.int .i64)]), (false, [.data (.int .i64)])], [.row 3 (.int .i64), .map 59 (.int .i64) (.int .i64) false, .map 59 (.int .i64) (.int .i64) false, .row 30 (.prod (.int .i64) (.int .i64))]⟩
def zq6f : List (AExit × View) := [(.exit 2, ⟨0, [9], [(false, [.rowh 0])], [.row 30 (.prod (.int .i64) (.int .i64))]⟩)]
@[reducible] def ref03_Normal_p5_G (p : zq6d) {β : Type} (d : zq6e.den) (ks : Outs.K β zq6f) : Option β :=
  p (fun a0 => ks.1 (((), ()), (a0, ()))) d.1.2.2.2.2.1.1 d.1.2.2.2.2.2.1.1 d.2.1 d.2.2.1 d.2.2.2.1 d.2.2.2.2.1
section
variable (c_ref03_Sort : zq3n)
@[reducible] def ref03_Normal_X : Ctx := ⟨look tab, pick1 [(44, .spec (zq3o c_ref03_Sort))], false, false⟩
def zq6g {β : Type} (rec : (List (Int × Int)) → Int → (List Int) → (List (Int × Int)) → (List (Int × Int)) → Option β) (k1 : zq5v β) (k2 : zq5w β) (l : List (Int × Int)) (i_ : Int) (at_ : List Int) (open_ : List (Int × Int)) (shut : List (Int × Int)) : Option β :=
  cond (decide (i_ < (List.length l : Int)))
  (cond (decide (0 ≤ i_) && decide (i_ < (List.length l : Int)))
  (let e : (Int × Int) := List.getD l (Int.toNat i_) ((0 : Int), (0 : Int));
  cond (decide (e.2 ≤ e.1))
  (let i_2 : Int := (IntKind.i64.wrap (i_ + (1 : Int)));
  rec l i_2 at_ open_ shut)
  (cond (decide (e.1 < (0 : Int)))
  (k1 (1 : Int) ([] : List (Int × Int)))
  (cond (decide ((8589934592 : Int) < e.2))
  (k1 (1 : Int) ([] : List (Int × Int)))
  (let l2 : List Int := ([e.1, e.2] : List Int);
  cond (decide ((List.length at_ + List.length l2) * 8 ≤ roomMax))
  (let l3 : List Int := (at_ ++ l2);
  let g : Int := (mGet (.int .i64) open_ e.1 (0 : Int));
  let m_ : List (Int × Int) := (mPut (.int .i64) open_ e.1 (IntKind.i64.wrap (g + (1 : Int))));
  let g2 : Int := (mGet (.int .i64) shut e.2 (0 : Int));
  let m_2 : List (Int × Int) := (mPut (.int .i64) shut e.2 (IntKind.i64.wrap (g2 + (1 : Int))));
  let i_2 : Int := (IntKind.i64.wrap (i_ + (1 : Int)));
  rec l i_2 l3 m_ m_2)
  none))))
  none)
  (k2 at_ open_ shut)
def zq6h {β : Type} : Nat → zq5v β → zq5w β → (List (Int × Int)) → Int → (List Int) → (List (Int × Int)) → (List (Int × Int)) → Option β
  | 0 => fun _ _ _ _ _ _ _ => none
  | i + 1 => fun k1 k2 l i_ at_ open_ shut => zq6g (zq6h i k1 k2) k1 k2 l i_ at_ open_ shut
theorem zq6i (hΓ : ΓOk Try.prog (ref03_Normal_X c_ref03_Sort).Γ) (i : Nat) : PieceOk Try.prog 113 0 ref03_Normal_p1_code zq5y zq5z (ref03_Normal_p1_G (zq6h i)) := by
  rw [show ref03_Normal_p1_code = .loop (loopBody ref03_Normal_p1_code) by kernel_rfl]
  exact piece_loop (X := (ref03_Normal_X c_ref03_Sort)) (p := 1) (Λ := pick1 []) (G := fun i => @fun β d ks => ref03_Normal_p1_G (zq6h i) d ks) mixed tab_ok hΓ rfl (by kernel_rfl) CutsOk_nil (fun _ _ => rfl) (fun i => @fun β d ks r h => Eq.trans (b := ref03_Normal_p1_G (zq6h (i + 1)) d ks) (by kernel_rfl) h) i
def zq6j {β : Type} (k1 : zq60 β) (depth : Int) (i_ : Int) (t101 : Bool) (at_ : List Int) (open_ : List (Int × Int)) (shut : List (Int × Int)) (out : List (Int × Int)) : Option β :=
  cond t101
  (cond (decide (0 ≤ i_) && decide (i_ < (List.length at_ : Int)))
  (cond (decide (0 ≤ (IntKind.i64.wrap ((List.length out : Int) - (1 : Int)))) && decide ((IntKind.i64.wrap ((List.length out : Int) - (1 : Int))) < (List.length out : Int)))
  (let l : List (Int × Int) := (List.set out (Int.toNat (IntKind.i64.wrap ((List.length out : Int) - (1 : Int)))) ((List.getD out (Int.toNat (IntKind.i64.wrap ((List.length out : Int) - (1 : Int)))) ((0 : Int), (0 : Int))).1, (List.getD at_ (Int.toNat i_) (0 : Int))));
  k1 depth i_ at_ open_ shut l)
  none)
  none)
  (k1 depth i_ at_ open_ shut out)
def zq6k {β : Type} (k1 : zq60 β) (depth : Int) (i_ : Int) (t101 : Bool) (at_ : List Int) (open_ : List (Int × Int)) (shut : List (Int × Int)) (out : List (Int × Int)) : Option β := zq6j k1 depth i_ t101 at_ open_ shut out
theorem zq6l (hΓ : ΓOk Try.prog (ref03_Normal_X c_ref03_Sort).Γ) : PieceOk Try.prog 113 0 ref03_Normal_p2_code zq62 zq63 (ref03_Normal_p2_G (zq6k)) :=
  piece_exec (X := (ref03_Normal_X c_ref03_Sort)) (p := 207) (Λ := pick1 []) mixed tab_ok hΓ (by kernel_rfl) CutsOk_nil (fun d ks r h => Eq.trans (b := ref03_Normal_p2_G (zq6k) d ks) (by kernel_rfl) h)
def zq6m (p2 : zq61) {β : Type} (k1 : zq64 β) (depth : Int) (i_ : Int) (before : Int) (at_ : List Int) (open_ : List (Int × Int)) (shut : List (Int × Int)) (out : List (Int × Int)) : Option β :=
  cond (decide ((0 : Int) < before))
  (p2 (fun (depth2 : Int) (i_2 : Int) (at_2 : List Int) (open_2 : List (Int × Int)) (shut2 : List (Int × Int)) (out2 : List (Int × Int)) =>
  k1 depth2 i_2 at_2 open_2 shut2 out2) depth i_ (decide (depth = (0 : Int))) at_ open_ shut out)
  (p2 (fun (depth2 : Int) (i_2 : Int) (at_2 : List Int) (open_2 : List (Int × Int)) (shut2 : List (Int × Int)) (out2 : List (Int × Int)) =>
  k1 depth2 i_2 at_2 open_2 shut2 out2) depth i_ false at_ open_ shut out)
def zq6n (p2 : zq61) {β : Type} (k1 : zq64 β) (depth : Int) (i_ : Int) (before : Int) (at_ : List Int) (open_ : List (Int × Int)) (shut : List (Int × Int)) (out : List (Int × Int)) : Option β := zq6m p2 k1 depth i_ before at_ open_ shut out
theorem zq6o (hΓ : ΓOk Try.prog (ref03_Normal_X c_ref03_Sort).Γ) (p2 : zq61) (hp2 : PieceOk Try.prog 113 0 ref03_Normal_p2_code zq62 zq63 (ref03_Normal_p2_G p2)) : PieceOk Try.prog 113 0 ref03_Normal_p3_code zq66 zq67 (ref03_Normal_p3_G (zq6n p2)) :=
  piece_exec (X := (ref03_Normal_X c_ref03_Sort)) (p := 103) (Λ := pick1 [(207, pieceCut zq62 zq63 (ref03_Normal_p2_G p2))]) mixed tab_ok hΓ (by kernel_rfl) (CutsOk_cons (q := 207) (c' := ref03_Normal_p2_code) (by kernel_rfl) rfl hp2 CutsOk_nil) (fun d ks r h => Eq.trans (b := ref03_Normal_p3_G (zq6n p2) d ks) (by kernel_rfl) h)
def zq6p {β : Type} (k1 : zq68 β) (depth : Int) (i_ : Int) (before : Int) (t87 : Bool) (at_ : List Int) (open_ : List (Int × Int)) (shut : List (Int × Int)) (out : List (Int × Int)) : Option β :=
  cond t87
  (cond (decide (0 ≤ i_) && decide (i_ < (List.length at_ : Int)))
  (let l : List (Int × Int) := ([((List.getD at_ (Int.toNat i_) (0 : Int)), (0 : Int))] : List (Int × Int));
  cond (decide ((List.length out + List.length l) * 16 ≤ roomMax))
  (let l2 : List (Int × Int) := (out ++ l);
  k1 depth i_ before at_ open_ shut l2)
  none)
  none)
  (k1 depth i_ before at_ open_ shut out)
def zq6q {β : Type} (k1 : zq68 β) (depth : Int) (i_ : Int) (before : Int) (t87 : Bool) (at_ : List Int) (open_ : List (Int × Int)) (shut : List (Int × Int)) (out : List (Int × Int)) : Option β := zq6p k1 depth i_ before t87 at_ open_ shut out
theorem zq6r (hΓ : ΓOk Try.prog (ref03_Normal_X c_ref03_Sort).Γ) : PieceOk Try.prog 113 0 ref03_Normal_p4_code zq6a zq6b (ref03_Normal_p4_G (zq6q)) :=
  piece_exec (X := (ref03_Normal_X c_ref03_Sort)) (p := 205) (Λ := pick1 []) mixed tab_ok hΓ (by kernel_rfl) CutsOk_nil (fun d ks r h => Eq.trans (b := ref03_Normal_p4_G (zq6q) d ks) (by kernel_rfl) h)
def zq6s (p3 : zq65) (p4 : zq69) {β : Type} (rec : Int → Int → (List Int) → (List (Int × Int)) → (List (Int × Int)) → (List (Int × Int)) → Option β) (k1 : zq6c β) (depth : Int) (i_ : Int) (at_ : List Int) (open_ : List (Int × Int)) (shut : List (Int × Int)) (out : List (Int × Int)) : Option β :=
  cond (decide (i_ < (List.length at_ : Int)))
  (cond (decide (0 ≤ i_) && decide (i_ < (List.length at_ : Int)))
  (let g : Int := (mGet (.int .i64) open_ (List.getD at_ (Int.toNat i_) (0 : Int)) (0 : Int));
  cond (decide (0 ≤ i_) && decide (i_ < (List.length at_ : Int)))
  (let g2 : Int := (mGet (.int .i64) shut (List.getD at_ (Int.toNat i_) (0 : Int)) (0 : Int));
  let depth2 : Int := (IntKind.i64.wrap (depth + (IntKind.i64.wrap (g - g2))));
  cond (decide (depth = (0 : Int)))
  (p4 (fun (depth3 : Int) (i_2 : Int) (before : Int) (at_2 : List Int) (open_2 : List (Int × Int)) (shut2 : List (Int × Int)) (out2 : List (Int × Int)) =>
  p3 (fun (depth4 : Int) (i_3 : Int) (at_3 : List Int) (open_3 : List (Int × Int)) (shut3 : List (Int × Int)) (out3 : List (Int × Int)) =>
  let i_4 : Int := (IntKind.i64.wrap (i_3 + (1 : Int)));
  rec depth4 i_4 at_3 open_3 shut3 out3) depth3 i_2 before at_2 open_2 shut2 out2) depth2 i_ depth (decide ((0 : Int) < depth2)) at_ open_ shut out)
  (p4 (fun (depth3 : Int) (i_2 : Int) (before : Int) (at_2 : List Int) (open_2 : List (Int × Int)) (shut2 : List (Int × Int)) (out2 : List (Int × Int)) =>
  p3 (fun (depth4 : Int) (i_3 : Int) (at_3 : List Int) (open_3 : List (Int × Int)) (shut3 : List (Int × Int)) (out3 : List (Int × Int)) =>
  let i_4 : Int := (IntKind.i64.wrap (i_3 + (1 : Int)));
  rec depth4 i_4 at_3 open_3 shut3 out3) depth3 i_2 before at_2 open_2 shut2 out2) depth2 i_ depth false at_ open_ shut out))
  none)
  none)
  (k1 out)
def zq6t (p3 : zq65) (p4 : zq69) {β : Type} : Nat → zq6c β → Int → Int → (List Int) → (List (Int × Int)) → (List (Int × Int)) → (List (Int × Int)) → Option β
  | 0 => fun _ _ _ _ _ _ _ => none
  | i + 1 => fun k1 depth i_ at_ open_ shut out => zq6s p3 p4 (zq6t p3 p4 i k1) k1 depth i_ at_ open_ shut out
theorem zq6u (hΓ : ΓOk Try.prog (ref03_Normal_X c_ref03_Sort).Γ) (p3 : zq65) (p4 : zq69) (hp3 : PieceOk Try.prog 113 0 ref03_Normal_p3_code zq66 zq67 (ref03_Normal_p3_G p3)) (hp4 : PieceOk Try.prog 113 0 ref03_Normal_p4_code zq6a zq6b (ref03_Normal_p4_G p4)) (i : Nat) : PieceOk Try.prog 113 0 ref03_Normal_p5_code zq6e zq6f (ref03_Normal_p5_G (zq6t p3 p4 i)) := by
  rw [show ref03_Normal_p5_code = .loop (loopBody ref03_Normal_p5_code) by kernel_rfl]
  exact piece_loop (X := (ref03_Normal_X c_ref03_Sort)) (p := 1) (Λ := pick1 [(103, pieceCut zq66 zq67 (ref03_Normal_p3_G p3)), (205, pieceCut zq6a zq6b (ref03_Normal_p4_G p4))]) (G := fun i => @fun β d ks => ref03_Normal_p5_G (zq6t p3 p4 i) d ks) mixed tab_ok hΓ rfl (by kernel_rfl) (CutsOk_cons (q := 103) (c' := ref03_Normal_p3_code) (by kernel_rfl) rfl hp3 (CutsOk_cons (q := 205) (c' := ref03_Normal_p4_code) (by kernel_rfl) rfl hp4 CutsOk_nil)) (fun _ _ => rfl) (fun i => @fun β d ks r h => Eq.trans (b := ref03_Normal_p5_G (zq6t p3 p4 (i + 1)) d ks) (by kernel_rfl) h) i
def zq6v (p1 : zq5x) (p5 : zq6d) {β : Type} (l : List (Int × Int)) (k : (Int → (List (Int × Int)) → Option β)) : Option β :=
  cond (decide ((4096 : Int) < (List.length l : Int)))
  (k (5 : Int) ([] : List (Int × Int)))
  (let m_ : List (Int × Int) := ([] : List (Int × Int));
  let m_2 : List (Int × Int) := ([] : List (Int × Int));
  p1 (fun (t3 : Int) (t2 : List (Int × Int)) =>
  k t3 t2) (fun (at_ : List Int) (open_ : List (Int × Int)) (shut : List (Int × Int)) =>
  c_ref03_Sort at_ (fun (lrSort : List Int) =>
  p5 (fun (out : List (Int × Int)) =>
  k (0 : Int) out) (0 : Int) (0 : Int) lrSort open_ shut ([] : List (Int × Int)))) l (0 : Int) ([] : List Int) m_ m_2)
theorem zq6w (hΓ : ΓOk Try.prog (ref03_Normal_X c_ref03_Sort).Γ) (p1 : zq5x) (p5 : zq6d) (hp1 : PieceOk Try.prog 113 0 ref03_Normal_p1_code zq5y zq5z (ref03_Normal_p1_G p1)) (hp5 : PieceOk Try.prog 113 0 ref03_Normal_p5_code zq6e zq6f (ref03_Normal_p5_G p5)) : SpecOk Try.prog 24 (zq5u (zq6v c_ref03_Sort p1 p5)) :=
  spec_exec (X := (ref03_Normal_X c_ref03_Sort)) (Λ := pick1 [(250, pieceCut zq5y zq5z (ref03_Normal_p1_G p1)), (4090, pieceCut zq6e zq6f (ref03_Normal_p5_G p5))]) (rs := [.tmp 2, .tmp 3]) (c := bodyOf Try.f24) mixed tab_ok hΓ Try.func24 (by kernel_rfl) (by kernel_rfl) (by kernel_rfl) (by kernel_rfl) (CutsOk_cons (q := 250) (c' := ref03_Normal_p1_code) (by kernel_rfl) rfl hp1 (CutsOk_cons (q := 4090) (c' := ref03_Normal_p5_code) (by kernel_rfl) rfl hp5 CutsOk_nil)) (fun x k r h => Eq.trans (b := (zq5u (zq6v c_ref03_Sort p1 p5)).run x k) (by kernel_rfl) h)
end
theorem zq6xΓ : ΓOk Try.prog (pick1 [(44, .spec (zq3o zq4x))]) := (ΓOk_cons zq4y ΓOk_nil)
def zq6y (m : Nat) : zq5x := zq6h m
theorem zq6z {β : Type} (i : Nat) (k1 k2 l i_ at_ open_ shut) : (zq6y (i + 1) k1 k2 l i_ at_ open_ shut : Option β) = zq6g (zq6y i k1 k2) k1 k2 l i_ at_ open_ shut := rfl
def zq70 : zq5x := zq6y fuel
theorem zq71 : PieceOk Try.prog 113 0 ref03_Normal_p1_code zq5y zq5z (ref03_Normal_p1_G zq70) := zq6i zq4x zq6xΓ fuel
def zq72 : zq61 := zq6k
theorem zq73 : PieceOk Try.prog 113 0 ref03_Normal_p2_code zq62 zq63 (ref03_Normal_p2_G zq72) := zq6l zq4x zq6xΓ
def zq74 : zq65 := zq6n zq72
theorem zq75 : PieceOk Try.prog 113 0 ref03_Normal_p3_code zq66 zq67 (ref03_Normal_p3_G zq74) := zq6o zq4x zq6xΓ zq72 zq73
def zq76 : zq69 := zq6q
theorem zq77 : PieceOk Try.prog 113 0 ref03_Normal_p4_code zq6a zq6b (ref03_Normal_p4_G zq76) := zq6r zq4x zq6xΓ
def zq78 (m : Nat) : zq6d := zq6t zq74 zq76 m
theorem zq79 {β : Type} (i : Nat) (k1 depth i_ at_ open_ shut out) : (zq78 (i + 1) k1 depth i_ at_ open_ shut out : Option β) = zq6s zq74 zq76 (zq78 i k1) k1 depth i_ at_ open_ shut out := rfl
def zq7a : zq6d := zq78 fuel
theorem zq7b : PieceOk Try.prog 113 0 ref03_Normal_p5_code zq6e zq6f (ref03_Normal_p5_G zq7a) := zq6u zq4x zq6xΓ zq74 zq76 zq75 zq77 fuel
def zq7c : zq5t := zq6v zq4x zq70 zq7a
theorem zq7d : SpecOk Try.prog 24 (zq5u zq7c) := zq6w zq4x zq6xΓ zq70 zq7a zq71 zq7b

/-- pagewatch/span.two -/
abbrev zq7e := {β : Type} → (List (Int × Int)) → (List (Int × Int)) → (Int → (List (Int × Int)) → Option β) → Option β
def zq7f (c : zq7e) : Spec :=
  ⟨[(false, [.data (.slice (.prod (.int .i64) (.int .i64)))]), (false, [.data (.slice (.prod (.int .i64) (.int .i64)))]), (false, [.fn 43 []])], [], [(false, [.rowh 0]), (false, [.data (.int .i64)])], [.row 30 (.prod (.int .i64) (.int .i64))], fun x k => c x.1.1.1 x.1.2.1.1 (fun r0 r1 => k (((), (r0, ()), ()), (r1, ())))⟩
section
variable (c_span_Valid : zq14) (c_span_Without : zq2j)
@[reducible] def span_two_vspan_Without_X : Ctx := ⟨look tab, pick1 [(22, .spec (zq15 c_span_Valid)), (43, .spec (zq2k c_span_Without))], false, false⟩
def zq7g {β : Type} (a : List (Int × Int)) (b : List (Int × Int)) (k : (Int → (List (Int × Int)) → Option β)) : Option β :=
  c_span_Valid a (fun (rValid : Bool) =>
  cond (!rValid)
  (k (8 : Int) ([] : List (Int × Int)))
  (c_span_Valid b (fun (rValid2 : Bool) =>
  cond (!rValid2)
  (k (8 : Int) ([] : List (Int × Int)))
  (c_span_Without a b (fun (lrWithout : List (Int × Int)) =>
  cond (decide ((4096 : Int) < (List.length lrWithout : Int)))
  (k (5 : Int) ([] : List (Int × Int)))
  (k (0 : Int) lrWithout))))))
theorem zq7h (hΓ : ΓOk Try.prog (span_two_vspan_Without_X c_span_Valid c_span_Without).Γ) : SpecOk Try.prog 39 (zq7f (zq7g c_span_Valid c_span_Without)) :=
  spec_exec (X := (span_two_vspan_Without_X c_span_Valid c_span_Without)) (Λ := pick1 []) (rs := [.tmp 6, .tmp 7]) (c := bodyOf Try.f39) mixed tab_ok hΓ Try.func39 (by kernel_rfl) (by kernel_rfl) (by kernel_rfl) (by kernel_rfl) CutsOk_nil (fun x k r h => Eq.trans (b := (zq7f (zq7g c_span_Valid c_span_Without)).run x k) (by kernel_rfl) h)
end
theorem zq7iΓ : ΓOk Try.prog (pick1 [(22, .spec (zq15 zq1l)), (43, .spec (zq2k zq3l))]) := (ΓOk_cons zq1m (ΓOk_cons zq3m ΓOk_nil))
def zq7j : zq7e := zq7g zq1l zq3l
theorem zq7k : SpecOk Try.prog 39 (zq7f zq7j) := zq7h zq1l zq3l zq7iΓ

/-- (*pagewatch/pagewatchmade.Dice).Set -/
abbrev zq7l := {β : Type} → (List Int × Int) → ((List Int × Int) → (List (Int × Int)) → Option β) → Option β
def zq7m (c : zq7l) : Spec :=
  ⟨[(false, [.ptr 0 0])], [.cells 51 [.data (.prod (.slice (.int .i64)) (.int .i64))]], [(false, [.rowh 1])], [.cells 51 [.data (.prod (.slice (.int .i64)) (.int .i64))], .row 30 (.prod (.int .i64) (.int .i64))], fun x k => c x.2.1.1 (fun r0 r1 => k (((), ()), ((r0, ()), r1, ())))⟩
noncomputable def made_Dice_Set_p1_code : Code := codeAt 58 (bodyOf Try.f11)
abbrev zq7n (β : Type) := (List Int) → Int → (List (Int × Int)) → Option β
abbrev zq7o := {β : Type} → zq7n β → Int → (List Int) → Int → (List (Int × Int)) → Option β
def zq7p : View := ⟨1, [0, 3, 4], [(false, [.ptr 0 0]), (false, [.rowh 1]), (false, [.data (.int .i64)])], [.cells 51 [.data (.slice (.int .i64)), .data (.int .i64)], .row 30 (.prod (.int .i64) (.int .i64))]⟩
def zq7q : List (AExit × View) := [(.exit 0, ⟨1, [3], [(false, [.rowh 1])], [.cells 51 [.data (.slice (.int .i64)), .data (.int .i64)], .row 30 (.prod (.int .i64) (.int .i64))]⟩)]
@[reducible] def made_Dice_Set_p1_G (p : zq7o) {β : Type} (d : zq7p.den) (ks : Outs.K β zq7q) : Option β :=
  p (fun a0 a1 a2 => ks.1 (((), ()), ((a0, a1, ()), a2, ()))) d.1.2.2.1.1 d.2.1.1 d.2.1.2.1 d.2.2.1
section
variable (c_made_Dice_Next : zq25) (c_made_Dice_Span : zq2c) (c_ref03_Normal : zq5t)
@[reducible] def made_Dice_Set_X : Ctx := ⟨look tab, pick1 [(30, .spec (zq26 c_made_Dice_Next)), (35, .spec (zq2d c_made_Dice_Span)), (24, .spec (zq5u c_ref03_Normal))], false, false⟩
def zq7r {β : Type} (rec : Int → (List Int) → Int → (List (Int × Int)) → Option β) (k1 : zq7n β) (i_ : Int) (d : List Int) (d2 : Int) (l : List (Int × Int)) : Option β :=
  cond (decide ((0 : Int) < i_))
  (c_made_Dice_Span (d, d2) (fun (rSpan : (Int × Int)) (mrSpan : (List Int × Int)) =>
  cond (decide (rSpan.1 < rSpan.2))
  (let l2 : List (Int × Int) := ([rSpan] : List (Int × Int));
  cond (decide ((List.length l + List.length l2) * 16 ≤ roomMax))
  (let l3 : List (Int × Int) := (l ++ l2);
  let i_2 : Int := (IntKind.i64.wrap (i_ - (1 : Int)));
  rec i_2 mrSpan.1 mrSpan.2 l3)
  none)
  (let i_2 : Int := (IntKind.i64.wrap (i_ - (1 : Int)));
  rec i_2 mrSpan.1 mrSpan.2 l)))
  (k1 d d2 l)
def zq7s {β : Type} : Nat → zq7n β → Int → (List Int) → Int → (List (Int × Int)) → Option β
  | 0 => fun _ _ _ _ _ => none
  | i + 1 => fun k1 i_ d d2 l => zq7r c_made_Dice_Span (zq7s i k1) k1 i_ d d2 l
theorem zq7t (hΓ : ΓOk Try.prog (made_Dice_Set_X c_made_Dice_Next c_made_Dice_Span c_ref03_Normal).Γ) (i : Nat) : PieceOk Try.prog 31 1 made_Dice_Set_p1_code zq7p zq7q (made_Dice_Set_p1_G (zq7s c_made_Dice_Span i)) := by
  rw [show made_Dice_Set_p1_code = .loop (loopBody made_Dice_Set_p1_code) by kernel_rfl]
  exact piece_loop (X := (made_Dice_Set_X c_made_Dice_Next c_made_Dice_Span c_ref03_Normal)) (p := 1) (Λ := pick1 []) (G := fun i => @fun β d ks => made_Dice_Set_p1_G (zq7s c_made_Dice_Span i) d ks) mixed tab_ok hΓ rfl (by kernel_rfl) CutsOk_nil (fun _ _ => rfl) (fun i => @fun β d ks r h => Eq.trans (b := made_Dice_Set_p1_G (zq7s c_made_Dice_Span (i + 1)) d ks) (by kernel_rfl) h) i
def zq7u (p1 : zq7o) {β : Type} (d : (List Int × Int)) (k : ((List Int × Int) → (List (Int × Int)) → Option β)) : Option β :=
  c_made_Dice_Next (7 : Int) d (fun (rNext : Int) (mrNext : (List Int × Int)) =>
  p1 (fun (b0_ : List Int) (b0_2 : Int) (l : List (Int × Int)) =>
  c_ref03_Normal l (fun (rNormal : Int) (lrNormal : List (Int × Int)) =>
  k (b0_, b0_2) lrNormal)) rNext mrNext.1 mrNext.2 ([] : List (Int × Int)))
theorem zq7v (hΓ : ΓOk Try.prog (made_Dice_Set_X c_made_Dice_Next c_made_Dice_Span c_ref03_Normal).Γ) (p1 : zq7o) (hp1 : PieceOk Try.prog 31 1 made_Dice_Set_p1_code zq7p zq7q (made_Dice_Set_p1_G p1)) : SpecOk Try.prog 11 (zq7m (zq7u c_made_Dice_Next c_ref03_Normal p1)) :=
  spec_exec (X := (made_Dice_Set_X c_made_Dice_Next c_made_Dice_Span c_ref03_Normal)) (Λ := pick1 [(58, pieceCut zq7p zq7q (made_Dice_Set_p1_G p1))]) (rs := [.tmp 2]) (c := bodyOf Try.f11) mixed tab_ok hΓ Try.func11 (by kernel_rfl) (by kernel_rfl) (by kernel_rfl) (by kernel_rfl) (CutsOk_cons (q := 58) (c' := made_Dice_Set_p1_code) (by kernel_rfl) rfl hp1 CutsOk_nil) (fun x k r h => Eq.trans (b := (zq7m (zq7u c_made_Dice_Next c_ref03_Normal p1)).run x k) (by kernel_rfl) h)
end
theorem zq7wΓ : ΓOk Try.prog (pick1 [(30, .spec (zq26 zq2a)), (35, .spec (zq2d zq2h)), (24, .spec (zq5u zq7c))]) := (ΓOk_cons zq2b (ΓOk_cons zq2i (ΓOk_cons zq7d ΓOk_nil)))
def zq7x (m : Nat) : zq7o := zq7s zq2h m
theorem zq7y {β : Type} (i : Nat) (k1 i_ d d2 l) : (zq7x (i + 1) k1 i_ d d2 l : Option β) = zq7r zq2h (zq7x i k1) k1 i_ d d2 l := rfl
def zq7z : zq7o := zq7x fuel
theorem zq80 : PieceOk Try.prog 31 1 made_Dice_Set_p1_code zq7p zq7q (made_Dice_Set_p1_G zq7z) := zq7t zq2a zq2h zq7c zq7wΓ fuel
def zq81 : zq7l := zq7u zq2a zq7c zq7z
theorem zq82 : SpecOk Try.prog 11 (zq7m zq81) := zq7v zq2a zq2h zq7c zq7wΓ zq7z zq80

/-- pagewatch/span.Minus -/
abbrev zq83 := {β : Type} → (List (Int × Int)) → (List (Int × Int)) → (Int → (List (Int × Int)) → Option β) → Option β
def zq84 (c : zq83) : Spec :=
  ⟨[(false, [.data (.slice (.prod (.int .i64) (.int .i64)))]), (false, [.data (.slice (.prod (.int .i64) (.int .i64)))])], [], [(false, [.rowh 0]), (false, [.data (.int .i64)])], [.row 30 (.prod (.int .i64) (.int .i64))], fun x k => c x.1.1.1 x.1.2.1.1 (fun r0 r1 => k (((), (r0, ()), ()), (r1, ())))⟩
section
variable (c_span_two_vspan_Without : zq7e)
@[reducible] def span_Minus_X : Ctx := ⟨look tab, pick1 [(39, .spec (zq7f c_span_two_vspan_Without))], false, false⟩
def zq85 {β : Type} (a : List (Int × Int)) (b : List (Int × Int)) (k : (Int → (List (Int × Int)) → Option β)) : Option β :=
  c_span_two_vspan_Without a b (fun (rtwo : Int) (lrtwo : List (Int × Int)) =>
  k rtwo lrtwo)
theorem zq86 (hΓ : ΓOk Try.prog (span_Minus_X c_span_two_vspan_Without).Γ) : SpecOk Try.prog 20 (zq84 (zq85 c_span_two_vspan_Without)) :=
  spec_exec (X := (span_Minus_X c_span_two_vspan_Without)) (Λ := pick1 []) (rs := [.tmp 4, .tmp 5]) (c := bodyOf Try.f20) mixed tab_ok hΓ Try.func20 (by kernel_rfl) (by kernel_rfl) (by kernel_rfl) (by kernel_rfl) CutsOk_nil (fun x k r h => Eq.trans (b := (zq84 (zq85 c_span_two_vspan_Without)).run x k) (by kernel_rfl) h)
end
theorem zq87Γ : ΓOk Try.prog (pick1 [(39, .spec (zq7f zq7j))]) := (ΓOk_cons zq7k ΓOk_nil)
def zq88 : zq83 := zq85 zq7j
theorem zq89 : SpecOk Try.prog 20 (zq84 zq88) := zq86 zq7j zq87Γ

/-- slices.IndexFunc[[]pagewatch/api.Span,pagewatch/api.Span] -/
abbrev zq8a := {β : Type} → (List (Int × Int)) → (Int → Option β) → Option β
def zq8b (c : zq8a) : Spec :=
  ⟨[(false, [.data (.slice (.prod (.int .i64) (.int .i64)))]), (false, [.fn 49 []])], [], [(false, [.data (.int .i64)])], [], fun x k => c x.1.1.1 (fun r0 => k (((r0, ()), ()), ()))⟩
noncomputable def slices_IndexFunc_api_Span_api_Span_vspan_Merge_f1_p1_code : Code := codeAt 26 (bodyOf Try.f52)
abbrev zq8c (β : Type) := Int → Option β
abbrev zq8d (β : Type) := Unit → Option β
abbrev zq8e := {β : Type} → zq8c β → zq8d β → (List (Int × Int)) → Int → Int → Option β
def zq8f : View := ⟨0, [0, 1, 7, 8], [(false, [.data (.slice (.prod (.int .i64) (.int .i64)))]), (false, [.fn 49 []]), (false, [.data (.int .i64)]), (false, [.data (.int .i64)])], []⟩
def zq8g : List (AExit × View) := [(.ret, ⟨0, [4], [(false, [.data (.int .i64)])], []⟩), (.exit 0, ⟨0, [], [], []⟩)]
@[reducible] def slices_IndexFunc_api_Span_api_Span_vspan_Merge_f1_p1_G (p : zq8e) {β : Type} (d : zq8f.den) (ks : Outs.K β zq8g) : Option β :=
  p (fun a0 => ks.1 (((a0, ()), ()), ())) (fun _ => ks.2.1 ((), ())) d.1.1.1 d.1.2.2.1.1 d.1.2.2.2.1.1
section
variable (c_span_Merge_f1 : zq53)
@[reducible] def slices_IndexFunc_api_Span_api_Span_vspan_Merge_f1_X : Ctx := ⟨look tab, pick1 [(49, .spec (zq54 c_span_Merge_f1))], false, false⟩
def zq8h {β : Type} (rec : (List (Int × Int)) → Int → Int → Option β) (k1 : zq8c β) (k2 : zq8d β) (s : List (Int × Int)) (t7 : Int) (t8 : Int) : Option β :=
  cond (decide (t8 < t7))
  (cond (decide (0 ≤ t8) && decide (t8 < (List.length s : Int)))
  (let e : (Int × Int) := List.getD s (Int.toNat t8) ((0 : Int), (0 : Int));
  c_span_Merge_f1 e (fun (rMerge1 : Bool) =>
  cond rMerge1
  (k1 t8)
  (rec s t7 (IntKind.i64.wrap (t8 + (1 : Int))))))
  none)
  (k2 ())
def zq8i {β : Type} : Nat → zq8c β → zq8d β → (List (Int × Int)) → Int → Int → Option β
  | 0 => fun _ _ _ _ _ => none
  | i + 1 => fun k1 k2 s t7 t8 => zq8h c_span_Merge_f1 (zq8i i k1 k2) k1 k2 s t7 t8
theorem zq8j (hΓ : ΓOk Try.prog (slices_IndexFunc_api_Span_api_Span_vspan_Merge_f1_X c_span_Merge_f1).Γ) (i : Nat) : PieceOk Try.prog 19 0 slices_IndexFunc_api_Span_api_Span_vspan_Merge_f1_p1_code zq8f zq8g (slices_IndexFunc_api_Span_api_Span_vspan_Merge_f1_p1_G (zq8i c_span_Merge_f1 i)) := by
  rw [show slices_IndexFunc_api_Span_api_Span_vspan_Merge_f1_p1_code = .loop (loopBody slices_IndexFunc_api_Span_api_Span_vspan_Merge_f1_p1_code) by kernel_rfl]
  exact piece_loop (X := (slices_IndexFunc_api_Span_api_Span_vspan_Merge_f1_X c_span_Merge_f1)) (p := 1) (Λ := pick1 []) (G := fun i => @fun β d ks => slices_IndexFunc_api_Span_api_Span_vspan_Merge_f1_p1_G (zq8i c_span_Merge_f1 i) d ks) mixed tab_ok hΓ rfl (by kernel_rfl) CutsOk_nil (fun _ _ => rfl) (fun i => @fun β d ks r h => Eq.trans (b := slices_IndexFunc_api_Span_api_Span_vspan_Merge_f1_p1_G (zq8i c_span_Merge_f1 (i + 1)) d ks) (by kernel_rfl) h) i
def zq8k (p1 : zq8e) {β : Type} (s : List (Int × Int)) (k : (Int → Option β)) : Option β :=
  p1 (fun (t4 : Int) =>
  k t4) (fun (_ : Unit) =>
  k (-1 : Int)) s (List.length s : Int) (0 : Int)
theorem zq8l (hΓ : ΓOk Try.prog (slices_IndexFunc_api_Span_api_Span_vspan_Merge_f1_X c_span_Merge_f1).Γ) (p1 : zq8e) (hp1 : PieceOk Try.prog 19 0 slices_IndexFunc_api_Span_api_Span_vspan_Merge_f1_p1_code zq8f zq8g (slices_IndexFunc_api_Span_api_Span_vspan_Merge_f1_p1_G p1)) : SpecOk Try.prog 52 (zq8b (zq8k p1)) :=
  spec_exec (X := (slices_IndexFunc_api_Span_api_Span_vspan_Merge_f1_X c_span_Merge_f1)) (Λ := pick1 [(26, pieceCut zq8f zq8g (slices_IndexFunc_api_Span_api_Span_vspan_Merge_f1_p1_G p1))]) (rs := [.tmp 4]) (c := bodyOf Try.f52) mixed tab_ok hΓ Try.func52 (by kernel_rfl) (by kernel_rfl) (by kernel_rfl) (by kernel_rfl) (CutsOk_cons (q := 26) (c' := slices_IndexFunc_api_Span_api_Span_vspan_Merge_f1_p1_code) (by kernel_rfl) rfl hp1 CutsOk_nil) (fun x k r h => Eq.trans (b := (zq8b (zq8k p1)).run x k) (by kernel_rfl) h)
end
theorem zq8mΓ : ΓOk Try.prog (pick1 [(49, .spec (zq54 zq58))]) := (ΓOk_cons zq59 ΓOk_nil)
def zq8n (m : Nat) : zq8e := zq8i zq58 m
theorem zq8o {β : Type} (i : Nat) (k1 k2 s t7 t8) : (zq8n (i + 1) k1 k2 s t7 t8 : Option β) = zq8h zq58 (zq8n i k1 k2) k1 k2 s t7 t8 := rfl
def zq8p : zq8e := zq8n fuel
theorem zq8q : PieceOk Try.prog 19 0 slices_IndexFunc_api_Span_api_Span_vspan_Merge_f1_p1_code zq8f zq8g (slices_IndexFunc_api_Span_api_Span_vspan_Merge_f1_p1_G zq8p) := zq8j zq58 zq8mΓ fuel
def zq8r : zq8a := zq8k zq8p
theorem zq8s : SpecOk Try.prog 52 (zq8b zq8r) := zq8l zq58 zq8mΓ zq8p zq8q

/-- slices.DeleteFunc[[]pagewatch/api.Span,pagewatch/api.Span] -/
abbrev zq8t := {β : Type} → (List (Int × Int)) → ((List (Int × Int)) → Option β) → Option β
def zq8u (c : zq8t) : Spec :=
  ⟨[(false, [.rowh 0]), (false, [.fn 49 []])], [.row 30 (.prod (.int .i64) (.int .i64))], [(false, [.rowh 0])], [.row 30 (.prod (.int .i64) (.int .i64))], fun x k => c x.2.1 (fun r0 => k (((), ()), (r0, ())))⟩
noncomputable def slices_DeleteFunc_api_Span_api_Span_vspan_Merge_f1_p1_code : Code := codeAt 122 (bodyOf Try.f47)
abbrev zq8v (β : Type) := Int → (List (Int × Int)) → Option β
abbrev zq8w := {β : Type} → zq8v β → Int → Int → (List (Int × Int)) → Option β
def zq8x : View := ⟨1, [0, 1, 5, 6], [(false, [.rowh 0]), (false, [.fn 49 []]), (false, [.data (.int .i64)]), (false, [.data (.int .i64)])], [.row 30 (.prod (.int .i64) (.int .i64))]⟩
def zq8y : List (AExit × View) := [(.exit 0, ⟨1, [0, 5], [(false, [.rowh 0]), (false, [.data (.int .i64)])], [.row 30 (.prod (.int .i64) (.int .i64))]⟩)]
@[reducible] def slices_DeleteFunc_api_Span_api_Span_vspan_Merge_f1_p1_G (p : zq8w) {β : Type} (d : zq8x.den) (ks : Outs.K β zq8y) : Option β :=
  p (fun a0 a1 => ks.1 (((), (a0, ()), ()), (a1, ()))) d.1.2.2.1.1 d.1.2.2.2.1.1 d.2.1
section
variable (c_slices_IndexFunc_api_Span_api_Span_vspan_Merge_f1 : zq8a) (c_span_Merge_f1 : zq53)
@[reducible] def slices_DeleteFunc_api_Span_api_Span_vspan_Merge_f1_X : Ctx := ⟨look tab, pick1 [(52, .spec (zq8b c_slices_IndexFunc_api_Span_api_Span_vspan_Merge_f1)), (49, .spec (zq54 c_span_Merge_f1))], false, true⟩
def zq8z {β : Type} (rec : Int → Int → (List (Int × Int)) → Option β) (k1 : zq8v β) (i_ : Int) (j : Int) (s : List (Int × Int)) : Option β :=
  cond (decide (j < (List.length s : Int)))
  (cond (decide (0 ≤ j) && decide (j < (List.length s : Int)))
  (c_span_Merge_f1 (List.getD s (Int.toNat j) ((0 : Int), (0 : Int))) (fun (rMerge1 : Bool) =>
  cond (!rMerge1)
  (cond (decide (0 ≤ i_) && decide (i_ < (List.length s : Int)))
  (let l : List (Int × Int) := (List.set s (Int.toNat i_) (List.getD s (Int.toNat j) ((0 : Int), (0 : Int))));
  let i_2 : Int := (IntKind.i64.wrap (i_ + (1 : Int)));
  let j2 : Int := (IntKind.i64.wrap (j + (1 : Int)));
  rec i_2 j2 l)
  none)
  (let j2 : Int := (IntKind.i64.wrap (j + (1 : Int)));
  rec i_ j2 s)))
  none)
  (k1 i_ s)
def zq90 {β : Type} : Nat → zq8v β → Int → Int → (List (Int × Int)) → Option β
  | 0 => fun _ _ _ _ => none
  | i + 1 => fun k1 i_ j s => zq8z c_span_Merge_f1 (zq90 i k1) k1 i_ j s
theorem zq91 (hΓ : ΓOk Try.prog (slices_DeleteFunc_api_Span_api_Span_vspan_Merge_f1_X c_slices_IndexFunc_api_Span_api_Span_vspan_Merge_f1 c_span_Merge_f1).Γ) (i : Nat) : PieceOk Try.prog 42 1 slices_DeleteFunc_api_Span_api_Span_vspan_Merge_f1_p1_code zq8x zq8y (slices_DeleteFunc_api_Span_api_Span_vspan_Merge_f1_p1_G (zq90 c_span_Merge_f1 i)) := by
  rw [show slices_DeleteFunc_api_Span_api_Span_vspan_Merge_f1_p1_code = .loop (loopBody slices_DeleteFunc_api_Span_api_Span_vspan_Merge_f1_p1_code) by kernel_rfl]
  exact piece_loop (X := (slices_DeleteFunc_api_Span_api_Span_vspan_Merge_f1_X c_slices_IndexFunc_api_Span_api_Span_vspan_Merge_f1 c_span_Merge_f1)) (p := 1) (Λ := pick1 []) (G := fun i => @fun β d ks => slices_DeleteFunc_api_Span_api_Span_vspan_Merge_f1_p1_G (zq90 c_span_Merge_f1 i) d ks) mixed tab_ok hΓ rfl (by kernel_rfl) CutsOk_nil (fun _ _ => rfl) (fun i => @fun β d ks r h => Eq.trans (b := slices_DeleteFunc_api_Span_api_Span_vspan_Merge_f1_p1_G (zq90 c_span_Merge_f1 (i + 1)) d ks) (by kernel_rfl) h) i
def zq92 (p1 : zq8w) {β : Type} (s : List (Int × Int)) (k : ((List (Int × Int)) → Option β)) : Option β :=
  c_slices_IndexFunc_api_Span_api_Span_vspan_Merge_f1 s (fun (rSpan : Int) =>
  cond (decide (rSpan = (-1 : Int)))
  (k s)
  (let j : Int := (IntKind.i64.wrap (rSpan + (1 : Int)));
  p1 (fun (i_ : Int) (s2 : List (Int × Int)) =>
  cond (decide (0 ≤ i_) && (decide (i_ ≤ (List.length s2 : Int)) && decide ((List.length s2 : Int) ≤ (List.length s2 : Int))))
  (let l : List (Int × Int) := (List.take (Int.toNat i_) s2 ++ (List.replicate ((List.length s2) - (Int.toNat i_)) ((0 : Int), (0 : Int)) ++ List.drop (List.length s2) s2));
  cond (decide (0 ≤ i_) && decide (i_ ≤ (List.length l : Int)))
  (let l2 : List (Int × Int) := (List.take (Int.toNat i_) l);
  k l2)
  none)
  none) rSpan j s))
theorem zq93 (hΓ : ΓOk Try.prog (slices_DeleteFunc_api_Span_api_Span_vspan_Merge_f1_X c_slices_IndexFunc_api_Span_api_Span_vspan_Merge_f1 c_span_Merge_f1).Γ) (p1 : zq8w) (hp1 : PieceOk Try.prog 42 1 slices_DeleteFunc_api_Span_api_Span_vspan_Merge_f1_p1_code zq8x zq8y (slices_DeleteFunc_api_Span_api_Span_vspan_Merge_f1_p1_G p1)) : SpecOkB Try.prog 47 (zq8u (zq92 c_slices_IndexFunc_api_Span_api_Span_vspan_Merge_f1 p1)) :=
  spec_execB (X := (slices_DeleteFunc_api_Span_api_Span_vspan_Merge_f1_X c_slices_IndexFunc_api_Span_api_Span_vspan_Merge_f1 c_span_Merge_f1)) (Λ := pick1 [(122, pieceCut zq8x zq8y (slices_DeleteFunc_api_Span_api_Span_vspan_Merge_f1_p1_G p1))]) (rs := [.tmp 4]) (c := bodyOf Try.f47) mixed tab_ok hΓ Try.func47 (by kernel_rfl) (by kernel_rfl) (by kernel_rfl) (by kernel_rfl) (CutsOk_cons (q := 122) (c' := slices_DeleteFunc_api_Span_api_Span_vspan_Merge_f1_p1_code) (by kernel_rfl) rfl hp1 CutsOk_nil) (fun x k r h => Eq.trans (b := (zq8u (zq92 c_slices_IndexFunc_api_Span_api_Span_vspan_Merge_f1 p1)).run x k) (by kernel_rfl) h)
end
theorem zq94Γ : ΓOk Try.prog (pick1 [(52, .spec (zq8b zq8r)), (49, .spec (zq54 zq58))]) := (ΓOk_cons zq8s (ΓOk_cons zq59 ΓOk_nil))
def zq95 (m : Nat) : zq8w := zq90 zq58 m
theorem zq96 {β : Type} (i : Nat) (k1 i_ j s) : (zq95 (i + 1) k1 i_ j s : Option β) = zq8z zq58 (zq95 i k1) k1 i_ j s := rfl
def zq97 : zq8w := zq95 fuel
theorem zq98 : PieceOk Try.prog 42 1 slices_DeleteFunc_api_Span_api_Span_vspan_Merge_f1_p1_code zq8x zq8y (slices_DeleteFunc_api_Span_api_Span_vspan_Merge_f1_p1_G zq97) := zq91 zq8r zq58 zq94Γ fuel
def zq99 : zq8t := zq92 zq8r zq97
theorem zq9a : SpecOkB Try.prog 47 (zq8u zq99) := zq93 zq8r zq58 zq94Γ zq97 zq98
def zq9b (l : List (Int × Int)) : Bool := (zq99 l (some : (List (Int × Int)) → Option (List (Int × Int)))).isSome
def zq9c (l : List (Int × Int)) : List (Int × Int) := (zq99 l (some : (List (Int × Int)) → Option (List (Int × Int)))).getD []
def zq9d : RowF := ⟨30, (.prod (.int .i64) (.int .i64)), true, zq9b, zq9c, (some 49)⟩
theorem zq9e : RowOk Try.prog 47 zq9d :=
  SpecOkB.toRow (t := 30) (e := (.prod (.int .i64) (.int .i64))) (c := @zq99) rfl zq9a (fun l h => by obtain ⟨x, hx⟩ := Option.isSome_iff_exists.1 (show (zq99 l (some : (List (Int × Int)) → Option (List (Int × Int)))).isSome = true from h); exact hx.trans (congrArg some (show x = (zq99 l (some : (List (Int × Int)) → Option (List (Int × Int)))).getD [] by rw [hx]; rfl)))

/-- slices.SortFunc[[]pagewatch/api.Span,pagewatch/api.Span] with pagewatch/span.Merge$2 -/
def zq9f : Shelf.Ren :=
      { 
      f := fun x =>
        match x with
        | 6 => 50
        | 15 => 55
        | 14 => 54
        | 28 => 64
        | 29 => 65
        | 20 => 56
        | 21 => 57
        | 22 => 58
        | 23 => 59
        | 24 => 60
        | 25 => 61
        | 26 => 62
        | 27 => 63
        | 46 => 66
        | 47 => 67
        | 48 => 68
        | 49 => 69
        | 50 => 70
        | 57 => 71
        | n => n,
      t := fun x =>
        match x with
        | 22 => 27
        | 24 => 30
        | 25 => 64
        | 3 => 3
        | 39 => 70
        | 0 => 0
        | 53 => 79
        | 55 => 81
        | 4 => 4
        | 46 => 73
        | 45 => 72
        | 50 => 37
        | 5 => 5
        | 9 => 9
        | 66 => 82
        | 70 => 86
        | 76 => 88
        | 77 => 89
        | n => n,
      g := fun x => x }
theorem zq9g : Go.Proofs.SlLaysF0.n6 Try.prog zq9f :=
  { mixed := by kernel_rfl,
    f6 := Exists.intro "slices.SortFunc[[]pagewatch/api.Span,pagewatch/api.Span]" ⟨of_decide_eq_true (by kernel_rfl), Eq.trans Try.func50 (congrArg some (by kernel_rfl))⟩,
    f14 := Exists.intro "slices.pdqsortCmpFunc[pagewatch/api.Span]" ⟨of_decide_eq_true (by kernel_rfl), Eq.trans Try.func54 (congrArg some (by kernel_rfl))⟩,
    f15 := Eq.trans Try.func55 (congrArg some (by kernel_rfl)),
    f20 := Exists.intro "slices.insertionSortCmpFunc[pagewatch/api.Span]" ⟨of_decide_eq_true (by kernel_rfl), Eq.trans Try.func56 (congrArg some (by kernel_rfl))⟩,
    f21 := Exists.intro "slices.heapSortCmpFunc[pagewatch/api.Span]" ⟨of_decide_eq_true (by kernel_rfl), Eq.trans Try.func57 (congrArg some (by kernel_rfl))⟩,
    f22 := Exists.intro "slices.breakPatternsCmpFunc[pagewatch/api.Span]" ⟨of_decide_eq_true (by kernel_rfl), Eq.trans Try.func58 (congrArg some (by kernel_rfl))⟩,
    f23 := Exists.intro "slices.choosePivotCmpFunc[pagewatch/api.Span]" ⟨of_decide_eq_true (by kernel_rfl), Eq.trans Try.func59 (congrArg some (by kernel_rfl))⟩,
    f24 := Exists.intro "slices.reverseRangeCmpFunc[pagewatch/api.Span]" ⟨of_decide_eq_true (by kernel_rfl), Eq.trans Try.func60 (congrArg some (by kernel_rfl))⟩,
    f25 := Exists.intro "slices.partialInsertionSortCmpFunc[pagewatch/api.Span]" ⟨of_decide_eq_true (by kernel_rfl), Eq.trans Try.func61 (congrArg some (by kernel_rfl))⟩,
    f26 := Exists.intro "slices.partitionEqualCmpFunc[pagewatch/api.Span]" ⟨of_decide_eq_true (by kernel_rfl), Eq.trans Try.func62 (congrArg some (by kernel_rfl))⟩,
    f27 := Exists.intro "slices.partitionCmpFunc[pagewatch/api.Span]" ⟨of_decide_eq_true (by kernel_rfl), Eq.trans Try.func63 (congrArg some (by kernel_rfl))⟩,
    f28 := Eq.trans Try.func64 (congrArg some (by kernel_rfl)),
    f29 := Eq.trans Try.func65 (congrArg some (by kernel_rfl)),
    f46 := Exists.intro "slices.siftDownCmpFunc[pagewatch/api.Span]" ⟨of_decide_eq_true (by kernel_rfl), Eq.trans Try.func66 (congrArg some (by kernel_rfl))⟩,
    f47 := Eq.trans Try.func67 (congrArg some (by kernel_rfl)),
    f48 := Eq.trans Try.func68 (congrArg some (by kernel_rfl)),
    f49 := Exists.intro "slices.medianAdjacentCmpFunc[pagewatch/api.Span]" ⟨of_decide_eq_true (by kernel_rfl), Eq.trans Try.func69 (congrArg some (by kernel_rfl))⟩,
    f50 := Exists.intro "slices.medianCmpFunc[pagewatch/api.Span]" ⟨of_decide_eq_true (by kernel_rfl), Eq.trans Try.func70 (congrArg some (by kernel_rfl))⟩,
    f57 := Exists.intro "slices.order2CmpFunc[pagewatch/api.Span]" ⟨of_decide_eq_true (by kernel_rfl), Eq.trans Try.func71 (congrArg some (by kernel_rfl))⟩,
    t0 := Try.underlying0,
    a0 := Try.isAgg0,
    z0 := Try.sizeOf0,
    v0 := Try.zeroValue0,
    t3 := Try.underlying3,
    a3 := Try.isAgg3,
    z3 := Try.sizeOf3,
    v3 := Try.zeroValue3,
    t4 := Try.underlying4,
    a4 := Try.isAgg4,
    z4 := Try.sizeOf4,
    v4 := Try.zeroValue4,
    t5 := Try.underlying5,
    a5 := Try.isAgg5,
    z5 := Try.sizeOf5,
    v5 := Try.zeroValue5,
    t9 := Try.underlying9,
    a9 := Try.isAgg9,
    z9 := Try.sizeOf9,
    v9 := Try.zeroValue9,
    t22 := Try.underlying27,
    a22 := Try.isAgg27,
    z22 := Try.sizeOf27,
    v22 := Try.zeroValue27,
    t25 := Try.underlying64,
    a25 := Try.isAgg64,
    z25 := Try.sizeOf64,
    v25 := Try.zeroValue64,
    t39 := Try.underlying70,
    a39 := Try.isAgg70,
    z39 := Try.sizeOf70,
    v39 := Try.zeroValue70,
    t45 := Try.underlying72,
    a45 := Try.isAgg72,
    z45 := Try.sizeOf72,
    v45 := Try.zeroValue72,
    t46 := Try.underlying73,
    a46 := Try.isAgg73,
    z46 := Try.sizeOf73,
    v46 := Try.zeroValue73,
    t50 := Try.underlying37,
    a50 := Try.isAgg37,
    z50 := Try.sizeOf37,
    v50 := Try.zeroValue37,
    t53 := Try.underlying79,
    a53 := Try.isAgg79,
    z53 := Try.sizeOf79,
    v53 := Try.zeroValue79,
    t55 := Try.underlying81,
    a55 := Try.isAgg81,
    z55 := Try.sizeOf81,
    v55 := Try.zeroValue81,
    t66 := Try.underlying82,
    a66 := Try.isAgg82,
    z66 := Try.sizeOf82,
    v66 := Try.zeroValue82,
    t70 := Try.underlying86,
    a70 := Try.isAgg86,
    z70 := Try.sizeOf86,
    v70 := Try.zeroValue86,
    t76 := Try.underlying88,
    a76 := Try.isAgg88,
    z76 := Try.sizeOf88,
    v76 := Try.zeroValue88,
    t77 := Try.underlying89,
    a77 := Try.isAgg89,
    z77 := Try.sizeOf89,
    v77 := Try.zeroValue89 }
def zq9h : (Int × Int) → Bool := fun x => decide (0 ≤ x.1) && decide (x.1 ≤ 4611686018427387904)
def zq9i : (Int × Int) → (Int × Int) → Int := fun x y => x.1 - y.1
def zq9j : List (Int × Int) → List (Int × Int) := sortRun zq9h ((0, 0) : Int × Int) rfl zq9i
theorem zq9k (x y : Int × Int) (hx : zq9h x = true) (hy : zq9h y = true) (W : World) : Calls Try.prog 51 #[.agg (encT (.prod (.int .i64) (.int .i64)) x).toArray, .agg (encT (.prod (.int .i64) (.int .i64)) y).toArray] W fun e w' => e = .returned (.int .i64 (zq9i x y)) ∧ ∃ q os', w' = Go.Sort.grow (W.drewN q) os' := by
  obtain ⟨a, b⟩ := x
  obtain ⟨c, d⟩ := y
  simp only [zq9h, Bool.and_eq_true, decide_eq_true_eq] at hx hy
  obtain ⟨h1, h2⟩ := hx
  obtain ⟨h3, h4⟩ := hy
  change Calls Try.prog 51 #[.agg #[.int .i64 a, .int .i64 b], .agg #[.int .i64 c, .int .i64 d]] W fun e w' => e = .returned (.int .i64 (a - c)) ∧ _
  have hw : Go.RowKit.wrap64 (a - c) = a - c := by unfold Go.RowKit.wrap64; omega
  go_enter Try.func51, Try.ntmps51
  go_wp2
  go_ret
  exact ⟨rfl, 0, _, by rw [Go.Sort.alloc_eq_grow, Go.Sort.alloc_eq_grow, Go.Sort.grow_grow]; rfl⟩
theorem zq9l : Go.Sort.SWO (Go.Proofs.ltOf fun (x y : {x : Int × Int // zq9h x = true}) => zq9i x.1 y.1) := by
  constructor
  · intro x
    refine decide_eq_false ?_
    show ¬ x.1.1 - x.1.1 < 0
    omega
  · intro x y z h1 h2
    have h1 : x.1.1 - y.1.1 < 0 := of_decide_eq_true h1
    have h2 : y.1.1 - z.1.1 < 0 := of_decide_eq_true h2
    refine decide_eq_true ?_
    show x.1.1 - z.1.1 < 0
    omega
  · intro x y z h1 h2
    have h1 : ¬ x.1.1 - y.1.1 < 0 := of_decide_eq_false h1
    have h2 : ¬ y.1.1 - z.1.1 < 0 := of_decide_eq_false h2
    refine decide_eq_false ?_
    show ¬ x.1.1 - z.1.1 < 0
    omega
def zq9m : RowF := ⟨30, (.prod (.int .i64) (.int .i64)), false, fun l => List.all l zq9h && decide (List.length l < 4611686018427387904), zq9j, some 51⟩
theorem zq9n : RowOk Try.prog 50 zq9m :=
  sortFunc_rowok (t := 30) (e := (.prod (.int .i64) (.int .i64))) (good := zq9h) (d0 := ((0, 0) : Int × Int)) (h0 := rfl) (cf := zq9i) (g := 51) rfl (by decide) zq9g rfl Try.isAgg30 Try.sizeOf30 zq9l (Go.Proofs.enters_of Try.func51 (by kernel_rfl) rfl) zq9k ⟨_, Try.func50, by kernel_rfl, by kernel_rfl⟩

/-- pagewatch/span.Merge -/
abbrev zq9o := {β : Type} → (List (Int × Int)) → ((List (Int × Int)) → Option β) → Option β
def zq9p (c : zq9o) : Spec :=
  ⟨[(false, [.data (.slice (.prod (.int .i64) (.int .i64)))])], [], [(false, [.rowh 0])], [.row 30 (.prod (.int .i64) (.int .i64))], fun x k => c x.1.1.1 (fun r0 => k (((), ()), (r0, ())))⟩
noncomputable def span_Merge_p2_code : Code := codeAt 250 (bodyOf Try.f36)
noncomputable def span_Merge_p1_code : Code := codeAt 231 (loopBody span_Merge_p2_code)
abbrev zq9q (β : Type) := Int → Int → (List (Int × Int)) → (List (Int × Int)) → Option β
abbrev zq9r := {β : Type} → zq9q β → Int → Int → Int → Bool → (List (Int × Int)) → Int → Int → (List (Int × Int)) → Option β
def zq9s : View := ⟨0, [4, 6, 7, 13, 14, 15, 33], [(false, [.rowh 0]), (false, [.ptr 1 0]), (false, [.data (.int .i64)]), (false, [.rowh 2]), (false, [.data (.int .i64)]), (false, [.data (.int .i64)]), (false, [.data .bool])], [.row 30 (.prod (.int .i64) (.int .i64)), .cells 30 [.data (.int .i64), .data (.int .i64)], .row 30 (.prod (.int .i64) (.int .i64))]⟩
def zq9t : List (AExit × View) := [(.normal, ⟨0, [4, 13, 14, 15], [(false, [.rowh 0]), (false, [.rowh 1]), (false, [.data (.int .i64)]), (false, [.data (.int .i64)])], [.row 30 (.prod (.int .i64) (.int .i64)), .row 30 (.prod (.int .i64) (.int .i64))]⟩)]
@[reducible] def span_Merge_p1_G (p : zq9r) {β : Type} (d : zq9s.den) (ks : Outs.K β zq9t) : Option β :=
  p (fun a0 a1 a2 a3 => ks.1 (((), (), (a0, ()), (a1, ()), ()), (a2, a3, ()))) d.1.2.2.1.1 d.1.2.2.2.2.1.1 d.1.2.2.2.2.2.1.1 d.1.2.2.2.2.2.2.1.1 d.2.1 d.2.2.1.1 d.2.2.1.2.1 d.2.2.2.1
abbrev zq9u (β : Type) := (List (Int × Int)) → Option β
abbrev zq9v := {β : Type} → zq9u β → Int → Int → (List (Int × Int)) → (List (Int × Int)) → Option β
def zq9w : View := ⟨0, [4, 13, 14, 15], [(false, [.rowh 0]), (false, [.rowh 1]), (false, [.data (.int .i64)]), (false, [.data (.int .i64)])], [.row 30 (.prod (.int .i64) (.int .i64)), .row 30 (.prod (.int .i64) (.int .i64))]⟩
def zq9x : List (AExit × View) := [(.exit 0, ⟨0, [4], [(false, [.rowh 0])], [.row 30 (.prod (.int .i64) (.int .i64))]⟩)]
@[reducible] def span_Merge_p2_G (p : zq9v) {β : Type} (d : zq9w.den) (ks : Outs.K β zq9x) : Option β :=
  p (fun a0 => ks.1 (((), ()), (a0, ()))) d.1.2.2.1.1 d.1.2.2.2.1.1 d.2.1 d.2.2.1
section
variable (c_slices_Clone_api_Span_api_Span : zq4z)
@[reducible] def span_Merge_X : Ctx := ⟨look tab, pick1 [(48, .spec (zq50 c_slices_Clone_api_Span_api_Span)), (47, .rows zq9d), (50, .rows zq9m)], false, false⟩
def zq9y {β : Type} (k1 : zq9q β) (n : Int) (t14 : Int) (t15 : Int) (t33 : Bool) (out : List (Int × Int)) (s : Int) (s2 : Int) (t13 : List (Int × Int)) : Option β :=
  cond t33
  (cond (decide (0 ≤ (IntKind.i64.wrap (n - (1 : Int)))) && decide ((IntKind.i64.wrap (n - (1 : Int))) < (List.length out : Int)))
  (cond (decide (0 ≤ (IntKind.i64.wrap (n - (1 : Int)))) && decide ((IntKind.i64.wrap (n - (1 : Int))) < (List.length out : Int)))
  (let l : List (Int × Int) := (List.set out (Int.toNat (IntKind.i64.wrap (n - (1 : Int)))) ((List.getD out (Int.toNat (IntKind.i64.wrap (n - (1 : Int)))) ((0 : Int), (0 : Int))).1, (if s2 > (List.getD out (Int.toNat (IntKind.i64.wrap (n - (1 : Int)))) ((0 : Int), (0 : Int))).2 then s2 else (List.getD out (Int.toNat (IntKind.i64.wrap (n - (1 : Int)))) ((0 : Int), (0 : Int))).2)));
  k1 t14 t15 l t13)
  none)
  none)
  (let l : List (Int × Int) := ([(s, s2)] : List (Int × Int));
  cond (decide ((List.length out + List.length l) * 16 ≤ roomMax))
  (let l2 : List (Int × Int) := (out ++ l);
  k1 t14 t15 l2 t13)
  none)
def zq9z {β : Type} (k1 : zq9q β) (n : Int) (t14 : Int) (t15 : Int) (t33 : Bool) (out : List (Int × Int)) (s : Int) (s2 : Int) (t13 : List (Int × Int)) : Option β := zq9y k1 n t14 t15 t33 out s s2 t13
theorem zqa0 (hΓ : ΓOk Try.prog (span_Merge_X c_slices_Clone_api_Span_api_Span).Γ) : PieceOk Try.prog 54 0 span_Merge_p1_code zq9s zq9t (span_Merge_p1_G (zq9z)) :=
  piece_exec (X := (span_Merge_X c_slices_Clone_api_Span_api_Span)) (p := 231) (Λ := pick1 []) mixed tab_ok hΓ (by kernel_rfl) CutsOk_nil (fun d ks r h => Eq.trans (b := span_Merge_p1_G (zq9z) d ks) (by kernel_rfl) h)
def zqa1 (p1 : zq9r) {β : Type} (rec : Int → Int → (List (Int × Int)) → (List (Int × Int)) → Option β) (k1 : zq9u β) (t14 : Int) (t15 : Int) (out : List (Int × Int)) (t13 : List (Int × Int)) : Option β :=
  cond (decide (t15 < t14))
  (cond (decide (0 ≤ t15) && decide (t15 < (List.length t13 : Int)))
  (cond (decide ((0 : Int) < (List.length out : Int)))
  (cond (decide (0 ≤ (IntKind.i64.wrap ((List.length out : Int) - (1 : Int)))) && decide ((IntKind.i64.wrap ((List.length out : Int) - (1 : Int))) < (List.length out : Int)))
  (p1 (fun (t142 : Int) (t152 : Int) (out2 : List (Int × Int)) (t132 : List (Int × Int)) =>
  rec t142 (IntKind.i64.wrap (t152 + (1 : Int))) out2 t132) (List.length out : Int) t14 t15 (decide (((List.getD t13 (Int.toNat t15) ((0 : Int), (0 : Int))).1) ≤ ((List.getD out (Int.toNat (IntKind.i64.wrap ((List.length out : Int) - (1 : Int)))) ((0 : Int), (0 : Int))).2))) out ((List.getD t13 (Int.toNat t15) ((0 : Int), (0 : Int))).1) ((List.getD t13 (Int.toNat t15) ((0 : Int), (0 : Int))).2) t13)
  none)
  (p1 (fun (t142 : Int) (t152 : Int) (out2 : List (Int × Int)) (t132 : List (Int × Int)) =>
  rec t142 (IntKind.i64.wrap (t152 + (1 : Int))) out2 t132) (List.length out : Int) t14 t15 false out ((List.getD t13 (Int.toNat t15) ((0 : Int), (0 : Int))).1) ((List.getD t13 (Int.toNat t15) ((0 : Int), (0 : Int))).2) t13))
  none)
  (k1 out)
def zqa2 (p1 : zq9r) {β : Type} : Nat → zq9u β → Int → Int → (List (Int × Int)) → (List (Int × Int)) → Option β
  | 0 => fun _ _ _ _ _ => none
  | i + 1 => fun k1 t14 t15 out t13 => zqa1 p1 (zqa2 p1 i k1) k1 t14 t15 out t13
theorem zqa3 (hΓ : ΓOk Try.prog (span_Merge_X c_slices_Clone_api_Span_api_Span).Γ) (p1 : zq9r) (hp1 : PieceOk Try.prog 54 0 span_Merge_p1_code zq9s zq9t (span_Merge_p1_G p1)) (i : Nat) : PieceOk Try.prog 54 0 span_Merge_p2_code zq9w zq9x (span_Merge_p2_G (zqa2 p1 i)) := by
  rw [show span_Merge_p2_code = .loop (loopBody span_Merge_p2_code) by kernel_rfl]
  exact piece_loop (X := (span_Merge_X c_slices_Clone_api_Span_api_Span)) (p := 1) (Λ := pick1 [(231, pieceCut zq9s zq9t (span_Merge_p1_G p1))]) (G := fun i => @fun β d ks => span_Merge_p2_G (zqa2 p1 i) d ks) mixed tab_ok hΓ rfl (by kernel_rfl) (CutsOk_cons (q := 231) (c' := span_Merge_p1_code) (by kernel_rfl) rfl hp1 CutsOk_nil) (fun _ _ => rfl) (fun i => @fun β d ks r h => Eq.trans (b := span_Merge_p2_G (zqa2 p1 (i + 1)) d ks) (by kernel_rfl) h) i
def zqa4 (p2 : zq9v) {β : Type} (l : List (Int × Int)) (k : ((List (Int × Int)) → Option β)) : Option β :=
  c_slices_Clone_api_Span_api_Span l (fun (lrSpan : List (Int × Int)) =>
  cond (zq9b lrSpan)
  (let l2 : List (Int × Int) := (zq9c lrSpan);
  cond ((List.all l2 zq9h) && decide (List.length l2 < 4611686018427387904))
  (let l3 : List (Int × Int) := (zq9j l2);
  p2 (fun (out : List (Int × Int)) =>
  k out) (List.length l3 : Int) (0 : Int) ([] : List (Int × Int)) l3)
  none)
  none)
theorem zqa5 (hΓ : ΓOk Try.prog (span_Merge_X c_slices_Clone_api_Span_api_Span).Γ) (p2 : zq9v) (hp2 : PieceOk Try.prog 54 0 span_Merge_p2_code zq9w zq9x (span_Merge_p2_G p2)) : SpecOk Try.prog 36 (zq9p (zqa4 c_slices_Clone_api_Span_api_Span p2)) :=
  spec_exec (X := (span_Merge_X c_slices_Clone_api_Span_api_Span)) (Λ := pick1 [(250, pieceCut zq9w zq9x (span_Merge_p2_G p2))]) (rs := [.tmp 2]) (c := bodyOf Try.f36) mixed tab_ok hΓ Try.func36 (by kernel_rfl) (by kernel_rfl) (by kernel_rfl) (by kernel_rfl) (CutsOk_cons (q := 250) (c' := span_Merge_p2_code) (by kernel_rfl) rfl hp2 CutsOk_nil) (fun x k r h => Eq.trans (b := (zq9p (zqa4 c_slices_Clone_api_Span_api_Span p2)).run x k) (by kernel_rfl) h)
end
theorem zqa6Γ : ΓOk Try.prog (pick1 [(48, .spec (zq50 zq51)), (47, .rows zq9d), (50, .rows zq9m)]) := (ΓOk_cons zq52 (ΓOk_row zq9e (ΓOk_row zq9n ΓOk_nil)))
def zqa7 : zq9r := zq9z
theorem zqa8 : PieceOk Try.prog 54 0 span_Merge_p1_code zq9s zq9t (span_Merge_p1_G zqa7) := zqa0 zq51 zqa6Γ
def zqa9 (m : Nat) : zq9v := zqa2 zqa7 m
theorem zqaa {β : Type} (i : Nat) (k1 t14 t15 out t13) : (zqa9 (i + 1) k1 t14 t15 out t13 : Option β) = zqa1 zqa7 (zqa9 i k1) k1 t14 t15 out t13 := rfl
def zqab : zq9v := zqa9 fuel
theorem zqac : PieceOk Try.prog 54 0 span_Merge_p2_code zq9w zq9x (span_Merge_p2_G zqab) := zqa3 zq51 zqa6Γ zqa7 zqa8 fuel
def zqad : zq9o := zqa4 zq51 zqab
theorem zqae : SpecOk Try.prog 36 (zq9p zqad) := zqa5 zq51 zqa6Γ zqab zqac

/-- pagewatch/span.Normal -/
abbrev zqaf := {β : Type} → (List (Int × Int)) → (Int → (List (Int × Int)) → Option β) → Option β
def zqag (c : zqaf) : Spec :=
  ⟨[(false, [.data (.slice (.prod (.int .i64) (.int .i64)))])], [], [(false, [.rowh 0]), (false, [.data (.int .i64)])], [.row 30 (.prod (.int .i64) (.int .i64))], fun x k => c x.1.1.1 (fun r0 r1 => k (((), (r0, ()), ()), (r1, ())))⟩
noncomputable def span_Normal_p1_code : Code := codeAt 58 (bodyOf Try.f13)
abbrev zqah (β : Type) := Int → (List (Int × Int)) → Option β
abbrev zqai (β : Type) := (List (Int × Int)) → Option β
abbrev zqaj := {β : Type} → zqah β → zqai β → (List (Int × Int)) → (List (Int × Int)) → Int → Int → Option β
def zqak : View := ⟨0, [0, 9, 10, 11], [(false, [.data (.slice (.prod (.int .i64) (.int .i64)))]), (false, [.data (.slice (.prod (.int .i64) (.int .i64)))]), (false, [.data (.int .i64)]), (false, [.data (.int .i64)])], []⟩
def zqal : List (AExit × View) := [(.ret, ⟨0, [2, 3], [(false, [.rowh 0]), (false, [.data (.int .i64)])], [.row 30 (.prod (.int .i64) (.int .i64))]⟩), (.exit 0, ⟨0, [0], [(false, [.data (.slice (.prod (.int .i64) (.int .i64)))])], []⟩)]
@[reducible] def span_Normal_p1_G (p : zqaj) {β : Type} (d : zqak.den) (ks : Outs.K β zqal) : Option β :=
  p (fun a0 a1 => ks.1 (((), (a0, ()), ()), (a1, ()))) (fun a0 => ks.2.1 (((a0, ()), ()), ())) d.1.1.1 d.1.2.1.1 d.1.2.2.1.1 d.1.2.2.2.1.1
section
variable (c_span_Merge : zq9o)
@[reducible] def span_Normal_X : Ctx := ⟨look tab, pick1 [(36, .spec (zq9p c_span_Merge))], false, false⟩
def zqam {β : Type} (rec : (List (Int × Int)) → (List (Int × Int)) → Int → Int → Option β) (k1 : zqah β) (k2 : zqai β) (l : List (Int × Int)) (t9 : List (Int × Int)) (t10 : Int) (t11 : Int) : Option β :=
  cond (decide (t11 < t10))
  (cond (decide (0 ≤ t11) && decide (t11 < (List.length t9 : Int)))
  (let e : (Int × Int) := List.getD t9 (Int.toNat t11) ((0 : Int), (0 : Int));
  cond (decide (e.1 < e.2))
  (cond (decide (e.1 < (0 : Int)))
  (k1 (1 : Int) ([] : List (Int × Int)))
  (cond (decide ((8589934592 : Int) < e.2))
  (k1 (1 : Int) ([] : List (Int × Int)))
  (rec l t9 t10 (IntKind.i64.wrap (t11 + (1 : Int))))))
  (rec l t9 t10 (IntKind.i64.wrap (t11 + (1 : Int)))))
  none)
  (k2 l)
def zqan {β : Type} : Nat → zqah β → zqai β → (List (Int × Int)) → (List (Int × Int)) → Int → Int → Option β
  | 0 => fun _ _ _ _ _ _ => none
  | i + 1 => fun k1 k2 l t9 t10 t11 => zqam (zqan i k1 k2) k1 k2 l t9 t10 t11
theorem zqao (hΓ : ΓOk Try.prog (span_Normal_X c_span_Merge).Γ) (i : Nat) : PieceOk Try.prog 33 0 span_Normal_p1_code zqak zqal (span_Normal_p1_G (zqan i)) := by
  rw [show span_Normal_p1_code = .loop (loopBody span_Normal_p1_code) by kernel_rfl]
  exact piece_loop (X := (span_Normal_X c_span_Merge)) (p := 1) (Λ := pick1 []) (G := fun i => @fun β d ks => span_Normal_p1_G (zqan i) d ks) mixed tab_ok hΓ rfl (by kernel_rfl) CutsOk_nil (fun _ _ => rfl) (fun i => @fun β d ks r h => Eq.trans (b := span_Normal_p1_G (zqan (i + 1)) d ks) (by kernel_rfl) h) i
def zqap (p1 : zqaj) {β : Type} (l : List (Int × Int)) (k : (Int → (List (Int × Int)) → Option β)) : Option β :=
  cond (decide ((4096 : Int) < (List.length l : Int)))
  (k (5 : Int) ([] : List (Int × Int)))
  (p1 (fun (t3 : Int) (t2 : List (Int × Int)) =>
  k t3 t2) (fun (l2 : List (Int × Int)) =>
  c_span_Merge l2 (fun (lrMerge : List (Int × Int)) =>
  k (0 : Int) lrMerge)) l l (List.length l : Int) (0 : Int))
theorem zqaq (hΓ : ΓOk Try.prog (span_Normal_X c_span_Merge).Γ) (p1 : zqaj) (hp1 : PieceOk Try.prog 33 0 span_Normal_p1_code zqak zqal (span_Normal_p1_G p1)) : SpecOk Try.prog 13 (zqag (zqap c_span_Merge p1)) :=
  spec_exec (X := (span_Normal_X c_span_Merge)) (Λ := pick1 [(58, pieceCut zqak zqal (span_Normal_p1_G p1))]) (rs := [.tmp 2, .tmp 3]) (c := bodyOf Try.f13) mixed tab_ok hΓ Try.func13 (by kernel_rfl) (by kernel_rfl) (by kernel_rfl) (by kernel_rfl) (CutsOk_cons (q := 58) (c' := span_Normal_p1_code) (by kernel_rfl) rfl hp1 CutsOk_nil) (fun x k r h => Eq.trans (b := (zqag (zqap c_span_Merge p1)).run x k) (by kernel_rfl) h)
end
theorem zqarΓ : ΓOk Try.prog (pick1 [(36, .spec (zq9p zqad))]) := (ΓOk_cons zqae ΓOk_nil)
def zqas (m : Nat) : zqaj := zqan m
theorem zqat {β : Type} (i : Nat) (k1 k2 l t9 t10 t11) : (zqas (i + 1) k1 k2 l t9 t10 t11 : Option β) = zqam (zqas i k1 k2) k1 k2 l t9 t10 t11 := rfl
def zqau : zqaj := zqas fuel
theorem zqav : PieceOk Try.prog 33 0 span_Normal_p1_code zqak zqal (span_Normal_p1_G zqau) := zqao zqad zqarΓ fuel
def zqaw : zqaf := zqap zqad zqau
theorem zqax : SpecOk Try.prog 13 (zqag zqaw) := zqaq zqad zqarΓ zqau zqav

/-- pagewatch/pagewatchlaw03.sane -/
abbrev zqay := {β : Type} → (Bool → Option β) → Option β
def zqaz (c : zqay) : Spec :=
  ⟨[], [], [(false, [.data .bool])], [], fun x k => c  (fun r0 => k (((r0, ()), ()), ()))⟩
section
variable (c_law03_same : zql) (c_span_Gap : zq5a) (c_span_Minus : zq83) (c_span_Normal : zqaf)
@[reducible] def law03_sane_X : Ctx := ⟨look tab, pick1 [(14, .spec (zqm c_law03_same)), (16, .spec (zq5b c_span_Gap)), (20, .spec (zq84 c_span_Minus)), (13, .spec (zqag c_span_Normal))], false, false⟩
def zqb0 {β : Type} (k : (Bool → Option β)) : Option β :=
  let l : List (Int × Int) := ([((5 : Int), (9 : Int)), ((1 : Int), (3 : Int)), ((3 : Int), (4 : Int)), ((7 : Int), (6 : Int))] : List (Int × Int));
  c_span_Normal l (fun (rNormal : Int) (lrNormal : List (Int × Int)) =>
  let l2 : List (Int × Int) := ([((0 : Int), (10 : Int))] : List (Int × Int));
  let l3 : List (Int × Int) := ([((2 : Int), (3 : Int)), ((5 : Int), (20 : Int))] : List (Int × Int));
  c_span_Minus l2 l3 (fun (rMinus : Int) (lrMinus : List (Int × Int)) =>
  cond (decide (rNormal = (0 : Int)))
  (cond (decide (rMinus = (0 : Int)))
  (let l4 : List (Int × Int) := ([((1 : Int), (4 : Int)), ((5 : Int), (9 : Int))] : List (Int × Int));
  c_law03_same lrNormal l4 (fun (rsame : Bool) =>
  cond rsame
  (let l5 : List (Int × Int) := ([((0 : Int), (2 : Int)), ((3 : Int), (5 : Int))] : List (Int × Int));
  c_law03_same lrMinus l5 (fun (rsame2 : Bool) =>
  cond rsame2
  (let l6 : List (Int × Int) := ([((0 : Int), (10 : Int))] : List (Int × Int));
  c_span_Gap l6 (4 : Int) (fun (rGap : Int) =>
  let t : Bool := (decide (rGap = (10 : Int)));
  k t))
  (k false)))
  (k false)))
  (k false))
  (k false)))
theorem zqb1 (hΓ : ΓOk Try.prog (law03_sane_X c_law03_same c_span_Gap c_span_Minus c_span_Normal).Γ) : SpecOk Try.prog 9 (zqaz (zqb0 c_law03_same c_span_Gap c_span_Minus c_span_Normal)) :=
  spec_exec (X := (law03_sane_X c_law03_same c_span_Gap c_span_Minus c_span_Normal)) (Λ := pick1 []) (rs := [.tmp 0]) (c := bodyOf Try.f9) mixed tab_ok hΓ Try.func9 (by kernel_rfl) (by kernel_rfl) (by kernel_rfl) (by kernel_rfl) CutsOk_nil (fun x k r h => Eq.trans (b := (zqaz (zqb0 c_law03_same c_span_Gap c_span_Minus c_span_Normal)).run x k) (by kernel_rfl) h)
end
theorem zqb2Γ : ΓOk Try.prog (pick1 [(14, .spec (zqm zq12)), (16, .spec (zq5b zq5r)), (20, .spec (zq84 zq88)), (13, .spec (zqag zqaw))]) := (ΓOk_cons zq13 (ΓOk_cons zq5s (ΓOk_cons zq89 (ΓOk_cons zqax ΓOk_nil))))
def zqb3 : zqay := zqb0 zq12 zq5r zq88 zqaw
theorem zqb4 : SpecOk Try.prog 9 (zqaz zqb3) := zqb1 zq12 zq5r zq88 zqaw zqb2Γ

/-- pagewatch/pagewatchlaw03.SpanForms -/
abbrev zqb5 := {β : Type} → (List Int) → Int → (Bool → Option β) → Option β
def zqb6 (c : zqb5) : Spec :=
  ⟨[(false, [.data (.slice (.int .i64))]), (false, [.data (.int .i64)])], [], [(false, [.data .bool])], [], fun x k => c x.1.1.1 x.1.2.1.1 (fun r0 => k (((r0, ()), ()), ()))⟩
noncomputable def law03_SpanForms_p1_code : Code := codeAt 506 (bodyOf Try.f3)
abbrev zqb7 (β : Type) := (List (Int × Int)) → (List (Int × Int)) → Option β
abbrev zqb8 := {β : Type} → zqb7 β → Int → Int → (List (Int × Int)) → (List (Int × Int)) → Option β
def zqb9 : View := ⟨0, [1, 6, 7, 8], [(false, [.data (.int .i64)]), (false, [.rowh 0]), (false, [.rowh 1]), (false, [.data (.int .i64)])], [.row 30 (.prod (.int .i64) (.int .i64)), .row 30 (.prod (.int .i64) (.int .i64))]⟩
def zqba : List (AExit × View) := [(.exit 0, ⟨0, [6, 7], [(false, [.rowh 0]), (false, [.rowh 1])], [.row 30 (.prod (.int .i64) (.int .i64)), .row 30 (.prod (.int .i64) (.int .i64))]⟩)]
@[reducible] def law03_SpanForms_p1_G (p : zqb8) {β : Type} (d : zqb9.den) (ks : Outs.K β zqba) : Option β :=
  p (fun a0 a1 => ks.1 (((), (), ()), (a0, a1, ()))) d.1.1.1 d.1.2.2.2.1.1 d.2.1 d.2.2.1
section
variable (c_law03_same : zql) (c_law03_sane : zqay) (c_made_Dice_Set : zq7l) (c_made_Light : zq0) (c_made_Mod : zqe) (c_made_Roll : zq7) (c_span_Normal : zqaf)
@[reducible] def law03_SpanForms_X : Ctx := ⟨look tab, pick1 [(14, .spec (zqm c_law03_same)), (9, .spec (zqaz c_law03_sane)), (11, .spec (zq7m c_made_Dice_Set)), (8, .spec (zq1 c_made_Light)), (12, .spec (zqf c_made_Mod)), (10, .spec (zq8 c_made_Roll)), (13, .spec (zqag c_span_Normal))], false, false⟩
def zqbb {β : Type} (rec : Int → Int → (List (Int × Int)) → (List (Int × Int)) → Option β) (k1 : zqb7 β) (cut : Int) (i_ : Int) (a : List (Int × Int)) (l : List (Int × Int)) : Option β :=
  cond (decide ((0 : Int) ≤ i_))
  (cond (decide (0 ≤ i_) && decide (i_ < (List.length a : Int)))
  (cond (decide (0 ≤ i_) && decide (i_ < (List.length a : Int)))
  (cond (decide (0 ≤ i_) && decide (i_ < (List.length a : Int)))
  (c_made_Mod cut (IntKind.i64.wrap ((IntKind.i64.wrap ((1 : Int) + ((List.getD a (Int.toNat i_) ((0 : Int), (0 : Int))).2))) - ((List.getD a (Int.toNat i_) ((0 : Int), (0 : Int))).1))) (fun (rMod : Int) =>
  let m : Int := (IntKind.i64.wrap (((List.getD a (Int.toNat i_) ((0 : Int), (0 : Int))).1) + rMod));
  cond (decide (0 ≤ i_) && decide (i_ < (List.length a : Int)))
  (cond (decide (0 ≤ i_) && decide (i_ < (List.length a : Int)))
  (cond (!decide ((50 : Int) = 0))
  (cond (!decide ((50 : Int) = 0))
  (let l2 : List (Int × Int) := ([(m, (List.getD a (Int.toNat i_) ((0 : Int), (0 : Int))).2), ((List.getD a (Int.toNat i_) ((0 : Int), (0 : Int))).1, m), ((Int.tmod cut (50 : Int)), (IntKind.i64.wrap ((Int.tmod cut (50 : Int)) - (1 : Int))))] : List (Int × Int));
  cond (decide ((List.length l + List.length l2) * 16 ≤ roomMax))
  (let l3 : List (Int × Int) := (l ++ l2);
  let i_2 : Int := (IntKind.i64.wrap (i_ - (1 : Int)));
  rec cut i_2 a l3)
  none)
  none)
  none)
  none)
  none))
  none)
  none)
  none)
  (k1 a l)
def zqbc {β : Type} : Nat → zqb7 β → Int → Int → (List (Int × Int)) → (List (Int × Int)) → Option β
  | 0 => fun _ _ _ _ _ => none
  | i + 1 => fun k1 cut i_ a l => zqbb c_made_Mod (zqbc i k1) k1 cut i_ a l
theorem zqbd (hΓ : ΓOk Try.prog (law03_SpanForms_X c_law03_same c_law03_sane c_made_Dice_Set c_made_Light c_made_Mod c_made_Roll c_span_Normal).Γ) (i : Nat) : PieceOk Try.prog 101 0 law03_SpanForms_p1_code zqb9 zqba (law03_SpanForms_p1_G (zqbc c_made_Mod i)) := by
  rw [show law03_SpanForms_p1_code = .loop (loopBody law03_SpanForms_p1_code) by kernel_rfl]
  exact piece_loop (X := (law03_SpanForms_X c_law03_same c_law03_sane c_made_Dice_Set c_made_Light c_made_Mod c_made_Roll c_span_Normal)) (p := 1) (Λ := pick1 []) (G := fun i => @fun β d ks => law03_SpanForms_p1_G (zqbc c_made_Mod i) d ks) mixed tab_ok hΓ rfl (by kernel_rfl) CutsOk_nil (fun _ _ => rfl) (fun i => @fun β d ks r h => Eq.trans (b := law03_SpanForms_p1_G (zqbc c_made_Mod (i + 1)) d ks) (by kernel_rfl) h) i
def zqbe (p1 : zqb8) {β : Type} (t : List Int) (cut : Int) (k : (Bool → Option β)) : Option β :=
  c_made_Light t (fun (rLight : Bool) =>
  cond (!rLight)
  (c_law03_sane  (fun (rsane : Bool) =>
  k rsane))
  (c_made_Roll t (fun (mrRoll : (List Int × Int)) =>
  c_made_Dice_Set mrRoll (fun (mrSet : (List Int × Int)) (lrSet : List (Int × Int)) =>
  let i_ : Int := (IntKind.i64.wrap ((List.length lrSet : Int) - (1 : Int)));
  p1 (fun (a : List (Int × Int)) (l : List (Int × Int)) =>
  c_span_Normal l (fun (rNormal : Int) (lrNormal : List (Int × Int)) =>
  c_span_Normal a (fun (rNormal2 : Int) (lrNormal2 : List (Int × Int)) =>
  cond (decide (rNormal = (0 : Int)))
  (cond (decide (rNormal2 = (0 : Int)))
  (c_law03_same lrNormal a (fun (rsame : Bool) =>
  cond rsame
  (c_law03_same lrNormal2 a (fun (rsame2 : Bool) =>
  cond rsame2
  (c_law03_sane  (fun (rsane : Bool) =>
  k rsane))
  (k false)))
  (k false)))
  (k false))
  (k false)))) cut i_ lrSet ([] : List (Int × Int))))))
theorem zqbf (hΓ : ΓOk Try.prog (law03_SpanForms_X c_law03_same c_law03_sane c_made_Dice_Set c_made_Light c_made_Mod c_made_Roll c_span_Normal).Γ) (p1 : zqb8) (hp1 : PieceOk Try.prog 101 0 law03_SpanForms_p1_code zqb9 zqba (law03_SpanForms_p1_G p1)) : SpecOk Try.prog 3 (zqb6 (zqbe c_law03_same c_law03_sane c_made_Dice_Set c_made_Light c_made_Roll c_span_Normal p1)) :=
  spec_exec (X := (law03_SpanForms_X c_law03_same c_law03_sane c_made_Dice_Set c_made_Light c_made_Mod c_made_Roll c_span_Normal)) (Λ := pick1 [(506, pieceCut zqb9 zqba (law03_SpanForms_p1_G p1))]) (rs := [.tmp 4]) (c := bodyOf Try.f3) mixed tab_ok hΓ Try.func3 (by kernel_rfl) (by kernel_rfl) (by kernel_rfl) (by kernel_rfl) (CutsOk_cons (q := 506) (c' := law03_SpanForms_p1_code) (by kernel_rfl) rfl hp1 CutsOk_nil) (fun x k r h => Eq.trans (b := (zqb6 (zqbe c_law03_same c_law03_sane c_made_Dice_Set c_made_Light c_made_Roll c_span_Normal p1)).run x k) (by kernel_rfl) h)
end
theorem zqbgΓ : ΓOk Try.prog (pick1 [(14, .spec (zqm zq12)), (9, .spec (zqaz zqb3)), (11, .spec (zq7m zq81)), (8, .spec (zq1 zq5)), (12, .spec (zqf zqj)), (10, .spec (zq8 zqc)), (13, .spec (zqag zqaw))]) := (ΓOk_cons zq13 (ΓOk_cons zqb4 (ΓOk_cons zq82 (ΓOk_cons zq6 (ΓOk_cons zqk (ΓOk_cons zqd (ΓOk_cons zqax ΓOk_nil)))))))
def zqbh (m : Nat) : zqb8 := zqbc zqj m
theorem zqbi {β : Type} (i : Nat) (k1 cut i_ a l) : (zqbh (i + 1) k1 cut i_ a l : Option β) = zqbb zqj (zqbh i k1) k1 cut i_ a l := rfl
def zqbj : zqb8 := zqbh fuel
theorem zqbk : PieceOk Try.prog 101 0 law03_SpanForms_p1_code zqb9 zqba (law03_SpanForms_p1_G zqbj) := zqbd zq12 zqb3 zq81 zq5 zqj zqc zqaw zqbgΓ fuel
def zqbl : zqb5 := zqbe zq12 zqb3 zq81 zq5 zqc zqaw zqbj
theorem zqbm : SpecOk Try.prog 3 (zqb6 zqbl) := zqbf zq12 zqb3 zq81 zq5 zqj zqc zqaw zqbgΓ zqbj zqbk
end
end Go.Lift
/- Plain lemmas about functional forms: tests that are known, loops. -/
namespace Go.Lift
open Go.RowKit Go.IntWalk

section
variable {β : Type}
/-! ### Tests -/
theorem c_inb {i n : Int} {a b : Option β} (h : 0 ≤ i ∧ i < n) : cond (decide (0 ≤ i) && decide (i < n)) a b = a := by
  rw [decide_eq_true h.1, decide_eq_true h.2]; rfl
theorem c_room {n : Nat} {a b : Option β} (h : n ≤ 140737488355328) : cond (decide (n ≤ roomMax)) a b = a := by
  rw [decide_eq_true (p := n ≤ roomMax) h]; rfl
theorem c_pos {p : Prop} [Decidable p] {a b : Option β} (h : p) : cond (decide p) a b = a := by rw [decide_eq_true h]; rfl
theorem c_neg {p : Prop} [Decidable p] {a b : Option β} (h : ¬ p) : cond (decide p) a b = b := by rw [decide_eq_false h]; rfl
theorem c_npos {p : Prop} [Decidable p] {a b : Option β} (h : p) : cond (!decide p) a b = b := by rw [decide_eq_true h]; rfl
theorem c_nneg {p : Prop} [Decidable p] {a b : Option β} (h : ¬ p) : cond (!decide p) a b = a := by rw [decide_eq_false h]; rfl
theorem c_t {a b : Option β} : cond true a b = a := rfl
theorem c_f {a b : Option β} : cond false a b = b := rfl
/-! ### Loops over the numbers from 0 on -/
/-- A loop with an invariant and a measure. -/
theorem while_loop {σ ρ : Type} {Kt : Type → Type} (F : {β : Type} → Kt β → Nat → σ → Option β) (X : {β : Type} → Kt β → ρ → Option β) (I : σ → Prop) (μ : σ → Nat) (Q : ρ → Prop)
    (step : ∀ s, I s → (∃ s', I s' ∧ μ s' < μ s ∧ ∀ {β : Type} (k : Kt β) m, F k (m + 1) s = F k m s') ∨ (∃ r, Q r ∧ ∀ {β : Type} (k : Kt β) m, F k (m + 1) s = X k r)) :
    ∀ (N : Nat) (s : σ), I s → μ s < N → ∃ r, Q r ∧ ∀ {β : Type} (k : Kt β), F k N s = X k r := by
  intro N
  induction N with
  | zero => intro s _ h; omega
  | succ N ih =>
    intro s hI hN
    rcases step s hI with ⟨s', h1, h2, h3⟩ | ⟨r, h1, h2⟩
    · obtain ⟨r, h4, h5⟩ := ih s' h1 (by omega)
      exact ⟨r, h4, fun k => (h3 k N).trans (h5 k)⟩
    · exact ⟨r, h1, fun k => h2 k N⟩
end
end Go.Lift

/- Sets of numbers as lists of spans: plain theory for the chapter 3. -/
namespace Go.Lift
noncomputable section
set_option linter.unusedVariables false
set_option linter.unusedSimpArgs false

abbrev Sp := Int × Int
/-- A number is in one of the spans. -/
def hasS (l : List Sp) (x : Int) : Prop := ∃ s ∈ l, s.1 ≤ x ∧ x < s.2
theorem hasS_nil {x : Int} : ¬ hasS [] x := by rintro ⟨s, h, _⟩; cases h
theorem hasS_cons {s : Sp} {l : List Sp} {x : Int} : hasS (s :: l) x ↔ (s.1 ≤ x ∧ x < s.2) ∨ hasS l x := by
  unfold hasS
  simp only [List.mem_cons, exists_eq_or_imp]
theorem hasS_append {l m : List Sp} {x : Int} : hasS (l ++ m) x ↔ hasS l x ∨ hasS m x := by
  unfold hasS
  simp only [List.mem_append, or_and_right, exists_or]

/-- The least form of a set, all of it beyond a. -/
def NFa : Int → List Sp → Prop
  | _, [] => True
  | a, s :: l => a < s.1 ∧ s.1 < s.2 ∧ NFa s.2 l

theorem NFa.mono {a b : Int} (h : b ≤ a) : ∀ {l : List Sp}, NFa a l → NFa b l
  | [], _ => trivial
  | s :: l, ⟨h1, h2, h3⟩ => ⟨by omega, h2, h3⟩
theorem NFa.lt {a : Int} : ∀ {l : List Sp} {x : Int}, NFa a l → hasS l x → a < x
  | [], x, _, h => absurd h hasS_nil
  | s :: l, x, ⟨h1, h2, h3⟩, h => by
    rcases hasS_cons.1 h with h | h
    · omega
    · have := NFa.lt h3 h
      omega

/-- A set has one form. -/
theorem NFa.uniq : ∀ {l m : List Sp} {a b : Int}, NFa a l → NFa b m → (∀ x, hasS l x ↔ hasS m x) → l = m
  | [], [], _, _, _, _, _ => rfl
  | [], t :: m, _, _, _, ⟨h1, h2, h3⟩, h => absurd ((h t.1).2 (hasS_cons.2 (.inl ⟨by omega, h2⟩))) hasS_nil
  | s :: l, [], _, _, ⟨h1, h2, h3⟩, _, h => absurd ((h s.1).1 (hasS_cons.2 (.inl ⟨by omega, h2⟩))) hasS_nil
  | s :: l, t :: m, _, _, ⟨h1, h2, h3⟩, ⟨g1, g2, g3⟩, h => by
    have a1 : t.1 ≤ s.1 := by
      rcases hasS_cons.1 ((h s.1).1 (hasS_cons.2 (.inl ⟨by omega, h2⟩))) with q | q
      · omega
      · have := g3.lt q; omega
    have a2 : s.1 ≤ t.1 := by
      rcases hasS_cons.1 ((h t.1).2 (hasS_cons.2 (.inl ⟨by omega, g2⟩))) with q | q
      · omega
      · have := h3.lt q; omega
    have e1 : s.1 = t.1 := by omega
    have b1 : ¬ s.2 < t.2 := by
      intro hlt
      rcases hasS_cons.1 ((h s.2).2 (hasS_cons.2 (.inl ⟨by omega, hlt⟩))) with q | q
      · omega
      · have := h3.lt q; omega
    have b2 : ¬ t.2 < s.2 := by
      intro hlt
      rcases hasS_cons.1 ((h t.2).1 (hasS_cons.2 (.inl ⟨by omega, hlt⟩))) with q | q
      · omega
      · have := g3.lt q; omega
    have e2 : s.2 = t.2 := by omega
    have e : s = t := Prod.ext e1 e2
    subst e
    have ht : l = m := by
      refine NFa.uniq h3 g3 fun x => ?_
      constructor
      · intro q
        have hx := h3.lt q
        rcases hasS_cons.1 ((h x).1 (hasS_cons.2 (.inr q))) with p | p
        · omega
        · exact p
      · intro q
        have hx := g3.lt q
        rcases hasS_cons.1 ((h x).2 (hasS_cons.2 (.inr q))) with p | p
        · omega
        · exact p
    rw [ht]

/-! ### What is in both -/
/-! ### What is in the first alone -/
def restS (e at_ : Int) : List Sp := if at_ < e then [(at_, e)] else []
def cutS (e : Int) : Int → List Sp → List Sp
  | at_, [] => restS e at_
  | at_, b :: bs => if b.1 < e then restS b.1 at_ ++ cutS e (max at_ b.2) bs else restS e at_

theorem restS_ok {e at_ a : Int} (h : a < at_) : (∀ x, hasS (restS e at_) x ↔ at_ ≤ x ∧ x < e) ∧ NFa a (restS e at_) := by
  unfold restS
  split
  · refine ⟨fun x => ?_, h, by assumption, trivial⟩
    rw [hasS_cons]
    constructor
    · rintro (q | q)
      · exact q
      · exact absurd q hasS_nil
    · exact .inl
  · exact ⟨fun x => ⟨fun q => absurd q hasS_nil, fun q => by omega⟩, trivial⟩

theorem cutS_ok {e : Int} : ∀ (bs : List Sp) (at_ a c : Int), a < at_ → NFa c bs → (∀ x, hasS (cutS e at_ bs) x ↔ (at_ ≤ x ∧ x < e) ∧ ¬ hasS bs x) ∧ NFa a (cutS e at_ bs)
  | [], at_, a, c, h, _ => by
    obtain ⟨r1, r2⟩ := restS_ok (e := e) h
    exact ⟨fun x => ⟨fun q => ⟨(r1 x).1 q, hasS_nil⟩, fun q => (r1 x).2 q.1⟩, r2⟩
  | b :: bs, at_, a, c, h, ⟨m1, m2, m3⟩ => by
    unfold cutS
    by_cases hb : b.1 < e
    · rw [if_pos hb]
      by_cases hp : at_ < b.1
      · obtain ⟨i1, i2⟩ := cutS_ok bs (max at_ b.2) b.1 b.2 (by omega) m3
        have er : restS b.1 at_ = [(at_, b.1)] := by unfold restS; rw [if_pos hp]
        rw [er]
        refine ⟨fun x => ?_, h, hp, i2⟩
        rw [List.singleton_append, hasS_cons, i1 x, hasS_cons]
        constructor
        · rintro (q | ⟨q1, q2⟩)
          · simp only at q
            refine ⟨by omega, ?_⟩
            rintro (p | p)
            · omega
            · have := m3.lt p; omega
          · refine ⟨by omega, ?_⟩
            rintro (p | p)
            · omega
            · exact q2 p
        · rintro ⟨q1, q2⟩
          by_cases hx : x < b.1
          · exact .inl (by simp only; omega)
          · refine .inr ⟨⟨?_, q1.2⟩, fun p => q2 (.inr p)⟩
            have : ¬ x < b.2 := fun hlt => q2 (.inl ⟨by omega, hlt⟩)
            omega
      · obtain ⟨i1, i2⟩ := cutS_ok bs (max at_ b.2) a b.2 (by omega) m3
        have er : restS b.1 at_ = [] := by unfold restS; rw [if_neg hp]
        rw [er, List.nil_append]
        refine ⟨fun x => ?_, i2⟩
        rw [i1 x, hasS_cons]
        constructor
        · rintro ⟨q1, q2⟩
          refine ⟨by omega, ?_⟩
          rintro (p | p)
          · omega
          · exact q2 p
        · rintro ⟨q1, q2⟩
          refine ⟨⟨?_, q1.2⟩, fun p => q2 (.inr p)⟩
          have : ¬ x < b.2 := fun hlt => q2 (.inl ⟨by omega, hlt⟩)
          omega
    · rw [if_neg hb]
      obtain ⟨r1, r2⟩ := restS_ok (e := e) h
      refine ⟨fun x => ?_, r2⟩
      rw [r1 x, hasS_cons]
      constructor
      · intro q
        refine ⟨q, ?_⟩
        rintro (p | p)
        · omega
        · have := m3.lt p; omega
      · exact fun q => q.1

def withoutS (l m : List Sp) : List Sp := l.flatMap fun s => cutS s.2 s.1 m

theorem NFa.append {l m : List Sp} {a b : Int} (hl : NFa a l) (hb : ∀ x, hasS l x → x < b) (hm : NFa b m) (hab : a ≤ b) : NFa a (l ++ m) := by
  induction l generalizing a with
  | nil => exact hm.mono hab
  | cons s l ih =>
    obtain ⟨h1, h2, h3⟩ := hl
    have hs : s.2 - 1 < b := hb (s.2 - 1) (hasS_cons.2 (.inl ⟨by omega, by omega⟩))
    exact ⟨h1, h2, ih h3 (fun x hx => hb x (hasS_cons.2 (.inr hx))) (by omega)⟩

theorem withoutS_ok {m : List Sp} {c : Int} (hm : NFa c m) : ∀ (l : List Sp) (a : Int), NFa a l → (∀ x, hasS (withoutS l m) x ↔ hasS l x ∧ ¬ hasS m x) ∧ NFa a (withoutS l m)
  | [], a, _ => ⟨fun x => ⟨fun q => absurd q hasS_nil, fun q => absurd q.1 hasS_nil⟩, trivial⟩
  | s :: l, a, ⟨h1, h2, h3⟩ => by
    obtain ⟨i1, i2⟩ := withoutS_ok hm l s.2 h3
    obtain ⟨j1, j2⟩ := cutS_ok (e := s.2) m s.1 a c h1 hm
    have e : withoutS (s :: l) m = cutS s.2 s.1 m ++ withoutS l m := rfl
    rw [e]
    refine ⟨fun x => ?_, j2.append (fun x hx => ((j1 x).1 hx).1.2) i2 (by omega)⟩
    rw [hasS_append, i1 x, j1 x, hasS_cons]
    constructor
    · rintro (⟨q1, q2⟩ | ⟨q1, q2⟩)
      · exact ⟨.inl q1, q2⟩
      · exact ⟨.inr q1, q2⟩
    · rintro ⟨q1 | q1, q2⟩
      · exact .inl ⟨q1, q2⟩
      · exact .inr ⟨q1, q2⟩

/-! ### Merging spans that ascend -/
def mergeS : Sp → List Sp → List Sp
  | c, [] => [c]
  | c, s :: l => if s.1 ≤ c.2 then mergeS (c.1, max c.2 s.2) l else c :: mergeS s l
theorem mergeS_ok : ∀ (l : List Sp) (c : Sp) (a : Int), a < c.1 → c.1 < c.2 → (∀ s ∈ l, c.1 ≤ s.1 ∧ s.1 < s.2) → l.Pairwise (fun s t => s.1 ≤ t.1) → (∀ x, hasS (mergeS c l) x ↔ hasS (c :: l) x) ∧ NFa a (mergeS c l)
  | [], c, a, h1, h2, _, _ => ⟨fun x => Iff.rfl, h1, h2, trivial⟩
  | s :: l, c, a, h1, h2, hs, hp => by
    rw [List.pairwise_cons] at hp
    obtain ⟨hs1, hs2⟩ := hs s (by simp)
    unfold mergeS
    by_cases hc : s.1 ≤ c.2
    · rw [if_pos hc]
      obtain ⟨i1, i2⟩ := mergeS_ok l (c.1, max c.2 s.2) a h1 (by simp only; omega) (fun t ht => hs t (by simp [ht])) hp.2
      refine ⟨fun x => ?_, i2⟩
      rw [i1 x, hasS_cons, hasS_cons, hasS_cons]
      constructor
      · rintro (q | q)
        · simp only at q
          by_cases hx : x < c.2
          · exact .inl (by omega)
          · exact .inr (.inl (by omega))
        · exact .inr (.inr q)
      · rintro (q | q | q)
        · exact .inl (by simp only; omega)
        · exact .inl (by simp only; omega)
        · exact .inr q
    · rw [if_neg hc]
      obtain ⟨i1, i2⟩ := mergeS_ok l s c.2 (by omega) hs2 (fun t ht => ⟨hp.1 t ht, (hs t (by simp [ht])).2⟩) hp.2
      refine ⟨fun x => ?_, h1, h2, i2⟩
      rw [hasS_cons, i1 x, hasS_cons (s := c)]
end
end Go.Lift

/- Sets of numbers as lists of spans: their length. -/
namespace Go.Lift
noncomputable section
set_option linter.unusedVariables false
set_option linter.unusedSimpArgs false

def lengthS (l : List Sp) : Int := (l.map fun s => s.2 - s.1).sum
theorem NFa.mem {a : Int} : ∀ {l : List Sp}, NFa a l → ∀ s ∈ l, a < s.1 ∧ s.1 < s.2
  | [], _, s, h => by cases h
  | t :: l, ⟨h1, h2, h3⟩, s, h => by
    rcases List.mem_cons.1 h with rfl | h
    · exact ⟨h1, h2⟩
    · have := NFa.mem h3 s h
      omega

/-- The elements of a set below a bound stay below it. -/
theorem below_of_has {l : List Sp} {a N : Int} (h : NFa a l) (hx : ∀ x, hasS l x → x < N) : ∀ s ∈ l, s.2 ≤ N := by
  intro s hs
  have := h.mem s hs
  have := hx (s.2 - 1) ⟨s, hs, by omega, by omega⟩
  omega
end
end Go.Lift

/- Sets of numbers as lists of spans: the normal form of any spans; the next element and the next gap. -/
namespace Go.Lift
noncomputable section
set_option linter.unusedVariables false
set_option linter.unusedSimpArgs false

def mergeAll : List Sp → List Sp
  | [] => []
  | c :: l => mergeS c l
theorem hasS_perm {l m : List Sp} (h : l.Perm m) (x : Int) : hasS l x ↔ hasS m x := by
  unfold hasS
  constructor
  · rintro ⟨s, hs, h2⟩
    exact ⟨s, h.mem_iff.1 hs, h2⟩
  · rintro ⟨s, hs, h2⟩
    exact ⟨s, h.mem_iff.2 hs, h2⟩
theorem hasS_filter {l : List Sp} (x : Int) : hasS (l.filter fun s => decide (s.1 < s.2)) x ↔ hasS l x := by
  unfold hasS
  constructor
  · rintro ⟨s, hs, h2⟩
    exact ⟨s, (List.mem_filter.1 hs).1, h2⟩
  · rintro ⟨s, hs, h2⟩
    exact ⟨s, List.mem_filter.2 ⟨hs, decide_eq_true (by omega)⟩, h2⟩

/-- Any spans, sorted in any way by their beginnings, merged: their set in its one form. -/
theorem norm_ok {l m : List Sp} {a : Int} (hp : m.Perm (l.filter fun s => decide (s.1 < s.2))) (hs : m.Pairwise (fun s t => s.1 ≤ t.1)) (h0 : ∀ s ∈ l, s.1 < s.2 → a < s.1) :
    (∀ x, hasS (mergeAll m) x ↔ hasS l x) ∧ NFa a (mergeAll m) := by
  have hmem : ∀ s ∈ m, s.1 < s.2 ∧ a < s.1 := fun s h => by
    have h1 := List.mem_filter.1 (hp.mem_iff.1 h)
    have h2 := of_decide_eq_true h1.2
    exact ⟨h2, h0 s h1.1 h2⟩
  have hh : ∀ x, hasS m x ↔ hasS l x := fun x => (hasS_perm hp x).trans (hasS_filter x)
  cases m with
  | nil => exact ⟨hh, trivial⟩
  | cons c r =>
    rw [List.pairwise_cons] at hs
    obtain ⟨h1, h2⟩ := mergeS_ok r c a (hmem c (by simp)).2 (hmem c (by simp)).1 (fun s h => ⟨hs.1 s h, (hmem s (by simp [h])).1⟩) hs.2
    exact ⟨fun x => (h1 x).trans (hh x), h2⟩

/-! ### The next element, the next gap -/
def gapS (x : Int) : List Sp → Int
  | [] => x
  | s :: l => if s.1 ≤ x ∧ x < s.2 then s.2 else gapS x l

/-! ### Laws of sets -/
end
end Go.Lift

/- The reference's sort of numbers: ascending, each once. -/
namespace Go.Lift
open Go.RowKit Go.IntWalk
noncomputable section
set_option linter.unusedVariables false
set_option linter.unusedSimpArgs false

theorem drop_cons {α : Type} {l : List α} {j : Nat} {x : α} {r : List α} (h : l.drop j = x :: r) (d : α) : j < l.length ∧ l.getD j d = x ∧ l.drop (j + 1) = r := by
  have h3 : j < l.length := by
    have := congrArg List.length h
    simp only [List.length_drop, List.length_cons] at this
    omega
  rw [List.drop_eq_getElem_cons h3] at h
  injection h with h1 h2
  exact ⟨h3, by simp [List.getD, h3, h1], h2⟩

theorem wr {x : Int} (h1 : -9223372036854775808 ≤ x) (h2 : x ≤ 9223372036854775807) : IntKind.i64.wrap x = x := by simp (disch := omega) only [i64_in]

abbrev Asc (l : List Int) : Prop := l.Pairwise (· < ·)

/-- A number behind the others, if it is not the last one already. -/
def pushU (out : List Int) (x : Int) : List Int := if out.getLast? = some x then out else out ++ [x]
theorem pushU_len (out : List Int) (x : Int) : (pushU out x).length ≤ out.length + 1 := by
  unfold pushU
  split <;> simp
theorem pushU_mem {out : List Int} {x y : Int} : y ∈ pushU out x ↔ y ∈ out ∨ y = x := by
  unfold pushU
  split
  · rename_i h
    constructor
    · exact .inl
    · rintro (h1 | rfl)
      · exact h1
      · exact List.mem_of_getLast? h
  · simp
theorem pushU_asc {out : List Int} {x : Int} (h : Asc out) (hx : ∀ y ∈ out, y ≤ x) : Asc (pushU out x) := by
  unfold pushU
  split
  · exact h
  · rename_i hne
    rw [Asc, List.pairwise_append]
    refine ⟨h, by simp, fun a ha b hb => ?_⟩
    simp only [List.mem_singleton] at hb
    subst hb
    have h1 := hx a ha
    rcases List.eq_nil_or_concat out with rfl | ⟨L, y, rfl⟩
    · cases ha
    · have hy : y ≠ b := by
        intro e
        exact hne (by simp [e])
      have hyb := hx y (by simp)
      rw [List.concat_eq_append] at h ha
      rcases List.mem_append.1 ha with q | q
      · have := (List.pairwise_append.1 h).2.2 a q y (by simp)
        omega
      · simp only [List.mem_singleton] at q
        omega

section
variable {β : Type} {me : zq3n}

theorem srt_p1 (k1 : zq3p β) (i j x : Int) {out a b : List Int} (hl : out.length ≤ 100000) : zq4k me k1 i j x out a b = k1 i j (pushU out x) a b := by
  show zq45 k1 i j x out a b = _
  unfold zq45
  rcases List.eq_nil_or_concat out with rfl | ⟨L, y, rfl⟩
  · refine (c_pos (by simp)).trans ?_
    refine (c_room (by simp)).trans ?_
    rfl
  · rw [List.concat_eq_append] at hl ⊢
    have hlen : (L ++ [y]).length = L.length + 1 := by simp
    have e1 : IntKind.i64.wrap (((L ++ [y]).length : Int) - 1) = (L.length : Int) := by
      rw [wr (by omega) (by omega)]; omega
    have e2 : (L ++ [y]).getD (Int.toNat (L.length : Int)) 0 = y := by simp [List.getD]
    refine (c_neg (by omega)).trans ?_
    rw [e1]
    refine (c_inb (by omega)).trans ?_
    rw [e2]
    have e3 : (L ++ [y]).getLast? = some y := by simp
    by_cases hy : y = x
    · refine (c_npos hy).trans ?_
      have : pushU (L ++ [y]) x = L ++ [y] := by unfold pushU; rw [if_pos (by rw [e3, hy])]
      rw [this]
    · refine (c_nneg hy).trans ?_
      refine (c_room (by simp only [List.length_append, List.length_cons, List.length_nil] at hl ⊢; omega)).trans ?_
      have : pushU (L ++ [y]) x = L ++ [y] ++ [x] := by unfold pushU; rw [if_neg (by rw [e3]; simpa using hy)]
      rw [this]

theorem srt_p2t (k1 : zq3t β) {i : Nat} (j : Int) {out a b : List Int} (hi : i < a.length) (hl : a.length ≤ 100000) : zq4m me k1 (i : Int) j true out a b = k1 ((i + 1 : Nat) : Int) j (a.getD i 0) out a b := by
  show zq48 k1 (i : Int) j true out a b = _
  unfold zq48
  refine c_t.trans ?_
  refine (c_inb (by omega)).trans ?_
  simp only [Int.toNat_natCast]
  rw [wr (by omega) (by omega)]
  rfl
theorem srt_p2f (k1 : zq3t β) {j : Nat} (i : Int) {out a b : List Int} (hj : j < b.length) (hl : b.length ≤ 100000) : zq4m me k1 i (j : Int) false out a b = k1 i ((j + 1 : Nat) : Int) (b.getD j 0) out a b := by
  show zq48 k1 i (j : Int) false out a b = _
  unfold zq48
  refine c_f.trans ?_
  refine (c_inb (by omega)).trans ?_
  simp only [Int.toNat_natCast]
  rw [wr (by omega) (by omega)]
  rfl

/-- Whose turn it is. -/
def turnA (a b : List Int) (i j : Nat) : Bool := if j = b.length then true else if i < a.length then decide (a.getD i 0 ≤ b.getD j 0) else false

theorem srt_p3 (k1 : zq3x β) {i j : Nat} {out a b : List Int} (ha : a.length ≤ 100000) (hb : b.length ≤ 100000) (ho : out.length ≤ 100000) (hi : i ≤ a.length) (hj : j ≤ b.length) (h : i < a.length ∨ j < b.length) :
    zq4o me k1 (i : Int) (j : Int) out a b = cond (turnA a b i j) (k1 ((i + 1 : Nat) : Int) (j : Int) (pushU out (a.getD i 0)) a b) (k1 (i : Int) ((j + 1 : Nat) : Int) (pushU out (b.getD j 0)) a b) := by
  show zq4b (zq4k me) (zq4m me) k1 (i : Int) (j : Int) out a b = _
  unfold zq4b turnA
  by_cases hjb : j = b.length
  · rw [if_pos hjb]
    refine (c_pos (by omega)).trans ?_
    refine (srt_p2t _ _ (by omega) ha).trans ?_
    exact srt_p1 _ _ _ _ ho
  · rw [if_neg hjb]
    refine (c_neg (by omega)).trans ?_
    by_cases hia : i < a.length
    · rw [if_pos hia]
      refine (c_pos (by omega)).trans ?_
      refine (c_inb (by omega)).trans ?_
      refine (c_inb (by omega)).trans ?_
      simp only [Int.toNat_natCast]
      by_cases hle : a.getD i 0 ≤ b.getD j 0
      · rw [decide_eq_true hle]
        refine (srt_p2t _ _ hia ha).trans ?_
        exact srt_p1 _ _ _ _ ho
      · rw [decide_eq_false hle]
        refine (srt_p2f _ _ (by omega) hb).trans ?_
        exact srt_p1 _ _ _ _ ho
    · rw [if_neg hia]
      refine (c_neg (by omega)).trans ?_
      refine (srt_p2f _ _ (by omega) hb).trans ?_
      exact srt_p1 _ _ _ _ ho

/-- What the merging keeps. -/
structure MI (a b : List Int) (i j : Nat) (out : List Int) : Prop where
  hi : i ≤ a.length
  hj : j ≤ b.length
  asc : Asc out
  mem : ∀ y, y ∈ out ↔ y ∈ a.take i ∨ y ∈ b.take j
  lo1 : ∀ y ∈ out, ∀ z ∈ a.drop i, y ≤ z
  lo2 : ∀ y ∈ out, ∀ z ∈ b.drop j, y ≤ z
  len : out.length ≤ i + j

theorem take_succ_mem {l : List Int} {i : Nat} (h : i < l.length) (y : Int) : y ∈ l.take (i + 1) ↔ y ∈ l.take i ∨ y = l.getD i 0 := by
  rw [List.take_add_one]
  have : l[i]? = some (l.getD i 0) := by simp [List.getD, h]
  rw [this]
  simp

theorem asc_drop {l : List Int} (h : Asc l) {i : Nat} (hi : i < l.length) : ∀ z ∈ l.drop i, l.getD i 0 ≤ z := by
  intro z hz
  have e : l.drop i = l.getD i 0 :: l.drop (i + 1) := by
    rw [List.drop_eq_getElem_cons hi]
    simp [List.getD, hi]
  have hd : Asc (l.drop i) := h.sublist (List.drop_sublist i l)
  rw [e] at hz hd
  rcases List.mem_cons.1 hz with rfl | hz
  · exact Int.le_refl _
  · have := (List.pairwise_cons.1 hd).1 z hz
    omega
theorem mem_drop_succ {l : List Int} {i : Nat} {z : Int} (h : z ∈ l.drop (i + 1)) : z ∈ l.drop i := by
  rw [← List.drop_drop] at h
  exact List.mem_of_mem_drop h
theorem getD_mem_drop {l : List Int} {i : Nat} (h : i < l.length) : l.getD i 0 ∈ l.drop i := by
  rw [List.drop_eq_getElem_cons h]
  have : l.getD i 0 = l[i] := by simp [List.getD, h]
  rw [this]
  exact List.mem_cons_self

theorem MI.stepA {a b : List Int} (ha : Asc a) (hb : Asc b) {i j : Nat} {out : List Int} (h : MI a b i j out) (hi : i < a.length) (hle : ∀ z ∈ b.drop j, a.getD i 0 ≤ z) : MI a b (i + 1) j (pushU out (a.getD i 0)) := by
  have hx : ∀ y ∈ out, y ≤ a.getD i 0 := fun y hy => h.lo1 y hy _ (getD_mem_drop hi)
  refine ⟨hi, h.hj, pushU_asc h.asc hx, fun y => ?_, fun y hy z hz => ?_, fun y hy z hz => ?_, ?_⟩
  · rw [pushU_mem, h.mem, take_succ_mem hi]
    constructor
    · rintro ((q | q) | q)
      · exact .inl (.inl q)
      · exact .inr q
      · exact .inl (.inr q)
    · rintro ((q | q) | q)
      · exact .inl (.inl q)
      · exact .inr q
      · exact .inl (.inr q)
  · rcases pushU_mem.1 hy with q | rfl
    · exact h.lo1 y q z (mem_drop_succ hz)
    · exact asc_drop ha hi z (mem_drop_succ hz)
  · rcases pushU_mem.1 hy with q | rfl
    · exact h.lo2 y q z hz
    · exact hle z hz
  · have := pushU_len out (a.getD i 0)
    have := h.len
    omega
theorem MI.stepB {a b : List Int} (ha : Asc a) (hb : Asc b) {i j : Nat} {out : List Int} (h : MI a b i j out) (hj : j < b.length) (hle : ∀ z ∈ a.drop i, b.getD j 0 ≤ z) : MI a b i (j + 1) (pushU out (b.getD j 0)) := by
  have hx : ∀ y ∈ out, y ≤ b.getD j 0 := fun y hy => h.lo2 y hy _ (getD_mem_drop hj)
  refine ⟨h.hi, hj, pushU_asc h.asc hx, fun y => ?_, fun y hy z hz => ?_, fun y hy z hz => ?_, ?_⟩
  · rw [pushU_mem, h.mem, take_succ_mem hj, or_assoc]
  · rcases pushU_mem.1 hy with q | rfl
    · exact h.lo1 y q z hz
    · exact hle z hz
  · rcases pushU_mem.1 hy with q | rfl
    · exact h.lo2 y q z (mem_drop_succ hz)
    · exact asc_drop hb hj z (mem_drop_succ hz)
  · have := pushU_len out (b.getD j 0)
    have := h.len
    omega
end

/-- The merging. -/
theorem srt_p4 {me : zq3n} {a b : List Int} (ha : Asc a) (hb : Asc b) (hal : a.length ≤ 30000) (hbl : b.length ≤ 30000) :
    ∃ out, (Asc out ∧ (∀ y, y ∈ out ↔ y ∈ a ∨ y ∈ b) ∧ out.length ≤ a.length + b.length) ∧ ∀ {β : Type} (k : List Int → Option β), zq4s me k 0 0 [] a b = k out := by
  have := while_loop (σ := Nat × Nat × List Int) (ρ := List Int) (Kt := fun β => List Int → Option β)
    (fun k N s => zq4q me N k (s.1 : Int) (s.2.1 : Int) s.2.2 a b) (fun k r => k r)
    (fun s => MI a b s.1 s.2.1 s.2.2) (fun s => (a.length - s.1) + (b.length - s.2.1)) (fun out => Asc out ∧ (∀ y, y ∈ out ↔ y ∈ a ∨ y ∈ b) ∧ out.length ≤ a.length + b.length) ?_ fuel (0, 0, []) ?_ ?_
  · exact this
  · rintro ⟨i, j, out⟩ h
    have h : MI a b i j out := h
    have hlen := h.len
    have hi := h.hi
    have hj := h.hj
    by_cases hm : i < a.length ∨ j < b.length
    · left
      have hstep : ∀ {β : Type} (k : List Int → Option β) (m : Nat), zq4q me (m + 1) k (i : Int) (j : Int) out a b =
          zq4o me (fun i2 j2 out2 a2 b2 => zq4q me m k i2 j2 out2 a2 b2) (i : Int) (j : Int) out a b := by
        intro β k m
        rw [zq4r]
        unfold zq4e
        by_cases hia : i < a.length
        · exact c_pos (by omega)
        · refine (c_neg (by omega)).trans ?_
          exact c_pos (by omega)
      by_cases ht : turnA a b i j = true
      · have hia : i < a.length := by
          unfold turnA at ht
          split at ht
          · omega
          · split at ht
            · assumption
            · cases ht
        refine ⟨(i + 1, j, pushU out (a.getD i 0)), h.stepA ha hb hia ?_, ?_, fun k m => ?_⟩
        · intro z hz
          unfold turnA at ht
          split at ht
          · rename_i hjb
            rw [hjb, List.drop_length] at hz
            cases hz
          · try rw [if_pos hia] at ht
            have := of_decide_eq_true ht
            have := asc_drop hb (show j < b.length by omega) z hz
            omega
        · show (a.length - (i + 1)) + (b.length - j) < (a.length - i) + (b.length - j)
          omega
        · refine (hstep k m).trans ?_
          rw [srt_p3 _ (by omega) (by omega) (by omega) hi hj hm, ht]
          rfl
      · have ht : turnA a b i j = false := by simpa using ht
        have hjb : j < b.length := by
          unfold turnA at ht
          split at ht
          · cases ht
          · omega
        refine ⟨(i, j + 1, pushU out (b.getD j 0)), h.stepB ha hb hjb ?_, ?_, fun k m => ?_⟩
        · intro z hz
          unfold turnA at ht
          rw [if_neg (by omega)] at ht
          split at ht
          · rename_i hia
            have := of_decide_eq_false ht
            have := asc_drop ha hia z hz
            omega
          · rename_i hia
            rw [List.drop_eq_nil_of_le (by omega)] at hz
            cases hz
        · show (a.length - i) + (b.length - (j + 1)) < (a.length - i) + (b.length - j)
          omega
        · refine (hstep k m).trans ?_
          rw [srt_p3 _ (by omega) (by omega) (by omega) hi hj hm, ht]
          rfl
    · right
      refine ⟨out, ⟨h.asc, fun y => ?_, by omega⟩, fun k m => ?_⟩
      · rw [h.mem, List.take_of_length_le (by omega), List.take_of_length_le (by omega)]
      · show zq4q me (m + 1) k (i : Int) (j : Int) out a b = k out
        rw [zq4r]
        unfold zq4e
        refine (c_neg (by omega)).trans ?_
        exact c_neg (by omega)
  · exact ⟨Nat.zero_le _, Nat.zero_le _, List.Pairwise.nil, by simp, by simp, by simp, by simp⟩
  · exact lt_fuel (by show (a.length - 0) + (b.length - 0) < _; omega)

theorem srt_n : ∀ (N : Nat) (l : List Int), l.length < N → l.length ≤ 20000 →
    ∃ out, (Asc out ∧ (∀ y, y ∈ out ↔ y ∈ l) ∧ out.length ≤ l.length) ∧ ∀ {β : Type} (k : List Int → Option β), zq4u N l k = k out
  | 0, l, h, _ => absurd h (Nat.not_lt_zero _)
  | N + 1, l, h, hl => by
    by_cases h2 : l.length < 2
    · refine ⟨l, ⟨?_, fun _ => Iff.rfl, Nat.le_refl _⟩, fun k => ?_⟩
      · match l, h2 with
        | [], _ => exact List.Pairwise.nil
        | [x], _ => exact List.pairwise_singleton _ _
      · rw [zq4w]
        unfold zq4h
        refine (c_pos (by omega)).trans ?_
        exact c_room (by omega)
    · have e2 : IntKind.i64.wrap (Int.tdiv (l.length : Int) 2) = ((l.length / 2 : Nat) : Int) := by
        have : Int.tdiv (l.length : Int) 2 = ((l.length / 2 : Nat) : Int) := rfl
        rw [this, wr (by omega) (by omega)]
      obtain ⟨o1, ⟨a1, m1, n1⟩, f1⟩ := srt_n N (l.take (l.length / 2)) (by simp; omega) (by simp; omega)
      obtain ⟨o2, ⟨a2, m2, n2⟩, f2⟩ := srt_n N (l.drop (l.length / 2)) (by simp; omega) (by simp; omega)
      simp only [List.length_take] at n1
      simp only [List.length_drop] at n2
      obtain ⟨o3, ⟨a3, m3, n3⟩, f3⟩ := srt_p4 (me := zq4u N) a1 a2 (by omega) (by omega)
      refine ⟨o3, ⟨a3, fun y => ?_, by omega⟩, fun k => ?_⟩
      · rw [m3, m1, m2, ← List.mem_append, List.take_append_drop]
      · rw [zq4w]
        unfold zq4h
        simp only [e2, Int.toNat_natCast, Int.toNat_zero, List.drop_zero, List.take_length]
        refine (c_neg (by omega)).trans ?_
        refine (c_nneg (by omega)).trans ?_
        rw [show (decide (0 ≤ (0 : Int)) && (decide ((0 : Int) ≤ ((l.length / 2 : Nat) : Int)) && decide (((l.length / 2 : Nat) : Int) ≤ (l.length : Int)))) = true by
          rw [decide_eq_true (by omega : (0 : Int) ≤ 0), decide_eq_true (by omega : (0 : Int) ≤ ((l.length / 2 : Nat) : Int)), decide_eq_true (by omega : ((l.length / 2 : Nat) : Int) ≤ (l.length : Int))]; rfl]
        refine c_t.trans ?_
        refine (f1 _).trans ?_
        refine (c_nneg (by omega)).trans ?_
        rw [show (decide (0 ≤ ((l.length / 2 : Nat) : Int)) && (decide (((l.length / 2 : Nat) : Int) ≤ (l.length : Int)) && decide ((l.length : Int) ≤ (l.length : Int)))) = true by
          rw [decide_eq_true (by omega : (0 : Int) ≤ ((l.length / 2 : Nat) : Int)), decide_eq_true (by omega : ((l.length / 2 : Nat) : Int) ≤ (l.length : Int)), decide_eq_true (by omega : (l.length : Int) ≤ (l.length : Int))]; rfl]
        refine c_t.trans ?_
        refine (f2 _).trans ?_
        exact f3 k

theorem srt {l : List Int} (hl : l.length ≤ 20000) : ∃ out, (Asc out ∧ (∀ y, y ∈ out ↔ y ∈ l) ∧ out.length ≤ l.length) ∧ ∀ {β : Type} (k : List Int → Option β), zq4x l k = k out :=
  srt_n fuel l (lt_fuel (by omega)) hl
end
end Go.Lift

/- The reference's normal form of any spans: by the borders and how many spans lie over each number. -/
namespace Go.Lift
open Go.RowKit Go.IntWalk
noncomputable section
set_option linter.unusedVariables false
set_option linter.unusedSimpArgs false

theorem mGet_mPut' (l : List (Int × Int)) (a b v z : Int) : mGet (.int .i64) (mPut (.int .i64) l a v) b z = if a = b then v else mGet (.int .i64) l b z := by
  induction l with
  | nil =>
    simp only [mPut, mGet, keyEq]
    by_cases h : a = b
    · simp [h]
    · simp [h]
  | cons y r ih =>
    simp only [mPut, keyEq]
    by_cases h1 : y.1 = a
    · simp only [h1, decide_true, cond_true, mGet, keyEq]
      by_cases h : a = b
      · simp [h]
      · simp [h]
    · simp only [h1, decide_false, cond_false, mGet, keyEq]
      by_cases h : y.1 = b
      · have : ¬ a = b := fun e => h1 (h.trans e.symm)
        simp [h, this]
      · simp only [h, decide_false, cond_false]
        exact ih

def isNe (s : Sp) : Bool := decide (s.1 < s.2)
/-- How many begin, or end, at a number; up to it. -/
def cntF (l : List Sp) (x : Int) : Int := (l.countP fun s => isNe s && decide (s.1 = x) : Nat)
def cntT (l : List Sp) (x : Int) : Int := (l.countP fun s => isNe s && decide (s.2 = x) : Nat)
def cumF (l : List Sp) (x : Int) : Int := (l.countP fun s => isNe s && decide (s.1 ≤ x) : Nat)
def cumT (l : List Sp) (x : Int) : Int := (l.countP fun s => isNe s && decide (s.2 ≤ x) : Nat)
def depthS (l : List Sp) (x : Int) : Int := cumF l x - cumT l x
def ptsS (l : List Sp) : List Int := l.flatMap fun s => if s.1 < s.2 then [s.1, s.2] else []

theorem countP_step (p : Sp → Bool) (s : Sp) (l : List Sp) : (((s :: l).countP p : Nat) : Int) = (l.countP p : Nat) + (if p s = true then 1 else 0) := by
  rw [List.countP_cons]
  split <;> simp

theorem depth_cons (s : Sp) (l : List Sp) (x : Int) : depthS (s :: l) x = depthS l x + (if s.1 ≤ x ∧ x < s.2 then 1 else 0) := by
  unfold depthS cumF cumT
  rw [countP_step, countP_step]
  by_cases h1 : s.1 < s.2
  · simp only [isNe, h1, decide_true, Bool.true_and, decide_eq_true_eq]
    by_cases h2 : s.1 ≤ x <;> by_cases h3 : s.2 ≤ x
    · rw [if_pos h2, if_pos h3, if_neg (by omega)]; omega
    · rw [if_pos h2, if_neg h3, if_pos (by omega)]; omega
    · omega
    · rw [if_neg h2, if_neg h3, if_neg (by omega)]; omega
  · have : ¬ (s.1 ≤ x ∧ x < s.2) := by omega
    simp [isNe, h1, this]

theorem depth_pos (l : List Sp) (x : Int) : 0 ≤ depthS l x ∧ (0 < depthS l x ↔ hasS l x) := by
  induction l with
  | nil =>
    refine ⟨by simp [depthS, cumF, cumT], fun h => ?_, fun h => absurd h hasS_nil⟩
    simp [depthS, cumF, cumT] at h
  | cons s l ih =>
    rw [depth_cons, hasS_cons]
    obtain ⟨i1, i2⟩ := ih
    by_cases h : s.1 ≤ x ∧ x < s.2
    · rw [if_pos h]
      exact ⟨by omega, fun _ => .inl h, fun _ => by omega⟩
    · rw [if_neg h]
      refine ⟨by omega, fun q => .inr (i2.1 (by omega)), ?_⟩
      rintro (q | q)
      · exact absurd q h
      · have := i2.2 q; omega

/-- Nothing begins or ends between a and p. -/
theorem depth_step (l : List Sp) {a p : Int} (hap : a < p) (hn : ∀ y ∈ ptsS l, ¬ (a < y ∧ y < p)) : depthS l p = depthS l a + (cntF l p - cntT l p) ∧ ∀ x, a ≤ x → x < p → depthS l x = depthS l a := by
  induction l with
  | nil => simp [depthS, cumF, cumT, cntF, cntT]
  | cons s l ih =>
    have hn' : ∀ y ∈ ptsS l, ¬ (a < y ∧ y < p) := fun y hy => hn y (by simp only [ptsS, List.flatMap_cons, List.mem_append]; exact .inr hy)
    obtain ⟨i1, i2⟩ := ih hn'
    by_cases hs : s.1 < s.2
    · have h1 := hn s.1 (by simp [ptsS, hs])
      have h2 := hn s.2 (by simp [ptsS, hs])
      have ef : cntF (s :: l) p = cntF l p + (if s.1 = p then 1 else 0) := by
        unfold cntF; rw [countP_step]; simp [isNe, hs]
      have et : cntT (s :: l) p = cntT l p + (if s.2 = p then 1 else 0) := by
        unfold cntT; rw [countP_step]; simp [isNe, hs]
      refine ⟨?_, fun x h3 h4 => ?_⟩
      · rw [depth_cons, depth_cons, ef, et, i1]
        by_cases q1 : s.1 ≤ a <;> by_cases q2 : s.2 ≤ a <;> by_cases q3 : s.1 = p <;> by_cases q4 : s.2 = p <;> simp only [q3, q4, if_true, if_false] <;> (split <;> split <;> omega)
      · rw [depth_cons, depth_cons, i2 x h3 h4]
        congr 1
        have : (s.1 ≤ x ∧ x < s.2) ↔ (s.1 ≤ a ∧ a < s.2) := by omega
        simp only [this]
    · have ef : cntF (s :: l) p = cntF l p := by
        unfold cntF; rw [countP_step]; simp [isNe, hs]
      have et : cntT (s :: l) p = cntT l p := by
        unfold cntT; rw [countP_step]; simp [isNe, hs]
      have hz : ∀ x, depthS (s :: l) x = depthS l x := fun x => by rw [depth_cons, if_neg (by omega)]; omega
      refine ⟨by rw [hz, hz, ef, et, i1], fun x h3 h4 => by rw [hz, hz, i2 x h3 h4]⟩

theorem mem_pts {l : List Sp} {y : Int} : y ∈ ptsS l ↔ ∃ s ∈ l, s.1 < s.2 ∧ (y = s.1 ∨ y = s.2) := by
  simp only [ptsS, List.mem_flatMap]
  constructor
  · rintro ⟨s, hs, h⟩
    split at h
    · rename_i hlt
      simp only [List.mem_cons, List.not_mem_nil, or_false] at h
      exact ⟨s, hs, hlt, h⟩
    · cases h
  · rintro ⟨s, hs, hlt, h⟩
    exact ⟨s, hs, by rw [if_pos hlt]; simpa using h⟩

theorem cnt_bounds (p : Sp → Bool) (l : List Sp) : (0 : Int) ≤ (l.countP p : Nat) ∧ ((l.countP p : Nat) : Int) ≤ l.length := by
  have := List.countP_le_length (p := p) (l := l)
  omega

/-! ### Collecting the borders -/
def rangeS (s : Sp) : Prop := s.1 < s.2 → 0 ≤ s.1 ∧ s.2 ≤ 8589934592

theorem ref_coll (l : List Sp) (hl : l.length ≤ 4096) : ∀ (r : List Sp) (j N : Nat) (at_ : List Int) (op sh : List (Int × Int)), l.drop j = r → r.length < N → (∀ s ∈ r, rangeS s) → at_.length + 2 * r.length ≤ 10000 →
    (∀ x, 0 ≤ mGet (.int .i64) op x 0 ∧ mGet (.int .i64) op x 0 + r.length ≤ 10000) → (∀ x, 0 ≤ mGet (.int .i64) sh x 0 ∧ mGet (.int .i64) sh x 0 + r.length ≤ 10000) →
    ∃ at' op' sh', (at' = at_ ++ ptsS r ∧ (∀ x, mGet (.int .i64) op' x 0 = mGet (.int .i64) op x 0 + cntF r x) ∧ (∀ x, mGet (.int .i64) sh' x 0 = mGet (.int .i64) sh x 0 + cntT r x)) ∧
      ∀ {β : Type} (k1 : zq5v β) (k2 : zq5w β), zq6y N k1 k2 l (j : Int) at_ op sh = k2 at' op' sh'
  | [], j, 0, _, _, _, _, h, _, _, _, _ => absurd h (Nat.not_lt_zero _)
  | _ :: _, j, 0, _, _, _, _, h, _, _, _, _ => absurd h (Nat.not_lt_zero _)
  | [], j, N + 1, at_, op, sh, hd, h, hr, ha, ho, hs => by
    refine ⟨at_, op, sh, ⟨by simp [ptsS], fun x => by simp [cntF], fun x => by simp [cntT]⟩, fun k1 k2 => ?_⟩
    have : l.length ≤ j := by simpa using hd
    rw [zq6z]
    unfold zq6g
    exact c_neg (by omega)
  | s :: r, j, N + 1, at_, op, sh, hd, h, hr, ha, ho, hs => by
    obtain ⟨hj, hg, hd'⟩ := drop_cons hd ((0 : Int), (0 : Int))
    simp only [List.length_cons] at h ha ho hs
    have hrs := hr s (by simp)
    have hr' : ∀ t ∈ r, rangeS t := fun t ht => hr t (by simp [ht])
    have ew : IntKind.i64.wrap ((j : Int) + 1) = ((j + 1 : Nat) : Int) := by rw [wr (by omega) (by omega)]; omega
    by_cases hne : s.1 < s.2
    · obtain ⟨b1, b2⟩ := hrs hne
      have ho1 := ho s.1
      have hs1 := hs s.2
      obtain ⟨at', op', sh', ⟨e1, e2, e3⟩, hf⟩ := ref_coll l hl r (j + 1) N (at_ ++ [s.1, s.2]) (mPut (.int .i64) op s.1 (mGet (.int .i64) op s.1 0 + 1)) (mPut (.int .i64) sh s.2 (mGet (.int .i64) sh s.2 0 + 1)) hd' (by omega) hr' (by simp; omega)
        (fun x => by rw [mGet_mPut']; have := ho x; split <;> omega) (fun x => by rw [mGet_mPut']; have := hs x; split <;> omega)
      refine ⟨at', op', sh', ⟨?_, fun x => ?_, fun x => ?_⟩, fun k1 k2 => ?_⟩
      · rw [e1]; simp [ptsS, hne]
      · rw [e2, mGet_mPut']
        have ef : cntF (s :: r) x = cntF r x + (if s.1 = x then 1 else 0) := by
          unfold cntF; rw [countP_step]; simp [isNe, hne]
        rw [ef]
        split
        · rename_i hx; rw [hx]; omega
        · omega
      · rw [e3, mGet_mPut']
        have ef : cntT (s :: r) x = cntT r x + (if s.2 = x then 1 else 0) := by
          unfold cntT; rw [countP_step]; simp [isNe, hne]
        rw [ef]
        split
        · rename_i hx; rw [hx]; omega
        · omega
      · rw [zq6z]
        unfold zq6g
        simp only [Int.toNat_natCast, hg]
        refine (c_pos (by omega)).trans ?_
        refine (c_inb (by omega)).trans ?_
        refine (c_neg (by omega)).trans ?_
        refine (c_neg (by omega)).trans ?_
        refine (c_neg (by omega)).trans ?_
        refine (c_room (by simp; omega)).trans ?_
        rw [wr (x := mGet (.int .i64) op s.1 0 + 1) (by omega) (by omega), wr (x := mGet (.int .i64) sh s.2 0 + 1) (by omega) (by omega), ew]
        exact hf k1 k2
    · obtain ⟨at', op', sh', ⟨e1, e2, e3⟩, hf⟩ := ref_coll l hl r (j + 1) N at_ op sh hd' (by omega) hr' (by omega) (fun x => by have := ho x; omega) (fun x => by have := hs x; omega)
      refine ⟨at', op', sh', ⟨?_, fun x => ?_, fun x => ?_⟩, fun k1 k2 => ?_⟩
      · rw [e1]; simp [ptsS, hne]
      · rw [e2]
        have ef : cntF (s :: r) x = cntF r x := by
          unfold cntF; rw [countP_step]; simp [isNe, hne]
        rw [ef]
      · rw [e3]
        have ef : cntT (s :: r) x = cntT r x := by
          unfold cntT; rw [countP_step]; simp [isNe, hne]
        rw [ef]
      · rw [zq6z]
        unfold zq6g
        simp only [Int.toNat_natCast, hg]
        refine (c_pos (by omega)).trans ?_
        refine (c_inb (by omega)).trans ?_
        refine (c_pos (by omega)).trans ?_
        rw [ew]
        exact hf k1 k2

/-! ### The sweep -/
/-- What is known behind the border a. -/
def SweepI (S : List Sp) (a depth : Int) (out : List Sp) : Prop :=
  depth = depthS S a ∧
  (depth = 0 → NFa (-1) out ∧ (∀ x, x ≤ a → (hasS out x ↔ hasS S x)) ∧ ∀ s ∈ out, s.2 ≤ a) ∧
  (0 < depth → ∃ dn st, out = dn ++ [(st, 0)] ∧ 0 ≤ st ∧ st ≤ a ∧ NFa (-1) dn ∧ (∀ s ∈ dn, s.2 < st) ∧ (∀ x, x < st → (hasS dn x ↔ hasS S x)) ∧ ∀ x, st ≤ x → x ≤ a → hasS S x)

/-- What one border makes of the list. -/
def sweepO (before depth p : Int) (out : List Sp) : List Sp :=
  if before = 0 then (if 0 < depth then out ++ [(p, 0)] else out) else (if depth = 0 then out.dropLast ++ [((out.getLastD (0, 0)).1, p)] else out)

theorem hasS_ends {l : List Sp} {a x : Int} (h : ∀ s ∈ l, s.2 ≤ a) (hx : a ≤ x) : ¬ hasS l x := by
  rintro ⟨s, hs, _, h2⟩
  have := h s hs
  omega

theorem sweep_step {S : List Sp} {a p depth : Int} {out : List Sp} (h : SweepI S a depth out) (hap : a < p) (h0 : 0 ≤ p) (hn : ∀ y ∈ ptsS S, ¬ (a < y ∧ y < p)) :
    SweepI S p (depth + (cntF S p - cntT S p)) (sweepO depth (depth + (cntF S p - cntT S p)) p out) ∧ (0 < depth → out ≠ []) := by
  obtain ⟨d1, d2⟩ := depth_step S hap hn
  obtain ⟨i1, i2, i3⟩ := h
  have hdp : depth + (cntF S p - cntT S p) = depthS S p := by rw [i1, d1]
  rw [hdp]
  have hbet : ∀ x, a ≤ x → x < p → (hasS S x ↔ hasS S a) := fun x h1 h2 => by
    rw [← (depth_pos S x).2, ← (depth_pos S a).2, d2 x h1 h2]
  have hda := depth_pos S a
  have hdp' := depth_pos S p
  rw [← i1] at hda
  refine ⟨⟨rfl, ?_, ?_⟩, ?_⟩
  · intro hz
    unfold sweepO
    by_cases hb : depth = 0
    · rw [if_pos hb, if_neg (by omega)]
      obtain ⟨j1, j2, j3⟩ := i2 hb
      refine ⟨j1, fun x hx => ?_, fun s hs => by have := j3 s hs; omega⟩
      by_cases hxa : x ≤ a
      · exact j2 x hxa
      · have : ¬ hasS S x := by
          by_cases hxp : x < p
          · rw [hbet x (by omega) hxp, ← hda.2]; omega
          · have : x = p := by omega
            rw [this, ← hdp'.2]; omega
        exact ⟨fun q => absurd q (hasS_ends j3 (by omega)), fun q => absurd q this⟩
    · rw [if_neg hb, if_pos hz]
      obtain ⟨dn, st, rfl, s0, s1, j1, j2, j3, j4⟩ := i3 (by omega)
      have e1 : (dn ++ [(st, (0 : Int))]).dropLast = dn := by simp
      have e2 : ((dn ++ [(st, (0 : Int))]).getLastD (0, 0)).1 = st := by simp
      rw [e1, e2]
      have hm : NFa (-1) (dn ++ [(st, p)]) := by
        refine NFa.append (b := st - 1) j1 (fun x hx => ?_) ⟨by simp only; omega, by simp only; omega, trivial⟩ (by omega)
        obtain ⟨s, hs, _, h2⟩ := hx
        have := j2 s hs
        omega
      refine ⟨hm, fun x hx => ?_, fun s hs => ?_⟩
      · rw [hasS_append]
        have hone : hasS [(st, p)] x ↔ st ≤ x ∧ x < p := by
          rw [hasS_cons]
          exact ⟨fun q => q.resolve_right hasS_nil, .inl⟩
        rw [hone]
        by_cases hxs : x < st
        · rw [j3 x hxs]
          exact ⟨fun q => q.resolve_right (by omega), .inl⟩
        · have hno : ¬ hasS dn x := fun ⟨s, hs, _, h2⟩ => by have := j2 s hs; omega
          by_cases hxp : x < p
          · have : hasS S x := by
              by_cases hxa : x ≤ a
              · exact j4 x (by omega) hxa
              · rw [hbet x (by omega) hxp]
                exact j4 a (by omega) (Int.le_refl _)
            exact ⟨fun _ => this, fun _ => .inr ⟨by omega, hxp⟩⟩
          · have hxe : x = p := by omega
            have : ¬ hasS S x := by rw [hxe, ← hdp'.2]; omega
            refine ⟨?_, fun q => absurd q this⟩
            rintro (q | q)
            · exact absurd q hno
            · omega
      · rcases List.mem_append.1 hs with q | q
        · have := j2 s q; omega
        · simp only [List.mem_singleton] at q; rw [q]; exact Int.le_refl _
  · intro hpos
    unfold sweepO
    by_cases hb : depth = 0
    · rw [if_pos hb, if_pos hpos]
      obtain ⟨j1, j2, j3⟩ := i2 hb
      refine ⟨out, p, rfl, h0, Int.le_refl _, j1, fun s hs => by have := j3 s hs; omega, fun x hx => ?_, fun x h1 h2 => ?_⟩
      · by_cases hxa : x ≤ a
        · exact j2 x hxa
        · have : ¬ hasS S x := by rw [hbet x (by omega) hx, ← hda.2]; omega
          exact ⟨fun q => absurd q (hasS_ends j3 (by omega)), fun q => absurd q this⟩
      · have : x = p := by omega
        rw [this]
        exact hdp'.2.1 hpos
    · rw [if_neg hb, if_neg (by omega)]
      obtain ⟨dn, st, rfl, s0, s1, j1, j2, j3, j4⟩ := i3 (by omega)
      refine ⟨dn, st, rfl, s0, by omega, j1, j2, j3, fun x h1 h2 => ?_⟩
      by_cases hxa : x ≤ a
      · exact j4 x h1 hxa
      · by_cases hxp : x < p
        · rw [hbet x (by omega) hxp]
          exact j4 a (by omega) (Int.le_refl _)
        · have : x = p := by omega
          rw [this]
          exact hdp'.2.1 hpos
  · intro hpos
    obtain ⟨dn, st, rfl, _⟩ := i3 hpos
    simp

theorem sweepO_len (b d p : Int) (out : List Sp) : (sweepO b d p out).length ≤ out.length + 1 := by
  unfold sweepO
  split <;> split <;> simp <;> omega

theorem ref_sweep {S : List Sp} {at_ : List Int} {op sh : List (Int × Int)} (hS : S.length ≤ 4096) (hat : at_.length ≤ 10000) (hasc : Asc at_) (hp0 : ∀ y ∈ at_, 0 ≤ y) (hpts : ∀ y, y ∈ at_ ↔ y ∈ ptsS S)
    (ho : ∀ x, mGet (.int .i64) op x 0 = cntF S x) (hs : ∀ x, mGet (.int .i64) sh x 0 = cntT S x) : ∀ (r : List Int) (j N : Nat) (a depth : Int) (out : List Sp), at_.drop j = r → r.length < N → SweepI S a depth out → -1 ≤ a → (∀ y ∈ at_, y ≤ a ∨ y ∈ r) → (∀ y ∈ r, a < y) → out.length ≤ j →
    ∃ out', (NFa (-1) out' ∧ (∀ x, hasS out' x ↔ hasS S x)) ∧ ∀ {β : Type} (k1 : zq6c β), zq78 N k1 depth (j : Int) at_ op sh out = k1 out'
  | [], j, 0, _, _, _, _, h, _, _, _, _, _ => absurd h (Nat.not_lt_zero _)
  | _ :: _, j, 0, _, _, _, _, h, _, _, _, _, _ => absurd h (Nat.not_lt_zero _)
  | [], j, N + 1, a, depth, out, hd, h, hI, ha, hin, hgt, hol => by
    have hle : ∀ y ∈ ptsS S, y ≤ a := fun y hy => (hin y ((hpts y).2 hy)).resolve_right (by simp)
    have hno : ∀ x, a ≤ x → ¬ hasS S x := by
      rintro x hx ⟨s, hs1, h1, h2⟩
      have := hle s.2 (mem_pts.2 ⟨s, hs1, by omega, .inr rfl⟩)
      omega
    obtain ⟨i1, i2, i3⟩ := hI
    have hz : depth = 0 := by
      have h1 := depth_pos S a
      have h2 : ¬ 0 < depthS S a := fun q => hno a (Int.le_refl _) (h1.2.1 q)
      omega
    obtain ⟨j1, j2, j3⟩ := i2 hz
    refine ⟨out, ⟨j1, fun x => ?_⟩, fun k1 => ?_⟩
    · by_cases hx : x ≤ a
      · exact j2 x hx
      · exact ⟨fun q => absurd q (hasS_ends j3 (by omega)), fun q => absurd q (hno x (by omega))⟩
    · have : at_.length ≤ j := by simpa using hd
      rw [zq79]
      unfold zq6s
      exact c_neg (by omega)
  | p :: r, j, N + 1, a, depth, out, hd, h, hI, ha, hin, hgt, hol => by
    obtain ⟨hj, hg, hd'⟩ := drop_cons hd (0 : Int)
    simp only [List.length_cons] at h
    have hmem : p ∈ at_ := List.mem_of_mem_drop (by rw [hd]; simp)
    have hpr : ∀ y ∈ r, p < y := by
      have := hasc.sublist (List.drop_sublist j at_)
      rw [hd] at this
      exact (List.pairwise_cons.1 this).1
    have hap : a < p := hgt p (by simp)
    have hbt : ∀ y ∈ ptsS S, ¬ (a < y ∧ y < p) := by
      rintro y hy ⟨h1, h2⟩
      rcases hin y ((hpts y).2 hy) with q | q
      · omega
      · rcases List.mem_cons.1 q with rfl | q
        · omega
        · have := hpr y q; omega
    obtain ⟨hI', hne⟩ := sweep_step hI hap (hp0 p hmem) hbt
    have c1 := cnt_bounds (fun s => isNe s && decide (s.1 = p)) S
    have c2 := cnt_bounds (fun s => isNe s && decide (s.2 = p)) S
    have c1 : 0 ≤ cntF S p ∧ cntF S p ≤ S.length := c1
    have c2 : 0 ≤ cntT S p ∧ cntT S p ≤ S.length := c2
    have hdep : 0 ≤ depth ∧ depth ≤ S.length := by
      rw [hI.1]
      have := depth_pos S a
      have c3 := cnt_bounds (fun s => isNe s && decide (s.1 ≤ a)) S
      have c4 := cnt_bounds (fun s => isNe s && decide (s.2 ≤ a)) S
      have e : depthS S a = ((S.countP fun s => isNe s && decide (s.1 ≤ a) : Nat) : Int) - (S.countP fun s => isNe s && decide (s.2 ≤ a) : Nat) := rfl
      omega
    have hdep' : 0 ≤ depth + (cntF S p - cntT S p) := by rw [hI'.1]; exact (depth_pos S p).1
    obtain ⟨out', hq, hf⟩ := ref_sweep hS hat hasc hp0 hpts ho hs r (j + 1) N p _ _ hd' (by omega) hI' (by omega) (fun y hy => by
      rcases hin y hy with q | q
      · exact .inl (by omega)
      · rcases List.mem_cons.1 q with rfl | q
        · exact .inl (Int.le_refl _)
        · exact .inr q) hpr (by have := sweepO_len depth (depth + (cntF S p - cntT S p)) p out; omega)
    refine ⟨out', hq, fun k1 => ?_⟩
    rw [zq79]
    unfold zq6s
    simp only [Int.toNat_natCast, hg]
    refine (c_pos (by omega)).trans ?_
    refine (c_inb (by omega)).trans ?_
    refine (c_inb (by omega)).trans ?_
    rw [ho p, hs p, wr (x := cntF S p - cntT S p) (by omega) (by omega), wr (x := depth + (cntF S p - cntT S p)) (by omega) (by omega)]
    have ew : IntKind.i64.wrap ((j : Int) + 1) = ((j + 1 : Nat) : Int) := by rw [wr (by omega) (by omega)]; omega
    have hfin : ∀ out2, out2 = sweepO depth (depth + (cntF S p - cntT S p)) p out → zq78 N k1 (depth + (cntF S p - cntT S p)) (IntKind.i64.wrap ((j : Int) + 1)) at_ op sh out2 = k1 out' := by
      intro out2 e
      rw [ew, e]
      exact hf k1
    have p4f : ∀ {β : Type} (k1 : zq68 β) (d b : Int), zq76 k1 d (j : Int) b false at_ op sh out = k1 d (j : Int) b at_ op sh out := fun _ _ _ => rfl
    have p4t : ∀ {β : Type} (k1 : zq68 β) (d b : Int), zq76 k1 d (j : Int) b true at_ op sh out = k1 d (j : Int) b at_ op sh (out ++ [(p, 0)]) := by
      intro β k1 d b
      show zq6p k1 d (j : Int) b true at_ op sh out = _
      unfold zq6p
      refine c_t.trans ?_
      refine (c_inb (by omega)).trans ?_
      simp only [Int.toNat_natCast, hg]
      exact c_room (by simp; omega)
    have p2f : ∀ {β : Type} (k1 : zq60 β) (d : Int) (o : List Sp), zq72 k1 d (j : Int) false at_ op sh o = k1 d (j : Int) at_ op sh o := fun _ _ _ => rfl
    have p2t : ∀ {β : Type} (k1 : zq60 β) (d : Int), out ≠ [] → zq72 k1 d (j : Int) true at_ op sh out = k1 d (j : Int) at_ op sh (out.dropLast ++ [((out.getLastD (0, 0)).1, p)]) := by
      intro β k1 d hno
      show zq6j k1 d (j : Int) true at_ op sh out = _
      unfold zq6j
      refine c_t.trans ?_
      refine (c_inb (by omega)).trans ?_
      simp only [Int.toNat_natCast, hg]
      rcases List.eq_nil_or_concat out with e | ⟨L, y, e⟩
      · exact absurd e hno
      · rw [List.concat_eq_append] at e
        have hlen : out.length = L.length + 1 := by rw [e]; simp
        have e1 : IntKind.i64.wrap ((out.length : Int) - 1) = (L.length : Int) := by
          rw [wr (by omega) (by omega)]; omega
        rw [e1]
        refine (c_inb (by omega)).trans ?_
        simp only [Int.toNat_natCast]
        rw [e]
        simp [List.getD]
    have p3z : ∀ {β : Type} (k1 : zq64 β) (d : Int) (o : List Sp), zq74 k1 d (j : Int) 0 at_ op sh o = k1 d (j : Int) at_ op sh o := by
      intro β k1 d o
      show zq6m zq72 k1 d (j : Int) 0 at_ op sh o = _
      unfold zq6m
      exact c_neg (by omega)
    by_cases hb : depth = 0
    · refine (c_pos hb).trans ?_
      by_cases hd2 : 0 < depth + (cntF S p - cntT S p)
      · rw [decide_eq_true hd2]
        refine (p4t _ _ _).trans ?_
        rw [hb] at hd2 ⊢
        refine (p3z _ _ _).trans ?_
        rw [hb] at hfin
        exact hfin _ (by unfold sweepO; rw [if_pos rfl, if_pos hd2])
      · rw [decide_eq_false hd2]
        refine (p4f _ _ _).trans ?_
        rw [hb] at hd2 ⊢
        refine (p3z _ _ _).trans ?_
        rw [hb] at hfin
        exact hfin _ (by unfold sweepO; rw [if_pos rfl, if_neg hd2])
    · refine (c_neg hb).trans ?_
      refine (p4f _ _ _).trans ?_
      show zq6m zq72 _ _ (j : Int) depth at_ op sh out = _
      unfold zq6m
      refine (c_pos (by omega)).trans ?_
      by_cases hd2 : depth + (cntF S p - cntT S p) = 0
      · rw [decide_eq_true hd2]
        refine (p2t _ _ (hne (by omega))).trans ?_
        exact hfin _ (by unfold sweepO; rw [if_neg hb, if_pos hd2])
      · rw [decide_eq_false hd2]
        refine (p2f _ _ _).trans ?_
        exact hfin _ (by unfold sweepO; rw [if_neg hb, if_neg hd2])

/-- The reference's normal form. -/
theorem ref_normal {l : List Sp} (hl : l.length ≤ 4096) (hr : ∀ s ∈ l, rangeS s) :
    ∃ out, (NFa (-1) out ∧ (∀ x, hasS out x ↔ hasS l x)) ∧ ∀ {β : Type} (k : Int → List Sp → Option β), zq7c l k = k 0 out := by
  have hz : ∀ x : Int, mGet (.int .i64) ([] : List (Int × Int)) x 0 = 0 := fun _ => rfl
  obtain ⟨at_, op, sh, ⟨e1, e2, e3⟩, hf⟩ := ref_coll l hl l 0 fuel [] [] [] rfl (lt_fuel (by omega)) hr (by simp; omega) (fun x => by rw [hz]; omega) (fun x => by rw [hz]; omega)
  simp only [List.nil_append] at e1
  have hlen : ∀ m : List Sp, (ptsS m).length ≤ 2 * m.length := by
    intro m
    induction m with
    | nil => simp [ptsS]
    | cons s m ih =>
      have : ptsS (s :: m) = (if s.1 < s.2 then [s.1, s.2] else []) ++ ptsS m := rfl
      rw [this, List.length_append, List.length_cons]
      split <;> simp <;> omega
  have hat : at_.length ≤ 8192 := by rw [e1]; have := hlen l; omega
  obtain ⟨p, ⟨p1, p2, p3⟩, hs⟩ := srt (l := at_) (by omega)
  have hp2 : ∀ y, y ∈ p ↔ y ∈ ptsS l := fun y => by rw [p2, e1]
  have h0 : ∀ y ∈ ptsS l, 0 ≤ y := by
    intro y hy
    obtain ⟨s, hs, hlt, h⟩ := mem_pts.1 hy
    have := hr s hs hlt
    omega
  have hdz : depthS l (-1) = 0 := by
    have h1 := depth_pos l (-1)
    have h2 : ¬ hasS l (-1) := by
      rintro ⟨s, hs, h3, h4⟩
      have := hr s hs (by omega)
      omega
    have h3 : ¬ 0 < depthS l (-1) := fun q => h2 (h1.2.1 q)
    omega
  have hst : SweepI l (-1) 0 [] := by
    refine ⟨hdz.symm, fun _ => ⟨trivial, fun x hx => ⟨fun q => absurd q hasS_nil, ?_⟩, by simp⟩, fun h => absurd h (by omega)⟩
    rintro ⟨s, hs, h3, h4⟩
    have := hr s hs (by omega)
    omega
  obtain ⟨out, hq, hg⟩ := ref_sweep (S := l) (at_ := p) (op := op) (sh := sh) hl (by omega) p1 (fun y hy => h0 y ((hp2 y).1 hy)) hp2 (fun x => by rw [e2, hz]; omega) (fun x => by rw [e3, hz]; omega) p 0 fuel (-1) 0 [] rfl (lt_fuel (by omega))
    hst (Int.le_refl _) (fun y hy => .inr hy) (fun y hy => by have := h0 y ((hp2 y).1 hy); omega) (by simp)
  refine ⟨out, hq, fun k => ?_⟩
  show zq6v zq4x zq70 zq7a l k = _
  unfold zq6v
  refine (c_neg (by omega)).trans ?_
  refine (hf _ _).trans ?_
  refine (hs _).trans ?_
  exact hg _
end
end Go.Lift

/- The functions of package span in plain Lean. -/
namespace Go.Lift
open Go.RowKit Go.IntWalk
noncomputable section
set_option linter.unusedVariables false
set_option linter.unusedSimpArgs false
set_option maxRecDepth 10000

/-! ### Valid -/
def vB : Int → List Sp → Bool
  | _, [] => true
  | p, s :: l => decide (p < s.1) && (decide (s.1 < s.2) && (decide (s.2 ≤ 8589934592) && vB s.2 l))
theorem vB_iff : ∀ {l : List Sp} {p : Int}, vB p l = true ↔ NFa p l ∧ ∀ s ∈ l, s.2 ≤ 8589934592
  | [], p => by simp [vB, NFa]
  | s :: l, p => by
    simp only [vB, Bool.and_eq_true, decide_eq_true_eq, NFa, List.mem_cons, forall_eq_or_imp, vB_iff (l := l) (p := s.2)]
    constructor
    · rintro ⟨h1, h2, h3, h4, h5⟩
      exact ⟨⟨h1, h2, h4⟩, h3, h5⟩
    · rintro ⟨⟨h1, h2, h4⟩, h3, h5⟩
      exact ⟨h1, h2, h3, h4, h5⟩
def validB (l : List Sp) : Bool := decide (l.length ≤ 4096) && vB (-1) l
structure VS (l : List Sp) : Prop where
  len : l.length ≤ 4096
  nf : NFa (-1) l
  le : ∀ s ∈ l, s.2 ≤ 8589934592
theorem validB_iff {l : List Sp} : validB l = true ↔ VS l := by
  unfold validB
  rw [Bool.and_eq_true, decide_eq_true_eq, vB_iff]
  exact ⟨fun h => ⟨h.1, h.2.1, h.2.2⟩, fun h => ⟨h.len, h.nf, h.le⟩⟩

section
variable {β : Type}

theorem valid_loop (l : List Sp) (hl : l.length ≤ 4096) (k1 : zq16 β) (k2 : zq17 β) : ∀ (r : List Sp) (j N : Nat) (p : Int), l.drop j = r → r.length < N → -1 ≤ p → (j = 0 → p = -1) → (0 < j → p = (l.getD (j - 1) ((0 : Int), (0 : Int))).2) →
    zq1h N k1 k2 l l (l.length : Int) (j : Int) = cond (vB p r) (k2 ()) (k1 false)
  | [], j, 0, _, _, h, _, _, _ => absurd h (Nat.not_lt_zero _)
  | _ :: _, j, 0, _, _, h, _, _, _ => absurd h (Nat.not_lt_zero _)
  | [], j, N + 1, p, hd, h, _, _, _ => by
    have : l.length ≤ j := by simpa using hd
    rw [zq1i]
    unfold zq1b
    exact c_neg (by omega)
  | s :: r, j, N + 1, p, hd, h, hp, hp0, hp1 => by
    obtain ⟨hj, hg, hd'⟩ := drop_cons hd ((0 : Int), (0 : Int))
    simp only [List.length_cons] at h
    have ew : IntKind.i64.wrap ((j : Int) + 1) = ((j + 1 : Nat) : Int) := by rw [wr (by omega) (by omega)]; omega
    rw [zq1i]
    unfold zq1b
    simp only [Int.toNat_natCast, hg]
    refine (c_pos (by omega)).trans ?_
    refine (c_inb (by omega)).trans ?_
    unfold vB
    by_cases h1 : s.1 < 0
    · refine (c_pos h1).trans ?_
      rw [decide_eq_false (show ¬ p < s.1 by omega), Bool.false_and]
      rfl
    refine (c_neg h1).trans ?_
    by_cases h2 : s.2 ≤ s.1
    · refine (c_pos h2).trans ?_
      rw [decide_eq_false (show ¬ s.1 < s.2 by omega), Bool.false_and, Bool.and_false]
      rfl
    refine (c_neg h2).trans ?_
    by_cases h3 : 8589934592 < s.2
    · refine (c_pos h3).trans ?_
      rw [decide_eq_false (show ¬ s.2 ≤ 8589934592 by omega), Bool.false_and, Bool.and_false, Bool.and_false]
      rfl
    refine (c_neg h3).trans ?_
    rw [decide_eq_true (show s.1 < s.2 by omega), decide_eq_true (show s.2 ≤ 8589934592 by omega), Bool.true_and, Bool.true_and]
    have ih := valid_loop l hl k1 k2 r (j + 1) N s.2 hd' (by omega) (by omega) (by omega) (fun _ => by rw [Nat.add_sub_cancel, hg])
    by_cases hj0 : j = 0
    · have := hp0 hj0
      refine (c_neg (by omega)).trans ?_
      rw [decide_eq_true (show p < s.1 by omega), Bool.true_and, ew]
      exact ih
    · refine (c_pos (by omega)).trans ?_
      have e2 : IntKind.i64.wrap ((j : Int) - 1) = ((j - 1 : Nat) : Int) := by rw [wr (by omega) (by omega)]; omega
      rw [e2]
      refine (c_inb (by omega)).trans ?_
      simp only [Int.toNat_natCast]
      have hp2 := hp1 (by omega)
      by_cases h4 : s.1 ≤ p
      · refine (c_pos (by rw [← hp2]; exact h4)).trans ?_
        rw [decide_eq_false (show ¬ p < s.1 by omega), Bool.false_and]
        rfl
      · refine (c_neg (by rw [← hp2]; exact h4)).trans ?_
        rw [decide_eq_true (show p < s.1 by omega), Bool.true_and, ew]
        exact ih

theorem valid_eq (l : List Sp) (k : Bool → Option β) : zq1l l k = k (validB l) := by
  show zq1e zq1j l k = _
  unfold zq1e validB
  by_cases h : l.length ≤ 4096
  · refine (c_neg (by omega)).trans ?_
    rw [decide_eq_true h, Bool.true_and]
    refine (valid_loop l h _ _ l 0 fuel (-1) rfl (lt_fuel (by omega)) (by omega) (fun _ => rfl) (fun h => by omega)).trans ?_
    cases vB (-1) l <;> rfl
  · refine (c_pos (by omega)).trans ?_
    rw [decide_eq_false h, Bool.false_and]

/-! ### Length -/
theorem lengthS_cons (s : Sp) (l : List Sp) : lengthS (s :: l) = (s.2 - s.1) + lengthS l := by simp [lengthS]
theorem length_loop (k1 : zq1p β) (l : List Sp) (hl : l.length ≤ 4096) : ∀ (r : List Sp) (j N : Nat) (n c : Int), l.drop j = r → r.length < N → 0 ≤ n → NFa c r → -1 ≤ c → (∀ s ∈ r, s.2 ≤ 8589934592) → n ≤ 1 + c →
    zq1z N k1 n l (l.length : Int) (j : Int) = k1 (n + lengthS r)
  | [], j, 0, _, _, _, h, _, _, _, _, _ => absurd h (Nat.not_lt_zero _)
  | _ :: _, j, 0, _, _, _, h, _, _, _, _, _ => absurd h (Nat.not_lt_zero _)
  | [], j, N + 1, n, c, hd, h, _, _, _, _, _ => by
    have : l.length ≤ j := by simpa using hd
    rw [zq20]
    unfold zq1t
    refine (c_neg (by omega)).trans ?_
    simp [lengthS]
  | s :: r, j, N + 1, n, c, hd, h, hn0, ⟨q1, q2, q3⟩, hc, hm, hn => by
    obtain ⟨hj, hg, hd'⟩ := drop_cons hd ((0 : Int), (0 : Int))
    simp only [List.length_cons] at h
    have ew : IntKind.i64.wrap ((j : Int) + 1) = ((j + 1 : Nat) : Int) := by rw [wr (by omega) (by omega)]; omega
    have hs := hm s (by simp)
    rw [zq20]
    unfold zq1t
    simp only [Int.toNat_natCast, hg]
    refine (c_pos (by omega)).trans ?_
    refine (c_inb (by omega)).trans ?_
    rw [wr (x := s.2 - s.1) (by omega) (by omega), wr (x := n + (s.2 - s.1)) (by omega) (by omega), ew]
    refine (length_loop k1 l hl r (j + 1) N (n + (s.2 - s.1)) s.2 hd' (by omega) (by omega) q3 (by omega) (fun t ht => hm t (by simp [ht])) (by omega)).trans ?_
    rw [lengthS_cons]
    congr 1
    omega

theorem VS.range {l : List Sp} (h : VS l) : ∀ s ∈ l, 0 ≤ s.1 ∧ s.1 < s.2 ∧ s.2 ≤ 8589934592 := fun s hs => by
  have := h.nf.mem s hs
  have := h.le s hs
  omega

theorem length_eq (l : List Sp) (k : Int → Option β) : zq23 l k = k (if validB l then lengthS l else 0) := by
  show zq1w zq1l zq21 l k = _
  unfold zq1w
  refine (valid_eq l _).trans ?_
  cases hv : validB l with
  | false => rfl
  | true =>
    have h := validB_iff.1 hv
    have hlen := h.len
    have e := length_loop (fun n => k n) l h.len l 0 fuel 0 (-1) rfl (lt_fuel (by omega)) (by omega) h.nf (by omega) h.le (by omega)
    rw [Int.natCast_zero, Int.zero_add] at e
    rw [if_pos rfl]
    refine c_f.trans ?_
    exact e

/-! ### First, Gap, Has -/
theorem gap_loop (x : Int) (k1 : zq5c β) (k2 : zq5d β) (l : List Sp) (hl : l.length ≤ 4096) (hk : ∀ y, k1 y = k2 y) : ∀ (r : List Sp) (j N : Nat), l.drop j = r → r.length < N →
    zq5n N k1 k2 x l (l.length : Int) (j : Int) = k1 (gapS x r)
  | [], j, 0, _, h => absurd h (Nat.not_lt_zero _)
  | _ :: _, j, 0, _, h => absurd h (Nat.not_lt_zero _)
  | [], j, N + 1, hd, h => by
    have : l.length ≤ j := by simpa using hd
    rw [zq5o]
    unfold zq5h
    exact (c_neg (by omega)).trans (hk x).symm
  | s :: r, j, N + 1, hd, h => by
    obtain ⟨hj, hg, hd'⟩ := drop_cons hd ((0 : Int), (0 : Int))
    simp only [List.length_cons] at h
    have ew : IntKind.i64.wrap ((j : Int) + 1) = ((j + 1 : Nat) : Int) := by rw [wr (by omega) (by omega)]; omega
    rw [zq5o]
    unfold zq5h
    simp only [Int.toNat_natCast, hg]
    refine (c_pos (by omega)).trans ?_
    refine (c_inb (by omega)).trans ?_
    unfold gapS
    rw [ew]
    have ih := gap_loop x k1 k2 l hl hk r (j + 1) N hd' (by omega)
    by_cases h1 : s.1 ≤ x
    · refine (c_pos h1).trans ?_
      by_cases h2 : x < s.2
      · refine (c_pos h2).trans ?_
        rw [if_pos ⟨h1, h2⟩]
      · refine (c_neg h2).trans ?_
        rw [if_neg (fun q => h2 q.2)]
        exact ih
    · refine (c_neg h1).trans ?_
      rw [if_neg (fun q => h1 q.1)]
      exact ih

theorem gap_eq (l : List Sp) (x : Int) (k : Int → Option β) : zq5r l x k = k (if validB l then gapS x l else x) := by
  show zq5k zq1l zq5p l x k = _
  unfold zq5k
  refine (valid_eq l _).trans ?_
  cases hv : validB l with
  | false => rfl
  | true =>
    have hlen := (validB_iff.1 hv).len
    have e := gap_loop x (fun y => k y) (fun y => k y) l hlen (fun _ => rfl) l 0 fuel rfl (lt_fuel (by omega))
    rw [Int.natCast_zero] at e
    rw [if_pos rfl]
    refine c_f.trans ?_
    exact e

end

/-! ### Common -/
/-! ### Without -/
theorem cutS_skip {e at_ : Int} (h : at_ < e) : ∀ {p m : List Sp}, (∀ t ∈ p, t.1 < t.2 ∧ t.2 ≤ at_) → cutS e at_ (p ++ m) = cutS e at_ m
  | [], _, _ => rfl
  | t :: p, m, hp => by
    have ht := hp t (by simp)
    have e1 : cutS e at_ ((t :: p) ++ m) = if t.1 < e then restS t.1 at_ ++ cutS e (max at_ t.2) (p ++ m) else restS e at_ := rfl
    rw [e1, if_pos (by omega)]
    have e2 : restS t.1 at_ = [] := by unfold restS; rw [if_neg (by omega)]
    have e3 : max at_ t.2 = at_ := by omega
    rw [e2, e3, List.nil_append]
    exact cutS_skip h fun q hq => hp q (by simp [hq])

section
variable {β : Type}
theorem without_p1 {b : List Sp} (hb : b.length ≤ 10000) (k1 : zq2l β) (t11 : List Sp) (t12 t13 : Int) (out : List Sp) (s s2 : Int) : ∀ (r : List Sp) (j N : Nat), b.drop j = r → r.length < N →
    ∃ j', j ≤ j' ∧ j' ≤ max j b.length ∧ (∀ t ∈ (b.drop j).take (j' - j), t.2 ≤ s) ∧ zq39 N k1 b (j : Int) t11 t12 t13 out s s2 = k1 b (j' : Int) t11 t12 t13 out s s2
  | [], j, 0, _, h => absurd h (Nat.not_lt_zero _)
  | _ :: _, j, 0, _, h => absurd h (Nat.not_lt_zero _)
  | [], j, N + 1, hd, h => by
    have : b.length ≤ j := by simpa using hd
    refine ⟨j, Nat.le_refl _, by omega, by simp, ?_⟩
    rw [zq3a]
    unfold zq2x
    exact c_neg (by omega)
  | t :: r, j, N + 1, hd, h => by
    obtain ⟨hj, hg, hd'⟩ := drop_cons hd ((0 : Int), (0 : Int))
    simp only [List.length_cons] at h
    have ew : IntKind.i64.wrap ((j : Int) + 1) = ((j + 1 : Nat) : Int) := by rw [wr (by omega) (by omega)]; omega
    by_cases hc : t.2 ≤ s
    · obtain ⟨j', h1, h2, h3, h4⟩ := without_p1 hb k1 t11 t12 t13 out s s2 r (j + 1) N hd' (by omega)
      refine ⟨j', by omega, by omega, ?_, ?_⟩
      · intro u hu
        rw [hd] at hu
        have e : j' - j = (j' - (j + 1)) + 1 := by omega
        rw [e, List.take_succ_cons] at hu
        rcases List.mem_cons.1 hu with rfl | hu
        · exact hc
        · exact h3 u (by rw [hd']; exact hu)
      · rw [zq3a]
        unfold zq2x
        simp only [Int.toNat_natCast, hg]
        refine (c_pos (by omega)).trans ?_
        refine (c_inb (by omega)).trans ?_
        refine (c_pos hc).trans ?_
        rw [ew]
        exact h4
    · refine ⟨j, Nat.le_refl _, by omega, by simp, ?_⟩
      rw [zq3a]
      unfold zq2x
      simp only [Int.toNat_natCast, hg]
      refine (c_pos (by omega)).trans ?_
      refine (c_inb (by omega)).trans ?_
      exact c_neg hc

theorem without_p2 {b : List Sp} (hb : b.length ≤ 10000) (k1 : zq2p β) (k_ : Int) (t11 : List Sp) (t12 t13 : Int) (s s2 : Int) : ∀ (r : List Sp) (i N : Nat) (at_ : Int) (out : List Sp), b.drop i = r → r.length < N → out.length + r.length ≤ 1000000000 →
    ∃ at' pre, pre ++ restS s2 at' = cutS s2 at_ r ∧ pre.length ≤ r.length ∧ zq3d N k1 b k_ at_ (i : Int) t11 t12 t13 out s s2 = k1 b k_ at' t11 t12 t13 (out ++ pre) s s2
  | [], j, 0, _, _, _, h, _ => absurd h (Nat.not_lt_zero _)
  | _ :: _, j, 0, _, _, _, h, _ => absurd h (Nat.not_lt_zero _)
  | [], i, N + 1, at_, out, hd, h, ho => by
    have : b.length ≤ i := by simpa using hd
    refine ⟨at_, [], rfl, by simp, ?_⟩
    rw [zq3e]
    unfold zq30
    rw [List.append_nil]
    exact c_neg (by omega)
  | t :: r, i, N + 1, at_, out, hd, h, ho => by
    obtain ⟨hj, hg, hd'⟩ := drop_cons hd ((0 : Int), (0 : Int))
    simp only [List.length_cons] at h ho
    have ew : IntKind.i64.wrap ((i : Int) + 1) = ((i + 1 : Nat) : Int) := by rw [wr (by omega) (by omega)]; omega
    have em : (if t.2 > at_ then t.2 else at_) = max at_ t.2 := by split <;> omega
    have ec : cutS s2 at_ (t :: r) = if t.1 < s2 then restS t.1 at_ ++ cutS s2 (max at_ t.2) r else restS s2 at_ := rfl
    by_cases hc : t.1 < s2
    · rw [ec, if_pos hc]
      by_cases hlt : at_ < t.1
      · obtain ⟨at', pre, h1, h2, h3⟩ := without_p2 hb k1 k_ t11 t12 t13 s s2 r (i + 1) N (max at_ t.2) (out ++ [(at_, t.1)]) hd' (by omega) (by simp; omega)
        refine ⟨at', (at_, t.1) :: pre, ?_, by simp; omega, ?_⟩
        · have : restS t.1 at_ = [(at_, t.1)] := by unfold restS; rw [if_pos hlt]
          rw [this, List.cons_append, h1]; rfl
        · rw [zq3e]
          unfold zq30
          simp only [Int.toNat_natCast, hg, em, ew]
          refine (c_pos (by omega)).trans ?_
          refine (c_inb (by omega)).trans ?_
          refine (c_pos hc).trans ?_
          refine (c_inb (by omega)).trans ?_
          refine (c_pos hlt).trans ?_
          refine (c_inb (by omega)).trans ?_
          refine (c_room (by simp; omega)).trans ?_
          refine (c_inb (by omega)).trans ?_
          rw [h3, List.append_assoc]
          rfl
      · obtain ⟨at', pre, h1, h2, h3⟩ := without_p2 hb k1 k_ t11 t12 t13 s s2 r (i + 1) N (max at_ t.2) out hd' (by omega) (by omega)
        refine ⟨at', pre, ?_, by simp; omega, ?_⟩
        · have : restS t.1 at_ = [] := by unfold restS; rw [if_neg hlt]
          rw [this, h1]; rfl
        · rw [zq3e]
          unfold zq30
          simp only [Int.toNat_natCast, hg, em, ew]
          refine (c_pos (by omega)).trans ?_
          refine (c_inb (by omega)).trans ?_
          refine (c_pos hc).trans ?_
          refine (c_inb (by omega)).trans ?_
          refine (c_neg hlt).trans ?_
          refine (c_inb (by omega)).trans ?_
          exact h3
    · rw [ec, if_neg hc]
      refine ⟨at_, [], rfl, by simp, ?_⟩
      rw [zq3e]
      unfold zq30
      simp only [Int.toNat_natCast, hg]
      rw [List.append_nil]
      refine (c_pos (by omega)).trans ?_
      refine (c_inb (by omega)).trans ?_
      exact c_neg hc

theorem take_add_drop {α : Type} {l : List α} {j j' : Nat} (h : j ≤ j') : l.take j' = l.take j ++ (l.drop j).take (j' - j) := by
  have e : j' = j + (j' - j) := by omega
  rw [e, List.take_add, Nat.add_sub_cancel_left]

theorem without_p3 {a b : List Sp} (ha : a.length ≤ 10000) (hb : b.length ≤ 10000) {ca : Int} (hna : NFa ca a) (hnb : ∀ t ∈ b, t.1 < t.2) (k1 : zq2t β) : ∀ (r : List Sp) (i k N : Nat) (c : Int) (out : List Sp), a.drop i = r → r.length < N → NFa c r → k ≤ b.length → (∀ t ∈ b.take k, t.2 ≤ c) → out.length ≤ i * 10001 →
    zq3h N k1 b (k : Int) a (a.length : Int) (i : Int) out = k1 (out ++ withoutS r b)
  | [], j, _, 0, _, _, _, h, _, _, _, _ => absurd h (Nat.not_lt_zero _)
  | _ :: _, j, _, 0, _, _, _, h, _, _, _, _ => absurd h (Nat.not_lt_zero _)
  | [], i, k, N + 1, c, out, hd, h, hr, hk, ht, ho => by
    have : a.length ≤ i := by simpa using hd
    rw [zq3i]
    unfold zq33
    refine (c_neg (by omega)).trans ?_
    simp [withoutS]
  | s :: r, i, k, N + 1, c, out, hd, h, hr, hk, ht, ho => by
    obtain ⟨hj, hg, hd'⟩ := drop_cons hd ((0 : Int), (0 : Int))
    simp only [List.length_cons] at h
    obtain ⟨r1, r2, r3⟩ := hr
    have ew : IntKind.i64.wrap ((i : Int) + 1) = ((i + 1 : Nat) : Int) := by rw [wr (by omega) (by omega)]; omega
    rw [zq3i]
    unfold zq33
    simp only [Int.toNat_natCast, hg]
    refine (c_pos (by omega)).trans ?_
    refine (c_inb (by omega)).trans ?_
    obtain ⟨k', q1, q2, q3, q4⟩ := without_p1 hb (fun b2 k2 t112 t122 t132 out2 s s2 => zq3f (fun b3 k3 at_ t113 t123 t133 out3 s3 s4 =>
        cond (decide (at_ < s4)) (cond (decide ((out3.length + ([(at_, s4)] : List Sp).length) * 16 ≤ roomMax)) (zq3h N k1 b3 k3 t113 t123 (IntKind.i64.wrap (t133 + 1)) (out3 ++ [(at_, s4)])) none)
          (zq3h N k1 b3 k3 t113 t123 (IntKind.i64.wrap (t133 + 1)) out3)) b2 k2 s k2 t112 t122 t132 out2 s s2) a (a.length : Int) (i : Int) out s.1 s.2 (b.drop k) k fuel rfl (lt_fuel (by simp; omega))
    refine q4.trans ?_
    obtain ⟨at', pre, w1, w2, w3⟩ := without_p2 hb (fun b3 k3 at_ t113 t123 t133 out3 s3 s4 =>
        cond (decide (at_ < s4)) (cond (decide ((out3.length + ([(at_, s4)] : List Sp).length) * 16 ≤ roomMax)) (zq3h N k1 b3 k3 t113 t123 (IntKind.i64.wrap (t133 + 1)) (out3 ++ [(at_, s4)])) none)
          (zq3h N k1 b3 k3 t113 t123 (IntKind.i64.wrap (t133 + 1)) out3)) (k' : Int) a (a.length : Int) (i : Int) s.1 s.2 (b.drop k') k' fuel s.1 out rfl (lt_fuel (by simp; omega)) (by simp; omega)
    refine w3.trans ?_
    have hk' : k' ≤ b.length := by omega
    have htk : ∀ t ∈ b.take k', t.2 ≤ s.1 := by
      intro t hm
      rw [take_add_drop q1] at hm
      rcases List.mem_append.1 hm with hm | hm
      · have := ht t hm; omega
      · exact q3 t hm
    have hcut : cutS s.2 s.1 b = cutS s.2 s.1 (b.drop k') := by
      have e : b = b.take k' ++ b.drop k' := (List.take_append_drop k' b).symm
      have := cutS_skip (e := s.2) (at_ := s.1) r2 (p := b.take k') (m := b.drop k') (fun t hm => ⟨hnb t (List.mem_of_mem_take hm), htk t hm⟩)
      rw [← e] at this
      exact this
    have hwo : withoutS (s :: r) b = cutS s.2 s.1 b ++ withoutS r b := rfl
    rw [hwo, hcut, ← w1]
    have hlp : pre.length ≤ 10000 := by simp at w2; omega
    have ih : ∀ out2, out2.length ≤ (i + 1) * 10001 → zq3h N k1 b (k' : Int) a (a.length : Int) (IntKind.i64.wrap ((i : Int) + 1)) out2 = k1 (out2 ++ withoutS r b) := by
      intro out2 hl2
      rw [ew]
      exact without_p3 ha hb hna hnb k1 r (i + 1) k' N s.2 out2 hd' (by omega) r3 hk' (fun t hm => by have := htk t hm; omega) hl2
    by_cases hlt : at' < s.2
    · refine (c_pos hlt).trans ?_
      refine (c_room (by simp; omega)).trans ?_
      have : restS s.2 at' = [(at', s.2)] := by unfold restS; rw [if_pos hlt]
      rw [this]
      refine (ih _ (by simp; omega)).trans ?_
      simp
    · refine (c_neg hlt).trans ?_
      have : restS s.2 at' = [] := by unfold restS; rw [if_neg hlt]
      rw [this, List.append_nil]
      refine (ih _ (by simp; omega)).trans ?_
      simp

theorem without_eq {a b : List Sp} (ha : a.length ≤ 10000) (hb : b.length ≤ 10000) {ca : Int} (hna : NFa ca a) (hnb : ∀ t ∈ b, t.1 < t.2) (k : List Sp → Option β) : zq3l a b k = k (withoutS a b) := by
  show zq36 zq3j a b k = _
  unfold zq36
  refine (without_p3 ha hb hna hnb _ a 0 0 fuel ca [] rfl (lt_fuel (by omega)) hna (by omega) (by simp) (by simp)).trans ?_
  simp
end
end
end Go.Lift

/- The dice in plain Lean. -/
namespace Go.Lift
open Go.RowKit Go.IntWalk
noncomputable section
set_option linter.unusedVariables false
set_option linter.unusedSimpArgs false

abbrev Dice := List Int × Int
def DiceOk (d : Dice) : Prop := 0 ≤ d.2 ∧ d.2 ≤ d.1.length ∧ d.1.length ≤ 500

theorem light_eq {β : Type} (l : List Int) (k : Bool → Option β) : zq5 l k = k (decide ((l.length : Int) ≤ 500)) := by
  simp only [zq5, zq2]
theorem roll_eq {β : Type} (l : List Int) (k : Dice → Option β) : zqc l k = k (l, 0) := by
  simp only [zqc, zq9]
theorem roll_ok {l : List Int} (h : (l.length : Int) ≤ 500) : DiceOk (l, 0) := ⟨by simp, by simp, by show l.length ≤ 500; omega⟩

theorem next_ok {n : Int} {d : Dice} (hd : DiceOk d) (hn : 1 ≤ n ∧ n ≤ 4611686018427387904) :
    ∃ x d', 0 ≤ x ∧ x < n ∧ DiceOk d' ∧ ∀ {β : Type} (k : Int → Dice → Option β), zq2a n d k = k x d' := by
  obtain ⟨h1, h2, h3⟩ := hd
  by_cases ha : (d.1.length : Int) ≤ d.2
  · exact ⟨0, d, by omega, by omega, ⟨h1, h2, h3⟩, fun k => by simp (disch := omega) only [zq2a, zq27, c_pos]⟩
  · generalize hv : List.getD d.1 (Int.toNat d.2) (0 : Int) = v
    have hm1 := Int.tmod_lt_of_pos v (show 0 < n by omega)
    have hm2 : -n < Int.tmod v n := by
      have h5 := Int.tmod_lt_of_pos (-v) (show 0 < n by omega)
      rw [Int.neg_tmod] at h5
      omega
    have hd' : DiceOk (d.1, d.2 + 1) := ⟨by show (0 : Int) ≤ d.2 + 1; omega, by show d.2 + 1 ≤ (d.1.length : Int); omega, h3⟩
    by_cases hc : Int.tmod v n < 0
    · refine ⟨Int.tmod v n + n, (d.1, d.2 + 1), by omega, by omega, hd', fun k => ?_⟩
      simp (disch := omega) only [zq2a, zq27, hv, c_pos, c_neg, c_inb, c_nneg, i64_in]
    · refine ⟨Int.tmod v n, (d.1, d.2 + 1), by omega, by omega, hd', fun k => ?_⟩
      simp (disch := omega) only [zq2a, zq27, hv, c_pos, c_neg, c_inb, c_nneg, i64_in]

end
end Go.Lift

/- The functions of package span in plain Lean: merging, and what leans on it. -/
namespace Go.Lift
open Go.RowKit Go.IntWalk
noncomputable section
set_option linter.unusedVariables false
set_option linter.unusedSimpArgs false
set_option maxRecDepth 10000

/-! ### The empty spans go -/
theorem mf1_eq {β : Type} (s : Sp) (k : Bool → Option β) : zq58 s k = k (decide (s.2 ≤ s.1)) := rfl

abbrev neS (l : List Sp) : List Sp := l.filter fun s => decide (s.1 < s.2)

theorem idx_loop {β : Type} (k1 : zq8c β) (k2 : zq8d β) (l : List Sp) (hl : l.length ≤ 100000) : ∀ (r : List Sp) (j N : Nat), l.drop j = r → r.length < N → (∀ s ∈ l.take j, s.1 < s.2) →
    ((∀ s ∈ l, s.1 < s.2) ∧ zq8n N k1 k2 l (l.length : Int) (j : Int) = k2 ()) ∨
    (∃ i : Nat, i < l.length ∧ (∀ s ∈ l.take i, s.1 < s.2) ∧ ¬ (l.getD i (0, 0)).1 < (l.getD i (0, 0)).2 ∧ zq8n N k1 k2 l (l.length : Int) (j : Int) = k1 (i : Int))
  | [], j, 0, _, h, _ => absurd h (Nat.not_lt_zero _)
  | _ :: _, j, 0, _, h, _ => absurd h (Nat.not_lt_zero _)
  | [], j, N + 1, hd, h, ht => by
    have : l.length ≤ j := by simpa using hd
    refine .inl ⟨fun s hs => ht s (by rw [List.take_of_length_le this]; exact hs), ?_⟩
    rw [zq8o]
    unfold zq8h
    exact c_neg (by omega)
  | s :: r, j, N + 1, hd, h, ht => by
    obtain ⟨hj, hg, hd'⟩ := drop_cons hd ((0 : Int), (0 : Int))
    simp only [List.length_cons] at h
    have ew : IntKind.i64.wrap ((j : Int) + 1) = ((j + 1 : Nat) : Int) := by rw [wr (by omega) (by omega)]; omega
    have hstep : zq8n (N + 1) k1 k2 l (l.length : Int) (j : Int) = cond (decide (s.2 ≤ s.1)) (k1 (j : Int)) (zq8n N k1 k2 l (l.length : Int) ((j + 1 : Nat) : Int)) := by
      rw [zq8o]
      unfold zq8h
      simp only [Int.toNat_natCast, hg, ew]
      refine (c_pos (by omega)).trans ?_
      refine (c_inb (by omega)).trans ?_
      exact mf1_eq _ _
    rw [hstep]
    by_cases hc : s.2 ≤ s.1
    · exact .inr ⟨j, hj, ht, by rw [hg]; omega, c_pos hc⟩
    · have ht' : ∀ t ∈ l.take (j + 1), t.1 < t.2 := by
        intro t hm
        rw [List.take_add_one] at hm
        have e : l[j]? = some s := by rw [← hg]; simp [List.getD, hj]
        rw [e] at hm
        rcases List.mem_append.1 hm with hm | hm
        · exact ht t hm
        · simp only [Option.toList, List.mem_singleton] at hm
          rw [hm]; omega
      rcases idx_loop k1 k2 l hl r (j + 1) N hd' (by omega) ht' with ⟨q1, q2⟩ | ⟨i, q1, q2, q3, q4⟩
      · exact .inl ⟨q1, (c_neg hc).trans q2⟩
      · exact .inr ⟨i, q1, q2, q3, (c_neg hc).trans q4⟩

theorem filter_all {l : List Sp} (h : ∀ s ∈ l, s.1 < s.2) : neS l = l := List.filter_eq_self.2 fun s hs => decide_eq_true (h s hs)

theorem neS_one (l : List Sp) (x : Sp) : neS (l ++ [x]) = if x.1 < x.2 then neS l ++ [x] else neS l := by
  unfold neS
  rw [List.filter_append]
  by_cases h : x.1 < x.2 <;> simp [h]

theorem idx_loop0 {β : Type} (k1 : zq8c β) (k2 : zq8d β) (l : List Sp) (hl : l.length ≤ 100000) :
    ((∀ s ∈ l, s.1 < s.2) ∧ zq8p k1 k2 l (l.length : Int) 0 = k2 ()) ∨
    (∃ i : Nat, i < l.length ∧ (∀ s ∈ l.take i, s.1 < s.2) ∧ ¬ (l.getD i (0, 0)).1 < (l.getD i (0, 0)).2 ∧ zq8p k1 k2 l (l.length : Int) 0 = k1 (i : Int)) := by
  have h := idx_loop k1 k2 l hl l 0 fuel rfl (lt_fuel (by omega)) (by simp)
  rw [Int.natCast_zero] at h
  exact h

theorem del_loop (l : List Sp) (hl : l.length ≤ 100000) : ∀ (r : List Sp) (i j N : Nat) (s : List Sp), l.drop j = r → r.length < N → s.length = l.length → i < j → j ≤ l.length → s.take i = neS (l.take j) → s.drop j = r →
    ∃ i' s', s'.length = l.length ∧ i' ≤ l.length ∧ s'.take i' = neS l ∧ ∀ {β : Type} (k1 : zq8v β), zq95 N k1 (i : Int) (j : Int) s = k1 (i' : Int) s'
  | [], i, j, 0, _, _, h, _, _, _, _, _ => absurd h (Nat.not_lt_zero _)
  | _ :: _, i, j, 0, _, _, h, _, _, _, _, _ => absurd h (Nat.not_lt_zero _)
  | [], i, j, N + 1, s, hd, h, hs, hij, hjl, ht, hdr => by
    have : l.length ≤ j := by simpa using hd
    refine ⟨i, s, hs, by omega, by rw [ht, List.take_of_length_le this], fun k1 => ?_⟩
    rw [zq96]
    unfold zq8z
    exact c_neg (by omega)
  | x :: r, i, j, N + 1, s, hd, h, hs, hij, hjl, ht, hdr => by
    obtain ⟨hj, hg, hd'⟩ := drop_cons hd ((0 : Int), (0 : Int))
    obtain ⟨hj2, hg2, hd2⟩ := drop_cons hdr ((0 : Int), (0 : Int))
    simp only [List.length_cons] at h
    have ew : IntKind.i64.wrap ((j : Int) + 1) = ((j + 1 : Nat) : Int) := by rw [wr (by omega) (by omega)]; omega
    have ewi : IntKind.i64.wrap ((i : Int) + 1) = ((i + 1 : Nat) : Int) := by rw [wr (by omega) (by omega)]; omega
    have et : l.take (j + 1) = l.take j ++ [x] := by
      rw [List.take_add_one]
      have e : l[j]? = some x := by rw [← hg]; simp [List.getD, hj]
      rw [e]; rfl
    have hstep : ∀ {β : Type} (k1 : zq8v β), zq95 (N + 1) k1 (i : Int) (j : Int) s =
        cond (!decide (x.2 ≤ x.1)) (zq95 N k1 ((i + 1 : Nat) : Int) ((j + 1 : Nat) : Int) (s.set i x)) (zq95 N k1 (i : Int) ((j + 1 : Nat) : Int) s) := by
      intro β k1
      rw [zq96]
      unfold zq8z
      simp only [Int.toNat_natCast, hg2, ew, ewi]
      refine (c_pos (by omega)).trans ?_
      refine (c_inb (by omega)).trans ?_
      refine (mf1_eq _ _).trans ?_
      by_cases hc : x.2 ≤ x.1
      · rw [decide_eq_true hc]; rfl
      · rw [decide_eq_false hc]
        exact c_inb (by omega)
    by_cases hc : x.2 ≤ x.1
    · obtain ⟨i', s', q1, q2, q3, q4⟩ := del_loop l hl r i (j + 1) N s hd' (by omega) hs (by omega) (by omega) (by
        rw [ht, et, neS_one, if_neg (by omega)]) hd2
      exact ⟨i', s', q1, q2, q3, fun k1 => (hstep k1).trans ((c_npos hc).trans (q4 k1))⟩
    · obtain ⟨i', s', q1, q2, q3, q4⟩ := del_loop l hl r (i + 1) (j + 1) N (s.set i x) hd' (by omega) (by simpa using hs) (by omega) (by omega) (by
        have hi : i < s.length := by omega
        rw [et, neS_one, if_pos (by omega), ← ht]
        have e : (s.set i x).take (i + 1) = s.take i ++ [x] := by
          rw [List.take_add_one, List.take_set, List.getElem?_set_self hi]
          rw [List.set_eq_of_length_le (by simp; omega)]
          rfl
        exact e) (by rw [List.drop_set_of_lt (by omega)]; exact hd2)
      exact ⟨i', s', q1, q2, q3, fun k1 => (hstep k1).trans ((c_nneg hc).trans (q4 k1))⟩

theorem del_out {β : Type} (k : List Sp → Option β) {i : Nat} {s : List Sp} (h : i ≤ s.length) :
    cond (decide (0 ≤ (i : Int)) && (decide ((i : Int) ≤ (s.length : Int)) && decide ((s.length : Int) ≤ (s.length : Int))))
      (let l : List Sp := s.take (Int.toNat (i : Int)) ++ (List.replicate (s.length - Int.toNat (i : Int)) ((0 : Int), (0 : Int)) ++ s.drop s.length);
        cond (decide (0 ≤ (i : Int)) && decide ((i : Int) ≤ (l.length : Int))) (let l2 : List Sp := l.take (Int.toNat (i : Int)); k l2) none) none = k (s.take i) := by
  have e : Int.toNat (i : Int) = i := Int.toNat_natCast i
  rw [e, decide_eq_true (by omega : (0 : Int) ≤ (i : Int)), decide_eq_true (by omega : (i : Int) ≤ (s.length : Int)), decide_eq_true (by omega : (s.length : Int) ≤ (s.length : Int))]
  refine c_t.trans ?_
  have hlen : (s.take i ++ (List.replicate (s.length - i) ((0 : Int), (0 : Int)) ++ s.drop s.length)).length = s.length := by simp; omega
  show cond (true && decide ((i : Int) ≤ ((s.take i ++ (List.replicate (s.length - i) ((0 : Int), (0 : Int)) ++ s.drop s.length)).length : Int))) (k ((s.take i ++ (List.replicate (s.length - i) ((0 : Int), (0 : Int)) ++ s.drop s.length)).take i)) none = _
  rw [hlen, decide_eq_true (by omega : (i : Int) ≤ (s.length : Int))]
  refine c_t.trans ?_
  have e3 : (s.take i ++ (List.replicate (s.length - i) ((0 : Int), (0 : Int)) ++ s.drop s.length)).take i = s.take i := by
    rw [List.take_append_of_le_length (by simp; omega), List.take_take, Nat.min_self]
  rw [e3]

theorem del_eq {l : List Sp} (hl : l.length ≤ 100000) {β : Type} (k : List Sp → Option β) : zq99 l k = k (neS l) := by
  show zq92 zq8r zq97 l k = _
  unfold zq92
  show zq8k zq8p l _ = _
  unfold zq8k
  rcases idx_loop0 _ _ l hl with ⟨q1, q2⟩ | ⟨i, q1, q2, q3, q4⟩
  · refine q2.trans ?_
    refine (c_pos rfl).trans ?_
    rw [filter_all q1]
  · refine q4.trans ?_
    refine (c_neg (by omega)).trans ?_
    have ewi : IntKind.i64.wrap ((i : Int) + 1) = ((i + 1 : Nat) : Int) := by rw [wr (by omega) (by omega)]; omega
    have hg : l[i]? = some (l.getD i (0, 0)) := by simp [List.getD, q1]
    obtain ⟨i', s', p1, p2, p3, p4⟩ := del_loop l hl (l.drop (i + 1)) i (i + 1) fuel l rfl (lt_fuel (by simp; omega)) rfl (by omega) (by omega) (by
        rw [List.take_add_one, hg]
        show _ = neS (l.take i ++ [l.getD i (0, 0)])
        rw [neS_one, if_neg q3, filter_all q2]) rfl
    rw [ewi]
    refine (p4 _).trans ?_
    rw [← p3]
    exact del_out k (by omega)

theorem del_run {l : List Sp} (hl : l.length ≤ 100000) : zq9b l = true ∧ zq9c l = neS l := by
  have h := del_eq hl (some : List Sp → Option (List Sp))
  unfold zq9b zq9c
  rw [h]
  exact ⟨rfl, rfl⟩

/-! ### Merging -/
theorem mp1 {β : Type} (k1 : zq9q β) (n t14 t15 : Int) (b : Bool) (out : List Sp) (s s2 : Int) (t13 : List Sp) : zqa7 k1 n t14 t15 b out s s2 t13 = zq9y k1 n t14 t15 b out s s2 t13 := rfl

theorem merge_loop {β : Type} (k1 : zq9u β) (l : List Sp) (hl : l.length ≤ 100000) : ∀ (r : List Sp) (j N : Nat) (pre : List Sp) (c : Sp), l.drop j = r → r.length < N → pre.length < j →
    zqa9 N k1 (l.length : Int) (j : Int) (pre ++ [c]) l = k1 (pre ++ mergeS c r)
  | [], j, 0, _, _, _, h, _ => absurd h (Nat.not_lt_zero _)
  | _ :: _, j, 0, _, _, _, h, _ => absurd h (Nat.not_lt_zero _)
  | [], j, N + 1, pre, c, hd, h, hp => by
    have : l.length ≤ j := by simpa using hd
    rw [zqaa]
    unfold zqa1
    exact c_neg (by omega)
  | s :: r, j, N + 1, pre, c, hd, h, hp => by
    obtain ⟨hj, hg, hd'⟩ := drop_cons hd ((0 : Int), (0 : Int))
    simp only [List.length_cons] at h
    have ew : IntKind.i64.wrap ((j : Int) + 1) = ((j + 1 : Nat) : Int) := by rw [wr (by omega) (by omega)]; omega
    have hlen : (pre ++ [c]).length = pre.length + 1 := by simp
    have e1 : IntKind.i64.wrap (((pre ++ [c]).length : Int) - 1) = (pre.length : Int) := by rw [wr (by omega) (by omega)]; omega
    have e2 : (pre ++ [c]).getD pre.length ((0 : Int), (0 : Int)) = c := by simp [List.getD]
    rw [zqaa]
    unfold zqa1
    simp only [Int.toNat_natCast, hg, e1, e2, ew]
    refine (c_pos (by omega)).trans ?_
    refine (c_inb (by omega)).trans ?_
    refine (c_pos (by omega)).trans ?_
    refine (c_inb (by omega)).trans ?_
    by_cases hc : s.1 ≤ c.2
    · rw [decide_eq_true hc]
      refine (mp1 _ _ _ _ _ _ _ _ _).trans ?_
      unfold zq9y
      simp only [Int.toNat_natCast, e1, e2, ew]
      refine c_t.trans ?_
      refine (c_inb (by omega)).trans ?_
      refine (c_inb (by omega)).trans ?_
      have em : (if s.2 > c.2 then s.2 else c.2) = max c.2 s.2 := by split <;> omega
      have es : (pre ++ [c]).set pre.length (c.1, max c.2 s.2) = pre ++ [(c.1, max c.2 s.2)] := by
        simp [List.set_append]
      rw [em, es]
      have e3 : mergeS c (s :: r) = mergeS (c.1, max c.2 s.2) r := by
        show (if s.1 ≤ c.2 then mergeS (c.1, max c.2 s.2) r else c :: mergeS s r) = _
        rw [if_pos hc]
      rw [e3]
      exact merge_loop k1 l hl r (j + 1) N pre (c.1, max c.2 s.2) hd' (by omega) (by omega)
    · rw [decide_eq_false hc]
      refine (mp1 _ _ _ _ _ _ _ _ _).trans ?_
      unfold zq9y
      refine c_f.trans ?_
      refine (c_room (by simp; omega)).trans ?_
      simp only [ew]
      have e3 : mergeS c (s :: r) = c :: mergeS s r := by
        show (if s.1 ≤ c.2 then mergeS (c.1, max c.2 s.2) r else c :: mergeS s r) = _
        rw [if_neg hc]
      rw [e3]
      refine (merge_loop k1 l hl r (j + 1) N (pre ++ [c]) s hd' (by omega) (by simp; omega)).trans ?_
      simp

theorem merge_all {β : Type} (k1 : zq9u β) (l : List Sp) (hl : l.length ≤ 100000) : zqab k1 (l.length : Int) 0 [] l = k1 (mergeAll l) := by
  show zqa9 fuel k1 (l.length : Int) 0 [] l = _
  obtain ⟨N, hN⟩ : ∃ N, fuel = N + 1 := ⟨18446744073709551615, rfl⟩
  rw [hN, zqaa]
  unfold zqa1
  cases l with
  | nil => exact c_neg (by simp)
  | cons s r =>
    simp only [List.length_cons] at hl
    have hg : (s :: r).getD (Int.toNat 0) ((0 : Int), (0 : Int)) = s := rfl
    simp only [hg]
    refine (c_pos (by simp only [List.length_cons]; omega)).trans ?_
    refine (c_inb (by simp only [List.length_cons]; omega)).trans ?_
    refine (c_neg (by simp)).trans ?_
    refine (mp1 _ _ _ _ _ _ _ _ _).trans ?_
    unfold zq9y
    refine c_f.trans ?_
    refine (c_room (by simp)).trans ?_
    have ew : IntKind.i64.wrap ((0 : Int) + 1) = ((1 : Nat) : Int) := by rw [wr (by omega) (by omega)]; rfl
    simp only [ew]
    have hN2 : (s :: r).length ≤ N := by
      have : fuel = 18446744073709551616 := rfl
      simp only [List.length_cons]; omega
    exact merge_loop k1 (s :: r) (by simp; omega) r 1 N [] s rfl (by simp only [List.length_cons] at hN2; omega) (by simp)

/-- What Merge makes of any spans that lie in a range. -/
theorem merge_eq {l : List Sp} (hl : l.length ≤ 50000) (hr : ∀ s ∈ l, s.1 < s.2 → 0 ≤ s.1 ∧ s.1 ≤ 4611686018427387904) :
    ∃ out, (NFa (-1) out ∧ (∀ x, hasS out x ↔ hasS l x)) ∧ ∀ {β : Type} (k : List Sp → Option β), zqad l k = k out := by
  have hgood : ∀ s ∈ neS l, zq9h s = true := by
    intro s hs
    obtain ⟨h1, h2⟩ := List.mem_filter.1 hs
    obtain ⟨h3, h4⟩ := hr s h1 (of_decide_eq_true h2)
    show (decide (0 ≤ s.1) && decide (s.1 ≤ 4611686018427387904)) = true
    rw [decide_eq_true h3, decide_eq_true h4]; rfl
  obtain ⟨hp, hsd⟩ := sortRun_good (good := zq9h) (d0 := ((0, 0) : Int × Int)) (h0 := rfl) (cf := zq9i) zq9l hgood
  have hlen : (zq9j (neS l)).length ≤ l.length := by
    show (sortRun zq9h ((0, 0) : Int × Int) rfl zq9i (neS l)).length ≤ _
    rw [hp.length_eq]
    exact List.length_filter_le _ _
  have hpw : (zq9j (neS l)).Pairwise (fun s t => s.1 ≤ t.1) := by
    rw [List.pairwise_iff_getElem]
    intro i j hi hj hij
    have hj' : j < (neS l).length := by
      have : (zq9j (neS l)).length = (neS l).length := hp.length_eq
      omega
    have h1 := hsd i j hij hj'
    have e : ∀ q, (hq : q < (zq9j (neS l)).length) → (sortRun zq9h ((0, 0) : Int × Int) rfl zq9i (neS l)).getD q ((0, 0) : Int × Int) = (zq9j (neS l))[q] := by
      intro q hq
      have hq' : q < (sortRun zq9h ((0, 0) : Int × Int) rfl zq9i (neS l)).length := hq
      simp [List.getD, hq']
      rfl
    rw [e i hi, e j hj] at h1
    have h2 : ¬ ((zq9j (neS l))[j].1 - (zq9j (neS l))[i].1 < 0) := h1
    omega
  obtain ⟨n1, n2⟩ := norm_ok (l := l) (m := zq9j (neS l)) (a := -1) hp hpw (fun s hs hlt => by have := hr s hs hlt; omega)
  refine ⟨mergeAll (zq9j (neS l)), ⟨n2, n1⟩, fun k => ?_⟩
  obtain ⟨d1, d2⟩ := del_run (l := l) (by omega)
  show zqa4 zq51 zqab l k = _
  unfold zqa4
  show cond (decide (l.length * 16 ≤ roomMax)) _ none = _
  refine (c_room (by omega)).trans ?_
  show cond (zq9b l) _ none = _
  rw [d1]
  refine c_t.trans ?_
  simp only [d2]
  have t1 : ((neS l).all zq9h && decide ((neS l).length < 4611686018427387904)) = true := by
    have h1 : (neS l).length ≤ l.length := List.length_filter_le _ _
    rw [List.all_eq_true.2 hgood, decide_eq_true (show (neS l).length < 4611686018427387904 by omega)]; rfl
  rw [t1]
  refine c_t.trans ?_
  exact merge_all _ _ (by omega)
end
end Go.Lift

/- The functions of package span in plain Lean: sets and what is made of two of them. -/
namespace Go.Lift
open Go.RowKit Go.IntWalk
noncomputable section
set_option linter.unusedVariables false
set_option linter.unusedSimpArgs false
set_option maxRecDepth 10000

/-! ### Normal -/
def badB (s : Sp) : Bool := decide (s.1 < s.2) && (decide (s.1 < 0) || decide (8589934592 < s.2))
theorem badB_no {s : Sp} (h : badB s = false) : rangeS s := by
  intro hlt
  unfold badB at h
  rw [decide_eq_true hlt, Bool.true_and, Bool.or_eq_false_iff] at h
  have := of_decide_eq_false h.1
  have := of_decide_eq_false h.2
  omega
theorem norm_loop {β : Type} (k1 : zqah β) (k2 : zqai β) (l : List Sp) (hl : l.length ≤ 4096) : ∀ (r : List Sp) (j N : Nat), l.drop j = r → r.length < N →
    zqas N k1 k2 l l (l.length : Int) (j : Int) = cond (r.any badB) (k1 1 []) (k2 l)
  | [], j, 0, _, h => absurd h (Nat.not_lt_zero _)
  | _ :: _, j, 0, _, h => absurd h (Nat.not_lt_zero _)
  | [], j, N + 1, hd, h => by
    have : l.length ≤ j := by simpa using hd
    rw [zqat]
    unfold zqam
    exact c_neg (by omega)
  | s :: r, j, N + 1, hd, h => by
    obtain ⟨hj, hg, hd'⟩ := drop_cons hd ((0 : Int), (0 : Int))
    simp only [List.length_cons] at h
    have ew : IntKind.i64.wrap ((j : Int) + 1) = ((j + 1 : Nat) : Int) := by rw [wr (by omega) (by omega)]; omega
    have ih := norm_loop k1 k2 l hl r (j + 1) N hd' (by omega)
    rw [zqat]
    unfold zqam
    simp only [Int.toNat_natCast, hg, ew]
    refine (c_pos (by omega)).trans ?_
    refine (c_inb (by omega)).trans ?_
    have e : (s :: r).any badB = (badB s || r.any badB) := rfl
    rw [e]
    unfold badB
    by_cases h1 : s.1 < s.2
    · refine (c_pos h1).trans ?_
      rw [decide_eq_true h1, Bool.true_and]
      by_cases h2 : s.1 < 0
      · refine (c_pos h2).trans ?_
        rw [decide_eq_true h2]; rfl
      · refine (c_neg h2).trans ?_
        rw [decide_eq_false h2, Bool.false_or]
        by_cases h3 : 8589934592 < s.2
        · refine (c_pos h3).trans ?_
          rw [decide_eq_true h3]; rfl
        · refine (c_neg h3).trans ?_
          rw [decide_eq_false h3, Bool.false_or]
          exact ih
    · refine (c_neg h1).trans ?_
      rw [decide_eq_false h1, Bool.false_and, Bool.false_or]
      exact ih

theorem normal_s {β : Type} (l : List Sp) (k : Int → List Sp → Option β) : zqaw l k = cond (decide (4096 < l.length)) (k 5 []) (cond (l.any badB) (k 1 []) (zqad l (fun r => k 0 r))) := by
  show zqap zqad zqau l k = _
  unfold zqap
  by_cases h : 4096 < l.length
  · refine (c_pos (by omega)).trans ?_
    exact (c_pos h).symm
  · refine (c_neg (by omega)).trans ?_
    refine Eq.trans ?_ (c_neg h).symm
    have e := norm_loop (fun (t3 : Int) (t2 : List Sp) => k t3 t2) (fun l2 => zqad l2 (fun r => k 0 r)) l (by omega) l 0 fuel rfl (lt_fuel (by omega))
    rw [Int.natCast_zero] at e
    exact e

theorem normal_ok {l : List Sp} (hl : l.length ≤ 4096) (hr : ∀ s ∈ l, badB s = false) :
    ∃ out, (NFa (-1) out ∧ (∀ x, hasS out x ↔ hasS l x)) ∧ ∀ {β : Type} (k : Int → List Sp → Option β), zqaw l k = k 0 out := by
  obtain ⟨out, h, hf⟩ := merge_eq (l := l) (by omega) (fun s hs hlt => by have := badB_no (hr s hs) hlt; omega)
  refine ⟨out, h, fun k => ?_⟩
  rw [normal_s, decide_eq_false (by omega)]
  refine c_f.trans ?_
  rw [List.any_eq_false.2 (fun s hs => by rw [hr s hs]; simp)]
  refine c_f.trans ?_
  exact hf _

/-! ### Two lists as one -/
/-! ### What is made of two sets -/
theorem minus_ok {a b : List Sp} (ha : VS a) (hb : VS b) :
    ∃ out, (NFa (-1) out ∧ (∀ x, hasS out x ↔ hasS a x ∧ ¬ hasS b x)) ∧ ∀ {β : Type} (k : Int → List Sp → Option β), zq88 a b k = cond (decide (4096 < out.length)) (k 5 []) (k 0 out) := by
  have la := ha.len
  have lb := hb.len
  obtain ⟨h1, h2⟩ := withoutS_ok hb.nf a (-1) ha.nf
  refine ⟨withoutS a b, ⟨h2, h1⟩, fun k => ?_⟩
  show zq85 zq7j a b k = _
  unfold zq85
  show zq7g zq1l zq3l a b _ = _
  unfold zq7g
  refine (valid_eq a _).trans ?_
  rw [validB_iff.2 ha]
  refine c_f.trans ?_
  refine (valid_eq b _).trans ?_
  rw [validB_iff.2 hb]
  refine c_f.trans ?_
  refine (without_eq (by omega) (by omega) ha.nf (fun t ht => (hb.range t ht).2.1) _).trans ?_
  generalize withoutS a b = out
  have : decide ((4096 : Int) < (out.length : Int)) = decide (4096 < out.length) := by
    by_cases h : 4096 < out.length
    · rw [decide_eq_true h, decide_eq_true (by omega)]
    · rw [decide_eq_false h, decide_eq_false (by omega)]
  rw [← this]

/-! ### Equal lists -/
theorem same_loop {β : Type} (k1 : zqn β) (k2 : zqo β) (l : List Sp) (hl : l.length ≤ 100000) : ∀ (r : List Sp) (j N : Nat), l.drop j = r → r.length < N →
    zqy N k1 k2 l l (l.length : Int) (j : Int) = k2 ()
  | [], j, 0, _, h => absurd h (Nat.not_lt_zero _)
  | _ :: _, j, 0, _, h => absurd h (Nat.not_lt_zero _)
  | [], j, N + 1, hd, h => by
    have : l.length ≤ j := by simpa using hd
    rw [zqz]
    unfold zqs
    exact c_neg (by omega)
  | s :: r, j, N + 1, hd, h => by
    obtain ⟨hj, hg, hd'⟩ := drop_cons hd ((0 : Int), (0 : Int))
    simp only [List.length_cons] at h
    have ew : IntKind.i64.wrap ((j : Int) + 1) = ((j + 1 : Nat) : Int) := by rw [wr (by omega) (by omega)]; omega
    rw [zqz]
    unfold zqs
    simp only [Int.toNat_natCast, hg, ew]
    refine (c_pos (by omega)).trans ?_
    refine (c_inb (by omega)).trans ?_
    refine (c_inb (by omega)).trans ?_
    have hb : (!(decide True && (decide True && true))) = false := rfl
    rw [hb]
    refine c_f.trans ?_
    exact same_loop k1 k2 l hl r (j + 1) N hd' (by omega)

theorem same_eq {a b : List Sp} (hl : a.length ≤ 100000) (h : a = b) {β : Type} (k : Bool → Option β) : zq12 a b k = k true := by
  subst h
  show zqv zq10 a a k = _
  unfold zqv
  refine (c_npos rfl).trans ?_
  have e := same_loop (fun b => k b) (fun _ => k true) a hl a 0 fuel rfl (lt_fuel (by omega))
  rw [Int.natCast_zero] at e
  exact e

/-! ### Sets of small numbers -/
structure S80 (l : List Sp) : Prop where
  nf : NFa (-1) l
  le : ∀ s ∈ l, s.2 ≤ 80
theorem nf_len {M : Int} : ∀ {l : List Sp} {a : Int}, NFa a l → (∀ s ∈ l, s.2 ≤ M) → a ≤ M → 2 * (l.length : Int) ≤ M - a
  | [], a, _, _, h => by simp; omega
  | s :: l, a, ⟨h1, h2, h3⟩, hm, h => by
    have := nf_len h3 (fun t ht => hm t (by simp [ht])) (hm s (by simp))
    simp only [List.length_cons]
    omega
theorem S80.len {l : List Sp} (h : S80 l) : l.length ≤ 40 := by
  have := nf_len h.nf h.le (by omega)
  omega
theorem S80.lt {l : List Sp} (h : S80 l) {x : Int} (hx : hasS l x) : 0 ≤ x ∧ x < 80 := by
  have := h.nf.lt hx
  obtain ⟨s, hs, h1, h2⟩ := hx
  have := h.le s hs
  omega
theorem S80.of {l : List Sp} (h : NFa (-1) l) (hx : ∀ x, hasS l x → x < 80) : S80 l := ⟨h, below_of_has h hx⟩

/-! ### A set made by the dice -/
theorem set_loop {d : Dice} : ∀ (i N : Nat) (d : Dice) (l : List Sp), i < N → DiceOk d → (∀ s ∈ l, 0 ≤ s.1 ∧ s.1 < s.2 ∧ s.2 ≤ 80) → l.length + i ≤ 100 →
    ∃ d' l', (DiceOk d' ∧ (∀ s ∈ l', 0 ≤ s.1 ∧ s.1 < s.2 ∧ s.2 ≤ 80) ∧ l'.length ≤ l.length + i) ∧ ∀ {β : Type} (k1 : zq7n β), zq7x N k1 (i : Int) d.1 d.2 l = k1 d'.1 d'.2 l'
  | i, 0, _, _, h, _, _, _ => absurd h (Nat.not_lt_zero _)
  | 0, N + 1, d, l, h, hd, hl, hlen => by
    refine ⟨d, l, ⟨hd, hl, by omega⟩, fun k1 => ?_⟩
    rw [zq7y]
    unfold zq7r
    exact c_neg (by omega)
  | i + 1, N + 1, d, l, h, hd, hl, hlen => by
    obtain ⟨x, d1, x0, x1, hd1, f1⟩ := next_ok (n := 60) hd (by omega)
    obtain ⟨y, d2, y0, y1, hd2, f2⟩ := next_ok (n := 9) hd1 (by omega)
    have ew : IntKind.i64.wrap (((i + 1 : Nat) : Int) - 1) = (i : Int) := by rw [wr (by omega) (by omega)]; omega
    have e1 : IntKind.i64.wrap (x + y) = x + y := wr (by omega) (by omega)
    have e2 : IntKind.i64.wrap (x + y - 1) = x + y - 1 := wr (by omega) (by omega)
    have hsp : ∀ {β : Type} (k : Sp → Dice → Option β), zq2h d k = k (x, x + y - 1) d2 := by
      intro β k
      show zq2e zq2a d k = _
      unfold zq2e
      refine (f1 _).trans ?_
      refine (f2 _).trans ?_
      rw [e1, e2]
    by_cases hc : x < x + y - 1
    · obtain ⟨d', l', hq, hf⟩ := set_loop (d := d) i N d2 (l ++ [(x, x + y - 1)]) (by omega) hd2 (by
        intro s hs
        rcases List.mem_append.1 hs with q | q
        · exact hl s q
        · simp only [List.mem_singleton] at q
          rw [q]
          simp only
          omega) (by simp; omega)
      refine ⟨d', l', ⟨hq.1, hq.2.1, by have := hq.2.2; simp at this; omega⟩, fun k1 => ?_⟩
      rw [zq7y]
      unfold zq7r
      refine (c_pos (by omega)).trans ?_
      refine (hsp _).trans ?_
      refine (c_pos hc).trans ?_
      refine (c_room (by simp; omega)).trans ?_
      rw [ew]
      exact hf k1
    · obtain ⟨d', l', hq, hf⟩ := set_loop (d := d) i N d2 l (by omega) hd2 hl (by omega)
      refine ⟨d', l', ⟨hq.1, hq.2.1, by have := hq.2.2; omega⟩, fun k1 => ?_⟩
      rw [zq7y]
      unfold zq7r
      refine (c_pos (by omega)).trans ?_
      refine (hsp _).trans ?_
      refine (c_neg hc).trans ?_
      rw [ew]
      exact hf k1

theorem set_ok {d : Dice} (hd : DiceOk d) : ∃ s d', (S80 s ∧ DiceOk d') ∧ ∀ {β : Type} (k : Dice → List Sp → Option β), zq81 d k = k d' s := by
  obtain ⟨n, d1, n0, n1, hd1, f1⟩ := next_ok (n := 7) hd (by omega)
  obtain ⟨d2, l, ⟨hd2, hl, hlen⟩, f2⟩ := set_loop (d := d) n.toNat fuel d1 [] (lt_fuel (by omega)) hd1 (by simp) (by simp; omega)
  have hn : ((n.toNat : Nat) : Int) = n := Int.toNat_of_nonneg n0
  rw [hn] at f2
  simp only [List.length_nil, Nat.zero_add] at hlen
  obtain ⟨out, ⟨h1, h2⟩, f3⟩ := ref_normal (l := l) (by omega) (fun s hs _ => by have := hl s hs; omega)
  refine ⟨out, d2, ⟨S80.of h1 fun x hx => ?_, hd2⟩, fun k => ?_⟩
  · obtain ⟨s, hs, _, h4⟩ := (h2 x).1 hx
    have := hl s hs
    omega
  · show zq7u zq2a zq7c zq7z d k = _
    unfold zq7u
    refine (f1 _).trans ?_
    refine (f2 _).trans ?_
    exact f3 _

/-! ### The example -/
theorem sane03 {β : Type} (k : Bool → Option β) : zqb3 k = k true := by
  obtain ⟨n, ⟨n1, n2⟩, f1⟩ := normal_ok (l := [(5, 9), (1, 3), (3, 4), (7, 6)]) (by simp) (by
    intro s hs
    simp only [List.mem_cons, List.not_mem_nil, or_false] at hs
    rcases hs with rfl | rfl | rfl | rfl <;> rfl)
  have hn : n = [(1, 4), (5, 9)] := by
    refine n1.uniq (b := -1) ⟨by decide, by decide, by decide, by decide, trivial⟩ fun x => ?_
    rw [n2]
    simp only [hasS_cons, hasS_nil, or_false]
    omega
  have v1 : VS [(0, 10)] := ⟨by simp, ⟨by decide, by decide, trivial⟩, by simp⟩
  have v2 : VS [(2, 3), (5, 20)] := ⟨by simp, ⟨by decide, by decide, by decide, by decide, trivial⟩, by simp⟩
  obtain ⟨m, ⟨m1, m2⟩, f2⟩ := minus_ok v1 v2
  have hm : m = [(0, 2), (3, 5)] := by
    refine m1.uniq (b := -1) ⟨by decide, by decide, by decide, by decide, trivial⟩ fun x => ?_
    rw [m2]
    simp only [hasS_cons, hasS_nil, or_false]
    omega
  subst hn hm
  show zqb0 zq12 zq5r zq88 zqaw k = _
  unfold zqb0
  refine (f1 _).trans ?_
  refine (f2 _).trans ?_
  refine (c_neg (by simp)).trans ?_
  refine (c_pos rfl).trans ?_
  refine (c_pos rfl).trans ?_
  refine (same_eq (by simp) rfl _).trans ?_
  refine c_t.trans ?_
  refine (same_eq (by simp) rfl _).trans ?_
  refine c_t.trans ?_
  refine (gap_eq _ _ _).trans ?_
  rw [validB_iff.2 v1, if_pos rfl]
  rfl
end
end Go.Lift

/- SpanLaws and SpanForms in plain Lean. -/
namespace Go.Lift
open Go.RowKit Go.IntWalk
noncomputable section
set_option linter.unusedVariables false
set_option linter.unusedSimpArgs false
set_option maxRecDepth 10000

/-! ### SpanForms -/
theorem mod_eq {x n : Int} (hn : 1 ≤ n ∧ n ≤ 4611686018427387904) : ∃ r, (0 ≤ r ∧ r < n) ∧ ∀ {β : Type} (k : Int → Option β), zqj x n k = k r := by
  have h1 := Int.tmod_lt_of_pos x (show 0 < n by omega)
  have h2 : -n < Int.tmod x n := by
    have h5 := Int.tmod_lt_of_pos (-x) (show 0 < n by omega)
    rw [Int.neg_tmod] at h5
    omega
  have hw : IntKind.i64.wrap (Int.tmod x n + n) = Int.tmod x n + n := wr (by omega) (by omega)
  refine ⟨Int.tmod (Int.tmod x n + n) n, ⟨Int.tmod_nonneg _ (by omega), Int.tmod_lt_of_pos _ (by omega)⟩, fun k => ?_⟩
  show zqg x n k = _
  unfold zqg
  rw [hw]
  refine (c_nneg (by omega)).trans ?_
  exact c_nneg (by omega)

theorem forms_loop {cut : Int} {a : List Sp} (ha : S80 a) : ∀ (i N : Nat) (l : List Sp), i < N → i ≤ a.length → (∀ x, hasS l x ↔ hasS (a.drop i) x) → (∀ s ∈ l, badB s = false) → l.length + 3 * i ≤ 1000 →
    ∃ l', ((∀ x, hasS l' x ↔ hasS a x) ∧ (∀ s ∈ l', badB s = false) ∧ l'.length ≤ 1000) ∧ ∀ {β : Type} (k1 : zqb7 β), zqbh N k1 cut ((i : Int) - 1) a l = k1 a l'
  | i, 0, _, h, _, _, _, _ => absurd h (Nat.not_lt_zero _)
  | 0, N + 1, l, h, hi, hh, hb, hlen => by
    refine ⟨l, ⟨fun x => by rw [hh]; rfl, hb, by omega⟩, fun k1 => ?_⟩
    rw [zqbi]
    unfold zqbb
    exact c_neg (by omega)
  | i + 1, N + 1, l, h, hi, hh, hb, hlen => by
    have hia : i < a.length := by omega
    have e1 : (((i + 1 : Nat) : Int) - 1) = (i : Int) := by omega
    have hg : a.getD i ((0 : Int), (0 : Int)) = a[i] := by simp [List.getD, hia]
    have hm : a[i] ∈ a := List.getElem_mem hia
    have r1 := ha.nf.mem _ hm
    have r2 := ha.le _ hm
    have hdr : a.drop i = a[i] :: a.drop (i + 1) := List.drop_eq_getElem_cons hia
    generalize a[i] = s at *
    obtain ⟨r, ⟨r0, r3⟩, fm⟩ := mod_eq (x := cut) (n := 1 + s.2 - s.1) (by omega)
    have t1 := Int.tmod_lt_of_pos cut (show (0 : Int) < 50 by omega)
    have t2 : -50 < Int.tmod cut 50 := by
      have h5 := Int.tmod_lt_of_pos (-cut) (show (0 : Int) < 50 by omega)
      rw [Int.neg_tmod] at h5
      omega
    have w0 : IntKind.i64.wrap (1 + s.2) = 1 + s.2 := wr (by omega) (by omega)
    have w1 : IntKind.i64.wrap (1 + s.2 - s.1) = 1 + s.2 - s.1 := wr (by omega) (by omega)
    have w2 : IntKind.i64.wrap (s.1 + r) = s.1 + r := wr (by omega) (by omega)
    have w3 : IntKind.i64.wrap (Int.tmod cut 50 - 1) = Int.tmod cut 50 - 1 := wr (by omega) (by omega)
    have w4 : IntKind.i64.wrap ((i : Int) - 1) = (i : Int) - 1 := wr (by omega) (by omega)
    obtain ⟨l', hq, hf⟩ := forms_loop (cut := cut) ha i N (l ++ [(s.1 + r, s.2), (s.1, s.1 + r), (Int.tmod cut 50, Int.tmod cut 50 - 1)]) (by omega) (by omega) (fun x => by
        rw [hasS_append, hh, hdr, hasS_cons, hasS_cons, hasS_cons, hasS_cons]
        have : ¬ hasS [] x := hasS_nil
        simp only [this, or_false]
        constructor
        · rintro (q | q | q | q)
          · exact .inr q
          · exact .inl (by omega)
          · exact .inl (by omega)
          · omega
        · rintro (q | q)
          · exact .inr (by omega)
          · exact .inl q) (fun u hu => by
        rcases List.mem_append.1 hu with q | q
        · exact hb u q
        · simp only [List.mem_cons, List.not_mem_nil, or_false] at q
          unfold badB
          rcases q with rfl | rfl | rfl
          · simp only
            rw [decide_eq_false (show ¬ s.1 + r < 0 by omega), decide_eq_false (show ¬ 8589934592 < s.2 by omega)]; simp
          · simp only
            rw [decide_eq_false (show ¬ s.1 < 0 by omega), decide_eq_false (show ¬ 8589934592 < s.1 + r by omega)]; simp
          · simp only
            rw [decide_eq_false (show ¬ Int.tmod cut 50 < Int.tmod cut 50 - 1 by omega)]; rfl) (by simp; omega)
    refine ⟨l', hq, fun k1 => ?_⟩
    rw [zqbi]
    unfold zqbb
    rw [e1]
    simp only [Int.toNat_natCast, hg, w0, w1, w3, w4]
    refine (c_pos (by omega)).trans ?_
    refine (c_inb (by omega)).trans ?_
    refine (c_inb (by omega)).trans ?_
    refine (c_inb (by omega)).trans ?_
    refine (fm _).trans ?_
    simp only [w2]
    refine (c_inb (by omega)).trans ?_
    refine (c_inb (by omega)).trans ?_
    refine (c_nneg (by omega)).trans ?_
    refine (c_nneg (by omega)).trans ?_
    refine (c_room (by simp; omega)).trans ?_
    exact hf k1

theorem spanForms (t : List Int) (cut : Int) {β : Type} (k : Bool → Option β) : zqbl t cut k = k true := by
  show zqbe zq12 zqb3 zq81 zq5 zqc zqaw zqbj t cut k = _
  unfold zqbe
  refine (light_eq _ _).trans ?_
  by_cases hl : (t.length : Int) ≤ 500
  · refine (c_npos hl).trans ?_
    refine (roll_eq _ _).trans ?_
    obtain ⟨a, d1, ⟨ha, hd1⟩, f1⟩ := set_ok (roll_ok hl)
    have hlen := ha.len
    refine (f1 _).trans ?_
    have hdn : ∀ x, hasS [] x ↔ hasS (a.drop a.length) x := fun x => by rw [List.drop_length]
    obtain ⟨l, ⟨l1, l2, l3⟩, f2⟩ := forms_loop (cut := cut) ha a.length fuel [] (lt_fuel (by omega)) (Nat.le_refl _) hdn (by simp) (by simp; omega)
    rw [wr (x := (a.length : Int) - 1) (by omega) (by omega)]
    refine (f2 _).trans ?_
    obtain ⟨x, ⟨x1, x2⟩, f3⟩ := normal_ok (l := l) (by omega) l2
    obtain ⟨y, ⟨y1, y2⟩, f4⟩ := normal_ok (l := a) (by omega) (fun s hs => by
      have r1 := ha.nf.mem _ hs
      have r2 := ha.le _ hs
      unfold badB
      rw [decide_eq_false (show ¬ s.1 < 0 by omega), decide_eq_false (show ¬ 8589934592 < s.2 by omega)]; simp)
    have q1 : x = a := x1.uniq ha.nf fun n => by rw [x2, l1]
    have q2 : y = a := y1.uniq ha.nf y2
    refine (f3 _).trans ?_
    refine (f4 _).trans ?_
    refine (c_pos rfl).trans ?_
    refine (c_pos rfl).trans ?_
    refine (same_eq (by rw [q1]; omega) q1 _).trans ?_
    refine c_t.trans ?_
    refine (same_eq (by rw [q2]; omega) q2 _).trans ?_
    refine c_t.trans ?_
    exact sane03 _
  · refine (c_nneg hl).trans ?_
    exact sane03 _
end
end Go.Lift

