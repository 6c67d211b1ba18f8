/- Part4: Fn0, LBase, LSpanMath, LSpanLen, LSpanMore, LSpanSort, LSpanRef, LSpanFn, LDice, LSpanFn2, LSpanFn3, LSpanLaws, LSpanPoints. -/
import Derived.Test.YtijaefnfpfnbnaaProg
import Derived.Test.YtijaefnfpfnbnaaPart3
namespace Go.Lift
open Go.Proofs
noncomputable section
set_option maxRecDepth 100000
set_option linter.unusedVariables false



def tab : List (Nat × TI) := [
  (3, ⟨false, 1, 8, [.int .i64 (0 : Int)], [], none, none, (some (.int .i64)), (some .i64), false, false, none, none⟩),
  (22, ⟨false, 1, 24, [.nils], [], (some 3), none, (some (.slice (.int .i64))), none, false, false, none, none⟩),
  (27, ⟨false, 1, 24, [.nils], [], (some 30), none, (some (.slice (.prod (.int .i64) (.int .i64)))), none, false, false, none, none⟩),
  (30, ⟨true, 2, 16, [.int .i64 (0 : Int), .int .i64 (0 : Int)], [(0, 1, false), (1, 1, false)], none, none, (some (.prod (.int .i64) (.int .i64))), none, false, false, (some [.i, .i]), none⟩),
  (51, ⟨true, 2, 32, [.nils, .int .i64 (0 : Int)], [(0, 1, false), (1, 1, false)], none, none, (some (.prod (.slice (.int .i64)) (.int .i64))), none, false, false, none, none⟩),
  (59, ⟨false, 1, 8, [.junk], [], none, none, none, none, false, false, none, (some (3, 3))⟩)]

theorem tab_ok : TOk Try.prog (look tab) := TOk_of (by kernel_rfl)
theorem mixed : Try.prog.follows .mixedOrders = true := by kernel_rfl

/-- pagewatch/pagewatchmade.Light -/
abbrev zq0 := {β : Type} → (List Int) → (Bool → Option β) → Option β
def zq1 (c : zq0) : Spec :=
  ⟨[(false, [.data (.slice (.int .i64))])], [], [(false, [.data .bool])], [], fun x k => c x.1.1.1 (fun r0 => k (((r0, ()), ()), ()))⟩
section
@[reducible] def made_Light_X : Ctx := ⟨look tab, pick1 [], false, false⟩
def zq2 {β : Type} (l : List Int) (k : (Bool → Option β)) : Option β :=
  let t : Bool := (decide ((List.length l : Int) ≤ (500 : Int)));
  k t
theorem zq3 (hΓ : ΓOk Try.prog made_Light_X.Γ) : SpecOk Try.prog 8 (zq1 (zq2)) :=
  spec_exec (X := made_Light_X) (Λ := pick1 []) (rs := [.tmp 2]) (c := bodyOf Try.f8) mixed tab_ok hΓ Try.func8 (by kernel_rfl) (by kernel_rfl) (by kernel_rfl) (by kernel_rfl) CutsOk_nil (fun x k r h => Eq.trans (b := (zq1 (zq2)).run x k) (by kernel_rfl) h)
end
theorem zq4Γ : ΓOk Try.prog (pick1 []) := ΓOk_nil
def zq5 : zq0 := zq2
theorem zq6 : SpecOk Try.prog 8 (zq1 zq5) := zq3 zq4Γ

/-- pagewatch/pagewatchmade.Roll -/
abbrev zq7 := {β : Type} → (List Int) → ((List Int × Int) → Option β) → Option β
def zq8 (c : zq7) : Spec :=
  ⟨[(false, [.data (.slice (.int .i64))])], [], [(false, [.ptr 0 0])], [.cells 51 [.data (.prod (.slice (.int .i64)) (.int .i64))]], fun x k => c x.1.1.1 (fun r0 => k (((), ()), ((r0, ()), ())))⟩
section
@[reducible] def made_Roll_X : Ctx := ⟨look tab, pick1 [], false, false⟩
def zq9 {β : Type} (l : List Int) (k : ((List Int × Int) → Option β)) : Option β :=
  k (l, (0 : Int))
theorem zqa (hΓ : ΓOk Try.prog made_Roll_X.Γ) : SpecOk Try.prog 10 (zq8 (zq9)) :=
  spec_exec (X := made_Roll_X) (Λ := pick1 []) (rs := [.tmp 2]) (c := bodyOf Try.f10) mixed tab_ok hΓ Try.func10 (by kernel_rfl) (by kernel_rfl) (by kernel_rfl) (by kernel_rfl) CutsOk_nil (fun x k r h => Eq.trans (b := (zq8 (zq9)).run x k) (by kernel_rfl) h)
end
theorem zqbΓ : ΓOk Try.prog (pick1 []) := ΓOk_nil
def zqc : zq7 := zq9
theorem zqd : SpecOk Try.prog 10 (zq8 zqc) := zqa zqbΓ

/-- pagewatch/pagewatchmade.Mod -/
abbrev zqe := {β : Type} → Int → Int → (Int → Option β) → Option β
def zqf (c : zqe) : Spec :=
  ⟨[(false, [.data (.int .i64)]), (false, [.data (.int .i64)])], [], [(false, [.data (.int .i64)])], [], fun x k => c x.1.1.1 x.1.2.1.1 (fun r0 => k (((r0, ()), ()), ()))⟩
section
@[reducible] def made_Mod_X : Ctx := ⟨look tab, pick1 [], false, false⟩
def zqg {β : Type} (x : Int) (n : Int) (k : (Int → Option β)) : Option β :=
  cond (!decide (n = 0))
  (cond (!decide (n = 0))
  (let t : Int := (Int.tmod (IntKind.i64.wrap ((Int.tmod x n) + n)) n);
  k t)
  none)
  none
theorem zqh (hΓ : ΓOk Try.prog made_Mod_X.Γ) : SpecOk Try.prog 12 (zqf (zqg)) :=
  spec_exec (X := made_Mod_X) (Λ := pick1 []) (rs := [.tmp 4]) (c := bodyOf Try.f12) mixed tab_ok hΓ Try.func12 (by kernel_rfl) (by kernel_rfl) (by kernel_rfl) (by kernel_rfl) CutsOk_nil (fun x k r h => Eq.trans (b := (zqf (zqg)).run x k) (by kernel_rfl) h)
end
theorem zqiΓ : ΓOk Try.prog (pick1 []) := ΓOk_nil
def zqj : zqe := zqg
theorem zqk : SpecOk Try.prog 12 (zqf zqj) := zqh zqiΓ

/-- pagewatch/pagewatchlaw03.same -/
abbrev zql := {β : Type} → (List (Int × Int)) → (List (Int × Int)) → (Bool → Option β) → Option β
def zqm (c : zql) : Spec :=
  ⟨[(false, [.data (.slice (.prod (.int .i64) (.int .i64)))]), (false, [.data (.slice (.prod (.int .i64) (.int .i64)))])], [], [(false, [.data .bool])], [], fun x k => c x.1.1.1 x.1.2.1.1 (fun r0 => k (((r0, ()), ()), ()))⟩
noncomputable def law03_same_p1_code : Code := codeAt 58 (bodyOf Try.f14)
abbrev zqn (β : Type) := Bool → Option β
abbrev zqo (β : Type) := Unit → Option β
abbrev zqp := {β : Type} → zqn β → zqo β → (List (Int × Int)) → (List (Int × Int)) → Int → Int → Option β
def zqq : View := ⟨0, [0, 1, 12, 13], [(false, [.data (.slice (.prod (.int .i64) (.int .i64)))]), (false, [.data (.slice (.prod (.int .i64) (.int .i64)))]), (false, [.data (.int .i64)]), (false, [.data (.int .i64)])], []⟩
def zqr : List (AExit × View) := [(.ret, ⟨0, [4], [(false, [.data .bool])], []⟩), (.exit 0, ⟨0, [], [], []⟩)]
@[reducible] def law03_same_p1_G (p : zqp) {β : Type} (d : zqq.den) (ks : Outs.K β zqr) : Option β :=
  p (fun a0 => ks.1 (((a0, ()), ()), ())) (fun _ => ks.2.1 ((), ())) d.1.1.1 d.1.2.1.1 d.1.2.2.1.1 d.1.2.2.2.1.1
section
@[reducible] def law03_same_X : Ctx := ⟨look tab, pick1 [], false, false⟩
def zqs {β : Type} (rec : (List (Int × Int)) → (List (Int × Int)) → Int → Int → Option β) (k1 : zqn β) (k2 : zqo β) (a : List (Int × Int)) (b : List (Int × Int)) (t12 : Int) (t13 : Int) : Option β :=
  cond (decide (t13 < t12))
  (cond (decide (0 ≤ t13) && decide (t13 < (List.length a : Int)))
  (let e : (Int × Int) := List.getD a (Int.toNat t13) ((0 : Int), (0 : Int));
  cond (decide (0 ≤ t13) && decide (t13 < (List.length b : Int)))
  (let e2 : (Int × Int) := List.getD b (Int.toNat t13) ((0 : Int), (0 : Int));
  cond (!(decide (e.1 = e2.1) && (decide (e.2 = e2.2) && true)))
  (k1 false)
  (rec a b t12 (IntKind.i64.wrap (t13 + (1 : Int)))))
  none)
  none)
  (k2 ())
def zqt {β : Type} : Nat → zqn β → zqo β → (List (Int × Int)) → (List (Int × Int)) → Int → Int → Option β
  | 0 => fun _ _ _ _ _ _ => none
  | i + 1 => fun k1 k2 a b t12 t13 => zqs (zqt i k1 k2) k1 k2 a b t12 t13
theorem zqu (hΓ : ΓOk Try.prog law03_same_X.Γ) (i : Nat) : PieceOk Try.prog 26 0 law03_same_p1_code zqq zqr (law03_same_p1_G (zqt i)) := by
  rw [show law03_same_p1_code = .loop (loopBody law03_same_p1_code) by kernel_rfl]
  exact piece_loop (X := law03_same_X) (p := 1) (Λ := pick1 []) (G := fun i => @fun β d ks => law03_same_p1_G (zqt i) d ks) mixed tab_ok hΓ rfl (by kernel_rfl) CutsOk_nil (fun _ _ => rfl) (fun i => @fun β d ks r h => Eq.trans (b := law03_same_p1_G (zqt (i + 1)) d ks) (by kernel_rfl) h) i
def zqv (p1 : zqp) {β : Type} (a : List (Int × Int)) (b : List (Int × Int)) (k : (Bool → Option β)) : Option β :=
  cond (!decide ((List.length a : Int) = (List.length b : Int)))
  (k false)
  (p1 (fun (t4 : Bool) =>
  k t4) (fun (_ : Unit) =>
  k true) a b (List.length a : Int) (0 : Int))
theorem zqw (hΓ : ΓOk Try.prog law03_same_X.Γ) (p1 : zqp) (hp1 : PieceOk Try.prog 26 0 law03_same_p1_code zqq zqr (law03_same_p1_G p1)) : SpecOk Try.prog 14 (zqm (zqv p1)) :=
  spec_exec (X := law03_same_X) (Λ := pick1 [(58, pieceCut zqq zqr (law03_same_p1_G p1))]) (rs := [.tmp 4]) (c := bodyOf Try.f14) mixed tab_ok hΓ Try.func14 (by kernel_rfl) (by kernel_rfl) (by kernel_rfl) (by kernel_rfl) (CutsOk_cons (q := 58) (c' := law03_same_p1_code) (by kernel_rfl) rfl hp1 CutsOk_nil) (fun x k r h => Eq.trans (b := (zqm (zqv p1)).run x k) (by kernel_rfl) h)
end
theorem zqxΓ : ΓOk Try.prog (pick1 []) := ΓOk_nil
def zqy (m : Nat) : zqp := zqt m
theorem zqz {β : Type} (i : Nat) (k1 k2 a b t12 t13) : (zqy (i + 1) k1 k2 a b t12 t13 : Option β) = zqs (zqy i k1 k2) k1 k2 a b t12 t13 := rfl
def zq10 : zqp := zqy fuel
theorem zq11 : PieceOk Try.prog 26 0 law03_same_p1_code zqq zqr (law03_same_p1_G zq10) := zqu zqxΓ fuel
def zq12 : zql := zqv zq10
theorem zq13 : SpecOk Try.prog 14 (zqm zq12) := zqw zqxΓ zq10 zq11

/-- pagewatch/span.Valid -/
abbrev zq14 := {β : Type} → (List (Int × Int)) → (Bool → Option β) → Option β
def zq15 (c : zq14) : Spec :=
  ⟨[(false, [.data (.slice (.prod (.int .i64) (.int .i64)))])], [], [(false, [.data .bool])], [], fun x k => c x.1.1.1 (fun r0 => k (((r0, ()), ()), ()))⟩
noncomputable def span_Valid_p1_code : Code := codeAt 58 (bodyOf Try.f22)
abbrev zq16 (β : Type) := Bool → Option β
abbrev zq17 (β : Type) := Unit → Option β
abbrev zq18 := {β : Type} → zq16 β → zq17 β → (List (Int × Int)) → (List (Int × Int)) → Int → Int → Option β
def zq19 : View := ⟨0, [0, 8, 9, 10], [(false, [.data (.slice (.prod (.int .i64) (.int .i64)))]), (false, [.data (.slice (.prod (.int .i64) (.int .i64)))]), (false, [.data (.int .i64)]), (false, [.data (.int .i64)])], []⟩
def zq1a : List (AExit × View) := [(.ret, ⟨0, [2], [(false, [.data .bool])], []⟩), (.exit 0, ⟨0, [], [], []⟩)]
@[reducible] def span_Valid_p1_G (p : zq18) {β : Type} (d : zq19.den) (ks : Outs.K β zq1a) : Option β :=
  p (fun a0 => ks.1 (((a0, ()), ()), ())) (fun _ => ks.2.1 ((), ())) d.1.1.1 d.1.2.1.1 d.1.2.2.1.1 d.1.2.2.2.1.1
section
@[reducible] def span_Valid_X : Ctx := ⟨look tab, pick1 [], false, false⟩
def zq1b {β : Type} (rec : (List (Int × Int)) → (List (Int × Int)) → Int → Int → Option β) (k1 : zq16 β) (k2 : zq17 β) (l : List (Int × Int)) (t8 : List (Int × Int)) (t9 : Int) (t10 : Int) : Option β :=
  cond (decide (t10 < t9))
  (cond (decide (0 ≤ t10) && decide (t10 < (List.length t8 : Int)))
  (let e : (Int × Int) := List.getD t8 (Int.toNat t10) ((0 : Int), (0 : Int));
  cond (decide (e.1 < (0 : Int)))
  (k1 false)
  (cond (decide (e.2 ≤ e.1))
  (k1 false)
  (cond (decide ((8589934592 : Int) < e.2))
  (k1 false)
  (cond (decide ((0 : Int) < t10))
  (cond (decide (0 ≤ (IntKind.i64.wrap (t10 - (1 : Int)))) && decide ((IntKind.i64.wrap (t10 - (1 : Int))) < (List.length l : Int)))
  (let e2 : (Int × Int) := List.getD l (Int.toNat (IntKind.i64.wrap (t10 - (1 : Int)))) ((0 : Int), (0 : Int));
  cond (decide (e.1 ≤ e2.2))
  (k1 false)
  (rec l t8 t9 (IntKind.i64.wrap (t10 + (1 : Int)))))
  none)
  (rec l t8 t9 (IntKind.i64.wrap (t10 + (1 : Int))))))))
  none)
  (k2 ())
def zq1c {β : Type} : Nat → zq16 β → zq17 β → (List (Int × Int)) → (List (Int × Int)) → Int → Int → Option β
  | 0 => fun _ _ _ _ _ _ => none
  | i + 1 => fun k1 k2 l t8 t9 t10 => zq1b (zq1c i k1 k2) k1 k2 l t8 t9 t10
theorem zq1d (hΓ : ΓOk Try.prog span_Valid_X.Γ) (i : Nat) : PieceOk Try.prog 46 0 span_Valid_p1_code zq19 zq1a (span_Valid_p1_G (zq1c i)) := by
  rw [show span_Valid_p1_code = .loop (loopBody span_Valid_p1_code) by kernel_rfl]
  exact piece_loop (X := span_Valid_X) (p := 1) (Λ := pick1 []) (G := fun i => @fun β d ks => span_Valid_p1_G (zq1c i) d ks) mixed tab_ok hΓ rfl (by kernel_rfl) CutsOk_nil (fun _ _ => rfl) (fun i => @fun β d ks r h => Eq.trans (b := span_Valid_p1_G (zq1c (i + 1)) d ks) (by kernel_rfl) h) i
def zq1e (p1 : zq18) {β : Type} (l : List (Int × Int)) (k : (Bool → Option β)) : Option β :=
  cond (decide ((4096 : Int) < (List.length l : Int)))
  (k false)
  (p1 (fun (t2 : Bool) =>
  k t2) (fun (_ : Unit) =>
  k true) l l (List.length l : Int) (0 : Int))
theorem zq1f (hΓ : ΓOk Try.prog span_Valid_X.Γ) (p1 : zq18) (hp1 : PieceOk Try.prog 46 0 span_Valid_p1_code zq19 zq1a (span_Valid_p1_G p1)) : SpecOk Try.prog 22 (zq15 (zq1e p1)) :=
  spec_exec (X := span_Valid_X) (Λ := pick1 [(58, pieceCut zq19 zq1a (span_Valid_p1_G p1))]) (rs := [.tmp 2]) (c := bodyOf Try.f22) mixed tab_ok hΓ Try.func22 (by kernel_rfl) (by kernel_rfl) (by kernel_rfl) (by kernel_rfl) (CutsOk_cons (q := 58) (c' := span_Valid_p1_code) (by kernel_rfl) rfl hp1 CutsOk_nil) (fun x k r h => Eq.trans (b := (zq15 (zq1e p1)).run x k) (by kernel_rfl) h)
end
theorem zq1gΓ : ΓOk Try.prog (pick1 []) := ΓOk_nil
def zq1h (m : Nat) : zq18 := zq1c m
theorem zq1i {β : Type} (i : Nat) (k1 k2 l t8 t9 t10) : (zq1h (i + 1) k1 k2 l t8 t9 t10 : Option β) = zq1b (zq1h i k1 k2) k1 k2 l t8 t9 t10 := rfl
def zq1j : zq18 := zq1h fuel
theorem zq1k : PieceOk Try.prog 46 0 span_Valid_p1_code zq19 zq1a (span_Valid_p1_G zq1j) := zq1d zq1gΓ fuel
def zq1l : zq14 := zq1e zq1j
theorem zq1m : SpecOk Try.prog 22 (zq15 zq1l) := zq1f zq1gΓ zq1j zq1k

/-- pagewatch/span.Length -/
abbrev zq1n := {β : Type} → (List (Int × Int)) → (Int → Option β) → Option β
def zq1o (c : zq1n) : Spec :=
  ⟨[(false, [.data (.slice (.prod (.int .i64) (.int .i64)))])], [], [(false, [.data (.int .i64)])], [], fun x k => c x.1.1.1 (fun r0 => k (((r0, ()), ()), ()))⟩
noncomputable def span_Length_p1_code : Code := codeAt 122 (bodyOf Try.f23)
abbrev zq1p (β : Type) := Int → Option β
abbrev zq1q := {β : Type} → zq1p β → Int → (List (Int × Int)) → Int → Int → Option β
def zq1r : View := ⟨0, [3, 9, 10, 11], [(false, [.data (.int .i64)]), (false, [.data (.slice (.prod (.int .i64) (.int .i64)))]), (false, [.data (.int .i64)]), (false, [.data (.int .i64)])], []⟩
def zq1s : List (AExit × View) := [(.exit 0, ⟨0, [3], [(false, [.data (.int .i64)])], []⟩)]
@[reducible] def span_Length_p1_G (p : zq1q) {β : Type} (d : zq1r.den) (ks : Outs.K β zq1s) : Option β :=
  p (fun a0 => ks.1 (((a0, ()), ()), ())) d.1.1.1 d.1.2.1.1 d.1.2.2.1.1 d.1.2.2.2.1.1
section
variable (c_span_Valid : zq14)
@[reducible] def span_Length_X : Ctx := ⟨look tab, pick1 [(22, .spec (zq15 c_span_Valid))], false, false⟩
def zq1t {β : Type} (rec : Int → (List (Int × Int)) → Int → Int → Option β) (k1 : zq1p β) (n : Int) (t9 : List (Int × Int)) (t10 : Int) (t11 : Int) : Option β :=
  cond (decide (t11 < t10))
  (cond (decide (0 ≤ t11) && decide (t11 < (List.length t9 : Int)))
  (let e : (Int × Int) := List.getD t9 (Int.toNat t11) ((0 : Int), (0 : Int));
  let n2 : Int := (IntKind.i64.wrap (n + (IntKind.i64.wrap (e.2 - e.1))));
  rec n2 t9 t10 (IntKind.i64.wrap (t11 + (1 : Int))))
  none)
  (k1 n)
def zq1u {β : Type} : Nat → zq1p β → Int → (List (Int × Int)) → Int → Int → Option β
  | 0 => fun _ _ _ _ _ => none
  | i + 1 => fun k1 n t9 t10 t11 => zq1t (zq1u i k1) k1 n t9 t10 t11
theorem zq1v (hΓ : ΓOk Try.prog (span_Length_X c_span_Valid).Γ) (i : Nat) : PieceOk Try.prog 24 0 span_Length_p1_code zq1r zq1s (span_Length_p1_G (zq1u i)) := by
  rw [show span_Length_p1_code = .loop (loopBody span_Length_p1_code) by kernel_rfl]
  exact piece_loop (X := (span_Length_X c_span_Valid)) (p := 1) (Λ := pick1 []) (G := fun i => @fun β d ks => span_Length_p1_G (zq1u i) d ks) mixed tab_ok hΓ rfl (by kernel_rfl) CutsOk_nil (fun _ _ => rfl) (fun i => @fun β d ks r h => Eq.trans (b := span_Length_p1_G (zq1u (i + 1)) d ks) (by kernel_rfl) h) i
def zq1w (p1 : zq1q) {β : Type} (l : List (Int × Int)) (k : (Int → Option β)) : Option β :=
  c_span_Valid l (fun (rValid : Bool) =>
  cond (!rValid)
  (k (0 : Int))
  (p1 (fun (n : Int) =>
  k n) (0 : Int) l (List.length l : Int) (0 : Int)))
theorem zq1x (hΓ : ΓOk Try.prog (span_Length_X c_span_Valid).Γ) (p1 : zq1q) (hp1 : PieceOk Try.prog 24 0 span_Length_p1_code zq1r zq1s (span_Length_p1_G p1)) : SpecOk Try.prog 23 (zq1o (zq1w c_span_Valid p1)) :=
  spec_exec (X := (span_Length_X c_span_Valid)) (Λ := pick1 [(122, pieceCut zq1r zq1s (span_Length_p1_G p1))]) (rs := [.tmp 2]) (c := bodyOf Try.f23) mixed tab_ok hΓ Try.func23 (by kernel_rfl) (by kernel_rfl) (by kernel_rfl) (by kernel_rfl) (CutsOk_cons (q := 122) (c' := span_Length_p1_code) (by kernel_rfl) rfl hp1 CutsOk_nil) (fun x k r h => Eq.trans (b := (zq1o (zq1w c_span_Valid p1)).run x k) (by kernel_rfl) h)
end
theorem zq1yΓ : ΓOk Try.prog (pick1 [(22, .spec (zq15 zq1l))]) := (ΓOk_cons zq1m ΓOk_nil)
def zq1z (m : Nat) : zq1q := zq1u m
theorem zq20 {β : Type} (i : Nat) (k1 n t9 t10 t11) : (zq1z (i + 1) k1 n t9 t10 t11 : Option β) = zq1t (zq1z i k1) k1 n t9 t10 t11 := rfl
def zq21 : zq1q := zq1z fuel
theorem zq22 : PieceOk Try.prog 24 0 span_Length_p1_code zq1r zq1s (span_Length_p1_G zq21) := zq1v zq1l zq1yΓ fuel
def zq23 : zq1n := zq1w zq1l zq21
theorem zq24 : SpecOk Try.prog 23 (zq1o zq23) := zq1x zq1l zq1yΓ zq21 zq22

/-- (*pagewatch/pagewatchmade.Dice).Next -/
abbrev zq25 := {β : Type} → Int → (List Int × Int) → (Int → (List Int × Int) → Option β) → Option β
def zq26 (c : zq25) : Spec :=
  ⟨[(false, [.ptr 0 0]), (false, [.data (.int .i64)])], [.cells 51 [.data (.prod (.slice (.int .i64)) (.int .i64))]], [(false, [.data (.int .i64)])], [.cells 51 [.data (.prod (.slice (.int .i64)) (.int .i64))]], fun x k => c x.1.2.1.1 x.2.1.1 (fun r0 r1 => k (((r0, ()), ()), ((r1, ()), ())))⟩
section
@[reducible] def made_Dice_Next_X : Ctx := ⟨look tab, pick1 [], false, false⟩
def zq27 {β : Type} (n : Int) (d : (List Int × Int)) (k : (Int → (List Int × Int) → Option β)) : Option β :=
  cond (decide ((List.length d.1 : Int) ≤ d.2))
  (k (0 : Int) d)
  (cond (decide (n < (1 : Int)))
  (k (0 : Int) d)
  (cond (decide (0 ≤ d.2) && decide (d.2 < (List.length d.1 : Int)))
  (let e : Int := List.getD d.1 (Int.toNat d.2) (0 : Int);
  cond (!decide (n = 0))
  (cond (decide ((Int.tmod e n) < (0 : Int)))
  (let x : Int := (IntKind.i64.wrap ((Int.tmod e n) + n));
  k x (d.1, (IntKind.i64.wrap (d.2 + (1 : Int)))))
  (k (Int.tmod e n) (d.1, (IntKind.i64.wrap (d.2 + (1 : Int))))))
  none)
  none))
theorem zq28 (hΓ : ΓOk Try.prog made_Dice_Next_X.Γ) : SpecOk Try.prog 30 (zq26 (zq27)) :=
  spec_exec (X := made_Dice_Next_X) (Λ := pick1 []) (rs := [.tmp 4]) (c := bodyOf Try.f30) mixed tab_ok hΓ Try.func30 (by kernel_rfl) (by kernel_rfl) (by kernel_rfl) (by kernel_rfl) CutsOk_nil (fun x k r h => Eq.trans (b := (zq26 (zq27)).run x k) (by kernel_rfl) h)
end
theorem zq29Γ : ΓOk Try.prog (pick1 []) := ΓOk_nil
def zq2a : zq25 := zq27
theorem zq2b : SpecOk Try.prog 30 (zq26 zq2a) := zq28 zq29Γ

/-- (*pagewatch/pagewatchmade.Dice).Span -/
abbrev zq2c := {β : Type} → (List Int × Int) → ((Int × Int) → (List Int × Int) → Option β) → Option β
def zq2d (c : zq2c) : Spec :=
  ⟨[(false, [.ptr 0 0])], [.cells 51 [.data (.prod (.slice (.int .i64)) (.int .i64))]], [(true, [.data (.prod (.int .i64) (.int .i64))])], [.cells 51 [.data (.prod (.slice (.int .i64)) (.int .i64))]], fun x k => c x.2.1.1 (fun r0 r1 => k (((r0, ()), ()), ((r1, ()), ())))⟩
section
variable (c_made_Dice_Next : zq25)
@[reducible] def made_Dice_Span_X : Ctx := ⟨look tab, pick1 [(30, .spec (zq26 c_made_Dice_Next))], false, false⟩
def zq2e {β : Type} (d : (List Int × Int)) (k : ((Int × Int) → (List Int × Int) → Option β)) : Option β :=
  c_made_Dice_Next (60 : Int) d (fun (rNext : Int) (mrNext : (List Int × Int)) =>
  c_made_Dice_Next (9 : Int) mrNext (fun (rNext2 : Int) (mrNext2 : (List Int × Int)) =>
  k (rNext, (IntKind.i64.wrap ((IntKind.i64.wrap (rNext + rNext2)) - (1 : Int)))) mrNext2))
theorem zq2f (hΓ : ΓOk Try.prog (made_Dice_Span_X c_made_Dice_Next).Γ) : SpecOk Try.prog 35 (zq2d (zq2e c_made_Dice_Next)) :=
  spec_exec (X := (made_Dice_Span_X c_made_Dice_Next)) (Λ := pick1 []) (rs := [.cell 2 30]) (c := bodyOf Try.f35) mixed tab_ok hΓ Try.func35 (by kernel_rfl) (by kernel_rfl) (by kernel_rfl) (by kernel_rfl) CutsOk_nil (fun x k r h => Eq.trans (b := (zq2d (zq2e c_made_Dice_Next)).run x k) (by kernel_rfl) h)
end
theorem zq2gΓ : ΓOk Try.prog (pick1 [(30, .spec (zq26 zq2a))]) := (ΓOk_cons zq2b ΓOk_nil)
def zq2h : zq2c := zq2e zq2a
theorem zq2i : SpecOk Try.prog 35 (zq2d zq2h) := zq2f zq2a zq2gΓ

/-- pagewatch/span.Has$1 -/
abbrev zq2j := {β : Type} → (Int × Int) → Int → (Bool → Int → Option β) → Option β
def zq2k (c : zq2j) : Spec :=
  ⟨[(true, [.data (.prod (.int .i64) (.int .i64))]), (false, [.ptr 0 0])], [.cells 3 [.data (.int .i64)]], [(false, [.data .bool])], [.cells 3 [.data (.int .i64)]], fun x k => c x.1.1.1 x.2.1.1 (fun r0 r1 => k (((r0, ()), ()), ((r1, ()), ())))⟩
section
@[reducible] def span_Has_f1_X : Ctx := ⟨look tab, pick1 [], false, false⟩
def zq2l {β : Type} (s : (Int × Int)) (t1 : Int) (k : (Bool → Int → Option β)) : Option β :=
  cond (decide (s.1 ≤ t1))
  (k (decide (t1 < s.2)) t1)
  (k false t1)
theorem zq2m (hΓ : ΓOk Try.prog span_Has_f1_X.Γ) : SpecOk Try.prog 38 (zq2k (zq2l)) :=
  spec_exec (X := span_Has_f1_X) (Λ := pick1 []) (rs := [.tmp 3]) (c := bodyOf Try.f38) mixed tab_ok hΓ Try.func38 (by kernel_rfl) (by kernel_rfl) (by kernel_rfl) (by kernel_rfl) CutsOk_nil (fun x k r h => Eq.trans (b := (zq2k (zq2l)).run x k) (by kernel_rfl) h)
end
theorem zq2nΓ : ΓOk Try.prog (pick1 []) := ΓOk_nil
def zq2o : zq2j := zq2l
theorem zq2p : SpecOk Try.prog 38 (zq2k zq2o) := zq2m zq2nΓ

/-- pagewatch/span.Without -/
abbrev zq2q := {β : Type} → (List (Int × Int)) → (List (Int × Int)) → ((List (Int × Int)) → Option β) → Option β
def zq2r (c : zq2q) : Spec :=
  ⟨[(false, [.data (.slice (.prod (.int .i64) (.int .i64)))]), (false, [.data (.slice (.prod (.int .i64) (.int .i64)))])], [], [(false, [.rowh 0])], [.row 30 (.prod (.int .i64) (.int .i64))], fun x k => c x.1.1.1 x.1.2.1.1 (fun r0 => k (((), ()), (r0, ())))⟩
noncomputable def span_Without_p3_code : Code := codeAt 122 (bodyOf Try.f43)
noncomputable def span_Without_p1_code : Code := codeAt 228 (loopBody span_Without_p3_code)
noncomputable def span_Without_p2_code : Code := codeAt 1850 (loopBody span_Without_p3_code)
abbrev zq2s (β : Type) := (List (Int × Int)) → Int → (List (Int × Int)) → Int → Int → (List (Int × Int)) → Int → Int → Option β
abbrev zq2t := {β : Type} → zq2s β → (List (Int × Int)) → Int → (List (Int × Int)) → Int → Int → (List (Int × Int)) → Int → Int → Option β
def zq2u : View := ⟨0, [1, 5, 6, 8, 11, 12, 13], [(false, [.data (.slice (.prod (.int .i64) (.int .i64)))]), (false, [.rowh 0]), (false, [.data (.int .i64)]), (false, [.ptr 1 0]), (false, [.data (.slice (.prod (.int .i64) (.int .i64)))]), (false, [.data (.int .i64)]), (false, [.data (.int .i64)])], [.row 30 (.prod (.int .i64) (.int .i64)), .cells 30 [.data (.int .i64), .data (.int .i64)]]⟩
def zq2v : List (AExit × View) := [(.exit 2, ⟨0, [1, 5, 6, 8, 11, 12, 13], [(false, [.data (.slice (.prod (.int .i64) (.int .i64)))]), (false, [.rowh 0]), (false, [.data (.int .i64)]), (false, [.ptr 1 0]), (false, [.data (.slice (.prod (.int .i64) (.int .i64)))]), (false, [.data (.int .i64)]), (false, [.data (.int .i64)])], [.row 30 (.prod (.int .i64) (.int .i64)), .cells 30 [.data (.int .i64), .data (.int .i64)]]⟩)]
@[reducible] def span_Without_p1_G (p : zq2t) {β : Type} (d : zq2u.den) (ks : Outs.K β zq2v) : Option β :=
  p (fun a0 a1 a2 a3 a4 a5 a6 a7 => ks.1 (((a0, ()), (), (a1, ()), (), (a2, ()), (a3, ()), (a4, ()), ()), (a5, (a6, a7, ()), ()))) d.1.1.1 d.1.2.2.1.1 d.1.2.2.2.2.1.1 d.1.2.2.2.2.2.1.1 d.1.2.2.2.2.2.2.1.1 d.2.1 d.2.2.1.1 d.2.2.1.2.1
abbrev zq2w (β : Type) := (List (Int × Int)) → Int → Int → (List (Int × Int)) → Int → Int → (List (Int × Int)) → Int → Int → Option β
abbrev zq2x := {β : Type} → zq2w β → (List (Int × Int)) → Int → Int → Int → (List (Int × Int)) → Int → Int → (List (Int × Int)) → Int → Int → Option β
def zq2y : View := ⟨0, [1, 5, 6, 8, 9, 10, 11, 12, 13], [(false, [.data (.slice (.prod (.int .i64) (.int .i64)))]), (false, [.rowh 0]), (false, [.data (.int .i64)]), (false, [.ptr 1 0]), (false, [.data (.int .i64)]), (false, [.data (.int .i64)]), (false, [.data (.slice (.prod (.int .i64) (.int .i64)))]), (false, [.data (.int .i64)]), (false, [.data (.int .i64)])], [.row 30 (.prod (.int .i64) (.int .i64)), .cells 30 [.data (.int .i64), .data (.int .i64)]]⟩
def zq2z : List (AExit × View) := [(.exit 4, ⟨0, [1, 5, 6, 8, 9, 11, 12, 13], [(false, [.data (.slice (.prod (.int .i64) (.int .i64)))]), (false, [.rowh 0]), (false, [.data (.int .i64)]), (false, [.ptr 1 0]), (false, [.data (.int .i64)]), (false, [.data (.slice (.prod (.int .i64) (.int .i64)))]), (false, [.data (.int .i64)]), (false, [.data (.int .i64)])], [.row 30 (.prod (.int .i64) (.int .i64)), .cells 30 [.data (.int .i64), .data (.int .i64)]]⟩)]
@[reducible] def span_Without_p2_G (p : zq2x) {β : Type} (d : zq2y.den) (ks : Outs.K β zq2z) : Option β :=
  p (fun a0 a1 a2 a3 a4 a5 a6 a7 a8 => ks.1 (((a0, ()), (), (a1, ()), (), (a2, ()), (a3, ()), (a4, ()), (a5, ()), ()), (a6, (a7, a8, ()), ()))) d.1.1.1 d.1.2.2.1.1 d.1.2.2.2.2.1.1 d.1.2.2.2.2.2.1.1 d.1.2.2.2.2.2.2.1.1 d.1.2.2.2.2.2.2.2.1.1 d.1.2.2.2.2.2.2.2.2.1.1 d.2.1 d.2.2.1.1 d.2.2.1.2.1
abbrev zq30 (β : Type) := (List (Int × Int)) → Option β
abbrev zq31 := {β : Type} → zq30 β → (List (Int × Int)) → Int → (List (Int × Int)) → Int → Int → (List (Int × Int)) → Option β
def zq32 : View := ⟨0, [1, 5, 6, 11, 12, 13], [(false, [.data (.slice (.prod (.int .i64) (.int .i64)))]), (false, [.rowh 0]), (false, [.data (.int .i64)]), (false, [.data (.slice (.prod (.int .i64) (.int .i64)))]), (false, [.data (.int .i64)]), (false, [.data (.int .i64)])], [.row 30 (.prod (.int .i64) (.int .i64))]⟩
def zq33 : List (AExit × View) := [(.exit 0, ⟨0, [5], [(false, [.rowh 0])], [.row 30 (.prod (.int .i64) (.int .i64))]⟩)]
@[reducible] def span_Without_p3_G (p : zq31) {β : Type} (d : zq32.den) (ks : Outs.K β zq33) : Option β :=
  p (fun a0 => ks.1 (((), ()), (a0, ()))) d.1.1.1 d.1.2.2.1.1 d.1.2.2.2.1.1 d.1.2.2.2.2.1.1 d.1.2.2.2.2.2.1.1 d.2.1
section
@[reducible] def span_Without_X : Ctx := ⟨look tab, pick1 [], false, false⟩
def zq34 {β : Type} (rec : (List (Int × Int)) → Int → (List (Int × Int)) → Int → Int → (List (Int × Int)) → Int → Int → Option β) (k1 : zq2s β) (b : List (Int × Int)) (k_ : Int) (t11 : List (Int × Int)) (t12 : Int) (t13 : Int) (out : List (Int × Int)) (s : Int) (s2 : Int) : Option β :=
  cond (decide (k_ < (List.length b : Int)))
  (cond (decide (0 ≤ k_) && decide (k_ < (List.length b : Int)))
  (let e : (Int × Int) := List.getD b (Int.toNat k_) ((0 : Int), (0 : Int));
  cond (decide (e.2 ≤ s))
  (let k_2 : Int := (IntKind.i64.wrap (k_ + (1 : Int)));
  rec b k_2 t11 t12 t13 out s s2)
  (k1 b k_ t11 t12 t13 out s s2))
  none)
  (k1 b k_ t11 t12 t13 out s s2)
def zq35 {β : Type} : Nat → zq2s β → (List (Int × Int)) → Int → (List (Int × Int)) → Int → Int → (List (Int × Int)) → Int → Int → Option β
  | 0 => fun _ _ _ _ _ _ _ _ _ => none
  | i + 1 => fun k1 b k_ t11 t12 t13 out s s2 => zq34 (zq35 i k1) k1 b k_ t11 t12 t13 out s s2
theorem zq36 (hΓ : ΓOk Try.prog span_Without_X.Γ) (i : Nat) : PieceOk Try.prog 89 0 span_Without_p1_code zq2u zq2v (span_Without_p1_G (zq35 i)) := by
  rw [show span_Without_p1_code = .loop (loopBody span_Without_p1_code) by kernel_rfl]
  exact piece_loop (X := span_Without_X) (p := 1) (Λ := pick1 []) (G := fun i => @fun β d ks => span_Without_p1_G (zq35 i) d ks) mixed tab_ok hΓ rfl (by kernel_rfl) CutsOk_nil (fun _ _ => rfl) (fun i => @fun β d ks r h => Eq.trans (b := span_Without_p1_G (zq35 (i + 1)) d ks) (by kernel_rfl) h) i
def zq37 {β : Type} (rec : (List (Int × Int)) → Int → Int → Int → (List (Int × Int)) → Int → Int → (List (Int × Int)) → Int → Int → Option β) (k1 : zq2w β) (b : List (Int × Int)) (k_ : Int) (at_ : Int) (i_ : Int) (t11 : List (Int × Int)) (t12 : Int) (t13 : Int) (out : List (Int × Int)) (s : Int) (s2 : Int) : Option β :=
  cond (decide (i_ < (List.length b : Int)))
  (cond (decide (0 ≤ i_) && decide (i_ < (List.length b : Int)))
  (let e : (Int × Int) := List.getD b (Int.toNat i_) ((0 : Int), (0 : Int));
  cond (decide (e.1 < s2))
  (cond (decide (0 ≤ i_) && decide (i_ < (List.length b : Int)))
  (let e2 : (Int × Int) := List.getD b (Int.toNat i_) ((0 : Int), (0 : Int));
  cond (decide (at_ < e2.1))
  (cond (decide (0 ≤ i_) && decide (i_ < (List.length b : Int)))
  (let e3 : (Int × Int) := List.getD b (Int.toNat i_) ((0 : Int), (0 : Int));
  let l : List (Int × Int) := ([(at_, e3.1)] : List (Int × Int));
  cond (decide ((List.length out + List.length l) * 16 ≤ roomMax))
  (let l2 : List (Int × Int) := (out ++ l);
  cond (decide (0 ≤ i_) && decide (i_ < (List.length b : Int)))
  (let e4 : (Int × Int) := List.getD b (Int.toNat i_) ((0 : Int), (0 : Int));
  let at_2 : Int := (if e4.2 > at_ then e4.2 else at_);
  let i_2 : Int := (IntKind.i64.wrap (i_ + (1 : Int)));
  rec b k_ at_2 i_2 t11 t12 t13 l2 s s2)
  none)
  none)
  none)
  (cond (decide (0 ≤ i_) && decide (i_ < (List.length b : Int)))
  (let e3 : (Int × Int) := List.getD b (Int.toNat i_) ((0 : Int), (0 : Int));
  let at_2 : Int := (if e3.2 > at_ then e3.2 else at_);
  let i_2 : Int := (IntKind.i64.wrap (i_ + (1 : Int)));
  rec b k_ at_2 i_2 t11 t12 t13 out s s2)
  none))
  none)
  (k1 b k_ at_ t11 t12 t13 out s s2))
  none)
  (k1 b k_ at_ t11 t12 t13 out s s2)
def zq38 {β : Type} : Nat → zq2w β → (List (Int × Int)) → Int → Int → Int → (List (Int × Int)) → Int → Int → (List (Int × Int)) → Int → Int → Option β
  | 0 => fun _ _ _ _ _ _ _ _ _ _ _ => none
  | i + 1 => fun k1 b k_ at_ i_ t11 t12 t13 out s s2 => zq37 (zq38 i k1) k1 b k_ at_ i_ t11 t12 t13 out s s2
theorem zq39 (hΓ : ΓOk Try.prog span_Without_X.Γ) (i : Nat) : PieceOk Try.prog 89 0 span_Without_p2_code zq2y zq2z (span_Without_p2_G (zq38 i)) := by
  rw [show span_Without_p2_code = .loop (loopBody span_Without_p2_code) by kernel_rfl]
  exact piece_loop (X := span_Without_X) (p := 1) (Λ := pick1 []) (G := fun i => @fun β d ks => span_Without_p2_G (zq38 i) d ks) mixed tab_ok hΓ rfl (by kernel_rfl) CutsOk_nil (fun _ _ => rfl) (fun i => @fun β d ks r h => Eq.trans (b := span_Without_p2_G (zq38 (i + 1)) d ks) (by kernel_rfl) h) i
def zq3a (p1 : zq2t) (p2 : zq2x) {β : Type} (rec : (List (Int × Int)) → Int → (List (Int × Int)) → Int → Int → (List (Int × Int)) → Option β) (k1 : zq30 β) (b : List (Int × Int)) (k_ : Int) (t11 : List (Int × Int)) (t12 : Int) (t13 : Int) (out : List (Int × Int)) : Option β :=
  cond (decide (t13 < t12))
  (cond (decide (0 ≤ t13) && decide (t13 < (List.length t11 : Int)))
  (let e : (Int × Int) := List.getD t11 (Int.toNat t13) ((0 : Int), (0 : Int));
  p1 (fun (b2 : List (Int × Int)) (k_2 : Int) (t112 : List (Int × Int)) (t122 : Int) (t132 : Int) (out2 : List (Int × Int)) (s : Int) (s2 : Int) =>
  p2 (fun (b3 : List (Int × Int)) (k_3 : Int) (at_ : Int) (t113 : List (Int × Int)) (t123 : Int) (t133 : Int) (out3 : List (Int × Int)) (s3 : Int) (s4 : Int) =>
  cond (decide (at_ < s4))
  (let l : List (Int × Int) := ([(at_, s4)] : List (Int × Int));
  cond (decide ((List.length out3 + List.length l) * 16 ≤ roomMax))
  (let l2 : List (Int × Int) := (out3 ++ l);
  rec b3 k_3 t113 t123 (IntKind.i64.wrap (t133 + (1 : Int))) l2)
  none)
  (rec b3 k_3 t113 t123 (IntKind.i64.wrap (t133 + (1 : Int))) out3)) b2 k_2 s k_2 t112 t122 t132 out2 s s2) b k_ t11 t12 t13 out e.1 e.2)
  none)
  (k1 out)
def zq3b (p1 : zq2t) (p2 : zq2x) {β : Type} : Nat → zq30 β → (List (Int × Int)) → Int → (List (Int × Int)) → Int → Int → (List (Int × Int)) → Option β
  | 0 => fun _ _ _ _ _ _ _ => none
  | i + 1 => fun k1 b k_ t11 t12 t13 out => zq3a p1 p2 (zq3b p1 p2 i k1) k1 b k_ t11 t12 t13 out
theorem zq3c (hΓ : ΓOk Try.prog span_Without_X.Γ) (p1 : zq2t) (p2 : zq2x) (hp1 : PieceOk Try.prog 89 0 span_Without_p1_code zq2u zq2v (span_Without_p1_G p1)) (hp2 : PieceOk Try.prog 89 0 span_Without_p2_code zq2y zq2z (span_Without_p2_G p2)) (i : Nat) : PieceOk Try.prog 89 0 span_Without_p3_code zq32 zq33 (span_Without_p3_G (zq3b p1 p2 i)) := by
  rw [show span_Without_p3_code = .loop (loopBody span_Without_p3_code) by kernel_rfl]
  exact piece_loop (X := span_Without_X) (p := 1) (Λ := pick1 [(228, pieceCut zq2u zq2v (span_Without_p1_G p1)), (1850, pieceCut zq2y zq2z (span_Without_p2_G p2))]) (G := fun i => @fun β d ks => span_Without_p3_G (zq3b p1 p2 i) d ks) mixed tab_ok hΓ rfl (by kernel_rfl) (CutsOk_cons (q := 228) (c' := span_Without_p1_code) (by kernel_rfl) rfl hp1 (CutsOk_cons (q := 1850) (c' := span_Without_p2_code) (by kernel_rfl) rfl hp2 CutsOk_nil)) (fun _ _ => rfl) (fun i => @fun β d ks r h => Eq.trans (b := span_Without_p3_G (zq3b p1 p2 (i + 1)) d ks) (by kernel_rfl) h) i
def zq3d (p3 : zq31) {β : Type} (a : List (Int × Int)) (b : List (Int × Int)) (k : ((List (Int × Int)) → Option β)) : Option β :=
  p3 (fun (out : List (Int × Int)) =>
  k out) b (0 : Int) a (List.length a : Int) (0 : Int) ([] : List (Int × Int))
theorem zq3e (hΓ : ΓOk Try.prog span_Without_X.Γ) (p3 : zq31) (hp3 : PieceOk Try.prog 89 0 span_Without_p3_code zq32 zq33 (span_Without_p3_G p3)) : SpecOk Try.prog 43 (zq2r (zq3d p3)) :=
  spec_exec (X := span_Without_X) (Λ := pick1 [(122, pieceCut zq32 zq33 (span_Without_p3_G p3))]) (rs := [.tmp 4]) (c := bodyOf Try.f43) mixed tab_ok hΓ Try.func43 (by kernel_rfl) (by kernel_rfl) (by kernel_rfl) (by kernel_rfl) (CutsOk_cons (q := 122) (c' := span_Without_p3_code) (by kernel_rfl) rfl hp3 CutsOk_nil) (fun x k r h => Eq.trans (b := (zq2r (zq3d p3)).run x k) (by kernel_rfl) h)
end
theorem zq3fΓ : ΓOk Try.prog (pick1 []) := ΓOk_nil
def zq3g (m : Nat) : zq2t := zq35 m
theorem zq3h {β : Type} (i : Nat) (k1 b k_ t11 t12 t13 out s s2) : (zq3g (i + 1) k1 b k_ t11 t12 t13 out s s2 : Option β) = zq34 (zq3g i k1) k1 b k_ t11 t12 t13 out s s2 := rfl
def zq3i : zq2t := zq3g fuel
theorem zq3j : PieceOk Try.prog 89 0 span_Without_p1_code zq2u zq2v (span_Without_p1_G zq3i) := zq36 zq3fΓ fuel
def zq3k (m : Nat) : zq2x := zq38 m
theorem zq3l {β : Type} (i : Nat) (k1 b k_ at_ i_ t11 t12 t13 out s s2) : (zq3k (i + 1) k1 b k_ at_ i_ t11 t12 t13 out s s2 : Option β) = zq37 (zq3k i k1) k1 b k_ at_ i_ t11 t12 t13 out s s2 := rfl
def zq3m : zq2x := zq3k fuel
theorem zq3n : PieceOk Try.prog 89 0 span_Without_p2_code zq2y zq2z (span_Without_p2_G zq3m) := zq39 zq3fΓ fuel
def zq3o (m : Nat) : zq31 := zq3b zq3i zq3m m
theorem zq3p {β : Type} (i : Nat) (k1 b k_ t11 t12 t13 out) : (zq3o (i + 1) k1 b k_ t11 t12 t13 out : Option β) = zq3a zq3i zq3m (zq3o i k1) k1 b k_ t11 t12 t13 out := rfl
def zq3q : zq31 := zq3o fuel
theorem zq3r : PieceOk Try.prog 89 0 span_Without_p3_code zq32 zq33 (span_Without_p3_G zq3q) := zq3c zq3fΓ zq3i zq3m zq3j zq3n fuel
def zq3s : zq2q := zq3d zq3q
theorem zq3t : SpecOk Try.prog 43 (zq2r zq3s) := zq3e zq3fΓ zq3q zq3r

/-- pagewatch/pagewatchref03.Sort -/
abbrev zq3u := {β : Type} → (List Int) → ((List Int) → Option β) → Option β
def zq3v (c : zq3u) : Spec :=
  ⟨[(false, [.data (.slice (.int .i64))])], [], [(false, [.rowh 0])], [.row 3 (.int .i64)], fun x k => c x.1.1.1 (fun r0 => k (((), ()), (r0, ())))⟩
noncomputable def ref03_Sort_p4_code : Code := codeAt 252 (bodyOf Try.f44)
noncomputable def ref03_Sort_p1_code : Code := codeAt 27 (loopBody ref03_Sort_p4_code)
noncomputable def ref03_Sort_p2_code : Code := codeAt 53 (loopBody ref03_Sort_p4_code)
noncomputable def ref03_Sort_p3_code : Code := codeAt 3 (loopBody ref03_Sort_p4_code)
abbrev zq3w (β : Type) := Int → Int → (List Int) → (List Int) → (List Int) → Option β
abbrev zq3x := {β : Type} → zq3w β → Int → Int → Int → (List Int) → (List Int) → (List Int) → Option β
def zq3y : View := ⟨0, [3, 4, 5, 6, 7, 8], [(false, [.rowh 0]), (false, [.rowh 1]), (false, [.rowh 2]), (false, [.data (.int .i64)]), (false, [.data (.int .i64)]), (false, [.data (.int .i64)])], [.row 3 (.int .i64), .row 3 (.int .i64), .row 3 (.int .i64)]⟩
def zq3z : List (AExit × View) := [(.normal, ⟨0, [3, 4, 5, 6, 7], [(false, [.rowh 0]), (false, [.rowh 1]), (false, [.rowh 2]), (false, [.data (.int .i64)]), (false, [.data (.int .i64)])], [.row 3 (.int .i64), .row 3 (.int .i64), .row 3 (.int .i64)]⟩)]
@[reducible] def ref03_Sort_p1_G (p : zq3x) {β : Type} (d : zq3y.den) (ks : Outs.K β zq3z) : Option β :=
  p (fun a0 a1 a2 a3 a4 => ks.1 (((), (), (), (a0, ()), (a1, ()), ()), (a2, a3, a4, ()))) d.1.2.2.2.1.1 d.1.2.2.2.2.1.1 d.1.2.2.2.2.2.1.1 d.2.1 d.2.2.1 d.2.2.2.1
abbrev zq40 (β : Type) := Int → Int → Int → (List Int) → (List Int) → (List Int) → Option β
abbrev zq41 := {β : Type} → zq40 β → Int → Int → Bool → (List Int) → (List Int) → (List Int) → Option β
def zq42 : View := ⟨0, [3, 4, 5, 6, 7, 57], [(false, [.rowh 0]), (false, [.rowh 1]), (false, [.rowh 2]), (false, [.data (.int .i64)]), (false, [.data (.int .i64)]), (false, [.data .bool])], [.row 3 (.int .i64), .row 3 (.int .i64), .row 3 (.int .i64)]⟩
def zq43 : List (AExit × View) := [(.normal, ⟨0, [3, 4, 5, 6, 7, 8], [(false, [.rowh 0]), (false, [.rowh 1]), (false, [.rowh 2]), (false, [.data (.int .i64)]), (false, [.data (.int .i64)]), (false, [.data (.int .i64)])], [.row 3 (.int .i64), .row 3 (.int .i64), .row 3 (.int .i64)]⟩)]
@[reducible] def ref03_Sort_p2_G (p : zq41) {β : Type} (d : zq42.den) (ks : Outs.K β zq43) : Option β :=
  p (fun a0 a1 a2 a3 a4 a5 => ks.1 (((), (), (), (a0, ()), (a1, ()), (a2, ()), ()), (a3, a4, a5, ()))) d.1.2.2.2.1.1 d.1.2.2.2.2.1.1 d.1.2.2.2.2.2.1.1 d.2.1 d.2.2.1 d.2.2.2.1
abbrev zq44 (β : Type) := Int → Int → (List Int) → (List Int) → (List Int) → Option β
abbrev zq45 := {β : Type} → zq44 β → Int → Int → (List Int) → (List Int) → (List Int) → Option β
def zq46 : View := ⟨0, [3, 4, 5, 6, 7], [(false, [.rowh 0]), (false, [.rowh 1]), (false, [.rowh 2]), (false, [.data (.int .i64)]), (false, [.data (.int .i64)])], [.row 3 (.int .i64), .row 3 (.int .i64), .row 3 (.int .i64)]⟩
def zq47 : List (AExit × View) := [(.normal, ⟨0, [3, 4, 5, 6, 7], [(false, [.rowh 0]), (false, [.rowh 1]), (false, [.rowh 2]), (false, [.data (.int .i64)]), (false, [.data (.int .i64)])], [.row 3 (.int .i64), .row 3 (.int .i64), .row 3 (.int .i64)]⟩)]
@[reducible] def ref03_Sort_p3_G (p : zq45) {β : Type} (d : zq46.den) (ks : Outs.K β zq47) : Option β :=
  p (fun a0 a1 a2 a3 a4 => ks.1 (((), (), (), (a0, ()), (a1, ()), ()), (a2, a3, a4, ()))) d.1.2.2.2.1.1 d.1.2.2.2.2.1.1 d.2.1 d.2.2.1 d.2.2.2.1
abbrev zq48 (β : Type) := (List Int) → Option β
abbrev zq49 := {β : Type} → zq48 β → Int → Int → (List Int) → (List Int) → (List Int) → Option β
def zq4a : View := ⟨0, [3, 4, 5, 6, 7], [(false, [.rowh 0]), (false, [.rowh 1]), (false, [.rowh 2]), (false, [.data (.int .i64)]), (false, [.data (.int .i64)])], [.row 3 (.int .i64), .row 3 (.int .i64), .row 3 (.int .i64)]⟩
def zq4b : List (AExit × View) := [(.exit 0, ⟨0, [3], [(false, [.rowh 0])], [.row 3 (.int .i64)]⟩)]
@[reducible] def ref03_Sort_p4_G (p : zq49) {β : Type} (d : zq4a.den) (ks : Outs.K β zq4b) : Option β :=
  p (fun a0 => ks.1 (((), ()), (a0, ()))) d.1.2.2.2.1.1 d.1.2.2.2.2.1.1 d.2.1 d.2.2.1 d.2.2.2.1
section
variable (c_ref03_Sort : zq3u)
@[reducible] def ref03_Sort_X : Ctx := ⟨look tab, pick1 [(44, .spec (zq3v c_ref03_Sort))], false, false⟩
def zq4c {β : Type} (k1 : zq3w β) (i_ : Int) (j : Int) (x : Int) (out : List Int) (a : List Int) (b : List Int) : Option β :=
  cond (decide ((List.length out : Int) = (0 : Int)))
  (let l : List Int := ([x] : List Int);
  cond (decide ((List.length out + List.length l) * 8 ≤ roomMax))
  (let l2 : List Int := (out ++ l);
  k1 i_ j l2 a b)
  none)
  (cond (decide (0 ≤ (IntKind.i64.wrap ((List.length out : Int) - (1 : Int)))) && decide ((IntKind.i64.wrap ((List.length out : Int) - (1 : Int))) < (List.length out : Int)))
  (cond (!decide ((List.getD out (Int.toNat (IntKind.i64.wrap ((List.length out : Int) - (1 : Int)))) (0 : Int)) = x))
  (let l : List Int := ([x] : List Int);
  cond (decide ((List.length out + List.length l) * 8 ≤ roomMax))
  (let l2 : List Int := (out ++ l);
  k1 i_ j l2 a b)
  none)
  (k1 i_ j out a b))
  none)
def zq4d {β : Type} (k1 : zq3w β) (i_ : Int) (j : Int) (x : Int) (out : List Int) (a : List Int) (b : List Int) : Option β := zq4c k1 i_ j x out a b
theorem zq4e (hΓ : ΓOk Try.prog (ref03_Sort_X c_ref03_Sort).Γ) : PieceOk Try.prog 88 0 ref03_Sort_p1_code zq3y zq3z (ref03_Sort_p1_G (zq4d)) :=
  piece_exec (X := (ref03_Sort_X c_ref03_Sort)) (p := 27) (Λ := pick1 []) mixed tab_ok hΓ (by kernel_rfl) CutsOk_nil (fun d ks r h => Eq.trans (b := ref03_Sort_p1_G (zq4d) d ks) (by kernel_rfl) h)
def zq4f {β : Type} (k1 : zq40 β) (i_ : Int) (j : Int) (t57 : Bool) (out : List Int) (a : List Int) (b : List Int) : Option β :=
  cond t57
  (cond (decide (0 ≤ i_) && decide (i_ < (List.length a : Int)))
  (let x : Int := (List.getD a (Int.toNat i_) (0 : Int));
  let i_2 : Int := (IntKind.i64.wrap (i_ + (1 : Int)));
  k1 i_2 j x out a b)
  none)
  (cond (decide (0 ≤ j) && decide (j < (List.length b : Int)))
  (let x : Int := (List.getD b (Int.toNat j) (0 : Int));
  let j2 : Int := (IntKind.i64.wrap (j + (1 : Int)));
  k1 i_ j2 x out a b)
  none)
def zq4g {β : Type} (k1 : zq40 β) (i_ : Int) (j : Int) (t57 : Bool) (out : List Int) (a : List Int) (b : List Int) : Option β := zq4f k1 i_ j t57 out a b
theorem zq4h (hΓ : ΓOk Try.prog (ref03_Sort_X c_ref03_Sort).Γ) : PieceOk Try.prog 88 0 ref03_Sort_p2_code zq42 zq43 (ref03_Sort_p2_G (zq4g)) :=
  piece_exec (X := (ref03_Sort_X c_ref03_Sort)) (p := 53) (Λ := pick1 []) mixed tab_ok hΓ (by kernel_rfl) CutsOk_nil (fun d ks r h => Eq.trans (b := ref03_Sort_p2_G (zq4g) d ks) (by kernel_rfl) h)
def zq4i (p1 : zq3x) (p2 : zq41) {β : Type} (k1 : zq44 β) (i_ : Int) (j : Int) (out : List Int) (a : List Int) (b : List Int) : Option β :=
  cond (decide (j = (List.length b : Int)))
  (p2 (fun (i_2 : Int) (j2 : Int) (x : Int) (out2 : List Int) (a2 : List Int) (b2 : List Int) =>
  p1 (fun (i_3 : Int) (j3 : Int) (out3 : List Int) (a3 : List Int) (b3 : List Int) =>
  k1 i_3 j3 out3 a3 b3) i_2 j2 x out2 a2 b2) i_ j true out a b)
  (cond (decide (i_ < (List.length a : Int)))
  (cond (decide (0 ≤ i_) && decide (i_ < (List.length a : Int)))
  (cond (decide (0 ≤ j) && decide (j < (List.length b : Int)))
  (p2 (fun (i_2 : Int) (j2 : Int) (x : Int) (out2 : List Int) (a2 : List Int) (b2 : List Int) =>
  p1 (fun (i_3 : Int) (j3 : Int) (out3 : List Int) (a3 : List Int) (b3 : List Int) =>
  k1 i_3 j3 out3 a3 b3) i_2 j2 x out2 a2 b2) i_ j (decide ((List.getD a (Int.toNat i_) (0 : Int)) ≤ (List.getD b (Int.toNat j) (0 : Int)))) out a b)
  none)
  none)
  (p2 (fun (i_2 : Int) (j2 : Int) (x : Int) (out2 : List Int) (a2 : List Int) (b2 : List Int) =>
  p1 (fun (i_3 : Int) (j3 : Int) (out3 : List Int) (a3 : List Int) (b3 : List Int) =>
  k1 i_3 j3 out3 a3 b3) i_2 j2 x out2 a2 b2) i_ j false out a b))
def zq4j (p1 : zq3x) (p2 : zq41) {β : Type} (k1 : zq44 β) (i_ : Int) (j : Int) (out : List Int) (a : List Int) (b : List Int) : Option β := zq4i p1 p2 k1 i_ j out a b
theorem zq4k (hΓ : ΓOk Try.prog (ref03_Sort_X c_ref03_Sort).Γ) (p1 : zq3x) (p2 : zq41) (hp1 : PieceOk Try.prog 88 0 ref03_Sort_p1_code zq3y zq3z (ref03_Sort_p1_G p1)) (hp2 : PieceOk Try.prog 88 0 ref03_Sort_p2_code zq42 zq43 (ref03_Sort_p2_G p2)) : PieceOk Try.prog 88 0 ref03_Sort_p3_code zq46 zq47 (ref03_Sort_p3_G (zq4j p1 p2)) :=
  piece_exec (X := (ref03_Sort_X c_ref03_Sort)) (p := 3) (Λ := pick1 [(27, pieceCut zq3y zq3z (ref03_Sort_p1_G p1)), (53, pieceCut zq42 zq43 (ref03_Sort_p2_G p2))]) mixed tab_ok hΓ (by kernel_rfl) (CutsOk_cons (q := 27) (c' := ref03_Sort_p1_code) (by kernel_rfl) rfl hp1 (CutsOk_cons (q := 53) (c' := ref03_Sort_p2_code) (by kernel_rfl) rfl hp2 CutsOk_nil)) (fun d ks r h => Eq.trans (b := ref03_Sort_p3_G (zq4j p1 p2) d ks) (by kernel_rfl) h)
def zq4l (p3 : zq45) {β : Type} (rec : Int → Int → (List Int) → (List Int) → (List Int) → Option β) (k1 : zq48 β) (i_ : Int) (j : Int) (out : List Int) (a : List Int) (b : List Int) : Option β :=
  cond (decide (i_ < (List.length a : Int)))
  (p3 (fun (i_2 : Int) (j2 : Int) (out2 : List Int) (a2 : List Int) (b2 : List Int) =>
  rec i_2 j2 out2 a2 b2) i_ j out a b)
  (cond (decide (j < (List.length b : Int)))
  (p3 (fun (i_2 : Int) (j2 : Int) (out2 : List Int) (a2 : List Int) (b2 : List Int) =>
  rec i_2 j2 out2 a2 b2) i_ j out a b)
  (k1 out))
def zq4m (p3 : zq45) {β : Type} : Nat → zq48 β → Int → Int → (List Int) → (List Int) → (List Int) → Option β
  | 0 => fun _ _ _ _ _ _ => none
  | i + 1 => fun k1 i_ j out a b => zq4l p3 (zq4m p3 i k1) k1 i_ j out a b
theorem zq4n (hΓ : ΓOk Try.prog (ref03_Sort_X c_ref03_Sort).Γ) (p3 : zq45) (hp3 : PieceOk Try.prog 88 0 ref03_Sort_p3_code zq46 zq47 (ref03_Sort_p3_G p3)) (i : Nat) : PieceOk Try.prog 88 0 ref03_Sort_p4_code zq4a zq4b (ref03_Sort_p4_G (zq4m p3 i)) := by
  rw [show ref03_Sort_p4_code = .loop (loopBody ref03_Sort_p4_code) by kernel_rfl]
  exact piece_loop (X := (ref03_Sort_X c_ref03_Sort)) (p := 1) (Λ := pick1 [(3, pieceCut zq46 zq47 (ref03_Sort_p3_G p3))]) (G := fun i => @fun β d ks => ref03_Sort_p4_G (zq4m p3 i) d ks) mixed tab_ok hΓ rfl (by kernel_rfl) (CutsOk_cons (q := 3) (c' := ref03_Sort_p3_code) (by kernel_rfl) rfl hp3 CutsOk_nil) (fun _ _ => rfl) (fun i => @fun β d ks r h => Eq.trans (b := ref03_Sort_p4_G (zq4m p3 (i + 1)) d ks) (by kernel_rfl) h) i
def zq4o (p4 : zq49) {β : Type} (l : List Int) (k : ((List Int) → Option β)) : Option β :=
  cond (decide ((List.length l : Int) < (2 : Int)))
  (cond (decide (List.length l * 8 ≤ roomMax))
  (k l)
  none)
  (cond (!decide ((2 : Int) = 0))
  (cond (decide (0 ≤ (0 : Int)) && (decide ((0 : Int) ≤ (IntKind.i64.wrap (Int.tdiv (List.length l : Int) (2 : Int)))) && decide ((IntKind.i64.wrap (Int.tdiv (List.length l : Int) (2 : Int))) ≤ (List.length l : Int))))
  (c_ref03_Sort (List.drop (Int.toNat (0 : Int)) (List.take (Int.toNat (IntKind.i64.wrap (Int.tdiv (List.length l : Int) (2 : Int)))) l)) (fun (lrSort : List Int) =>
  cond (!decide ((2 : Int) = 0))
  (cond (decide (0 ≤ (IntKind.i64.wrap (Int.tdiv (List.length l : Int) (2 : Int)))) && (decide ((IntKind.i64.wrap (Int.tdiv (List.length l : Int) (2 : Int))) ≤ (List.length l : Int)) && decide ((List.length l : Int) ≤ (List.length l : Int))))
  (c_ref03_Sort (List.drop (Int.toNat (IntKind.i64.wrap (Int.tdiv (List.length l : Int) (2 : Int)))) (List.take (Int.toNat (List.length l : Int)) l)) (fun (lrSort2 : List Int) =>
  p4 (fun (out : List Int) =>
  k out) (0 : Int) (0 : Int) ([] : List Int) lrSort lrSort2))
  none)
  none))
  none)
  none)
theorem zq4p (hΓ : ΓOk Try.prog (ref03_Sort_X c_ref03_Sort).Γ) (p4 : zq49) (hp4 : PieceOk Try.prog 88 0 ref03_Sort_p4_code zq4a zq4b (ref03_Sort_p4_G p4)) : SpecOk Try.prog 44 (zq3v (zq4o c_ref03_Sort p4)) :=
  spec_exec (X := (ref03_Sort_X c_ref03_Sort)) (Λ := pick1 [(252, pieceCut zq4a zq4b (ref03_Sort_p4_G p4))]) (rs := [.tmp 2]) (c := bodyOf Try.f44) mixed tab_ok hΓ Try.func44 (by kernel_rfl) (by kernel_rfl) (by kernel_rfl) (by kernel_rfl) (CutsOk_cons (q := 252) (c' := ref03_Sort_p4_code) (by kernel_rfl) rfl hp4 CutsOk_nil) (fun x k r h => Eq.trans (b := (zq3v (zq4o c_ref03_Sort p4)).run x k) (by kernel_rfl) h)
end
theorem zq4qΓ (me : zq3u) (hme : SpecOk Try.prog 44 (zq3v me)) : ΓOk Try.prog (pick1 [(44, .spec (zq3v me))]) := (ΓOk_cons hme ΓOk_nil)
def zq4r (me : zq3u) : zq3x := zq4d
theorem zq4s (me : zq3u) (hme : SpecOk Try.prog 44 (zq3v me)) : PieceOk Try.prog 88 0 ref03_Sort_p1_code zq3y zq3z (ref03_Sort_p1_G (zq4r me)) := zq4e me (zq4qΓ me hme)
def zq4t (me : zq3u) : zq41 := zq4g
theorem zq4u (me : zq3u) (hme : SpecOk Try.prog 44 (zq3v me)) : PieceOk Try.prog 88 0 ref03_Sort_p2_code zq42 zq43 (ref03_Sort_p2_G (zq4t me)) := zq4h me (zq4qΓ me hme)
def zq4v (me : zq3u) : zq45 := zq4j (zq4r me) (zq4t me)
theorem zq4w (me : zq3u) (hme : SpecOk Try.prog 44 (zq3v me)) : PieceOk Try.prog 88 0 ref03_Sort_p3_code zq46 zq47 (ref03_Sort_p3_G (zq4v me)) := zq4k me (zq4qΓ me hme) (zq4r me) (zq4t me) (zq4s me hme) (zq4u me hme)
def zq4x (me : zq3u) (m : Nat) : zq49 := zq4m (zq4v me) m
theorem zq4y {β : Type} (me : zq3u) (i : Nat) (k1 i_ j out a b) : (zq4x me (i + 1) k1 i_ j out a b : Option β) = zq4l (zq4v me) (zq4x me i k1) k1 i_ j out a b := rfl
def zq4z (me : zq3u) : zq49 := zq4x me fuel
theorem zq50 (me : zq3u) (hme : SpecOk Try.prog 44 (zq3v me)) : PieceOk Try.prog 88 0 ref03_Sort_p4_code zq4a zq4b (ref03_Sort_p4_G (zq4z me)) := zq4n me (zq4qΓ me hme) (zq4v me) (zq4w me hme) fuel
def zq51 : Nat → zq3u
  | 0 => fun _ _ => none
  | i + 1 => zq4o (zq51 i) (zq4z (zq51 i))
theorem zq52 : ∀ i, SpecOk Try.prog 44 (zq3v (zq51 i))
  | 0 => SpecOk.never ⟨_, Try.func44, by kernel_rfl, by kernel_rfl⟩ (fun _ _ => rfl)
  | i + 1 =>
    have hme := zq52 i
    have me_ok := hme
    zq4p (zq51 i) (zq4qΓ (zq51 i) hme) (zq4z (zq51 i)) (zq50 (zq51 i) hme)
theorem zq53 {β : Type} (i : Nat) (l k) : (zq51 (i + 1) l k : Option β) = zq4o (zq51 i) (zq4z (zq51 i)) l k := rfl
def zq54 : zq3u := zq51 fuel
theorem zq55 : SpecOk Try.prog 44 (zq3v zq54) := zq52 fuel

/-- slices.Clone[[]pagewatch/api.Span,pagewatch/api.Span] -/
abbrev zq56 := {β : Type} → (List (Int × Int)) → ((List (Int × Int)) → Option β) → Option β
def zq57 (c : zq56) : Spec :=
  ⟨[(false, [.data (.slice (.prod (.int .i64) (.int .i64)))])], [], [(false, [.rowh 0])], [.row 30 (.prod (.int .i64) (.int .i64))], fun x k => c x.1.1.1 (fun r0 => k (((), ()), (r0, ())))⟩
def zq58 : zq56 := fun l k => cloneF (.prod (.int .i64) (.int .i64)) 16 l k
theorem zq59 : SpecOk Try.prog 48 (zq57 zq58) :=
  clone_ok (et := 30) (e := (.prod (.int .i64) (.int .i64))) (bytes := 16) (by kernel_rfl)
    (spec_exec (X := ⟨look tab, pick1 [], false, false⟩) (Λ := pick1 []) (rs := [.tmp 2]) (c := bodyOf Try.f48) mixed tab_ok ΓOk_nil Try.func48 (by kernel_rfl) (by kernel_rfl) (by kernel_rfl) (by kernel_rfl) CutsOk_nil (fun x k r h => Eq.trans (b := (clone1S 30 (.prod (.int .i64) (.int .i64)) 16).run x k) (by kernel_rfl) h))
    (spec_exec (X := ⟨look tab, pick1 [], false, false⟩) (Λ := pick1 []) (rs := [.tmp 2]) (c := bodyOf Try.f48) mixed tab_ok ΓOk_nil Try.func48 (by kernel_rfl) (by kernel_rfl) (by kernel_rfl) (by kernel_rfl) CutsOk_nil (fun x k r h => Eq.trans (b := (clone2S 30 (.prod (.int .i64) (.int .i64))).run x k) (by kernel_rfl) h))

/-- pagewatch/span.Merge$1 -/
abbrev zq5a := {β : Type} → (Int × Int) → (Bool → Option β) → Option β
def zq5b (c : zq5a) : Spec :=
  ⟨[(true, [.data (.prod (.int .i64) (.int .i64))])], [], [(false, [.data .bool])], [], fun x k => c x.1.1.1 (fun r0 => k (((r0, ()), ()), ()))⟩
section
@[reducible] def span_Merge_f1_X : Ctx := ⟨look tab, pick1 [], false, false⟩
def zq5c {β : Type} (s : (Int × Int)) (k : (Bool → Option β)) : Option β :=
  k (decide (s.2 ≤ s.1))
theorem zq5d (hΓ : ΓOk Try.prog span_Merge_f1_X.Γ) : SpecOk Try.prog 49 (zq5b (zq5c)) :=
  spec_exec (X := span_Merge_f1_X) (Λ := pick1 []) (rs := [.tmp 2]) (c := bodyOf Try.f49) mixed tab_ok hΓ Try.func49 (by kernel_rfl) (by kernel_rfl) (by kernel_rfl) (by kernel_rfl) CutsOk_nil (fun x k r h => Eq.trans (b := (zq5b (zq5c)).run x k) (by kernel_rfl) h)
end
theorem zq5eΓ : ΓOk Try.prog (pick1 []) := ΓOk_nil
def zq5f : zq5a := zq5c
theorem zq5g : SpecOk Try.prog 49 (zq5b zq5f) := zq5d zq5eΓ

/-- pagewatch/span.First -/
abbrev zq5h := {β : Type} → (List (Int × Int)) → Int → (Int → Bool → Option β) → Option β
def zq5i (c : zq5h) : Spec :=
  ⟨[(false, [.data (.slice (.prod (.int .i64) (.int .i64)))]), (false, [.data (.int .i64)])], [], [(false, [.data (.int .i64)]), (false, [.data .bool])], [], fun x k => c x.1.1.1 x.1.2.1.1 (fun r0 r1 => k (((r0, ()), (r1, ()), ()), ()))⟩
noncomputable def span_First_p1_code : Code := codeAt 58 (bodyOf Try.f15)
abbrev zq5j (β : Type) := Int → Bool → Option β
abbrev zq5k (β : Type) := Unit → Option β
abbrev zq5l := {β : Type} → zq5j β → zq5k β → Int → (List (Int × Int)) → Int → Int → Option β
def zq5m : View := ⟨0, [1, 11, 12, 13], [(false, [.data (.int .i64)]), (false, [.data (.slice (.prod (.int .i64) (.int .i64)))]), (false, [.data (.int .i64)]), (false, [.data (.int .i64)])], []⟩
def zq5n : List (AExit × View) := [(.ret, ⟨0, [4, 5], [(false, [.data (.int .i64)]), (false, [.data .bool])], []⟩), (.exit 0, ⟨0, [], [], []⟩)]
@[reducible] def span_First_p1_G (p : zq5l) {β : Type} (d : zq5m.den) (ks : Outs.K β zq5n) : Option β :=
  p (fun a0 a1 => ks.1 (((a0, ()), (a1, ()), ()), ())) (fun _ => ks.2.1 ((), ())) d.1.1.1 d.1.2.1.1 d.1.2.2.1.1 d.1.2.2.2.1.1
section
variable (c_span_Valid : zq14)
@[reducible] def span_First_X : Ctx := ⟨look tab, pick1 [(22, .spec (zq15 c_span_Valid))], false, false⟩
def zq5o {β : Type} (rec : Int → (List (Int × Int)) → Int → Int → Option β) (k1 : zq5j β) (k2 : zq5k β) (x : Int) (t11 : List (Int × Int)) (t12 : Int) (t13 : Int) : Option β :=
  cond (decide (t13 < t12))
  (cond (decide (0 ≤ t13) && decide (t13 < (List.length t11 : Int)))
  (let e : (Int × Int) := List.getD t11 (Int.toNat t13) ((0 : Int), (0 : Int));
  cond (decide (x < e.2))
  (let t : Int := (if e.1 > x then e.1 else x);
  k1 t true)
  (rec x t11 t12 (IntKind.i64.wrap (t13 + (1 : Int)))))
  none)
  (k2 ())
def zq5p {β : Type} : Nat → zq5j β → zq5k β → Int → (List (Int × Int)) → Int → Int → Option β
  | 0 => fun _ _ _ _ _ _ => none
  | i + 1 => fun k1 k2 x t11 t12 t13 => zq5o (zq5p i k1 k2) k1 k2 x t11 t12 t13
theorem zq5q (hΓ : ΓOk Try.prog (span_First_X c_span_Valid).Γ) (i : Nat) : PieceOk Try.prog 26 0 span_First_p1_code zq5m zq5n (span_First_p1_G (zq5p i)) := by
  rw [show span_First_p1_code = .loop (loopBody span_First_p1_code) by kernel_rfl]
  exact piece_loop (X := (span_First_X c_span_Valid)) (p := 1) (Λ := pick1 []) (G := fun i => @fun β d ks => span_First_p1_G (zq5p i) d ks) mixed tab_ok hΓ rfl (by kernel_rfl) CutsOk_nil (fun _ _ => rfl) (fun i => @fun β d ks r h => Eq.trans (b := span_First_p1_G (zq5p (i + 1)) d ks) (by kernel_rfl) h) i
def zq5r (p1 : zq5l) {β : Type} (l : List (Int × Int)) (x : Int) (k : (Int → Bool → Option β)) : Option β :=
  c_span_Valid l (fun (rValid : Bool) =>
  cond (!rValid)
  (k (0 : Int) false)
  (p1 (fun (t4 : Int) (t5 : Bool) =>
  k t4 t5) (fun (_ : Unit) =>
  k (0 : Int) false) x l (List.length l : Int) (0 : Int)))
theorem zq5s (hΓ : ΓOk Try.prog (span_First_X c_span_Valid).Γ) (p1 : zq5l) (hp1 : PieceOk Try.prog 26 0 span_First_p1_code zq5m zq5n (span_First_p1_G p1)) : SpecOk Try.prog 15 (zq5i (zq5r c_span_Valid p1)) :=
  spec_exec (X := (span_First_X c_span_Valid)) (Λ := pick1 [(58, pieceCut zq5m zq5n (span_First_p1_G p1))]) (rs := [.tmp 4, .tmp 5]) (c := bodyOf Try.f15) mixed tab_ok hΓ Try.func15 (by kernel_rfl) (by kernel_rfl) (by kernel_rfl) (by kernel_rfl) (CutsOk_cons (q := 58) (c' := span_First_p1_code) (by kernel_rfl) rfl hp1 CutsOk_nil) (fun x k r h => Eq.trans (b := (zq5i (zq5r c_span_Valid p1)).run x k) (by kernel_rfl) h)
end
theorem zq5tΓ : ΓOk Try.prog (pick1 [(22, .spec (zq15 zq1l))]) := (ΓOk_cons zq1m ΓOk_nil)
def zq5u (m : Nat) : zq5l := zq5p m
theorem zq5v {β : Type} (i : Nat) (k1 k2 x t11 t12 t13) : (zq5u (i + 1) k1 k2 x t11 t12 t13 : Option β) = zq5o (zq5u i k1 k2) k1 k2 x t11 t12 t13 := rfl
def zq5w : zq5l := zq5u fuel
theorem zq5x : PieceOk Try.prog 26 0 span_First_p1_code zq5m zq5n (span_First_p1_G zq5w) := zq5q zq1l zq5tΓ fuel
def zq5y : zq5h := zq5r zq1l zq5w
theorem zq5z : SpecOk Try.prog 15 (zq5i zq5y) := zq5s zq1l zq5tΓ zq5w zq5x

/-- pagewatch/span.Gap -/
abbrev zq60 := {β : Type} → (List (Int × Int)) → Int → (Int → Option β) → Option β
def zq61 (c : zq60) : Spec :=
  ⟨[(false, [.data (.slice (.prod (.int .i64) (.int .i64)))]), (false, [.data (.int .i64)])], [], [(false, [.data (.int .i64)])], [], fun x k => c x.1.1.1 x.1.2.1.1 (fun r0 => k (((r0, ()), ()), ()))⟩
noncomputable def span_Gap_p1_code : Code := codeAt 58 (bodyOf Try.f16)
abbrev zq62 (β : Type) := Int → Option β
abbrev zq63 (β : Type) := Int → Option β
abbrev zq64 := {β : Type} → zq62 β → zq63 β → Int → (List (Int × Int)) → Int → Int → Option β
def zq65 : View := ⟨0, [1, 11, 12, 13], [(false, [.data (.int .i64)]), (false, [.data (.slice (.prod (.int .i64) (.int .i64)))]), (false, [.data (.int .i64)]), (false, [.data (.int .i64)])], []⟩
def zq66 : List (AExit × View) := [(.ret, ⟨0, [4], [(false, [.data (.int .i64)])], []⟩), (.exit 0, ⟨0, [1], [(false, [.data (.int .i64)])], []⟩)]
@[reducible] def span_Gap_p1_G (p : zq64) {β : Type} (d : zq65.den) (ks : Outs.K β zq66) : Option β :=
  p (fun a0 => ks.1 (((a0, ()), ()), ())) (fun a0 => ks.2.1 (((a0, ()), ()), ())) d.1.1.1 d.1.2.1.1 d.1.2.2.1.1 d.1.2.2.2.1.1
section
variable (c_span_Valid : zq14)
@[reducible] def span_Gap_X : Ctx := ⟨look tab, pick1 [(22, .spec (zq15 c_span_Valid))], false, false⟩
def zq67 {β : Type} (rec : Int → (List (Int × Int)) → Int → Int → Option β) (k1 : zq62 β) (k2 : zq63 β) (x : Int) (t11 : List (Int × Int)) (t12 : Int) (t13 : Int) : Option β :=
  cond (decide (t13 < t12))
  (cond (decide (0 ≤ t13) && decide (t13 < (List.length t11 : Int)))
  (let e : (Int × Int) := List.getD t11 (Int.toNat t13) ((0 : Int), (0 : Int));
  cond (decide (e.1 ≤ x))
  (cond (decide (x < e.2))
  (k1 e.2)
  (rec x t11 t12 (IntKind.i64.wrap (t13 + (1 : Int)))))
  (rec x t11 t12 (IntKind.i64.wrap (t13 + (1 : Int)))))
  none)
  (k2 x)
def zq68 {β : Type} : Nat → zq62 β → zq63 β → Int → (List (Int × Int)) → Int → Int → Option β
  | 0 => fun _ _ _ _ _ _ => none
  | i + 1 => fun k1 k2 x t11 t12 t13 => zq67 (zq68 i k1 k2) k1 k2 x t11 t12 t13
theorem zq69 (hΓ : ΓOk Try.prog (span_Gap_X c_span_Valid).Γ) (i : Nat) : PieceOk Try.prog 31 0 span_Gap_p1_code zq65 zq66 (span_Gap_p1_G (zq68 i)) := by
  rw [show span_Gap_p1_code = .loop (loopBody span_Gap_p1_code) by kernel_rfl]
  exact piece_loop (X := (span_Gap_X c_span_Valid)) (p := 1) (Λ := pick1 []) (G := fun i => @fun β d ks => span_Gap_p1_G (zq68 i) d ks) mixed tab_ok hΓ rfl (by kernel_rfl) CutsOk_nil (fun _ _ => rfl) (fun i => @fun β d ks r h => Eq.trans (b := span_Gap_p1_G (zq68 (i + 1)) d ks) (by kernel_rfl) h) i
def zq6a (p1 : zq64) {β : Type} (l : List (Int × Int)) (x : Int) (k : (Int → Option β)) : Option β :=
  c_span_Valid l (fun (rValid : Bool) =>
  cond (!rValid)
  (k x)
  (p1 (fun (t4 : Int) =>
  k t4) (fun (x2 : Int) =>
  k x2) x l (List.length l : Int) (0 : Int)))
theorem zq6b (hΓ : ΓOk Try.prog (span_Gap_X c_span_Valid).Γ) (p1 : zq64) (hp1 : PieceOk Try.prog 31 0 span_Gap_p1_code zq65 zq66 (span_Gap_p1_G p1)) : SpecOk Try.prog 16 (zq61 (zq6a c_span_Valid p1)) :=
  spec_exec (X := (span_Gap_X c_span_Valid)) (Λ := pick1 [(58, pieceCut zq65 zq66 (span_Gap_p1_G p1))]) (rs := [.tmp 4]) (c := bodyOf Try.f16) mixed tab_ok hΓ Try.func16 (by kernel_rfl) (by kernel_rfl) (by kernel_rfl) (by kernel_rfl) (CutsOk_cons (q := 58) (c' := span_Gap_p1_code) (by kernel_rfl) rfl hp1 CutsOk_nil) (fun x k r h => Eq.trans (b := (zq61 (zq6a c_span_Valid p1)).run x k) (by kernel_rfl) h)
end
theorem zq6cΓ : ΓOk Try.prog (pick1 [(22, .spec (zq15 zq1l))]) := (ΓOk_cons zq1m ΓOk_nil)
def zq6d (m : Nat) : zq64 := zq68 m
theorem zq6e {β : Type} (i : Nat) (k1 k2 x t11 t12 t13) : (zq6d (i + 1) k1 k2 x t11 t12 t13 : Option β) = zq67 (zq6d i k1 k2) k1 k2 x t11 t12 t13 := rfl
def zq6f : zq64 := zq6d fuel
theorem zq6g : PieceOk Try.prog 31 0 span_Gap_p1_code zq65 zq66 (span_Gap_p1_G zq6f) := zq69 zq1l zq6cΓ fuel
def zq6h : zq60 := zq6a zq1l zq6f
theorem zq6i : SpecOk Try.prog 16 (zq61 zq6h) := zq6b zq1l zq6cΓ zq6f zq6g

/-- pagewatch/pagewatchref03.Normal -/
abbrev zq6j := {β : Type} → (List (Int × Int)) → (Int → (List (Int × Int)) → Option β) → Option β
def zq6k (c : zq6j) : Spec :=
  ⟨[(false, [.data (.slice (.prod (.int .i64) (.int .i64)))])], [], [(false, [.rowh 0]), (false, [.data (.int .i64)])], [.row 30 (.prod (.int .i64) (.int .i64))], fun x k => c x.1.1.1 (fun r0 r1 => k (((), (r0, ()), ()), (r1, ())))⟩
noncomputable def ref03_Normal_p1_code : Code := codeAt 250 (bodyOf Try.f24)
noncomputable def ref03_Normal_p5_code : Code := codeAt 4090 (bodyOf Try.f24)
noncomputable def ref03_Normal_p2_code : Code := codeAt 207 (loopBody ref03_Normal_p5_code)
noncomputable def ref03_Normal_p3_code : Code := codeAt 103 (loopBody ref03_Normal_p5_code)
noncomputable def ref03_Normal_p4_code : Code := codeAt 205 (loopBody ref03_Normal_p5_code)
abbrev zq6l (β : Type) := Int → (List (Int × Int)) → Option β
abbrev zq6m (β : Type) := (List Int) → (List (Int × Int)) → (List (Int × Int)) → Option β
abbrev zq6n := {β : Type} → zq6l β → zq6m β → (List (Int × Int)) → Int → (List Int) → (List (Int × Int)) → (List (Int × Int)) → Option β
def zq6o : View := ⟨0, [0, 4, 5, 6, 7], [(false, [.data (.slice (.prod (.int .i64) (.int .i64)))]), (false, [.rowh 0]), (false, [.maph 1]), (false, [.maph 2]), (false, [.data (.int .i64)])], [.row 3 (.int .i64), .map 59 (.int .i64) (.int .i64) false, .map 59 (.int .i64) (.int .i64) false]⟩
def zq6p : List (AExit × View) := [(.ret, ⟨0, [2, 3], [(false, [.rowh 0]), (false, [.data (.int .i64)])], [.row 30 (.prod (.int .i64) (.int .i64))]⟩), (.exit 0, ⟨0, [4, 5, 6], [(false, [.rowh 0]), (false, [.maph 1]), (false, [.maph 2])], [.row 3 (.int .i64), .map 59 (.int .i64) (.int .i64) false, .map 59 (.int .i64) (.int .i64) false]⟩)]
@[reducible] def ref03_Normal_p1_G (p : zq6n) {β : Type} (d : zq6o.den) (ks : Outs.K β zq6p) : Option β :=
  p (fun a0 a1 => ks.1 (((), (a0, ()), ()), (a1, ()))) (fun a0 a1 a2 => ks.2.1 (((), (), (), ()), (a0, a1, a2, ()))) d.1.1.1 d.1.2.2.2.2.1.1 d.2.1 d.2.2.1 d.2.2.2.1
abbrev zq6q (β : Type) := Int → Int → (List Int) → (List (Int × Int)) → (List (Int × Int)) → (List (Int × Int)) → Option β
abbrev zq6r := {β : Type} → zq6q β → Int → Int → Bool → (List Int) → (List (Int × Int)) → (List (Int × Int)) → (List (Int × Int)) → Option β
def zq6s : View := ⟨0, [4, 5, 6, 9, 10, 11, 101], [(false, [.rowh 0]), (false, [.maph 1]), (false, [.maph 2]), (false, [.rowh 3]), (false, [.data (.int .i64)]), (false, [.data (.int .i64)]), (false, [.data .bool])], [.row 3 (.int .i64), .map 59 (.int .i64) (.int .i64) false, .map 59 (.int .i64) (.int .i64) false, .row 30 (.prod (.int .i64) (.int .i64))]⟩
def zq6t : List (AExit × View) := [(.normal, ⟨0, [4, 5, 6, 9, 10, 11], [(false, [.rowh 0]), (false, [.maph 1]), (false, [.maph 2]), (false, [.rowh 3]), (false, [.data (.int .i64)]), (false, [.data (.int .i64)])], [.row 3 (.int .i64), .map 59 (.int .i64) (.int .i64) false, .map 59 (.int .i64) (.int .i64) false, .row 30 (.prod (.int .i64) (.int .i64))]⟩)]
@[reducible] def ref03_Normal_p2_G (p : zq6r) {β : Type} (d : zq6s.den) (ks : Outs.K β zq6t) : Option β :=
  p (fun a0 a1 a2 a3 a4 a5 => ks.1 (((), (), (), (), (a0, ()), (a1, ()), ()), (a2, a3, a4, a5, ()))) d.1.2.2.2.2.1.1 d.1.2.2.2.2.2.1.1 d.1.2.2.2.2.2.2.1.1 d.2.1 d.2.2.1 d.2.2.2.1 d.2.2.2.2.1
abbrev zq6u (β : Type) := Int → Int → (List Int) → (List (Int × Int)) → (List (Int × Int)) → (List (Int × Int)) → Option β
abbrev zq6v := {β : Type} → zq6u β → Int → Int → Int → (List Int) → (List (Int × Int)) → (List (Int × Int)) → (List (Int × Int)) → Option β
def zq6w : View := ⟨0, [4, 5, 6, 9, 10, 11, 12], [(false, [.rowh 0]), (false, [.maph 1]), (false, [.maph 2]), (false, [.rowh 3]), (false, [.data (.int .i64)]), (false, [.data (.int .i64)]), (false, [.data (.int .i64)])], [.row 3 (.int .i64), .map 59 (.int .i64) (.int .i64) false, .map 59 (.int .i64) (.int .i64) false, .row 30 (.prod (.int .i64) (.int .i64))]⟩
def zq6x : List (AExit × View) := [(.normal, ⟨0, [4, 5, 6, 9, 10, 11], [(false, [.rowh 0]), (false, [.maph 1]), (false, [.maph 2]), (false, [.rowh 3]), (false, [.data (.int .i64)]), (false, [.data (.int .i64)])], [.row 3 (.int .i64), .map 59 (.int .i64) (.int .i64) false, .map 59 (.int .i64) (.int .i64) false, .row 30 (.prod (.int .i64) (.int .i64))]⟩)]
@[reducible] def ref03_Normal_p3_G (p : zq6v) {β : Type} (d : zq6w.den) (ks : Outs.K β zq6x) : Option β :=
  p (fun a0 a1 a2 a3 a4 a5 => ks.1 (((), (), (), (), (a0, ()), (a1, ()), ()), (a2, a3, a4, a5, ()))) d.1.2.2.2.2.1.1 d.1.2.2.2.2.2.1.1 d.1.2.2.2.2.2.2.1.1 d.2.1 d.2.2.1 d.2.2.2.1 d.2.2.2.2.1
abbrev zq6y (β : Type) := Int → Int → Int → (List Int) → (List (Int × Int)) → (List (Int × Int)) → (List (Int × Int)) → Option β
abbrev zq6z := {β : Type} → zq6y β → Int → Int → Int → Bool → (List Int) → (List (Int × Int)) → (List (Int × Int)) → (List (Int × Int)) → Option β
def zq70 : View := ⟨0, [4, 5, 6, 9, 10, 11, 12, 87], [(false, [.rowh 0]), (false, [.maph 1]), (false, [.maph 2]), (false, [.rowh 3]), (false, [.data (.int .i64)]), (false, [.data (.int .i64)]), (false, [.data (.int .i64)]), (false, [.data .bool])], [.row 3 (.int .i64), .map 59 (.int .i64) (.int .i64) false, .map 59 (.int .i64) (.int .i64) false, .row 30 (.prod (.int .i64) (.int .i64))]⟩
def zq71 : List (AExit × View) := [(.normal, ⟨0, [4, 5, 6, 9, 10, 11, 12], [(false, [.rowh 0]), (false, [.maph 1]), (false, [.maph 2]), (false, [.rowh 3]), (false, [.data (.int .i64)]), (false, [.data (.int .i64)]), (false, [.data (.int .i64)])], [.row 3 (.int .i64), .map 59 (.int .i64) (.int .i64) false, .map 59 (.int .i64) (.int .i64) false, .row 30 (.prod (.int .i64) (.int .i64))]⟩)]
@[reducible] def ref03_Normal_p4_G (p : zq6z) {β : Type} (d : zq70.den) (ks : Outs.K β zq71) : Option β :=
  p (fun a0 a1 a2 a3 a4 a5 a6 => ks.1 (((), (), (), (), (a0, ()), (a1, ()), (a2, ()), ()), (a3, a4, a5, a6, ()))) d.1.2.2.2.2.1.1 d.1.2.2.2.2.2.1.1 d.1.2.2.2.2.2.2.1.1 d.1.2.2.2.2.2.2.2.1.1 d.2.1 d.2.2.1 d.2.2.2.1 d.2.2.2.2.1
abbrev zq72 (β : Type) := (List (Int × Int)) → Option β
abbrev zq73 := {β : Type} → zq72 β → Int → Int → (List Int) → (List (Int × Int)) → (List (Int × Int)) → (List (Int × Int)) → Option β
def zq74 : View := ⟨0, [4, 5, 6, 9, 10, 11], [(false, [.rowh 0]), (false, [.maph 1]), (false, [.maph 2]), (false, [.rowh 3]), (false, [.data (.int .i64)]), (false, [.data (.int .i64)])], [.row 3 (.int .i64), .map 59 (.int .i64) (.int .i64) false, .map 59 (.int .i64) (.int .i64) false, .row 30 (.prod (.int .i64) (.int .i64))]⟩
def zq75 : List (AExit × View) := [(.exit 2, ⟨0, [9], [(false, [.rowh 0])], [.row 30 (.prod (.int .i64) (.int .i64))]⟩)]
@[reducible] def ref03_Normal_p5_G (p : zq73) {β : Type} (d : zq74.den) (ks : Outs.K β zq75) : Option β :=
  p (fun a0 => ks.1 (((), ()), (a0, ()))) d.1.2.2.2.2.1.1 d.1.2.2.2.2.2.1.1 d.2.1 d.2.2.1 d.2.2.2.1 d.2.2.2.2.1
section
variable (c_ref03_Sort : zq3u)
@[reducible] def ref03_Normal_X : Ctx := ⟨look tab, pick1 [(44, .spec (zq3v c_ref03_Sort))], false, false⟩
def zq76 {β : Type} (rec : (List (Int × Int)) → Int → (List Int) → (List (Int × Int)) → (List (Int × Int)) → Option β) (k1 : zq6l β) (k2 : zq6m β) (l : List (Int × Int)) (i_ : Int) (at_ : List Int) (open_ : List (Int × Int)) (shut : List (Int × Int)) : Option β :=
  cond (decide (i_ < (List.length l : Int)))
  (cond (decide (0 ≤ i_) && decide (i_ < (List.length l : Int)))
  (let e : (Int × Int) := List.getD l (Int.toNat i_) ((0 : Int), (0 : Int));
  cond (decide (e.2 ≤ e.1))
  (let i_2 : Int := (IntKind.i64.wrap (i_ + (1 : Int)));
  rec l i_2 at_ open_ shut)
  (cond (decide (e.1 < (0 : Int)))
  (k1 (1 : Int) ([] : List (Int × Int)))
  (cond (decide ((8589934592 : Int) < e.2))
  (k1 (1 : Int) ([] : List (Int × Int)))
  (let l2 : List Int := ([e.1, e.2] : List Int);
  cond (decide ((List.length at_ + List.length l2) * 8 ≤ roomMax))
  (let l3 : List Int := (at_ ++ l2);
  let g : Int := (mGet (.int .i64) open_ e.1 (0 : Int));
  let m_ : List (Int × Int) := (mPut (.int .i64) open_ e.1 (IntKind.i64.wrap (g + (1 : Int))));
  let g2 : Int := (mGet (.int .i64) shut e.2 (0 : Int));
  let m_2 : List (Int × Int) := (mPut (.int .i64) shut e.2 (IntKind.i64.wrap (g2 + (1 : Int))));
  let i_2 : Int := (IntKind.i64.wrap (i_ + (1 : Int)));
  rec l i_2 l3 m_ m_2)
  none))))
  none)
  (k2 at_ open_ shut)
def zq77 {β : Type} : Nat → zq6l β → zq6m β → (List (Int × Int)) → Int → (List Int) → (List (Int × Int)) → (List (Int × Int)) → Option β
  | 0 => fun _ _ _ _ _ _ _ => none
  | i + 1 => fun k1 k2 l i_ at_ open_ shut => zq76 (zq77 i k1 k2) k1 k2 l i_ at_ open_ shut
theorem zq78 (hΓ : ΓOk Try.prog (ref03_Normal_X c_ref03_Sort).Γ) (i : Nat) : PieceOk Try.prog 113 0 ref03_Normal_p1_code zq6o zq6p (ref03_Normal_p1_G (zq77 i)) := by
  rw [show ref03_Normal_p1_code = .loop (loopBody ref03_Normal_p1_code) by kernel_rfl]
  exact piece_loop (X := (ref03_Normal_X c_ref03_Sort)) (p := 1) (Λ := pick1 []) (G := fun i => @fun β d ks => ref03_Normal_p1_G (zq77 i) d ks) mixed tab_ok hΓ rfl (by kernel_rfl) CutsOk_nil (fun _ _ => rfl) (fun i => @fun β d ks r h => Eq.trans (b := ref03_Normal_p1_G (zq77 (i + 1)) d ks) (by kernel_rfl) h) i
def zq79 {β : Type} (k1 : zq6q β) (depth : Int) (i_ : Int) (t101 : Bool) (at_ : List Int) (open_ : List (Int × Int)) (shut : List (Int × Int)) (out : List (Int × Int)) : Option β :=
  cond t101
  (cond (decide (0 ≤ i_) && decide (i_ < (List.length at_ : Int)))
  (cond (decide (0 ≤ (IntKind.i64.wrap ((List.length out : Int) - (1 : Int)))) && decide ((IntKind.i64.wrap ((List.length out : Int) - (1 : Int))) < (List.length out : Int)))
  (let l : List (Int × Int) := (List.set out (Int.toNat (IntKind.i64.wrap ((List.length out : Int) - (1 : Int)))) ((List.getD out (Int.toNat (IntKind.i64.wrap ((List.length out : Int) - (1 : Int)))) ((0 : Int), (0 : Int))).1, (List.getD at_ (Int.toNat i_) (0 : Int))));
  k1 depth i_ at_ open_ shut l)
  none)
  none)
  (k1 depth i_ at_ open_ shut out)
def zq7a {β : Type} (k1 : zq6q β) (depth : Int) (i_ : Int) (t101 : Bool) (at_ : List Int) (open_ : List (Int × Int)) (shut : List (Int × Int)) (out : List (Int × Int)) : Option β := zq79 k1 depth i_ t101 at_ open_ shut out
theorem zq7b (hΓ : ΓOk Try.prog (ref03_Normal_X c_ref03_Sort).Γ) : PieceOk Try.prog 113 0 ref03_Normal_p2_code zq6s zq6t (ref03_Normal_p2_G (zq7a)) :=
  piece_exec (X := (ref03_Normal_X c_ref03_Sort)) (p := 207) (Λ := pick1 []) mixed tab_ok hΓ (by kernel_rfl) CutsOk_nil (fun d ks r h => Eq.trans (b := ref03_Normal_p2_G (zq7a) d ks) (by kernel_rfl) h)
def zq7c (p2 : zq6r) {β : Type} (k1 : zq6u β) (depth : Int) (i_ : Int) (before : Int) (at_ : List Int) (open_ : List (Int × Int)) (shut : List (Int × Int)) (out : List (Int × Int)) : Option β :=
  cond (decide ((0 : Int) < before))
  (p2 (fun (depth2 : Int) (i_2 : Int) (at_2 : List Int) (open_2 : List (Int × Int)) (shut2 : List (Int × Int)) (out2 : List (Int × Int)) =>
  k1 depth2 i_2 at_2 open_2 shut2 out2) depth i_ (decide (depth = (0 : Int))) at_ open_ shut out)
  (p2 (fun (depth2 : Int) (i_2 : Int) (at_2 : List Int) (open_2 : List (Int × Int)) (shut2 : List (Int × Int)) (out2 : List (Int × Int)) =>
  k1 depth2 i_2 at_2 open_2 shut2 out2) depth i_ false at_ open_ shut out)
def zq7d (p2 : zq6r) {β : Type} (k1 : zq6u β) (depth : Int) (i_ : Int) (before : Int) (at_ : List Int) (open_ : List (Int × Int)) (shut : List (Int × Int)) (out : List (Int × Int)) : Option β := zq7c p2 k1 depth i_ before at_ open_ shut out
theorem zq7e (hΓ : ΓOk Try.prog (ref03_Normal_X c_ref03_Sort).Γ) (p2 : zq6r) (hp2 : PieceOk Try.prog 113 0 ref03_Normal_p2_code zq6s zq6t (ref03_Normal_p2_G p2)) : PieceOk Try.prog 113 0 ref03_Normal_p3_code zq6w zq6x (ref03_Normal_p3_G (zq7d p2)) :=
  piece_exec (X := (ref03_Normal_X c_ref03_Sort)) (p := 103) (Λ := pick1 [(207, pieceCut zq6s zq6t (ref03_Normal_p2_G p2))]) mixed tab_ok hΓ (by kernel_rfl) (CutsOk_cons (q := 207) (c' := ref03_Normal_p2_code) (by kernel_rfl) rfl hp2 CutsOk_nil) (fun d ks r h => Eq.trans (b := ref03_Normal_p3_G (zq7d p2) d ks) (by kernel_rfl) h)
def zq7f {β : Type} (k1 : zq6y β) (depth : Int) (i_ : Int) (before : Int) (t87 : Bool) (at_ : List Int) (open_ : List (Int × Int)) (shut : List (Int × Int)) (out : List (Int × Int)) : Option β :=
  cond t87
  (cond (decide (0 ≤ i_) && decide (i_ < (List.length at_ : Int)))
  (let l : List (Int × Int) := ([((List.getD at_ (Int.toNat i_) (0 : Int)), (0 : Int))] : List (Int × Int));
  cond (decide ((List.length out + List.length l) * 16 ≤ roomMax))
  (let l2 : List (Int × Int) := (out ++ l);
  k1 depth i_ before at_ open_ shut l2)
  none)
  none)
  (k1 depth i_ before at_ open_ shut out)
def zq7g {β : Type} (k1 : zq6y β) (depth : Int) (i_ : Int) (before : Int) (t87 : Bool) (at_ : List Int) (open_ : List (Int × Int)) (shut : List (Int × Int)) (out : List (Int × Int)) : Option β := zq7f k1 depth i_ before t87 at_ open_ shut out
theorem zq7h (hΓ : ΓOk Try.prog (ref03_Normal_X c_ref03_Sort).Γ) : PieceOk Try.prog 113 0 ref03_Normal_p4_code zq70 zq71 (ref03_Normal_p4_G (zq7g)) :=
  piece_exec (X := (ref03_Normal_X c_ref03_Sort)) (p := 205) (Λ := pick1 []) mixed tab_ok hΓ (by kernel_rfl) CutsOk_nil (fun d ks r h => Eq.trans (b := ref03_Normal_p4_G (zq7g) d ks) (by kernel_rfl) h)
def zq7i (p3 : zq6v) (p4 : zq6z) {β : Type} (rec : Int → Int → (List Int) → (List (Int × Int)) → (List (Int × Int)) → (List (Int × Int)) → Option β) (k1 : zq72 β) (depth : Int) (i_ : Int) (at_ : List Int) (open_ : List (Int × Int)) (shut : List (Int × Int)) (out : List (Int × Int)) : Option β :=
  cond (decide (i_ < (List.length at_ : Int)))
  (cond (decide (0 ≤ i_) && decide (i_ < (List.length at_ : Int)))
  (let g : Int := (mGet (.int .i64) open_ (List.getD at_ (Int.toNat i_) (0 : Int)) (0 : Int));
  cond (decide (0 ≤ i_) && decide (i_ < (List.length at_ : Int)))
  (let g2 : Int := (mGet (.int .i64) shut (List.getD at_ (Int.toNat i_) (0 : Int)) (0 : Int));
  let depth2 : Int := (IntKind.i64.wrap (depth + (IntKind.i64.wrap (g - g2))));
  cond (decide (depth = (0 : Int)))
  (p4 (fun (depth3 : Int) (i_2 : Int) (before : Int) (at_2 : List Int) (open_2 : List (Int × Int)) (shut2 : List (Int × Int)) (out2 : List (Int × Int)) =>
  p3 (fun (depth4 : Int) (i_3 : Int) (at_3 : List Int) (open_3 : List (Int × Int)) (shut3 : List (Int × Int)) (out3 : List (Int × Int)) =>
  let i_4 : Int := (IntKind.i64.wrap (i_3 + (1 : Int)));
  rec depth4 i_4 at_3 open_3 shut3 out3) depth3 i_2 before at_2 open_2 shut2 out2) depth2 i_ depth (decide ((0 : Int) < depth2)) at_ open_ shut out)
  (p4 (fun (depth3 : Int) (i_2 : Int) (before : Int) (at_2 : List Int) (open_2 : List (Int × Int)) (shut2 : List (Int × Int)) (out2 : List (Int × Int)) =>
  p3 (fun (depth4 : Int) (i_3 : Int) (at_3 : List Int) (open_3 : List (Int × Int)) (shut3 : List (Int × Int)) (out3 : List (Int × Int)) =>
  let i_4 : Int := (IntKind.i64.wrap (i_3 + (1 : Int)));
  rec depth4 i_4 at_3 open_3 shut3 out3) depth3 i_2 before at_2 open_2 shut2 out2) depth2 i_ depth false at_ open_ shut out))
  none)
  none)
  (k1 out)
def zq7j (p3 : zq6v) (p4 : zq6z) {β : Type} : Nat → zq72 β → Int → Int → (List Int) → (List (Int × Int)) → (List (Int × Int)) → (List (Int × Int)) → Option β
  | 0 => fun _ _ _ _ _ _ _ => none
  | i + 1 => fun k1 depth i_ at_ open_ shut out => zq7i p3 p4 (zq7j p3 p4 i k1) k1 depth i_ at_ open_ shut out
theorem zq7k (hΓ : ΓOk Try.prog (ref03_Normal_X c_ref03_Sort).Γ) (p3 : zq6v) (p4 : zq6z) (hp3 : PieceOk Try.prog 113 0 ref03_Normal_p3_code zq6w zq6x (ref03_Normal_p3_G p3)) (hp4 : PieceOk Try.prog 113 0 ref03_Normal_p4_code zq70 zq71 (ref03_Normal_p4_G p4)) (i : Nat) : PieceOk Try.prog 113 0 ref03_Normal_p5_code zq74 zq75 (ref03_Normal_p5_G (zq7j p3 p4 i)) := by
  rw [show ref03_Normal_p5_code = .loop (loopBody ref03_Normal_p5_code) by kernel_rfl]
  exact piece_loop (X := (ref03_Normal_X c_ref03_Sort)) (p := 1) (Λ := pick1 [(103, pieceCut zq6w zq6x (ref03_Normal_p3_G p3)), (205, pieceCut zq70 zq71 (ref03_Normal_p4_G p4))]) (G := fun i => @fun β d ks => ref03_Normal_p5_G (zq7j p3 p4 i) d ks) mixed tab_ok hΓ rfl (by kernel_rfl) (CutsOk_cons (q := 103) (c' := ref03_Normal_p3_code) (by kernel_rfl) rfl hp3 (CutsOk_cons (q := 205) (c' := ref03_Normal_p4_code) (by kernel_rfl) rfl hp4 CutsOk_nil)) (fun _ _ => rfl) (fun i => @fun β d ks r h => Eq.trans (b := ref03_Normal_p5_G (zq7j p3 p4 (i + 1)) d ks) (by kernel_rfl) h) i
def zq7l (p1 : zq6n) (p5 : zq73) {β : Type} (l : List (Int × Int)) (k : (Int → (List (Int × Int)) → Option β)) : Option β :=
  cond (decide ((4096 : Int) < (List.length l : Int)))
  (k (5 : Int) ([] : List (Int × Int)))
  (let m_ : List (Int × Int) := ([] : List (Int × Int));
  let m_2 : List (Int × Int) := ([] : List (Int × Int));
  p1 (fun (t3 : Int) (t2 : List (Int × Int)) =>
  k t3 t2) (fun (at_ : List Int) (open_ : List (Int × Int)) (shut : List (Int × Int)) =>
  c_ref03_Sort at_ (fun (lrSort : List Int) =>
  p5 (fun (out : List (Int × Int)) =>
  k (0 : Int) out) (0 : Int) (0 : Int) lrSort open_ shut ([] : List (Int × Int)))) l (0 : Int) ([] : List Int) m_ m_2)
theorem zq7m (hΓ : ΓOk Try.prog (ref03_Normal_X c_ref03_Sort).Γ) (p1 : zq6n) (p5 : zq73) (hp1 : PieceOk Try.prog 113 0 ref03_Normal_p1_code zq6o zq6p (ref03_Normal_p1_G p1)) (hp5 : PieceOk Try.prog 113 0 ref03_Normal_p5_code zq74 zq75 (ref03_Normal_p5_G p5)) : SpecOk Try.prog 24 (zq6k (zq7l c_ref03_Sort p1 p5)) :=
  spec_exec (X := (ref03_Normal_X c_ref03_Sort)) (Λ := pick1 [(250, pieceCut zq6o zq6p (ref03_Normal_p1_G p1)), (4090, pieceCut zq74 zq75 (ref03_Normal_p5_G p5))]) (rs := [.tmp 2, .tmp 3]) (c := bodyOf Try.f24) mixed tab_ok hΓ Try.func24 (by kernel_rfl) (by kernel_rfl) (by kernel_rfl) (by kernel_rfl) (CutsOk_cons (q := 250) (c' := ref03_Normal_p1_code) (by kernel_rfl) rfl hp1 (CutsOk_cons (q := 4090) (c' := ref03_Normal_p5_code) (by kernel_rfl) rfl hp5 CutsOk_nil)) (fun x k r h => Eq.trans (b := (zq6k (zq7l c_ref03_Sort p1 p5)).run x k) (by kernel_rfl) h)
end
theorem zq7nΓ : ΓOk Try.prog (pick1 [(44, .spec (zq3v zq54))]) := (ΓOk_cons zq55 ΓOk_nil)
def zq7o (m : Nat) : zq6n := zq77 m
theorem zq7p {β : Type} (i : Nat) (k1 k2 l i_ at_ open_ shut) : (zq7o (i + 1) k1 k2 l i_ at_ open_ shut : Option β) = zq76 (zq7o i k1 k2) k1 k2 l i_ at_ open_ shut := rfl
def zq7q : zq6n := zq7o fuel
theorem zq7r : PieceOk Try.prog 113 0 ref03_Normal_p1_code zq6o zq6p (ref03_Normal_p1_G zq7q) := zq78 zq54 zq7nΓ fuel
def zq7s : zq6r := zq7a
theorem zq7t : PieceOk Try.prog 113 0 ref03_Normal_p2_code zq6s zq6t (ref03_Normal_p2_G zq7s) := zq7b zq54 zq7nΓ
def zq7u : zq6v := zq7d zq7s
theorem zq7v : PieceOk Try.prog 113 0 ref03_Normal_p3_code zq6w zq6x (ref03_Normal_p3_G zq7u) := zq7e zq54 zq7nΓ zq7s zq7t
def zq7w : zq6z := zq7g
theorem zq7x : PieceOk Try.prog 113 0 ref03_Normal_p4_code zq70 zq71 (ref03_Normal_p4_G zq7w) := zq7h zq54 zq7nΓ
def zq7y (m : Nat) : zq73 := zq7j zq7u zq7w m
theorem zq7z {β : Type} (i : Nat) (k1 depth i_ at_ open_ shut out) : (zq7y (i + 1) k1 depth i_ at_ open_ shut out : Option β) = zq7i zq7u zq7w (zq7y i k1) k1 depth i_ at_ open_ shut out := rfl
def zq80 : zq73 := zq7y fuel
theorem zq81 : PieceOk Try.prog 113 0 ref03_Normal_p5_code zq74 zq75 (ref03_Normal_p5_G zq80) := zq7k zq54 zq7nΓ zq7u zq7w zq7v zq7x fuel
def zq82 : zq6j := zq7l zq54 zq7q zq80
theorem zq83 : SpecOk Try.prog 24 (zq6k zq82) := zq7m zq54 zq7nΓ zq7q zq80 zq7r zq81

/-- pagewatch/span.two -/
abbrev zq84 := {β : Type} → (List (Int × Int)) → (List (Int × Int)) → (Int → (List (Int × Int)) → Option β) → Option β
def zq85 (c : zq84) : Spec :=
  ⟨[(false, [.data (.slice (.prod (.int .i64) (.int .i64)))]), (false, [.data (.slice (.prod (.int .i64) (.int .i64)))]), (false, [.fn 43 []])], [], [(false, [.rowh 0]), (false, [.data (.int .i64)])], [.row 30 (.prod (.int .i64) (.int .i64))], fun x k => c x.1.1.1 x.1.2.1.1 (fun r0 r1 => k (((), (r0, ()), ()), (r1, ())))⟩
section
variable (c_span_Valid : zq14) (c_span_Without : zq2q)
@[reducible] def span_two_vspan_Without_X : Ctx := ⟨look tab, pick1 [(22, .spec (zq15 c_span_Valid)), (43, .spec (zq2r c_span_Without))], false, false⟩
def zq86 {β : Type} (a : List (Int × Int)) (b : List (Int × Int)) (k : (Int → (List (Int × Int)) → Option β)) : Option β :=
  c_span_Valid a (fun (rValid : Bool) =>
  cond (!rValid)
  (k (8 : Int) ([] : List (Int × Int)))
  (c_span_Valid b (fun (rValid2 : Bool) =>
  cond (!rValid2)
  (k (8 : Int) ([] : List (Int × Int)))
  (c_span_Without a b (fun (lrWithout : List (Int × Int)) =>
  cond (decide ((4096 : Int) < (List.length lrWithout : Int)))
  (k (5 : Int) ([] : List (Int × Int)))
  (k (0 : Int) lrWithout))))))
theorem zq87 (hΓ : ΓOk Try.prog (span_two_vspan_Without_X c_span_Valid c_span_Without).Γ) : SpecOk Try.prog 39 (zq85 (zq86 c_span_Valid c_span_Without)) :=
  spec_exec (X := (span_two_vspan_Without_X c_span_Valid c_span_Without)) (Λ := pick1 []) (rs := [.tmp 6, .tmp 7]) (c := bodyOf Try.f39) mixed tab_ok hΓ Try.func39 (by kernel_rfl) (by kernel_rfl) (by kernel_rfl) (by kernel_rfl) CutsOk_nil (fun x k r h => Eq.trans (b := (zq85 (zq86 c_span_Valid c_span_Without)).run x k) (by kernel_rfl) h)
end
theorem zq88Γ : ΓOk Try.prog (pick1 [(22, .spec (zq15 zq1l)), (43, .spec (zq2r zq3s))]) := (ΓOk_cons zq1m (ΓOk_cons zq3t ΓOk_nil))
def zq89 : zq84 := zq86 zq1l zq3s
theorem zq8a : SpecOk Try.prog 39 (zq85 zq89) := zq87 zq1l zq3s zq88Γ

/-- (*pagewatch/pagewatchmade.Dice).Set -/
abbrev zq8b := {β : Type} → (List Int × Int) → ((List Int × Int) → (List (Int × Int)) → Option β) → Option β
def zq8c (c : zq8b) : Spec :=
  ⟨[(false, [.ptr 0 0])], [.cells 51 [.data (.prod (.slice (.int .i64)) (.int .i64))]], [(false, [.rowh 1])], [.cells 51 [.data (.prod (.slice (.int .i64)) (.int .i64))], .row 30 (.prod (.int .i64) (.int .i64))], fun x k => c x.2.1.1 (fun r0 r1 => k (((), ()), ((r0, ()), r1, ())))⟩
noncomputable def made_Dice_Set_p1_code : Code := codeAt 58 (bodyOf Try.f11)
abbrev zq8d (β : Type) := (List Int) → Int → (List (Int × Int)) → Option β
abbrev zq8e := {β : Type} → zq8d β → Int → (List Int) → Int → (List (Int × Int)) → Option β
def zq8f : View := ⟨1, [0, 3, 4], [(false, [.ptr 0 0]), (false, [.rowh 1]), (false, [.data (.int .i64)])], [.cells 51 [.data (.slice (.int .i64)), .data (.int .i64)], .row 30 (.prod (.int .i64) (.int .i64))]⟩
def zq8g : List (AExit × View) := [(.exit 0, ⟨1, [3], [(false, [.rowh 1])], [.cells 51 [.data (.slice (.int .i64)), .data (.int .i64)], .row 30 (.prod (.int .i64) (.int .i64))]⟩)]
@[reducible] def made_Dice_Set_p1_G (p : zq8e) {β : Type} (d : zq8f.den) (ks : Outs.K β zq8g) : Option β :=
  p (fun a0 a1 a2 => ks.1 (((), ()), ((a0, a1, ()), a2, ()))) d.1.2.2.1.1 d.2.1.1 d.2.1.2.1 d.2.2.1
section
variable (c_made_Dice_Next : zq25) (c_made_Dice_Span : zq2c) (c_ref03_Normal : zq6j)
@[reducible] def made_Dice_Set_X : Ctx := ⟨look tab, pick1 [(30, .spec (zq26 c_made_Dice_Next)), (35, .spec (zq2d c_made_Dice_Span)), (24, .spec (zq6k c_ref03_Normal))], false, false⟩
def zq8h {β : Type} (rec : Int → (List Int) → Int → (List (Int × Int)) → Option β) (k1 : zq8d β) (i_ : Int) (d : List Int) (d2 : Int) (l : List (Int × Int)) : Option β :=
  cond (decide ((0 : Int) < i_))
  (c_made_Dice_Span (d, d2) (fun (rSpan : (Int × Int)) (mrSpan : (List Int × Int)) =>
  cond (decide (rSpan.1 < rSpan.2))
  (let l2 : List (Int × Int) := ([rSpan] : List (Int × Int));
  cond (decide ((List.length l + List.length l2) * 16 ≤ roomMax))
  (let l3 : List (Int × Int) := (l ++ l2);
  let i_2 : Int := (IntKind.i64.wrap (i_ - (1 : Int)));
  rec i_2 mrSpan.1 mrSpan.2 l3)
  none)
  (let i_2 : Int := (IntKind.i64.wrap (i_ - (1 : Int)));
  rec i_2 mrSpan.1 mrSpan.2 l)))
  (k1 d d2 l)
def zq8i {β : Type} : Nat → zq8d β → Int → (List Int) → Int → (List (Int × Int)) → Option β
  | 0 => fun _ _ _ _ _ => none
  | i + 1 => fun k1 i_ d d2 l => zq8h c_made_Dice_Span (zq8i i k1) k1 i_ d d2 l
theorem zq8j (hΓ : ΓOk Try.prog (made_Dice_Set_X c_made_Dice_Next c_made_Dice_Span c_ref03_Normal).Γ) (i : Nat) : PieceOk Try.prog 31 1 made_Dice_Set_p1_code zq8f zq8g (made_Dice_Set_p1_G (zq8i c_made_Dice_Span i)) := by
  rw [show made_Dice_Set_p1_code = .loop (loopBody made_Dice_Set_p1_code) by kernel_rfl]
  exact piece_loop (X := (made_Dice_Set_X c_made_Dice_Next c_made_Dice_Span c_ref03_Normal)) (p := 1) (Λ := pick1 []) (G := fun i => @fun β d ks => made_Dice_Set_p1_G (zq8i c_made_Dice_Span i) d ks) mixed tab_ok hΓ rfl (by kernel_rfl) CutsOk_nil (fun _ _ => rfl) (fun i => @fun β d ks r h => Eq.trans (b := made_Dice_Set_p1_G (zq8i c_made_Dice_Span (i + 1)) d ks) (by kernel_rfl) h) i
def zq8k (p1 : zq8e) {β : Type} (d : (List Int × Int)) (k : ((List Int × Int) → (List (Int × Int)) → Option β)) : Option β :=
  c_made_Dice_Next (7 : Int) d (fun (rNext : Int) (mrNext : (List Int × Int)) =>
  p1 (fun (b0_ : List Int) (b0_2 : Int) (l : List (Int × Int)) =>
  c_ref03_Normal l (fun (rNormal : Int) (lrNormal : List (Int × Int)) =>
  k (b0_, b0_2) lrNormal)) rNext mrNext.1 mrNext.2 ([] : List (Int × Int)))
theorem zq8l (hΓ : ΓOk Try.prog (made_Dice_Set_X c_made_Dice_Next c_made_Dice_Span c_ref03_Normal).Γ) (p1 : zq8e) (hp1 : PieceOk Try.prog 31 1 made_Dice_Set_p1_code zq8f zq8g (made_Dice_Set_p1_G p1)) : SpecOk Try.prog 11 (zq8c (zq8k c_made_Dice_Next c_ref03_Normal p1)) :=
  spec_exec (X := (made_Dice_Set_X c_made_Dice_Next c_made_Dice_Span c_ref03_Normal)) (Λ := pick1 [(58, pieceCut zq8f zq8g (made_Dice_Set_p1_G p1))]) (rs := [.tmp 2]) (c := bodyOf Try.f11) mixed tab_ok hΓ Try.func11 (by kernel_rfl) (by kernel_rfl) (by kernel_rfl) (by kernel_rfl) (CutsOk_cons (q := 58) (c' := made_Dice_Set_p1_code) (by kernel_rfl) rfl hp1 CutsOk_nil) (fun x k r h => Eq.trans (b := (zq8c (zq8k c_made_Dice_Next c_ref03_Normal p1)).run x k) (by kernel_rfl) h)
end
theorem zq8mΓ : ΓOk Try.prog (pick1 [(30, .spec (zq26 zq2a)), (35, .spec (zq2d zq2h)), (24, .spec (zq6k zq82))]) := (ΓOk_cons zq2b (ΓOk_cons zq2i (ΓOk_cons zq83 ΓOk_nil)))
def zq8n (m : Nat) : zq8e := zq8i zq2h m
theorem zq8o {β : Type} (i : Nat) (k1 i_ d d2 l) : (zq8n (i + 1) k1 i_ d d2 l : Option β) = zq8h zq2h (zq8n i k1) k1 i_ d d2 l := rfl
def zq8p : zq8e := zq8n fuel
theorem zq8q : PieceOk Try.prog 31 1 made_Dice_Set_p1_code zq8f zq8g (made_Dice_Set_p1_G zq8p) := zq8j zq2a zq2h zq82 zq8mΓ fuel
def zq8r : zq8b := zq8k zq2a zq82 zq8p
theorem zq8s : SpecOk Try.prog 11 (zq8c zq8r) := zq8l zq2a zq2h zq82 zq8mΓ zq8p zq8q

/-- pagewatch/span.Minus -/
abbrev zq8t := {β : Type} → (List (Int × Int)) → (List (Int × Int)) → (Int → (List (Int × Int)) → Option β) → Option β
def zq8u (c : zq8t) : Spec :=
  ⟨[(false, [.data (.slice (.prod (.int .i64) (.int .i64)))]), (false, [.data (.slice (.prod (.int .i64) (.int .i64)))])], [], [(false, [.rowh 0]), (false, [.data (.int .i64)])], [.row 30 (.prod (.int .i64) (.int .i64))], fun x k => c x.1.1.1 x.1.2.1.1 (fun r0 r1 => k (((), (r0, ()), ()), (r1, ())))⟩
section
variable (c_span_two_vspan_Without : zq84)
@[reducible] def span_Minus_X : Ctx := ⟨look tab, pick1 [(39, .spec (zq85 c_span_two_vspan_Without))], false, false⟩
def zq8v {β : Type} (a : List (Int × Int)) (b : List (Int × Int)) (k : (Int → (List (Int × Int)) → Option β)) : Option β :=
  c_span_two_vspan_Without a b (fun (rtwo : Int) (lrtwo : List (Int × Int)) =>
  k rtwo lrtwo)
theorem zq8w (hΓ : ΓOk Try.prog (span_Minus_X c_span_two_vspan_Without).Γ) : SpecOk Try.prog 20 (zq8u (zq8v c_span_two_vspan_Without)) :=
  spec_exec (X := (span_Minus_X c_span_two_vspan_Without)) (Λ := pick1 []) (rs := [.tmp 4, .tmp 5]) (c := bodyOf Try.f20) mixed tab_ok hΓ Try.func20 (by kernel_rfl) (by kernel_rfl) (by kernel_rfl) (by kernel_rfl) CutsOk_nil (fun x k r h => Eq.trans (b := (zq8u (zq8v c_span_two_vspan_Without)).run x k) (by kernel_rfl) h)
end
theorem zq8xΓ : ΓOk Try.prog (pick1 [(39, .spec (zq85 zq89))]) := (ΓOk_cons zq8a ΓOk_nil)
def zq8y : zq8t := zq8v zq89
theorem zq8z : SpecOk Try.prog 20 (zq8u zq8y) := zq8w zq89 zq8xΓ

/-- slices.IndexFunc[[]pagewatch/api.Span,pagewatch/api.Span] -/
abbrev zq90 := {β : Type} → (List (Int × Int)) → Int → (Int → Int → Option β) → Option β
def zq91 (c : zq90) : Spec :=
  ⟨[(false, [.data (.slice (.prod (.int .i64) (.int .i64)))]), (false, [.fn 38 [0]])], [.cells 3 [.data (.int .i64)]], [(false, [.data (.int .i64)])], [.cells 3 [.data (.int .i64)]], fun x k => c x.1.1.1 x.2.1.1 (fun r0 r1 => k (((r0, ()), ()), ((r1, ()), ())))⟩
noncomputable def slices_IndexFunc_api_Span_api_Span_vspan_Has_f1_p1_code : Code := codeAt 26 (bodyOf Try.f52)
abbrev zq92 (β : Type) := Int → Int → Option β
abbrev zq93 (β : Type) := Int → Option β
abbrev zq94 := {β : Type} → zq92 β → zq93 β → (List (Int × Int)) → Int → Int → Int → Option β
def zq95 : View := ⟨1, [0, 1, 7, 8], [(false, [.data (.slice (.prod (.int .i64) (.int .i64)))]), (false, [.fn 38 [0]]), (false, [.data (.int .i64)]), (false, [.data (.int .i64)])], [.cells 3 [.data (.int .i64)]]⟩
def zq96 : List (AExit × View) := [(.ret, ⟨1, [4], [(false, [.data (.int .i64)])], [.cells 3 [.data (.int .i64)]]⟩), (.exit 0, ⟨1, [], [], [.cells 3 [.data (.int .i64)]]⟩)]
@[reducible] def slices_IndexFunc_api_Span_api_Span_vspan_Has_f1_p1_G (p : zq94) {β : Type} (d : zq95.den) (ks : Outs.K β zq96) : Option β :=
  p (fun a0 a1 => ks.1 (((a0, ()), ()), ((a1, ()), ()))) (fun a0 => ks.2.1 ((), ((a0, ()), ()))) d.1.1.1 d.1.2.2.1.1 d.1.2.2.2.1.1 d.2.1.1
section
variable (c_span_Has_f1 : zq2j)
@[reducible] def slices_IndexFunc_api_Span_api_Span_vspan_Has_f1_X : Ctx := ⟨look tab, pick1 [(38, .spec (zq2k c_span_Has_f1))], false, false⟩
def zq97 {β : Type} (rec : (List (Int × Int)) → Int → Int → Int → Option β) (k1 : zq92 β) (k2 : zq93 β) (s : List (Int × Int)) (t7 : Int) (t8 : Int) (b0_ : Int) : Option β :=
  cond (decide (t8 < t7))
  (cond (decide (0 ≤ t8) && decide (t8 < (List.length s : Int)))
  (let e : (Int × Int) := List.getD s (Int.toNat t8) ((0 : Int), (0 : Int));
  c_span_Has_f1 e b0_ (fun (rHas1 : Bool) (mrHas1 : Int) =>
  cond rHas1
  (k1 t8 mrHas1)
  (rec s t7 (IntKind.i64.wrap (t8 + (1 : Int))) mrHas1)))
  none)
  (k2 b0_)
def zq98 {β : Type} : Nat → zq92 β → zq93 β → (List (Int × Int)) → Int → Int → Int → Option β
  | 0 => fun _ _ _ _ _ _ => none
  | i + 1 => fun k1 k2 s t7 t8 b0_ => zq97 c_span_Has_f1 (zq98 i k1 k2) k1 k2 s t7 t8 b0_
theorem zq99 (hΓ : ΓOk Try.prog (slices_IndexFunc_api_Span_api_Span_vspan_Has_f1_X c_span_Has_f1).Γ) (i : Nat) : PieceOk Try.prog 19 1 slices_IndexFunc_api_Span_api_Span_vspan_Has_f1_p1_code zq95 zq96 (slices_IndexFunc_api_Span_api_Span_vspan_Has_f1_p1_G (zq98 c_span_Has_f1 i)) := by
  rw [show slices_IndexFunc_api_Span_api_Span_vspan_Has_f1_p1_code = .loop (loopBody slices_IndexFunc_api_Span_api_Span_vspan_Has_f1_p1_code) by kernel_rfl]
  exact piece_loop (X := (slices_IndexFunc_api_Span_api_Span_vspan_Has_f1_X c_span_Has_f1)) (p := 1) (Λ := pick1 []) (G := fun i => @fun β d ks => slices_IndexFunc_api_Span_api_Span_vspan_Has_f1_p1_G (zq98 c_span_Has_f1 i) d ks) mixed tab_ok hΓ rfl (by kernel_rfl) CutsOk_nil (fun _ _ => rfl) (fun i => @fun β d ks r h => Eq.trans (b := slices_IndexFunc_api_Span_api_Span_vspan_Has_f1_p1_G (zq98 c_span_Has_f1 (i + 1)) d ks) (by kernel_rfl) h) i
def zq9a (p1 : zq94) {β : Type} (s : List (Int × Int)) (b0_ : Int) (k : (Int → Int → Option β)) : Option β :=
  p1 (fun (t4 : Int) (b0_2 : Int) =>
  k t4 b0_2) (fun (b0_2 : Int) =>
  k (-1 : Int) b0_2) s (List.length s : Int) (0 : Int) b0_
theorem zq9b (hΓ : ΓOk Try.prog (slices_IndexFunc_api_Span_api_Span_vspan_Has_f1_X c_span_Has_f1).Γ) (p1 : zq94) (hp1 : PieceOk Try.prog 19 1 slices_IndexFunc_api_Span_api_Span_vspan_Has_f1_p1_code zq95 zq96 (slices_IndexFunc_api_Span_api_Span_vspan_Has_f1_p1_G p1)) : SpecOk Try.prog 52 (zq91 (zq9a p1)) :=
  spec_exec (X := (slices_IndexFunc_api_Span_api_Span_vspan_Has_f1_X c_span_Has_f1)) (Λ := pick1 [(26, pieceCut zq95 zq96 (slices_IndexFunc_api_Span_api_Span_vspan_Has_f1_p1_G p1))]) (rs := [.tmp 4]) (c := bodyOf Try.f52) mixed tab_ok hΓ Try.func52 (by kernel_rfl) (by kernel_rfl) (by kernel_rfl) (by kernel_rfl) (CutsOk_cons (q := 26) (c' := slices_IndexFunc_api_Span_api_Span_vspan_Has_f1_p1_code) (by kernel_rfl) rfl hp1 CutsOk_nil) (fun x k r h => Eq.trans (b := (zq91 (zq9a p1)).run x k) (by kernel_rfl) h)
end
theorem zq9cΓ : ΓOk Try.prog (pick1 [(38, .spec (zq2k zq2o))]) := (ΓOk_cons zq2p ΓOk_nil)
def zq9d (m : Nat) : zq94 := zq98 zq2o m
theorem zq9e {β : Type} (i : Nat) (k1 k2 s t7 t8 b0_) : (zq9d (i + 1) k1 k2 s t7 t8 b0_ : Option β) = zq97 zq2o (zq9d i k1 k2) k1 k2 s t7 t8 b0_ := rfl
def zq9f : zq94 := zq9d fuel
theorem zq9g : PieceOk Try.prog 19 1 slices_IndexFunc_api_Span_api_Span_vspan_Has_f1_p1_code zq95 zq96 (slices_IndexFunc_api_Span_api_Span_vspan_Has_f1_p1_G zq9f) := zq99 zq2o zq9cΓ fuel
def zq9h : zq90 := zq9a zq9f
theorem zq9i : SpecOk Try.prog 52 (zq91 zq9h) := zq9b zq2o zq9cΓ zq9f zq9g

/-- slices.IndexFunc[[]pagewatch/api.Span,pagewatch/api.Span] -/
abbrev zq9j := {β : Type} → (List (Int × Int)) → (Int → Option β) → Option β
def zq9k (c : zq9j) : Spec :=
  ⟨[(false, [.data (.slice (.prod (.int .i64) (.int .i64)))]), (false, [.fn 49 []])], [], [(false, [.data (.int .i64)])], [], fun x k => c x.1.1.1 (fun r0 => k (((r0, ()), ()), ()))⟩
noncomputable def slices_IndexFunc_api_Span_api_Span_vspan_Merge_f1_p1_code : Code := codeAt 26 (bodyOf Try.f52)
abbrev zq9l (β : Type) := Int → Option β
abbrev zq9m (β : Type) := Unit → Option β
abbrev zq9n := {β : Type} → zq9l β → zq9m β → (List (Int × Int)) → Int → Int → Option β
def zq9o : View := ⟨0, [0, 1, 7, 8], [(false, [.data (.slice (.prod (.int .i64) (.int .i64)))]), (false, [.fn 49 []]), (false, [.data (.int .i64)]), (false, [.data (.int .i64)])], []⟩
def zq9p : List (AExit × View) := [(.ret, ⟨0, [4], [(false, [.data (.int .i64)])], []⟩), (.exit 0, ⟨0, [], [], []⟩)]
@[reducible] def slices_IndexFunc_api_Span_api_Span_vspan_Merge_f1_p1_G (p : zq9n) {β : Type} (d : zq9o.den) (ks : Outs.K β zq9p) : Option β :=
  p (fun a0 => ks.1 (((a0, ()), ()), ())) (fun _ => ks.2.1 ((), ())) d.1.1.1 d.1.2.2.1.1 d.1.2.2.2.1.1
section
variable (c_span_Merge_f1 : zq5a)
@[reducible] def slices_IndexFunc_api_Span_api_Span_vspan_Merge_f1_X : Ctx := ⟨look tab, pick1 [(49, .spec (zq5b c_span_Merge_f1))], false, false⟩
def zq9q {β : Type} (rec : (List (Int × Int)) → Int → Int → Option β) (k1 : zq9l β) (k2 : zq9m β) (s : List (Int × Int)) (t7 : Int) (t8 : Int) : Option β :=
  cond (decide (t8 < t7))
  (cond (decide (0 ≤ t8) && decide (t8 < (List.length s : Int)))
  (let e : (Int × Int) := List.getD s (Int.toNat t8) ((0 : Int), (0 : Int));
  c_span_Merge_f1 e (fun (rMerge1 : Bool) =>
  cond rMerge1
  (k1 t8)
  (rec s t7 (IntKind.i64.wrap (t8 + (1 : Int))))))
  none)
  (k2 ())
def zq9r {β : Type} : Nat → zq9l β → zq9m β → (List (Int × Int)) → Int → Int → Option β
  | 0 => fun _ _ _ _ _ => none
  | i + 1 => fun k1 k2 s t7 t8 => zq9q c_span_Merge_f1 (zq9r i k1 k2) k1 k2 s t7 t8
theorem zq9s (hΓ : ΓOk Try.prog (slices_IndexFunc_api_Span_api_Span_vspan_Merge_f1_X c_span_Merge_f1).Γ) (i : Nat) : PieceOk Try.prog 19 0 slices_IndexFunc_api_Span_api_Span_vspan_Merge_f1_p1_code zq9o zq9p (slices_IndexFunc_api_Span_api_Span_vspan_Merge_f1_p1_G (zq9r c_span_Merge_f1 i)) := by
  rw [show slices_IndexFunc_api_Span_api_Span_vspan_Merge_f1_p1_code = .loop (loopBody slices_IndexFunc_api_Span_api_Span_vspan_Merge_f1_p1_code) by kernel_rfl]
  exact piece_loop (X := (slices_IndexFunc_api_Span_api_Span_vspan_Merge_f1_X c_span_Merge_f1)) (p := 1) (Λ := pick1 []) (G := fun i => @fun β d ks => slices_IndexFunc_api_Span_api_Span_vspan_Merge_f1_p1_G (zq9r c_span_Merge_f1 i) d ks) mixed tab_ok hΓ rfl (by kernel_rfl) CutsOk_nil (fun _ _ => rfl) (fun i => @fun β d ks r h => Eq.trans (b := slices_IndexFunc_api_Span_api_Span_vspan_Merge_f1_p1_G (zq9r c_span_Merge_f1 (i + 1)) d ks) (by kernel_rfl) h) i
def zq9t (p1 : zq9n) {β : Type} (s : List (Int × Int)) (k : (Int → Option β)) : Option β :=
  p1 (fun (t4 : Int) =>
  k t4) (fun (_ : Unit) =>
  k (-1 : Int)) s (List.length s : Int) (0 : Int)
theorem zq9u (hΓ : ΓOk Try.prog (slices_IndexFunc_api_Span_api_Span_vspan_Merge_f1_X c_span_Merge_f1).Γ) (p1 : zq9n) (hp1 : PieceOk Try.prog 19 0 slices_IndexFunc_api_Span_api_Span_vspan_Merge_f1_p1_code zq9o zq9p (slices_IndexFunc_api_Span_api_Span_vspan_Merge_f1_p1_G p1)) : SpecOk Try.prog 52 (zq9k (zq9t p1)) :=
  spec_exec (X := (slices_IndexFunc_api_Span_api_Span_vspan_Merge_f1_X c_span_Merge_f1)) (Λ := pick1 [(26, pieceCut zq9o zq9p (slices_IndexFunc_api_Span_api_Span_vspan_Merge_f1_p1_G p1))]) (rs := [.tmp 4]) (c := bodyOf Try.f52) mixed tab_ok hΓ Try.func52 (by kernel_rfl) (by kernel_rfl) (by kernel_rfl) (by kernel_rfl) (CutsOk_cons (q := 26) (c' := slices_IndexFunc_api_Span_api_Span_vspan_Merge_f1_p1_code) (by kernel_rfl) rfl hp1 CutsOk_nil) (fun x k r h => Eq.trans (b := (zq9k (zq9t p1)).run x k) (by kernel_rfl) h)
end
theorem zq9vΓ : ΓOk Try.prog (pick1 [(49, .spec (zq5b zq5f))]) := (ΓOk_cons zq5g ΓOk_nil)
def zq9w (m : Nat) : zq9n := zq9r zq5f m
theorem zq9x {β : Type} (i : Nat) (k1 k2 s t7 t8) : (zq9w (i + 1) k1 k2 s t7 t8 : Option β) = zq9q zq5f (zq9w i k1 k2) k1 k2 s t7 t8 := rfl
def zq9y : zq9n := zq9w fuel
theorem zq9z : PieceOk Try.prog 19 0 slices_IndexFunc_api_Span_api_Span_vspan_Merge_f1_p1_code zq9o zq9p (slices_IndexFunc_api_Span_api_Span_vspan_Merge_f1_p1_G zq9y) := zq9s zq5f zq9vΓ fuel
def zqa0 : zq9j := zq9t zq9y
theorem zqa1 : SpecOk Try.prog 52 (zq9k zqa0) := zq9u zq5f zq9vΓ zq9y zq9z

/-- slices.ContainsFunc[[]pagewatch/api.Span,pagewatch/api.Span] -/
abbrev zqa2 := {β : Type} → (List (Int × Int)) → Int → (Bool → Int → Option β) → Option β
def zqa3 (c : zqa2) : Spec :=
  ⟨[(false, [.data (.slice (.prod (.int .i64) (.int .i64)))]), (false, [.fn 38 [0]])], [.cells 3 [.data (.int .i64)]], [(false, [.data .bool])], [.cells 3 [.data (.int .i64)]], fun x k => c x.1.1.1 x.2.1.1 (fun r0 r1 => k (((r0, ()), ()), ((r1, ()), ())))⟩
section
variable (c_slices_IndexFunc_api_Span_api_Span_vspan_Has_f1 : zq90)
@[reducible] def slices_ContainsFunc_api_Span_api_Span_vspan_Has_f1_X : Ctx := ⟨look tab, pick1 [(52, .spec (zq91 c_slices_IndexFunc_api_Span_api_Span_vspan_Has_f1))], false, false⟩
def zqa4 {β : Type} (s : List (Int × Int)) (b0_ : Int) (k : (Bool → Int → Option β)) : Option β :=
  c_slices_IndexFunc_api_Span_api_Span_vspan_Has_f1 s b0_ (fun (rSpan : Int) (mrSpan : Int) =>
  let t : Bool := (decide ((0 : Int) ≤ rSpan));
  k t mrSpan)
theorem zqa5 (hΓ : ΓOk Try.prog (slices_ContainsFunc_api_Span_api_Span_vspan_Has_f1_X c_slices_IndexFunc_api_Span_api_Span_vspan_Has_f1).Γ) : SpecOk Try.prog 37 (zqa3 (zqa4 c_slices_IndexFunc_api_Span_api_Span_vspan_Has_f1)) :=
  spec_exec (X := (slices_ContainsFunc_api_Span_api_Span_vspan_Has_f1_X c_slices_IndexFunc_api_Span_api_Span_vspan_Has_f1)) (Λ := pick1 []) (rs := [.tmp 4]) (c := bodyOf Try.f37) mixed tab_ok hΓ Try.func37 (by kernel_rfl) (by kernel_rfl) (by kernel_rfl) (by kernel_rfl) CutsOk_nil (fun x k r h => Eq.trans (b := (zqa3 (zqa4 c_slices_IndexFunc_api_Span_api_Span_vspan_Has_f1)).run x k) (by kernel_rfl) h)
end
theorem zqa6Γ : ΓOk Try.prog (pick1 [(52, .spec (zq91 zq9h))]) := (ΓOk_cons zq9i ΓOk_nil)
def zqa7 : zqa2 := zqa4 zq9h
theorem zqa8 : SpecOk Try.prog 37 (zqa3 zqa7) := zqa5 zq9h zqa6Γ

/-- slices.DeleteFunc[[]pagewatch/api.Span,pagewatch/api.Span] -/
abbrev zqa9 := {β : Type} → (List (Int × Int)) → ((List (Int × Int)) → Option β) → Option β
def zqaa (c : zqa9) : Spec :=
  ⟨[(false, [.rowh 0]), (false, [.fn 49 []])], [.row 30 (.prod (.int .i64) (.int .i64))], [(false, [.rowh 0])], [.row 30 (.prod (.int .i64) (.int .i64))], fun x k => c x.2.1 (fun r0 => k (((), ()), (r0, ())))⟩
noncomputable def slices_DeleteFunc_api_Span_api_Span_vspan_Merge_f1_p1_code : Code := codeAt 122 (bodyOf Try.f47)
abbrev zqab (β : Type) := Int → (List (Int × Int)) → Option β
abbrev zqac := {β : Type} → zqab β → Int → Int → (List (Int × Int)) → Option β
def zqad : View := ⟨1, [0, 1, 5, 6], [(false, [.rowh 0]), (false, [.fn 49 []]), (false, [.data (.int .i64)]), (false, [.data (.int .i64)])], [.row 30 (.prod (.int .i64) (.int .i64))]⟩
def zqae : List (AExit × View) := [(.exit 0, ⟨1, [0, 5], [(false, [.rowh 0]), (false, [.data (.int .i64)])], [.row 30 (.prod (.int .i64) (.int .i64))]⟩)]
@[reducible] def slices_DeleteFunc_api_Span_api_Span_vspan_Merge_f1_p1_G (p : zqac) {β : Type} (d : zqad.den) (ks : Outs.K β zqae) : Option β :=
  p (fun a0 a1 => ks.1 (((), (a0, ()), ()), (a1, ()))) d.1.2.2.1.1 d.1.2.2.2.1.1 d.2.1
section
variable (c_slices_IndexFunc_api_Span_api_Span_vspan_Merge_f1 : zq9j) (c_span_Merge_f1 : zq5a)
@[reducible] def slices_DeleteFunc_api_Span_api_Span_vspan_Merge_f1_X : Ctx := ⟨look tab, pick1 [(52, .spec (zq9k c_slices_IndexFunc_api_Span_api_Span_vspan_Merge_f1)), (49, .spec (zq5b c_span_Merge_f1))], false, true⟩
def zqaf {β : Type} (rec : Int → Int → (List (Int × Int)) → Option β) (k1 : zqab β) (i_ : Int) (j : Int) (s : List (Int × Int)) : Option β :=
  cond (decide (j < (List.length s : Int)))
  (cond (decide (0 ≤ j) && decide (j < (List.length s : Int)))
  (c_span_Merge_f1 (List.getD s (Int.toNat j) ((0 : Int), (0 : Int))) (fun (rMerge1 : Bool) =>
  cond (!rMerge1)
  (cond (decide (0 ≤ i_) && decide (i_ < (List.length s : Int)))
  (let l : List (Int × Int) := (List.set s (Int.toNat i_) (List.getD s (Int.toNat j) ((0 : Int), (0 : Int))));
  let i_2 : Int := (IntKind.i64.wrap (i_ + (1 : Int)));
  let j2 : Int := (IntKind.i64.wrap (j + (1 : Int)));
  rec i_2 j2 l)
  none)
  (let j2 : Int := (IntKind.i64.wrap (j + (1 : Int)));
  rec i_ j2 s)))
  none)
  (k1 i_ s)
def zqag {β : Type} : Nat → zqab β → Int → Int → (List (Int × Int)) → Option β
  | 0 => fun _ _ _ _ => none
  | i + 1 => fun k1 i_ j s => zqaf c_span_Merge_f1 (zqag i k1) k1 i_ j s
theorem zqah (hΓ : ΓOk Try.prog (slices_DeleteFunc_api_Span_api_Span_vspan_Merge_f1_X c_slices_IndexFunc_api_Span_api_Span_vspan_Merge_f1 c_span_Merge_f1).Γ) (i : Nat) : PieceOk Try.prog 42 1 slices_DeleteFunc_api_Span_api_Span_vspan_Merge_f1_p1_code zqad zqae (slices_DeleteFunc_api_Span_api_Span_vspan_Merge_f1_p1_G (zqag c_span_Merge_f1 i)) := by
  rw [show slices_DeleteFunc_api_Span_api_Span_vspan_Merge_f1_p1_code = .loop (loopBody slices_DeleteFunc_api_Span_api_Span_vspan_Merge_f1_p1_code) by kernel_rfl]
  exact piece_loop (X := (slices_DeleteFunc_api_Span_api_Span_vspan_Merge_f1_X c_slices_IndexFunc_api_Span_api_Span_vspan_Merge_f1 c_span_Merge_f1)) (p := 1) (Λ := pick1 []) (G := fun i => @fun β d ks => slices_DeleteFunc_api_Span_api_Span_vspan_Merge_f1_p1_G (zqag c_span_Merge_f1 i) d ks) mixed tab_ok hΓ rfl (by kernel_rfl) CutsOk_nil (fun _ _ => rfl) (fun i => @fun β d ks r h => Eq.trans (b := slices_DeleteFunc_api_Span_api_Span_vspan_Merge_f1_p1_G (zqag c_span_Merge_f1 (i + 1)) d ks) (by kernel_rfl) h) i
def zqai (p1 : zqac) {β : Type} (s : List (Int × Int)) (k : ((List (Int × Int)) → Option β)) : Option β :=
  c_slices_IndexFunc_api_Span_api_Span_vspan_Merge_f1 s (fun (rSpan : Int) =>
  cond (decide (rSpan = (-1 : Int)))
  (k s)
  (let j : Int := (IntKind.i64.wrap (rSpan + (1 : Int)));
  p1 (fun (i_ : Int) (s2 : List (Int × Int)) =>
  cond (decide (0 ≤ i_) && (decide (i_ ≤ (List.length s2 : Int)) && decide ((List.length s2 : Int) ≤ (List.length s2 : Int))))
  (let l : List (Int × Int) := (List.take (Int.toNat i_) s2 ++ (List.replicate ((List.length s2) - (Int.toNat i_)) ((0 : Int), (0 : Int)) ++ List.drop (List.length s2) s2));
  cond (decide (0 ≤ i_) && decide (i_ ≤ (List.length l : Int)))
  (let l2 : List (Int × Int) := (List.take (Int.toNat i_) l);
  k l2)
  none)
  none) rSpan j s))
theorem zqaj (hΓ : ΓOk Try.prog (slices_DeleteFunc_api_Span_api_Span_vspan_Merge_f1_X c_slices_IndexFunc_api_Span_api_Span_vspan_Merge_f1 c_span_Merge_f1).Γ) (p1 : zqac) (hp1 : PieceOk Try.prog 42 1 slices_DeleteFunc_api_Span_api_Span_vspan_Merge_f1_p1_code zqad zqae (slices_DeleteFunc_api_Span_api_Span_vspan_Merge_f1_p1_G p1)) : SpecOkB Try.prog 47 (zqaa (zqai c_slices_IndexFunc_api_Span_api_Span_vspan_Merge_f1 p1)) :=
  spec_execB (X := (slices_DeleteFunc_api_Span_api_Span_vspan_Merge_f1_X c_slices_IndexFunc_api_Span_api_Span_vspan_Merge_f1 c_span_Merge_f1)) (Λ := pick1 [(122, pieceCut zqad zqae (slices_DeleteFunc_api_Span_api_Span_vspan_Merge_f1_p1_G p1))]) (rs := [.tmp 4]) (c := bodyOf Try.f47) mixed tab_ok hΓ Try.func47 (by kernel_rfl) (by kernel_rfl) (by kernel_rfl) (by kernel_rfl) (CutsOk_cons (q := 122) (c' := slices_DeleteFunc_api_Span_api_Span_vspan_Merge_f1_p1_code) (by kernel_rfl) rfl hp1 CutsOk_nil) (fun x k r h => Eq.trans (b := (zqaa (zqai c_slices_IndexFunc_api_Span_api_Span_vspan_Merge_f1 p1)).run x k) (by kernel_rfl) h)
end
theorem zqakΓ : ΓOk Try.prog (pick1 [(52, .spec (zq9k zqa0)), (49, .spec (zq5b zq5f))]) := (ΓOk_cons zqa1 (ΓOk_cons zq5g ΓOk_nil))
def zqal (m : Nat) : zqac := zqag zq5f m
theorem zqam {β : Type} (i : Nat) (k1 i_ j s) : (zqal (i + 1) k1 i_ j s : Option β) = zqaf zq5f (zqal i k1) k1 i_ j s := rfl
def zqan : zqac := zqal fuel
theorem zqao : PieceOk Try.prog 42 1 slices_DeleteFunc_api_Span_api_Span_vspan_Merge_f1_p1_code zqad zqae (slices_DeleteFunc_api_Span_api_Span_vspan_Merge_f1_p1_G zqan) := zqah zqa0 zq5f zqakΓ fuel
def zqap : zqa9 := zqai zqa0 zqan
theorem zqaq : SpecOkB Try.prog 47 (zqaa zqap) := zqaj zqa0 zq5f zqakΓ zqan zqao
def zqar (l : List (Int × Int)) : Bool := (zqap l (some : (List (Int × Int)) → Option (List (Int × Int)))).isSome
def zqas (l : List (Int × Int)) : List (Int × Int) := (zqap l (some : (List (Int × Int)) → Option (List (Int × Int)))).getD []
def zqat : RowF := ⟨30, (.prod (.int .i64) (.int .i64)), true, zqar, zqas, (some 49)⟩
theorem zqau : RowOk Try.prog 47 zqat :=
  SpecOkB.toRow (t := 30) (e := (.prod (.int .i64) (.int .i64))) (c := @zqap) rfl zqaq (fun l h => by obtain ⟨x, hx⟩ := Option.isSome_iff_exists.1 (show (zqap l (some : (List (Int × Int)) → Option (List (Int × Int)))).isSome = true from h); exact hx.trans (congrArg some (show x = (zqap l (some : (List (Int × Int)) → Option (List (Int × Int)))).getD [] by rw [hx]; rfl)))

/-- pagewatch/span.Has -/
abbrev zqav := {β : Type} → (List (Int × Int)) → Int → (Bool → Option β) → Option β
def zqaw (c : zqav) : Spec :=
  ⟨[(false, [.data (.slice (.prod (.int .i64) (.int .i64)))]), (false, [.data (.int .i64)])], [], [(false, [.data .bool])], [], fun x k => c x.1.1.1 x.1.2.1.1 (fun r0 => k (((r0, ()), ()), ()))⟩
section
variable (c_slices_ContainsFunc_api_Span_api_Span_vspan_Has_f1 : zqa2) (c_span_Valid : zq14)
@[reducible] def span_Has_X : Ctx := ⟨look tab, pick1 [(37, .spec (zqa3 c_slices_ContainsFunc_api_Span_api_Span_vspan_Has_f1)), (22, .spec (zq15 c_span_Valid))], false, false⟩
def zqax {β : Type} (l : List (Int × Int)) (x : Int) (k : (Bool → Option β)) : Option β :=
  c_span_Valid l (fun (rValid : Bool) =>
  cond rValid
  (c_slices_ContainsFunc_api_Span_api_Span_vspan_Has_f1 l x (fun (rSpan : Bool) (mrSpan : Int) =>
  k rSpan))
  (k false))
theorem zqay (hΓ : ΓOk Try.prog (span_Has_X c_slices_ContainsFunc_api_Span_api_Span_vspan_Has_f1 c_span_Valid).Γ) : SpecOk Try.prog 17 (zqaw (zqax c_slices_ContainsFunc_api_Span_api_Span_vspan_Has_f1 c_span_Valid)) :=
  spec_exec (X := (span_Has_X c_slices_ContainsFunc_api_Span_api_Span_vspan_Has_f1 c_span_Valid)) (Λ := pick1 []) (rs := [.tmp 4]) (c := bodyOf Try.f17) mixed tab_ok hΓ Try.func17 (by kernel_rfl) (by kernel_rfl) (by kernel_rfl) (by kernel_rfl) CutsOk_nil (fun x k r h => Eq.trans (b := (zqaw (zqax c_slices_ContainsFunc_api_Span_api_Span_vspan_Has_f1 c_span_Valid)).run x k) (by kernel_rfl) h)
end
theorem zqazΓ : ΓOk Try.prog (pick1 [(37, .spec (zqa3 zqa7)), (22, .spec (zq15 zq1l))]) := (ΓOk_cons zqa8 (ΓOk_cons zq1m ΓOk_nil))
def zqb0 : zqav := zqax zqa7 zq1l
theorem zqb1 : SpecOk Try.prog 17 (zqaw zqb0) := zqay zqa7 zq1l zqazΓ

/-- slices.SortFunc[[]pagewatch/api.Span,pagewatch/api.Span] with pagewatch/span.Merge$2 -/
def zqb2 : Shelf.Ren :=
      { 
      f := fun x =>
        match x with
        | 6 => 50
        | 15 => 55
        | 14 => 54
        | 28 => 64
        | 29 => 65
        | 20 => 56
        | 21 => 57
        | 22 => 58
        | 23 => 59
        | 24 => 60
        | 25 => 61
        | 26 => 62
        | 27 => 63
        | 46 => 66
        | 47 => 67
        | 48 => 68
        | 49 => 69
        | 50 => 70
        | 57 => 71
        | n => n,
      t := fun x =>
        match x with
        | 22 => 27
        | 24 => 30
        | 25 => 64
        | 3 => 3
        | 39 => 70
        | 0 => 0
        | 53 => 79
        | 55 => 81
        | 4 => 4
        | 46 => 73
        | 45 => 72
        | 50 => 37
        | 5 => 5
        | 9 => 9
        | 66 => 82
        | 70 => 86
        | 76 => 88
        | 77 => 89
        | n => n,
      g := fun x => x }
theorem zqb3 : Go.Proofs.SlLaysF0.n6 Try.prog zqb2 :=
  { mixed := by kernel_rfl,
    f6 := Exists.intro "slices.SortFunc[[]pagewatch/api.Span,pagewatch/api.Span]" ⟨of_decide_eq_true (by kernel_rfl), Eq.trans Try.func50 (congrArg some (by kernel_rfl))⟩,
    f14 := Exists.intro "slices.pdqsortCmpFunc[pagewatch/api.Span]" ⟨of_decide_eq_true (by kernel_rfl), Eq.trans Try.func54 (congrArg some (by kernel_rfl))⟩,
    f15 := Eq.trans Try.func55 (congrArg some (by kernel_rfl)),
    f20 := Exists.intro "slices.insertionSortCmpFunc[pagewatch/api.Span]" ⟨of_decide_eq_true (by kernel_rfl), Eq.trans Try.func56 (congrArg some (by kernel_rfl))⟩,
    f21 := Exists.intro "slices.heapSortCmpFunc[pagewatch/api.Span]" ⟨of_decide_eq_true (by kernel_rfl), Eq.trans Try.func57 (congrArg some (by kernel_rfl))⟩,
    f22 := Exists.intro "slices.breakPatternsCmpFunc[pagewatch/api.Span]" ⟨of_decide_eq_true (by kernel_rfl), Eq.trans Try.func58 (congrArg some (by kernel_rfl))⟩,
    f23 := Exists.intro "slices.choosePivotCmpFunc[pagewatch/api.Span]" ⟨of_decide_eq_true (by kernel_rfl), Eq.trans Try.func59 (congrArg some (by kernel_rfl))⟩,
    f24 := Exists.intro "slices.reverseRangeCmpFunc[pagewatch/api.Span]" ⟨of_decide_eq_true (by kernel_rfl), Eq.trans Try.func60 (congrArg some (by kernel_rfl))⟩,
    f25 := Exists.intro "slices.partialInsertionSortCmpFunc[pagewatch/api.Span]" ⟨of_decide_eq_true (by kernel_rfl), Eq.trans Try.func61 (congrArg some (by kernel_rfl))⟩,
    f26 := Exists.intro "slices.partitionEqualCmpFunc[pagewatch/api.Span]" ⟨of_decide_eq_true (by kernel_rfl), Eq.trans Try.func62 (congrArg some (by kernel_rfl))⟩,
    f27 := Exists.intro "slices.partitionCmpFunc[pagewatch/api.Span]" ⟨of_decide_eq_true (by kernel_rfl), Eq.trans Try.func63 (congrArg some (by kernel_rfl))⟩,
    f28 := Eq.trans Try.func64 (congrArg some (by kernel_rfl)),
    f29 := Eq.trans Try.func65 (congrArg some (by kernel_rfl)),
    f46 := Exists.intro "slices.siftDownCmpFunc[pagewatch/api.Span]" ⟨of_decide_eq_true (by kernel_rfl), Eq.trans Try.func66 (congrArg some (by kernel_rfl))⟩,
    f47 := Eq.trans Try.func67 (congrArg some (by kernel_rfl)),
    f48 := Eq.trans Try.func68 (congrArg some (by kernel_rfl)),
    f49 := Exists.intro "slices.medianAdjacentCmpFunc[pagewatch/api.Span]" ⟨of_decide_eq_true (by kernel_rfl), Eq.trans Try.func69 (congrArg some (by kernel_rfl))⟩,
    f50 := Exists.intro "slices.medianCmpFunc[pagewatch/api.Span]" ⟨of_decide_eq_true (by kernel_rfl), Eq.trans Try.func70 (congrArg some (by kernel_rfl))⟩,
    f57 := Exists.intro "slices.order2CmpFunc[pagewatch/api.Span]" ⟨of_decide_eq_true (by kernel_rfl), Eq.trans Try.func71 (congrArg some (by kernel_rfl))⟩,
    t0 := Try.underlying0,
    a0 := Try.isAgg0,
    z0 := Try.sizeOf0,
    v0 := Try.zeroValue0,
    t3 := Try.underlying3,
    a3 := Try.isAgg3,
    z3 := Try.sizeOf3,
    v3 := Try.zeroValue3,
    t4 := Try.underlying4,
    a4 := Try.isAgg4,
    z4 := Try.sizeOf4,
    v4 := Try.zeroValue4,
    t5 := Try.underlying5,
    a5 := Try.isAgg5,
    z5 := Try.sizeOf5,
    v5 := Try.zeroValue5,
    t9 := Try.underlying9,
    a9 := Try.isAgg9,
    z9 := Try.sizeOf9,
    v9 := Try.zeroValue9,
    t22 := Try.underlying27,
    a22 := Try.isAgg27,
    z22 := Try.sizeOf27,
    v22 := Try.zeroValue27,
    t25 := Try.underlying64,
    a25 := Try.isAgg64,
    z25 := Try.sizeOf64,
    v25 := Try.zeroValue64,
    t39 := Try.underlying70,
    a39 := Try.isAgg70,
    z39 := Try.sizeOf70,
    v39 := Try.zeroValue70,
    t45 := Try.underlying72,
    a45 := Try.isAgg72,
    z45 := Try.sizeOf72,
    v45 := Try.zeroValue72,
    t46 := Try.underlying73,
    a46 := Try.isAgg73,
    z46 := Try.sizeOf73,
    v46 := Try.zeroValue73,
    t50 := Try.underlying37,
    a50 := Try.isAgg37,
    z50 := Try.sizeOf37,
    v50 := Try.zeroValue37,
    t53 := Try.underlying79,
    a53 := Try.isAgg79,
    z53 := Try.sizeOf79,
    v53 := Try.zeroValue79,
    t55 := Try.underlying81,
    a55 := Try.isAgg81,
    z55 := Try.sizeOf81,
    v55 := Try.zeroValue81,
    t66 := Try.underlying82,
    a66 := Try.isAgg82,
    z66 := Try.sizeOf82,
    v66 := Try.zeroValue82,
    t70 := Try.underlying86,
    a70 := Try.isAgg86,
    z70 := Try.sizeOf86,
    v70 := Try.zeroValue86,
    t76 := Try.underlying88,
    a76 := Try.isAgg88,
    z76 := Try.sizeOf88,
    v76 := Try.zeroValue88,
    t77 := Try.underlying89,
    a77 := Try.isAgg89,
    z77 := Try.sizeOf89,
    v77 := Try.zeroValue89 }
def zqb4 : (Int × Int) → Bool := fun x => decide (0 ≤ x.1) && decide (x.1 ≤ 4611686018427387904)
def zqb5 : (Int × Int) → (Int × Int) → Int := fun x y => x.1 - y.1
def zqb6 : List (Int × Int) → List (Int × Int) := sortRun zqb4 ((0, 0) : Int × Int) rfl zqb5
theorem zqb7 (x y : Int × Int) (hx : zqb4 x = true) (hy : zqb4 y = true) (W : World) : Calls Try.prog 51 #[.agg (encT (.prod (.int .i64) (.int .i64)) x).toArray, .agg (encT (.prod (.int .i64) (.int .i64)) y).toArray] W fun e w' => e = .returned (.int .i64 (zqb5 x y)) ∧ ∃ q os', w' = Go.Sort.grow (W.drewN q) os' := by
  obtain ⟨a, b⟩ := x
  obtain ⟨c, d⟩ := y
  simp only [zqb4, Bool.and_eq_true, decide_eq_true_eq] at hx hy
  obtain ⟨h1, h2⟩ := hx
  obtain ⟨h3, h4⟩ := hy
  change Calls Try.prog 51 #[.agg #[.int .i64 a, .int .i64 b], .agg #[.int .i64 c, .int .i64 d]] W fun e w' => e = .returned (.int .i64 (a - c)) ∧ _
  have hw : Go.RowKit.wrap64 (a - c) = a - c := by unfold Go.RowKit.wrap64; omega
  go_enter Try.func51, Try.ntmps51
  go_wp2
  go_ret
  exact ⟨rfl, 0, _, by rw [Go.Sort.alloc_eq_grow, Go.Sort.alloc_eq_grow, Go.Sort.grow_grow]; rfl⟩
theorem zqb8 : Go.Sort.SWO (Go.Proofs.ltOf fun (x y : {x : Int × Int // zqb4 x = true}) => zqb5 x.1 y.1) := by
  constructor
  · intro x
    refine decide_eq_false ?_
    show ¬ x.1.1 - x.1.1 < 0
    omega
  · intro x y z h1 h2
    have h1 : x.1.1 - y.1.1 < 0 := of_decide_eq_true h1
    have h2 : y.1.1 - z.1.1 < 0 := of_decide_eq_true h2
    refine decide_eq_true ?_
    show x.1.1 - z.1.1 < 0
    omega
  · intro x y z h1 h2
    have h1 : ¬ x.1.1 - y.1.1 < 0 := of_decide_eq_false h1
    have h2 : ¬ y.1.1 - z.1.1 < 0 := of_decide_eq_false h2
    refine decide_eq_false ?_
    show ¬ x.1.1 - z.1.1 < 0
    omega
def zqb9 : RowF := ⟨30, (.prod (.int .i64) (.int .i64)), false, fun l => List.all l zqb4 && decide (List.length l < 4611686018427387904), zqb6, some 51⟩
theorem zqba : RowOk Try.prog 50 zqb9 :=
  sortFunc_rowok (t := 30) (e := (.prod (.int .i64) (.int .i64))) (good := zqb4) (d0 := ((0, 0) : Int × Int)) (h0 := rfl) (cf := zqb5) (g := 51) rfl (by decide) zqb3 rfl Try.isAgg30 Try.sizeOf30 zqb8 (Go.Proofs.enters_of Try.func51 (by kernel_rfl) rfl) zqb7 ⟨_, Try.func50, by kernel_rfl, by kernel_rfl⟩

/-- pagewatch/span.Merge -/
abbrev zqbb := {β : Type} → (List (Int × Int)) → ((List (Int × Int)) → Option β) → Option β
def zqbc (c : zqbb) : Spec :=
  ⟨[(false, [.data (.slice (.prod (.int .i64) (.int .i64)))])], [], [(false, [.rowh 0])], [.row 30 (.prod (.int .i64) (.int .i64))], fun x k => c x.1.1.1 (fun r0 => k (((), ()), (r0, ())))⟩
noncomputable def span_Merge_p2_code : Code := codeAt 250 (bodyOf Try.f36)
noncomputable def span_Merge_p1_code : Code := codeAt 231 (loopBody span_Merge_p2_code)
abbrev zqbd (β : Type) := Int → Int → (List (Int × Int)) → (List (Int × Int)) → Option β
abbrev zqbe := {β : Type} → zqbd β → Int → Int → Int → Bool → (List (Int × Int)) → Int → Int → (List (Int × Int)) → Option β
def zqbf : View := ⟨0, [4, 6, 7, 13, 14, 15, 33], [(false, [.rowh 0]), (false, [.ptr 1 0]), (false, [.data (.int .i64)]), (false, [.rowh 2]), (false, [.data (.int .i64)]), (false, [.data (.int .i64)]), (false, [.data .bool])], [.row 30 (.prod (.int .i64) (.int .i64)), .cells 30 [.data (.int .i64), .data (.int .i64)], .row 30 (.prod (.int .i64) (.int .i64))]⟩
def zqbg : List (AExit × View) := [(.normal, ⟨0, [4, 13, 14, 15], [(false, [.rowh 0]), (false, [.rowh 1]), (false, [.data (.int .i64)]), (false, [.data (.int .i64)])], [.row 30 (.prod (.int .i64) (.int .i64)), .row 30 (.prod (.int .i64) (.int .i64))]⟩)]
@[reducible] def span_Merge_p1_G (p : zqbe) {β : Type} (d : zqbf.den) (ks : Outs.K β zqbg) : Option β :=
  p (fun a0 a1 a2 a3 => ks.1 (((), (), (a0, ()), (a1, ()), ()), (a2, a3, ()))) d.1.2.2.1.1 d.1.2.2.2.2.1.1 d.1.2.2.2.2.2.1.1 d.1.2.2.2.2.2.2.1.1 d.2.1 d.2.2.1.1 d.2.2.1.2.1 d.2.2.2.1
abbrev zqbh (β : Type) := (List (Int × Int)) → Option β
abbrev zqbi := {β : Type} → zqbh β → Int → Int → (List (Int × Int)) → (List (Int × Int)) → Option β
def zqbj : View := ⟨0, [4, 13, 14, 15], [(false, [.rowh 0]), (false, [.rowh 1]), (false, [.data (.int .i64)]), (false, [.data (.int .i64)])], [.row 30 (.prod (.int .i64) (.int .i64)), .row 30 (.prod (.int .i64) (.int .i64))]⟩
def zqbk : List (AExit × View) := [(.exit 0, ⟨0, [4], [(false, [.rowh 0])], [.row 30 (.prod (.int .i64) (.int .i64))]⟩)]
@[reducible] def span_Merge_p2_G (p : zqbi) {β : Type} (d : zqbj.den) (ks : Outs.K β zqbk) : Option β :=
  p (fun a0 => ks.1 (((), ()), (a0, ()))) d.1.2.2.1.1 d.1.2.2.2.1.1 d.2.1 d.2.2.1
section
variable (c_slices_Clone_api_Span_api_Span : zq56)
@[reducible] def span_Merge_X : Ctx := ⟨look tab, pick1 [(48, .spec (zq57 c_slices_Clone_api_Span_api_Span)), (47, .rows zqat), (50, .rows zqb9)], false, false⟩
def zqbl {β : Type} (k1 : zqbd β) (n : Int) (t14 : Int) (t15 : Int) (t33 : Bool) (out : List (Int × Int)) (s : Int) (s2 : Int) (t13 : List (Int × Int)) : Option β :=
  cond t33
  (cond (decide (0 ≤ (IntKind.i64.wrap (n - (1 : Int)))) && decide ((IntKind.i64.wrap (n - (1 : Int))) < (List.length out : Int)))
  (cond (decide (0 ≤ (IntKind.i64.wrap (n - (1 : Int)))) && decide ((IntKind.i64.wrap (n - (1 : Int))) < (List.length out : Int)))
  (let l : List (Int × Int) := (List.set out (Int.toNat (IntKind.i64.wrap (n - (1 : Int)))) ((List.getD out (Int.toNat (IntKind.i64.wrap (n - (1 : Int)))) ((0 : Int), (0 : Int))).1, (if s2 > (List.getD out (Int.toNat (IntKind.i64.wrap (n - (1 : Int)))) ((0 : Int), (0 : Int))).2 then s2 else (List.getD out (Int.toNat (IntKind.i64.wrap (n - (1 : Int)))) ((0 : Int), (0 : Int))).2)));
  k1 t14 t15 l t13)
  none)
  none)
  (let l : List (Int × Int) := ([(s, s2)] : List (Int × Int));
  cond (decide ((List.length out + List.length l) * 16 ≤ roomMax))
  (let l2 : List (Int × Int) := (out ++ l);
  k1 t14 t15 l2 t13)
  none)
def zqbm {β : Type} (k1 : zqbd β) (n : Int) (t14 : Int) (t15 : Int) (t33 : Bool) (out : List (Int × Int)) (s : Int) (s2 : Int) (t13 : List (Int × Int)) : Option β := zqbl k1 n t14 t15 t33 out s s2 t13
theorem zqbn (hΓ : ΓOk Try.prog (span_Merge_X c_slices_Clone_api_Span_api_Span).Γ) : PieceOk Try.prog 54 0 span_Merge_p1_code zqbf zqbg (span_Merge_p1_G (zqbm)) :=
  piece_exec (X := (span_Merge_X c_slices_Clone_api_Span_api_Span)) (p := 231) (Λ := pick1 []) mixed tab_ok hΓ (by kernel_rfl) CutsOk_nil (fun d ks r h => Eq.trans (b := span_Merge_p1_G (zqbm) d ks) (by kernel_rfl) h)
def zqbo (p1 : zqbe) {β : Type} (rec : Int → Int → (List (Int × Int)) → (List (Int × Int)) → Option β) (k1 : zqbh β) (t14 : Int) (t15 : Int) (out : List (Int × Int)) (t13 : List (Int × Int)) : Option β :=
  cond (decide (t15 < t14))
  (cond (decide (0 ≤ t15) && decide (t15 < (List.length t13 : Int)))
  (cond (decide ((0 : Int) < (List.length out : Int)))
  (cond (decide (0 ≤ (IntKind.i64.wrap ((List.length out : Int) - (1 : Int)))) && decide ((IntKind.i64.wrap ((List.length out : Int) - (1 : Int))) < (List.length out : Int)))
  (p1 (fun (t142 : Int) (t152 : Int) (out2 : List (Int × Int)) (t132 : List (Int × Int)) =>
  rec t142 (IntKind.i64.wrap (t152 + (1 : Int))) out2 t132) (List.length out : Int) t14 t15 (decide (((List.getD t13 (Int.toNat t15) ((0 : Int), (0 : Int))).1) ≤ ((List.getD out (Int.toNat (IntKind.i64.wrap ((List.length out : Int) - (1 : Int)))) ((0 : Int), (0 : Int))).2))) out ((List.getD t13 (Int.toNat t15) ((0 : Int), (0 : Int))).1) ((List.getD t13 (Int.toNat t15) ((0 : Int), (0 : Int))).2) t13)
  none)
  (p1 (fun (t142 : Int) (t152 : Int) (out2 : List (Int × Int)) (t132 : List (Int × Int)) =>
  rec t142 (IntKind.i64.wrap (t152 + (1 : Int))) out2 t132) (List.length out : Int) t14 t15 false out ((List.getD t13 (Int.toNat t15) ((0 : Int), (0 : Int))).1) ((List.getD t13 (Int.toNat t15) ((0 : Int), (0 : Int))).2) t13))
  none)
  (k1 out)
def zqbp (p1 : zqbe) {β : Type} : Nat → zqbh β → Int → Int → (List (Int × Int)) → (List (Int × Int)) → Option β
  | 0 => fun _ _ _ _ _ => none
  | i + 1 => fun k1 t14 t15 out t13 => zqbo p1 (zqbp p1 i k1) k1 t14 t15 out t13
theorem zqbq (hΓ : ΓOk Try.prog (span_Merge_X c_slices_Clone_api_Span_api_Span).Γ) (p1 : zqbe) (hp1 : PieceOk Try.prog 54 0 span_Merge_p1_code zqbf zqbg (span_Merge_p1_G p1)) (i : Nat) : PieceOk Try.prog 54 0 span_Merge_p2_code zqbj zqbk (span_Merge_p2_G (zqbp p1 i)) := by
  rw [show span_Merge_p2_code = .loop (loopBody span_Merge_p2_code) by kernel_rfl]
  exact piece_loop (X := (span_Merge_X c_slices_Clone_api_Span_api_Span)) (p := 1) (Λ := pick1 [(231, pieceCut zqbf zqbg (span_Merge_p1_G p1))]) (G := fun i => @fun β d ks => span_Merge_p2_G (zqbp p1 i) d ks) mixed tab_ok hΓ rfl (by kernel_rfl) (CutsOk_cons (q := 231) (c' := span_Merge_p1_code) (by kernel_rfl) rfl hp1 CutsOk_nil) (fun _ _ => rfl) (fun i => @fun β d ks r h => Eq.trans (b := span_Merge_p2_G (zqbp p1 (i + 1)) d ks) (by kernel_rfl) h) i
def zqbr (p2 : zqbi) {β : Type} (l : List (Int × Int)) (k : ((List (Int × Int)) → Option β)) : Option β :=
  c_slices_Clone_api_Span_api_Span l (fun (lrSpan : List (Int × Int)) =>
  cond (zqar lrSpan)
  (let l2 : List (Int × Int) := (zqas lrSpan);
  cond ((List.all l2 zqb4) && decide (List.length l2 < 4611686018427387904))
  (let l3 : List (Int × Int) := (zqb6 l2);
  p2 (fun (out : List (Int × Int)) =>
  k out) (List.length l3 : Int) (0 : Int) ([] : List (Int × Int)) l3)
  none)
  none)
theorem zqbs (hΓ : ΓOk Try.prog (span_Merge_X c_slices_Clone_api_Span_api_Span).Γ) (p2 : zqbi) (hp2 : PieceOk Try.prog 54 0 span_Merge_p2_code zqbj zqbk (span_Merge_p2_G p2)) : SpecOk Try.prog 36 (zqbc (zqbr c_slices_Clone_api_Span_api_Span p2)) :=
  spec_exec (X := (span_Merge_X c_slices_Clone_api_Span_api_Span)) (Λ := pick1 [(250, pieceCut zqbj zqbk (span_Merge_p2_G p2))]) (rs := [.tmp 2]) (c := bodyOf Try.f36) mixed tab_ok hΓ Try.func36 (by kernel_rfl) (by kernel_rfl) (by kernel_rfl) (by kernel_rfl) (CutsOk_cons (q := 250) (c' := span_Merge_p2_code) (by kernel_rfl) rfl hp2 CutsOk_nil) (fun x k r h => Eq.trans (b := (zqbc (zqbr c_slices_Clone_api_Span_api_Span p2)).run x k) (by kernel_rfl) h)
end
theorem zqbtΓ : ΓOk Try.prog (pick1 [(48, .spec (zq57 zq58)), (47, .rows zqat), (50, .rows zqb9)]) := (ΓOk_cons zq59 (ΓOk_row zqau (ΓOk_row zqba ΓOk_nil)))
def zqbu : zqbe := zqbm
theorem zqbv : PieceOk Try.prog 54 0 span_Merge_p1_code zqbf zqbg (span_Merge_p1_G zqbu) := zqbn zq58 zqbtΓ
def zqbw (m : Nat) : zqbi := zqbp zqbu m
theorem zqbx {β : Type} (i : Nat) (k1 t14 t15 out t13) : (zqbw (i + 1) k1 t14 t15 out t13 : Option β) = zqbo zqbu (zqbw i k1) k1 t14 t15 out t13 := rfl
def zqby : zqbi := zqbw fuel
theorem zqbz : PieceOk Try.prog 54 0 span_Merge_p2_code zqbj zqbk (span_Merge_p2_G zqby) := zqbq zq58 zqbtΓ zqbu zqbv fuel
def zqc0 : zqbb := zqbr zq58 zqby
theorem zqc1 : SpecOk Try.prog 36 (zqbc zqc0) := zqbs zq58 zqbtΓ zqby zqbz

/-- pagewatch/span.Normal -/
abbrev zqc2 := {β : Type} → (List (Int × Int)) → (Int → (List (Int × Int)) → Option β) → Option β
def zqc3 (c : zqc2) : Spec :=
  ⟨[(false, [.data (.slice (.prod (.int .i64) (.int .i64)))])], [], [(false, [.rowh 0]), (false, [.data (.int .i64)])], [.row 30 (.prod (.int .i64) (.int .i64))], fun x k => c x.1.1.1 (fun r0 r1 => k (((), (r0, ()), ()), (r1, ())))⟩
noncomputable def span_Normal_p1_code : Code := codeAt 58 (bodyOf Try.f13)
abbrev zqc4 (β : Type) := Int → (List (Int × Int)) → Option β
abbrev zqc5 (β : Type) := (List (Int × Int)) → Option β
abbrev zqc6 := {β : Type} → zqc4 β → zqc5 β → (List (Int × Int)) → (List (Int × Int)) → Int → Int → Option β
def zqc7 : View := ⟨0, [0, 9, 10, 11], [(false, [.data (.slice (.prod (.int .i64) (.int .i64)))]), (false, [.data (.slice (.prod (.int .i64) (.int .i64)))]), (false, [.data (.int .i64)]), (false, [.data (.int .i64)])], []⟩
def zqc8 : List (AExit × View) := [(.ret, ⟨0, [2, 3], [(false, [.rowh 0]), (false, [.data (.int .i64)])], [.row 30 (.prod (.int .i64) (.int .i64))]⟩), (.exit 0, ⟨0, [0], [(false, [.data (.slice (.prod (.int .i64) (.int .i64)))])], []⟩)]
@[reducible] def span_Normal_p1_G (p : zqc6) {β : Type} (d : zqc7.den) (ks : Outs.K β zqc8) : Option β :=
  p (fun a0 a1 => ks.1 (((), (a0, ()), ()), (a1, ()))) (fun a0 => ks.2.1 (((a0, ()), ()), ())) d.1.1.1 d.1.2.1.1 d.1.2.2.1.1 d.1.2.2.2.1.1
section
variable (c_span_Merge : zqbb)
@[reducible] def span_Normal_X : Ctx := ⟨look tab, pick1 [(36, .spec (zqbc c_span_Merge))], false, false⟩
def zqc9 {β : Type} (rec : (List (Int × Int)) → (List (Int × Int)) → Int → Int → Option β) (k1 : zqc4 β) (k2 : zqc5 β) (l : List (Int × Int)) (t9 : List (Int × Int)) (t10 : Int) (t11 : Int) : Option β :=
  cond (decide (t11 < t10))
  (cond (decide (0 ≤ t11) && decide (t11 < (List.length t9 : Int)))
  (let e : (Int × Int) := List.getD t9 (Int.toNat t11) ((0 : Int), (0 : Int));
  cond (decide (e.1 < e.2))
  (cond (decide (e.1 < (0 : Int)))
  (k1 (1 : Int) ([] : List (Int × Int)))
  (cond (decide ((8589934592 : Int) < e.2))
  (k1 (1 : Int) ([] : List (Int × Int)))
  (rec l t9 t10 (IntKind.i64.wrap (t11 + (1 : Int))))))
  (rec l t9 t10 (IntKind.i64.wrap (t11 + (1 : Int)))))
  none)
  (k2 l)
def zqca {β : Type} : Nat → zqc4 β → zqc5 β → (List (Int × Int)) → (List (Int × Int)) → Int → Int → Option β
  | 0 => fun _ _ _ _ _ _ => none
  | i + 1 => fun k1 k2 l t9 t10 t11 => zqc9 (zqca i k1 k2) k1 k2 l t9 t10 t11
theorem zqcb (hΓ : ΓOk Try.prog (span_Normal_X c_span_Merge).Γ) (i : Nat) : PieceOk Try.prog 33 0 span_Normal_p1_code zqc7 zqc8 (span_Normal_p1_G (zqca i)) := by
  rw [show span_Normal_p1_code = .loop (loopBody span_Normal_p1_code) by kernel_rfl]
  exact piece_loop (X := (span_Normal_X c_span_Merge)) (p := 1) (Λ := pick1 []) (G := fun i => @fun β d ks => span_Normal_p1_G (zqca i) d ks) mixed tab_ok hΓ rfl (by kernel_rfl) CutsOk_nil (fun _ _ => rfl) (fun i => @fun β d ks r h => Eq.trans (b := span_Normal_p1_G (zqca (i + 1)) d ks) (by kernel_rfl) h) i
def zqcc (p1 : zqc6) {β : Type} (l : List (Int × Int)) (k : (Int → (List (Int × Int)) → Option β)) : Option β :=
  cond (decide ((4096 : Int) < (List.length l : Int)))
  (k (5 : Int) ([] : List (Int × Int)))
  (p1 (fun (t3 : Int) (t2 : List (Int × Int)) =>
  k t3 t2) (fun (l2 : List (Int × Int)) =>
  c_span_Merge l2 (fun (lrMerge : List (Int × Int)) =>
  k (0 : Int) lrMerge)) l l (List.length l : Int) (0 : Int))
theorem zqcd (hΓ : ΓOk Try.prog (span_Normal_X c_span_Merge).Γ) (p1 : zqc6) (hp1 : PieceOk Try.prog 33 0 span_Normal_p1_code zqc7 zqc8 (span_Normal_p1_G p1)) : SpecOk Try.prog 13 (zqc3 (zqcc c_span_Merge p1)) :=
  spec_exec (X := (span_Normal_X c_span_Merge)) (Λ := pick1 [(58, pieceCut zqc7 zqc8 (span_Normal_p1_G p1))]) (rs := [.tmp 2, .tmp 3]) (c := bodyOf Try.f13) mixed tab_ok hΓ Try.func13 (by kernel_rfl) (by kernel_rfl) (by kernel_rfl) (by kernel_rfl) (CutsOk_cons (q := 58) (c' := span_Normal_p1_code) (by kernel_rfl) rfl hp1 CutsOk_nil) (fun x k r h => Eq.trans (b := (zqc3 (zqcc c_span_Merge p1)).run x k) (by kernel_rfl) h)
end
theorem zqceΓ : ΓOk Try.prog (pick1 [(36, .spec (zqbc zqc0))]) := (ΓOk_cons zqc1 ΓOk_nil)
def zqcf (m : Nat) : zqc6 := zqca m
theorem zqcg {β : Type} (i : Nat) (k1 k2 l t9 t10 t11) : (zqcf (i + 1) k1 k2 l t9 t10 t11 : Option β) = zqc9 (zqcf i k1 k2) k1 k2 l t9 t10 t11 := rfl
def zqch : zqc6 := zqcf fuel
theorem zqci : PieceOk Try.prog 33 0 span_Normal_p1_code zqc7 zqc8 (span_Normal_p1_G zqch) := zqcb zqc0 zqceΓ fuel
def zqcj : zqc2 := zqcc zqc0 zqch
theorem zqck : SpecOk Try.prog 13 (zqc3 zqcj) := zqcd zqc0 zqceΓ zqch zqci

/-- pagewatch/pagewatchlaw03.sane -/
abbrev zqcl := {β : Type} → (Bool → Option β) → Option β
def zqcm (c : zqcl) : Spec :=
  ⟨[], [], [(false, [.data .bool])], [], fun x k => c  (fun r0 => k (((r0, ()), ()), ()))⟩
section
variable (c_law03_same : zql) (c_span_Gap : zq60) (c_span_Minus : zq8t) (c_span_Normal : zqc2)
@[reducible] def law03_sane_X : Ctx := ⟨look tab, pick1 [(14, .spec (zqm c_law03_same)), (16, .spec (zq61 c_span_Gap)), (20, .spec (zq8u c_span_Minus)), (13, .spec (zqc3 c_span_Normal))], false, false⟩
def zqcn {β : Type} (k : (Bool → Option β)) : Option β :=
  let l : List (Int × Int) := ([((5 : Int), (9 : Int)), ((1 : Int), (3 : Int)), ((3 : Int), (4 : Int)), ((7 : Int), (6 : Int))] : List (Int × Int));
  c_span_Normal l (fun (rNormal : Int) (lrNormal : List (Int × Int)) =>
  let l2 : List (Int × Int) := ([((0 : Int), (10 : Int))] : List (Int × Int));
  let l3 : List (Int × Int) := ([((2 : Int), (3 : Int)), ((5 : Int), (20 : Int))] : List (Int × Int));
  c_span_Minus l2 l3 (fun (rMinus : Int) (lrMinus : List (Int × Int)) =>
  cond (decide (rNormal = (0 : Int)))
  (cond (decide (rMinus = (0 : Int)))
  (let l4 : List (Int × Int) := ([((1 : Int), (4 : Int)), ((5 : Int), (9 : Int))] : List (Int × Int));
  c_law03_same lrNormal l4 (fun (rsame : Bool) =>
  cond rsame
  (let l5 : List (Int × Int) := ([((0 : Int), (2 : Int)), ((3 : Int), (5 : Int))] : List (Int × Int));
  c_law03_same lrMinus l5 (fun (rsame2 : Bool) =>
  cond rsame2
  (let l6 : List (Int × Int) := ([((0 : Int), (10 : Int))] : List (Int × Int));
  c_span_Gap l6 (4 : Int) (fun (rGap : Int) =>
  let t : Bool := (decide (rGap = (10 : Int)));
  k t))
  (k false)))
  (k false)))
  (k false))
  (k false)))
theorem zqco (hΓ : ΓOk Try.prog (law03_sane_X c_law03_same c_span_Gap c_span_Minus c_span_Normal).Γ) : SpecOk Try.prog 9 (zqcm (zqcn c_law03_same c_span_Gap c_span_Minus c_span_Normal)) :=
  spec_exec (X := (law03_sane_X c_law03_same c_span_Gap c_span_Minus c_span_Normal)) (Λ := pick1 []) (rs := [.tmp 0]) (c := bodyOf Try.f9) mixed tab_ok hΓ Try.func9 (by kernel_rfl) (by kernel_rfl) (by kernel_rfl) (by kernel_rfl) CutsOk_nil (fun x k r h => Eq.trans (b := (zqcm (zqcn c_law03_same c_span_Gap c_span_Minus c_span_Normal)).run x k) (by kernel_rfl) h)
end
theorem zqcpΓ : ΓOk Try.prog (pick1 [(14, .spec (zqm zq12)), (16, .spec (zq61 zq6h)), (20, .spec (zq8u zq8y)), (13, .spec (zqc3 zqcj))]) := (ΓOk_cons zq13 (ΓOk_cons zq6i (ΓOk_cons zq8z (ΓOk_cons zqck ΓOk_nil))))
def zqcq : zqcl := zqcn zq12 zq6h zq8y zqcj
theorem zqcr : SpecOk Try.prog 9 (zqcm zqcq) := zqco zq12 zq6h zq8y zqcj zqcpΓ

/-- pagewatch/pagewatchlaw03.SpanNext -/
abbrev zqcs := {β : Type} → (List Int) → Int → (Bool → Option β) → Option β
def zqct (c : zqcs) : Spec :=
  ⟨[(false, [.data (.slice (.int .i64))]), (false, [.data (.int .i64)])], [], [(false, [.data .bool])], [], fun x k => c x.1.1.1 x.1.2.1.1 (fun r0 => k (((r0, ()), ()), ()))⟩
noncomputable def law03_SpanNext_p1_code : Code := codeAt 1018 (bodyOf Try.f4)
abbrev zqcu (β : Type) := Bool → Option β
abbrev zqcv (β : Type) := Int → Int → Bool → Int → (List (Int × Int)) → Option β
abbrev zqcw := {β : Type} → zqcu β → zqcv β → Int → Int → Bool → Int → Int → (List (Int × Int)) → Option β
def zqcx : View := ⟨0, [1, 5, 6, 7, 8, 9], [(false, [.data (.int .i64)]), (false, [.rowh 0]), (false, [.data (.int .i64)]), (false, [.data .bool]), (false, [.data (.int .i64)]), (false, [.data (.int .i64)])], [.row 30 (.prod (.int .i64) (.int .i64))]⟩
def zqcy : List (AExit × View) := [(.ret, ⟨0, [4], [(false, [.data .bool])], []⟩), (.exit 0, ⟨0, [1, 5, 6, 7, 8], [(false, [.data (.int .i64)]), (false, [.rowh 0]), (false, [.data (.int .i64)]), (false, [.data .bool]), (false, [.data (.int .i64)])], [.row 30 (.prod (.int .i64) (.int .i64))]⟩)]
@[reducible] def law03_SpanNext_p1_G (p : zqcw) {β : Type} (d : zqcx.den) (ks : Outs.K β zqcy) : Option β :=
  p (fun a0 => ks.1 (((a0, ()), ()), ())) (fun a0 a1 a2 a3 a4 => ks.2.1 (((a0, ()), (), (a1, ()), (a2, ()), (a3, ()), ()), (a4, ()))) d.1.1.1 d.1.2.2.1.1 d.1.2.2.2.1.1 d.1.2.2.2.2.1.1 d.1.2.2.2.2.2.1.1 d.2.1
section
variable (c_law03_sane : zqcl) (c_made_Dice_Set : zq8b) (c_made_Light : zq0) (c_made_Mod : zqe) (c_made_Roll : zq7) (c_span_First : zq5h) (c_span_Gap : zq60) (c_span_Has : zqav)
@[reducible] def law03_SpanNext_X : Ctx := ⟨look tab, pick1 [(9, .spec (zqcm c_law03_sane)), (11, .spec (zq8c c_made_Dice_Set)), (8, .spec (zq1 c_made_Light)), (12, .spec (zqf c_made_Mod)), (10, .spec (zq8 c_made_Roll)), (15, .spec (zq5i c_span_First)), (16, .spec (zq61 c_span_Gap)), (17, .spec (zqaw c_span_Has))], false, false⟩
def zqcz {β : Type} (rec : Int → Int → Bool → Int → Int → (List (Int × Int)) → Option β) (k1 : zqcu β) (k2 : zqcv β) (x : Int) (n : Int) (ok : Bool) (g : Int) (k_ : Int) (a : List (Int × Int)) : Option β :=
  cond (decide (k_ < (80 : Int)))
  (c_span_Has a k_ (fun (rHas : Bool) =>
  cond rHas
  (cond (!ok)
  (k1 false)
  (cond (decide (k_ < n))
  (k1 false)
  (c_span_Has a k_ (fun (rHas2 : Bool) =>
  cond (!rHas2)
  (cond (decide (k_ < g))
  (k1 false)
  (let k_2 : Int := (IntKind.i64.wrap (k_ + (1 : Int)));
  rec x n ok g k_2 a))
  (let k_2 : Int := (IntKind.i64.wrap (k_ + (1 : Int)));
  rec x n ok g k_2 a)))))
  (c_span_Has a k_ (fun (rHas2 : Bool) =>
  cond (!rHas2)
  (cond (decide (k_ < g))
  (k1 false)
  (let k_2 : Int := (IntKind.i64.wrap (k_ + (1 : Int)));
  rec x n ok g k_2 a))
  (let k_2 : Int := (IntKind.i64.wrap (k_ + (1 : Int)));
  rec x n ok g k_2 a)))))
  (k2 x n ok g a)
def zqd0 {β : Type} : Nat → zqcu β → zqcv β → Int → Int → Bool → Int → Int → (List (Int × Int)) → Option β
  | 0 => fun _ _ _ _ _ _ _ _ => none
  | i + 1 => fun k1 k2 x n ok g k_ a => zqcz c_span_Has (zqd0 i k1 k2) k1 k2 x n ok g k_ a
theorem zqd1 (hΓ : ΓOk Try.prog (law03_SpanNext_X c_law03_sane c_made_Dice_Set c_made_Light c_made_Mod c_made_Roll c_span_First c_span_Gap c_span_Has).Γ) (i : Nat) : PieceOk Try.prog 82 0 law03_SpanNext_p1_code zqcx zqcy (law03_SpanNext_p1_G (zqd0 c_span_Has i)) := by
  rw [show law03_SpanNext_p1_code = .loop (loopBody law03_SpanNext_p1_code) by kernel_rfl]
  exact piece_loop (X := (law03_SpanNext_X c_law03_sane c_made_Dice_Set c_made_Light c_made_Mod c_made_Roll c_span_First c_span_Gap c_span_Has)) (p := 1) (Λ := pick1 []) (G := fun i => @fun β d ks => law03_SpanNext_p1_G (zqd0 c_span_Has i) d ks) mixed tab_ok hΓ rfl (by kernel_rfl) CutsOk_nil (fun _ _ => rfl) (fun i => @fun β d ks r h => Eq.trans (b := law03_SpanNext_p1_G (zqd0 c_span_Has (i + 1)) d ks) (by kernel_rfl) h) i
def zqd2 (p1 : zqcw) {β : Type} (t : List Int) (x : Int) (k : (Bool → Option β)) : Option β :=
  c_made_Light t (fun (rLight : Bool) =>
  cond (!rLight)
  (c_law03_sane  (fun (rsane : Bool) =>
  k rsane))
  (c_made_Roll t (fun (mrRoll : (List Int × Int)) =>
  c_made_Dice_Set mrRoll (fun (mrSet : (List Int × Int)) (lrSet : List (Int × Int)) =>
  c_made_Mod x (80 : Int) (fun (rMod : Int) =>
  c_span_First lrSet rMod (fun (rFirst : Int) (rFirst2 : Bool) =>
  c_span_Gap lrSet rMod (fun (rGap : Int) =>
  p1 (fun (t4 : Bool) =>
  k t4) (fun (x2 : Int) (n : Int) (ok : Bool) (g : Int) (a : List (Int × Int)) =>
  cond (!ok)
  (cond (decide (x2 ≤ g))
  (c_span_Has a g (fun (rHas : Bool) =>
  cond (!rHas)
  (c_law03_sane  (fun (rsane : Bool) =>
  k rsane))
  (k false)))
  (k false))
  (cond (decide (x2 ≤ n))
  (c_span_Has a n (fun (rHas : Bool) =>
  cond rHas
  (cond (decide (x2 ≤ g))
  (c_span_Has a g (fun (rHas2 : Bool) =>
  cond (!rHas2)
  (c_law03_sane  (fun (rsane : Bool) =>
  k rsane))
  (k false)))
  (k false))
  (k false)))
  (k false))) rMod rFirst rFirst2 rGap rMod lrSet)))))))
theorem zqd3 (hΓ : ΓOk Try.prog (law03_SpanNext_X c_law03_sane c_made_Dice_Set c_made_Light c_made_Mod c_made_Roll c_span_First c_span_Gap c_span_Has).Γ) (p1 : zqcw) (hp1 : PieceOk Try.prog 82 0 law03_SpanNext_p1_code zqcx zqcy (law03_SpanNext_p1_G p1)) : SpecOk Try.prog 4 (zqct (zqd2 c_law03_sane c_made_Dice_Set c_made_Light c_made_Mod c_made_Roll c_span_First c_span_Gap c_span_Has p1)) :=
  spec_exec (X := (law03_SpanNext_X c_law03_sane c_made_Dice_Set c_made_Light c_made_Mod c_made_Roll c_span_First c_span_Gap c_span_Has)) (Λ := pick1 [(1018, pieceCut zqcx zqcy (law03_SpanNext_p1_G p1))]) (rs := [.tmp 4]) (c := bodyOf Try.f4) mixed tab_ok hΓ Try.func4 (by kernel_rfl) (by kernel_rfl) (by kernel_rfl) (by kernel_rfl) (CutsOk_cons (q := 1018) (c' := law03_SpanNext_p1_code) (by kernel_rfl) rfl hp1 CutsOk_nil) (fun x k r h => Eq.trans (b := (zqct (zqd2 c_law03_sane c_made_Dice_Set c_made_Light c_made_Mod c_made_Roll c_span_First c_span_Gap c_span_Has p1)).run x k) (by kernel_rfl) h)
end
theorem zqd4Γ : ΓOk Try.prog (pick1 [(9, .spec (zqcm zqcq)), (11, .spec (zq8c zq8r)), (8, .spec (zq1 zq5)), (12, .spec (zqf zqj)), (10, .spec (zq8 zqc)), (15, .spec (zq5i zq5y)), (16, .spec (zq61 zq6h)), (17, .spec (zqaw zqb0))]) := (ΓOk_cons zqcr (ΓOk_cons zq8s (ΓOk_cons zq6 (ΓOk_cons zqk (ΓOk_cons zqd (ΓOk_cons zq5z (ΓOk_cons zq6i (ΓOk_cons zqb1 ΓOk_nil))))))))
def zqd5 (m : Nat) : zqcw := zqd0 zqb0 m
theorem zqd6 {β : Type} (i : Nat) (k1 k2 x n ok g k_ a) : (zqd5 (i + 1) k1 k2 x n ok g k_ a : Option β) = zqcz zqb0 (zqd5 i k1 k2) k1 k2 x n ok g k_ a := rfl
def zqd7 : zqcw := zqd5 fuel
theorem zqd8 : PieceOk Try.prog 82 0 law03_SpanNext_p1_code zqcx zqcy (law03_SpanNext_p1_G zqd7) := zqd1 zqcq zq8r zq5 zqj zqc zq5y zq6h zqb0 zqd4Γ fuel
def zqd9 : zqcs := zqd2 zqcq zq8r zq5 zqj zqc zq5y zq6h zqb0 zqd7
theorem zqda : SpecOk Try.prog 4 (zqct zqd9) := zqd3 zqcq zq8r zq5 zqj zqc zq5y zq6h zqb0 zqd4Γ zqd7 zqd8
end
end Go.Lift
/- Plain lemmas about functional forms: tests that are known, loops. -/
namespace Go.Lift
open Go.RowKit Go.IntWalk

section
variable {β : Type}
/-! ### Tests -/
theorem c_inb {i n : Int} {a b : Option β} (h : 0 ≤ i ∧ i < n) : cond (decide (0 ≤ i) && decide (i < n)) a b = a := by
  rw [decide_eq_true h.1, decide_eq_true h.2]; rfl
theorem c_room {n : Nat} {a b : Option β} (h : n ≤ 140737488355328) : cond (decide (n ≤ roomMax)) a b = a := by
  rw [decide_eq_true (p := n ≤ roomMax) h]; rfl
theorem c_pos {p : Prop} [Decidable p] {a b : Option β} (h : p) : cond (decide p) a b = a := by rw [decide_eq_true h]; rfl
theorem c_neg {p : Prop} [Decidable p] {a b : Option β} (h : ¬ p) : cond (decide p) a b = b := by rw [decide_eq_false h]; rfl
theorem c_npos {p : Prop} [Decidable p] {a b : Option β} (h : p) : cond (!decide p) a b = b := by rw [decide_eq_true h]; rfl
theorem c_nneg {p : Prop} [Decidable p] {a b : Option β} (h : ¬ p) : cond (!decide p) a b = a := by rw [decide_eq_false h]; rfl
theorem c_t {a b : Option β} : cond true a b = a := rfl
theorem c_f {a b : Option β} : cond false a b = b := rfl
/-! ### Loops over the numbers from 0 on -/
/-- A loop with an invariant and a measure. -/
theorem while_loop {σ ρ : Type} {Kt : Type → Type} (F : {β : Type} → Kt β → Nat → σ → Option β) (X : {β : Type} → Kt β → ρ → Option β) (I : σ → Prop) (μ : σ → Nat) (Q : ρ → Prop)
    (step : ∀ s, I s → (∃ s', I s' ∧ μ s' < μ s ∧ ∀ {β : Type} (k : Kt β) m, F k (m + 1) s = F k m s') ∨ (∃ r, Q r ∧ ∀ {β : Type} (k : Kt β) m, F k (m + 1) s = X k r)) :
    ∀ (N : Nat) (s : σ), I s → μ s < N → ∃ r, Q r ∧ ∀ {β : Type} (k : Kt β), F k N s = X k r := by
  intro N
  induction N with
  | zero => intro s _ h; omega
  | succ N ih =>
    intro s hI hN
    rcases step s hI with ⟨s', h1, h2, h3⟩ | ⟨r, h1, h2⟩
    · obtain ⟨r, h4, h5⟩ := ih s' h1 (by omega)
      exact ⟨r, h4, fun k => (h3 k N).trans (h5 k)⟩
    · exact ⟨r, h1, fun k => h2 k N⟩
end
end Go.Lift

/- Sets of numbers as lists of spans: plain theory for the chapter 3. -/
namespace Go.Lift
noncomputable section
set_option linter.unusedVariables false
set_option linter.unusedSimpArgs false

abbrev Sp := Int × Int
/-- A number is in one of the spans. -/
def hasS (l : List Sp) (x : Int) : Prop := ∃ s ∈ l, s.1 ≤ x ∧ x < s.2
theorem hasS_nil {x : Int} : ¬ hasS [] x := by rintro ⟨s, h, _⟩; cases h
theorem hasS_cons {s : Sp} {l : List Sp} {x : Int} : hasS (s :: l) x ↔ (s.1 ≤ x ∧ x < s.2) ∨ hasS l x := by
  unfold hasS
  simp only [List.mem_cons, exists_eq_or_imp]
theorem hasS_append {l m : List Sp} {x : Int} : hasS (l ++ m) x ↔ hasS l x ∨ hasS m x := by
  unfold hasS
  simp only [List.mem_append, or_and_right, exists_or]

/-- The least form of a set, all of it beyond a. -/
def NFa : Int → List Sp → Prop
  | _, [] => True
  | a, s :: l => a < s.1 ∧ s.1 < s.2 ∧ NFa s.2 l

theorem NFa.mono {a b : Int} (h : b ≤ a) : ∀ {l : List Sp}, NFa a l → NFa b l
  | [], _ => trivial
  | s :: l, ⟨h1, h2, h3⟩ => ⟨by omega, h2, h3⟩
theorem NFa.lt {a : Int} : ∀ {l : List Sp} {x : Int}, NFa a l → hasS l x → a < x
  | [], x, _, h => absurd h hasS_nil
  | s :: l, x, ⟨h1, h2, h3⟩, h => by
    rcases hasS_cons.1 h with h | h
    · omega
    · have := NFa.lt h3 h
      omega

/-- A set has one form. -/
theorem NFa.uniq : ∀ {l m : List Sp} {a b : Int}, NFa a l → NFa b m → (∀ x, hasS l x ↔ hasS m x) → l = m
  | [], [], _, _, _, _, _ => rfl
  | [], t :: m, _, _, _, ⟨h1, h2, h3⟩, h => absurd ((h t.1).2 (hasS_cons.2 (.inl ⟨by omega, h2⟩))) hasS_nil
  | s :: l, [], _, _, ⟨h1, h2, h3⟩, _, h => absurd ((h s.1).1 (hasS_cons.2 (.inl ⟨by omega, h2⟩))) hasS_nil
  | s :: l, t :: m, _, _, ⟨h1, h2, h3⟩, ⟨g1, g2, g3⟩, h => by
    have a1 : t.1 ≤ s.1 := by
      rcases hasS_cons.1 ((h s.1).1 (hasS_cons.2 (.inl ⟨by omega, h2⟩))) with q | q
      · omega
      · have := g3.lt q; omega
    have a2 : s.1 ≤ t.1 := by
      rcases hasS_cons.1 ((h t.1).2 (hasS_cons.2 (.inl ⟨by omega, g2⟩))) with q | q
      · omega
      · have := h3.lt q; omega
    have e1 : s.1 = t.1 := by omega
    have b1 : ¬ s.2 < t.2 := by
      intro hlt
      rcases hasS_cons.1 ((h s.2).2 (hasS_cons.2 (.inl ⟨by omega, hlt⟩))) with q | q
      · omega
      · have := h3.lt q; omega
    have b2 : ¬ t.2 < s.2 := by
      intro hlt
      rcases hasS_cons.1 ((h t.2).1 (hasS_cons.2 (.inl ⟨by omega, hlt⟩))) with q | q
      · omega
      · have := g3.lt q; omega
    have e2 : s.2 = t.2 := by omega
    have e : s = t := Prod.ext e1 e2
    subst e
    have ht : l = m := by
      refine NFa.uniq h3 g3 fun x => ?_
      constructor
      · intro q
        have hx := h3.lt q
        rcases hasS_cons.1 ((h x).1 (hasS_cons.2 (.inr q))) with p | p
        · omega
        · exact p
      · intro q
        have hx := g3.lt q
        rcases hasS_cons.1 ((h x).2 (hasS_cons.2 (.inr q))) with p | p
        · omega
        · exact p
    rw [ht]

/-! ### What is in both -/
/-! ### What is in the first alone -/
def restS (e at_ : Int) : List Sp := if at_ < e then [(at_, e)] else []
def cutS (e : Int) : Int → List Sp → List Sp
  | at_, [] => restS e at_
  | at_, b :: bs => if b.1 < e then restS b.1 at_ ++ cutS e (max at_ b.2) bs else restS e at_

theorem restS_ok {e at_ a : Int} (h : a < at_) : (∀ x, hasS (restS e at_) x ↔ at_ ≤ x ∧ x < e) ∧ NFa a (restS e at_) := by
  unfold restS
  split
  · refine ⟨fun x => ?_, h, by assumption, trivial⟩
    rw [hasS_cons]
    constructor
    · rintro (q | q)
      · exact q
      · exact absurd q hasS_nil
    · exact .inl
  · exact ⟨fun x => ⟨fun q => absurd q hasS_nil, fun q => by omega⟩, trivial⟩

theorem cutS_ok {e : Int} : ∀ (bs : List Sp) (at_ a c : Int), a < at_ → NFa c bs → (∀ x, hasS (cutS e at_ bs) x ↔ (at_ ≤ x ∧ x < e) ∧ ¬ hasS bs x) ∧ NFa a (cutS e at_ bs)
  | [], at_, a, c, h, _ => by
    obtain ⟨r1, r2⟩ := restS_ok (e := e) h
    exact ⟨fun x => ⟨fun q => ⟨(r1 x).1 q, hasS_nil⟩, fun q => (r1 x).2 q.1⟩, r2⟩
  | b :: bs, at_, a, c, h, ⟨m1, m2, m3⟩ => by
    unfold cutS
    by_cases hb : b.1 < e
    · rw [if_pos hb]
      by_cases hp : at_ < b.1
      · obtain ⟨i1, i2⟩ := cutS_ok bs (max at_ b.2) b.1 b.2 (by omega) m3
        have er : restS b.1 at_ = [(at_, b.1)] := by unfold restS; rw [if_pos hp]
        rw [er]
        refine ⟨fun x => ?_, h, hp, i2⟩
        rw [List.singleton_append, hasS_cons, i1 x, hasS_cons]
        constructor
        · rintro (q | ⟨q1, q2⟩)
          · simp only at q
            refine ⟨by omega, ?_⟩
            rintro (p | p)
            · omega
            · have := m3.lt p; omega
          · refine ⟨by omega, ?_⟩
            rintro (p | p)
            · omega
            · exact q2 p
        · rintro ⟨q1, q2⟩
          by_cases hx : x < b.1
          · exact .inl (by simp only; omega)
          · refine .inr ⟨⟨?_, q1.2⟩, fun p => q2 (.inr p)⟩
            have : ¬ x < b.2 := fun hlt => q2 (.inl ⟨by omega, hlt⟩)
            omega
      · obtain ⟨i1, i2⟩ := cutS_ok bs (max at_ b.2) a b.2 (by omega) m3
        have er : restS b.1 at_ = [] := by unfold restS; rw [if_neg hp]
        rw [er, List.nil_append]
        refine ⟨fun x => ?_, i2⟩
        rw [i1 x, hasS_cons]
        constructor
        · rintro ⟨q1, q2⟩
          refine ⟨by omega, ?_⟩
          rintro (p | p)
          · omega
          · exact q2 p
        · rintro ⟨q1, q2⟩
          refine ⟨⟨?_, q1.2⟩, fun p => q2 (.inr p)⟩
          have : ¬ x < b.2 := fun hlt => q2 (.inl ⟨by omega, hlt⟩)
          omega
    · rw [if_neg hb]
      obtain ⟨r1, r2⟩ := restS_ok (e := e) h
      refine ⟨fun x => ?_, r2⟩
      rw [r1 x, hasS_cons]
      constructor
      · intro q
        refine ⟨q, ?_⟩
        rintro (p | p)
        · omega
        · have := m3.lt p; omega
      · exact fun q => q.1

def withoutS (l m : List Sp) : List Sp := l.flatMap fun s => cutS s.2 s.1 m

theorem NFa.append {l m : List Sp} {a b : Int} (hl : NFa a l) (hb : ∀ x, hasS l x → x < b) (hm : NFa b m) (hab : a ≤ b) : NFa a (l ++ m) := by
  induction l generalizing a with
  | nil => exact hm.mono hab
  | cons s l ih =>
    obtain ⟨h1, h2, h3⟩ := hl
    have hs : s.2 - 1 < b := hb (s.2 - 1) (hasS_cons.2 (.inl ⟨by omega, by omega⟩))
    exact ⟨h1, h2, ih h3 (fun x hx => hb x (hasS_cons.2 (.inr hx))) (by omega)⟩

theorem withoutS_ok {m : List Sp} {c : Int} (hm : NFa c m) : ∀ (l : List Sp) (a : Int), NFa a l → (∀ x, hasS (withoutS l m) x ↔ hasS l x ∧ ¬ hasS m x) ∧ NFa a (withoutS l m)
  | [], a, _ => ⟨fun x => ⟨fun q => absurd q hasS_nil, fun q => absurd q.1 hasS_nil⟩, trivial⟩
  | s :: l, a, ⟨h1, h2, h3⟩ => by
    obtain ⟨i1, i2⟩ := withoutS_ok hm l s.2 h3
    obtain ⟨j1, j2⟩ := cutS_ok (e := s.2) m s.1 a c h1 hm
    have e : withoutS (s :: l) m = cutS s.2 s.1 m ++ withoutS l m := rfl
    rw [e]
    refine ⟨fun x => ?_, j2.append (fun x hx => ((j1 x).1 hx).1.2) i2 (by omega)⟩
    rw [hasS_append, i1 x, j1 x, hasS_cons]
    constructor
    · rintro (⟨q1, q2⟩ | ⟨q1, q2⟩)
      · exact ⟨.inl q1, q2⟩
      · exact ⟨.inr q1, q2⟩
    · rintro ⟨q1 | q1, q2⟩
      · exact .inl ⟨q1, q2⟩
      · exact .inr ⟨q1, q2⟩

/-! ### Merging spans that ascend -/
def mergeS : Sp → List Sp → List Sp
  | c, [] => [c]
  | c, s :: l => if s.1 ≤ c.2 then mergeS (c.1, max c.2 s.2) l else c :: mergeS s l
theorem mergeS_ok : ∀ (l : List Sp) (c : Sp) (a : Int), a < c.1 → c.1 < c.2 → (∀ s ∈ l, c.1 ≤ s.1 ∧ s.1 < s.2) → l.Pairwise (fun s t => s.1 ≤ t.1) → (∀ x, hasS (mergeS c l) x ↔ hasS (c :: l) x) ∧ NFa a (mergeS c l)
  | [], c, a, h1, h2, _, _ => ⟨fun x => Iff.rfl, h1, h2, trivial⟩
  | s :: l, c, a, h1, h2, hs, hp => by
    rw [List.pairwise_cons] at hp
    obtain ⟨hs1, hs2⟩ := hs s (by simp)
    unfold mergeS
    by_cases hc : s.1 ≤ c.2
    · rw [if_pos hc]
      obtain ⟨i1, i2⟩ := mergeS_ok l (c.1, max c.2 s.2) a h1 (by simp only; omega) (fun t ht => hs t (by simp [ht])) hp.2
      refine ⟨fun x => ?_, i2⟩
      rw [i1 x, hasS_cons, hasS_cons, hasS_cons]
      constructor
      · rintro (q | q)
        · simp only at q
          by_cases hx : x < c.2
          · exact .inl (by omega)
          · exact .inr (.inl (by omega))
        · exact .inr (.inr q)
      · rintro (q | q | q)
        · exact .inl (by simp only; omega)
        · exact .inl (by simp only; omega)
        · exact .inr q
    · rw [if_neg hc]
      obtain ⟨i1, i2⟩ := mergeS_ok l s c.2 (by omega) hs2 (fun t ht => ⟨hp.1 t ht, (hs t (by simp [ht])).2⟩) hp.2
      refine ⟨fun x => ?_, h1, h2, i2⟩
      rw [hasS_cons, i1 x, hasS_cons (s := c)]
end
end Go.Lift

/- Sets of numbers as lists of spans: their length. -/
namespace Go.Lift
noncomputable section
set_option linter.unusedVariables false
set_option linter.unusedSimpArgs false

def hasB (l : List Sp) (x : Int) : Bool := l.any fun s => decide (s.1 ≤ x) && decide (x < s.2)
theorem hasB_iff {l : List Sp} {x : Int} : hasB l x = true ↔ hasS l x := by
  unfold hasB hasS
  rw [List.any_eq_true]
  simp only [Bool.and_eq_true, decide_eq_true_eq]
def lengthS (l : List Sp) : Int := (l.map fun s => s.2 - s.1).sum
theorem NFa.mem {a : Int} : ∀ {l : List Sp}, NFa a l → ∀ s ∈ l, a < s.1 ∧ s.1 < s.2
  | [], _, s, h => by cases h
  | t :: l, ⟨h1, h2, h3⟩, s, h => by
    rcases List.mem_cons.1 h with rfl | h
    · exact ⟨h1, h2⟩
    · have := NFa.mem h3 s h
      omega

/-- The elements of a set below a bound stay below it. -/
theorem below_of_has {l : List Sp} {a N : Int} (h : NFa a l) (hx : ∀ x, hasS l x → x < N) : ∀ s ∈ l, s.2 ≤ N := by
  intro s hs
  have := h.mem s hs
  have := hx (s.2 - 1) ⟨s, hs, by omega, by omega⟩
  omega
end
end Go.Lift

/- Sets of numbers as lists of spans: the normal form of any spans; the next element and the next gap. -/
namespace Go.Lift
noncomputable section
set_option linter.unusedVariables false
set_option linter.unusedSimpArgs false

def mergeAll : List Sp → List Sp
  | [] => []
  | c :: l => mergeS c l
theorem hasS_perm {l m : List Sp} (h : l.Perm m) (x : Int) : hasS l x ↔ hasS m x := by
  unfold hasS
  constructor
  · rintro ⟨s, hs, h2⟩
    exact ⟨s, h.mem_iff.1 hs, h2⟩
  · rintro ⟨s, hs, h2⟩
    exact ⟨s, h.mem_iff.2 hs, h2⟩
theorem hasS_filter {l : List Sp} (x : Int) : hasS (l.filter fun s => decide (s.1 < s.2)) x ↔ hasS l x := by
  unfold hasS
  constructor
  · rintro ⟨s, hs, h2⟩
    exact ⟨s, (List.mem_filter.1 hs).1, h2⟩
  · rintro ⟨s, hs, h2⟩
    exact ⟨s, List.mem_filter.2 ⟨hs, decide_eq_true (by omega)⟩, h2⟩

/-- Any spans, sorted in any way by their beginnings, merged: their set in its one form. -/
theorem norm_ok {l m : List Sp} {a : Int} (hp : m.Perm (l.filter fun s => decide (s.1 < s.2))) (hs : m.Pairwise (fun s t => s.1 ≤ t.1)) (h0 : ∀ s ∈ l, s.1 < s.2 → a < s.1) :
    (∀ x, hasS (mergeAll m) x ↔ hasS l x) ∧ NFa a (mergeAll m) := by
  have hmem : ∀ s ∈ m, s.1 < s.2 ∧ a < s.1 := fun s h => by
    have h1 := List.mem_filter.1 (hp.mem_iff.1 h)
    have h2 := of_decide_eq_true h1.2
    exact ⟨h2, h0 s h1.1 h2⟩
  have hh : ∀ x, hasS m x ↔ hasS l x := fun x => (hasS_perm hp x).trans (hasS_filter x)
  cases m with
  | nil => exact ⟨hh, trivial⟩
  | cons c r =>
    rw [List.pairwise_cons] at hs
    obtain ⟨h1, h2⟩ := mergeS_ok r c a (hmem c (by simp)).2 (hmem c (by simp)).1 (fun s h => ⟨hs.1 s h, (hmem s (by simp [h])).1⟩) hs.2
    exact ⟨fun x => (h1 x).trans (hh x), h2⟩

/-! ### The next element, the next gap -/
def firstS (x : Int) : List Sp → Option Int
  | [] => none
  | s :: l => if x < s.2 then some (max x s.1) else firstS x l
def gapS (x : Int) : List Sp → Int
  | [] => x
  | s :: l => if s.1 ≤ x ∧ x < s.2 then s.2 else gapS x l

theorem firstS_ok {x : Int} : ∀ {l : List Sp} {a : Int}, NFa a l → (∀ n, firstS x l = some n → x ≤ n ∧ hasS l n) ∧ (∀ k, x ≤ k → hasS l k → ∃ n, firstS x l = some n ∧ n ≤ k)
  | [], a, _ => ⟨fun n h => (by cases h), fun k _ h => absurd h hasS_nil⟩
  | s :: l, a, ⟨h1, h2, h3⟩ => by
    obtain ⟨i1, i2⟩ := firstS_ok (x := x) h3
    unfold firstS
    by_cases hx : x < s.2
    · rw [if_pos hx]
      refine ⟨fun n h => ?_, fun k hk h => ⟨_, rfl, ?_⟩⟩
      · cases h
        exact ⟨by omega, hasS_cons.2 (.inl ⟨by omega, by omega⟩)⟩
      · rcases hasS_cons.1 h with q | q
        · omega
        · have := h3.lt q
          omega
    · rw [if_neg hx]
      refine ⟨fun n h => ?_, fun k hk h => ?_⟩
      · exact ⟨(i1 n h).1, hasS_cons.2 (.inr (i1 n h).2)⟩
      · rcases hasS_cons.1 h with q | q
        · omega
        · exact i2 k hk q

theorem gapS_ok {x : Int} : ∀ {l : List Sp} {a : Int}, NFa a l → x ≤ gapS x l ∧ ¬ hasS l (gapS x l) ∧ ∀ k, x ≤ k → k < gapS x l → hasS l k
  | [], a, _ => ⟨Int.le_refl _, hasS_nil, fun k h1 h2 => by unfold gapS at h2; omega⟩
  | s :: l, a, ⟨h1, h2, h3⟩ => by
    obtain ⟨i1, i2, i3⟩ := gapS_ok (x := x) h3
    unfold gapS
    by_cases hx : s.1 ≤ x ∧ x < s.2
    · rw [if_pos hx]
      refine ⟨by omega, ?_, fun k k1 k2 => hasS_cons.2 (.inl ⟨by omega, k2⟩)⟩
      intro h
      rcases hasS_cons.1 h with q | q
      · omega
      · have := h3.lt q
        omega
    · rw [if_neg hx]
      refine ⟨i1, ?_, fun k k1 k2 => hasS_cons.2 (.inr (i3 k k1 k2))⟩
      intro h
      rcases hasS_cons.1 h with q | q
      · by_cases hxs : x < s.1
        · have h4 : x < gapS x l := by omega
          have := h3.lt (i3 x (Int.le_refl _) h4)
          omega
        · have h4 : x < gapS x l ∨ gapS x l = x := by omega
          rcases h4 with h4 | h4
          · have := h3.lt (i3 x (Int.le_refl _) h4)
            omega
          · omega
      · exact i2 q

/-! ### Laws of sets -/
end
end Go.Lift

/- The reference's sort of numbers: ascending, each once. -/
namespace Go.Lift
open Go.RowKit Go.IntWalk
noncomputable section
set_option linter.unusedVariables false
set_option linter.unusedSimpArgs false

theorem drop_cons {α : Type} {l : List α} {j : Nat} {x : α} {r : List α} (h : l.drop j = x :: r) (d : α) : j < l.length ∧ l.getD j d = x ∧ l.drop (j + 1) = r := by
  have h3 : j < l.length := by
    have := congrArg List.length h
    simp only [List.length_drop, List.length_cons] at this
    omega
  rw [List.drop_eq_getElem_cons h3] at h
  injection h with h1 h2
  exact ⟨h3, by simp [List.getD, h3, h1], h2⟩

theorem wr {x : Int} (h1 : -9223372036854775808 ≤ x) (h2 : x ≤ 9223372036854775807) : IntKind.i64.wrap x = x := by simp (disch := omega) only [i64_in]

abbrev Asc (l : List Int) : Prop := l.Pairwise (· < ·)

/-- A number behind the others, if it is not the last one already. -/
def pushU (out : List Int) (x : Int) : List Int := if out.getLast? = some x then out else out ++ [x]
theorem pushU_len (out : List Int) (x : Int) : (pushU out x).length ≤ out.length + 1 := by
  unfold pushU
  split <;> simp
theorem pushU_mem {out : List Int} {x y : Int} : y ∈ pushU out x ↔ y ∈ out ∨ y = x := by
  unfold pushU
  split
  · rename_i h
    constructor
    · exact .inl
    · rintro (h1 | rfl)
      · exact h1
      · exact List.mem_of_getLast? h
  · simp
theorem pushU_asc {out : List Int} {x : Int} (h : Asc out) (hx : ∀ y ∈ out, y ≤ x) : Asc (pushU out x) := by
  unfold pushU
  split
  · exact h
  · rename_i hne
    rw [Asc, List.pairwise_append]
    refine ⟨h, by simp, fun a ha b hb => ?_⟩
    simp only [List.mem_singleton] at hb
    subst hb
    have h1 := hx a ha
    rcases List.eq_nil_or_concat out with rfl | ⟨L, y, rfl⟩
    · cases ha
    · have hy : y ≠ b := by
        intro e
        exact hne (by simp [e])
      have hyb := hx y (by simp)
      rw [List.concat_eq_append] at h ha
      rcases List.mem_append.1 ha with q | q
      · have := (List.pairwise_append.1 h).2.2 a q y (by simp)
        omega
      · simp only [List.mem_singleton] at q
        omega

section
variable {β : Type} {me : zq3u}

theorem srt_p1 (k1 : zq3w β) (i j x : Int) {out a b : List Int} (hl : out.length ≤ 100000) : zq4r me k1 i j x out a b = k1 i j (pushU out x) a b := by
  show zq4c k1 i j x out a b = _
  unfold zq4c
  rcases List.eq_nil_or_concat out with rfl | ⟨L, y, rfl⟩
  · refine (c_pos (by simp)).trans ?_
    refine (c_room (by simp)).trans ?_
    rfl
  · rw [List.concat_eq_append] at hl ⊢
    have hlen : (L ++ [y]).length = L.length + 1 := by simp
    have e1 : IntKind.i64.wrap (((L ++ [y]).length : Int) - 1) = (L.length : Int) := by
      rw [wr (by omega) (by omega)]; omega
    have e2 : (L ++ [y]).getD (Int.toNat (L.length : Int)) 0 = y := by simp [List.getD]
    refine (c_neg (by omega)).trans ?_
    rw [e1]
    refine (c_inb (by omega)).trans ?_
    rw [e2]
    have e3 : (L ++ [y]).getLast? = some y := by simp
    by_cases hy : y = x
    · refine (c_npos hy).trans ?_
      have : pushU (L ++ [y]) x = L ++ [y] := by unfold pushU; rw [if_pos (by rw [e3, hy])]
      rw [this]
    · refine (c_nneg hy).trans ?_
      refine (c_room (by simp only [List.length_append, List.length_cons, List.length_nil] at hl ⊢; omega)).trans ?_
      have : pushU (L ++ [y]) x = L ++ [y] ++ [x] := by unfold pushU; rw [if_neg (by rw [e3]; simpa using hy)]
      rw [this]

theorem srt_p2t (k1 : zq40 β) {i : Nat} (j : Int) {out a b : List Int} (hi : i < a.length) (hl : a.length ≤ 100000) : zq4t me k1 (i : Int) j true out a b = k1 ((i + 1 : Nat) : Int) j (a.getD i 0) out a b := by
  show zq4f k1 (i : Int) j true out a b = _
  unfold zq4f
  refine c_t.trans ?_
  refine (c_inb (by omega)).trans ?_
  simp only [Int.toNat_natCast]
  rw [wr (by omega) (by omega)]
  rfl
theorem srt_p2f (k1 : zq40 β) {j : Nat} (i : Int) {out a b : List Int} (hj : j < b.length) (hl : b.length ≤ 100000) : zq4t me k1 i (j : Int) false out a b = k1 i ((j + 1 : Nat) : Int) (b.getD j 0) out a b := by
  show zq4f k1 i (j : Int) false out a b = _
  unfold zq4f
  refine c_f.trans ?_
  refine (c_inb (by omega)).trans ?_
  simp only [Int.toNat_natCast]
  rw [wr (by omega) (by omega)]
  rfl

/-- Whose turn it is. -/
def turnA (a b : List Int) (i j : Nat) : Bool := if j = b.length then true else if i < a.length then decide (a.getD i 0 ≤ b.getD j 0) else false

theorem srt_p3 (k1 : zq44 β) {i j : Nat} {out a b : List Int} (ha : a.length ≤ 100000) (hb : b.length ≤ 100000) (ho : out.length ≤ 100000) (hi : i ≤ a.length) (hj : j ≤ b.length) (h : i < a.length ∨ j < b.length) :
    zq4v me k1 (i : Int) (j : Int) out a b = cond (turnA a b i j) (k1 ((i + 1 : Nat) : Int) (j : Int) (pushU out (a.getD i 0)) a b) (k1 (i : Int) ((j + 1 : Nat) : Int) (pushU out (b.getD j 0)) a b) := by
  show zq4i (zq4r me) (zq4t me) k1 (i : Int) (j : Int) out a b = _
  unfold zq4i turnA
  by_cases hjb : j = b.length
  · rw [if_pos hjb]
    refine (c_pos (by omega)).trans ?_
    refine (srt_p2t _ _ (by omega) ha).trans ?_
    exact srt_p1 _ _ _ _ ho
  · rw [if_neg hjb]
    refine (c_neg (by omega)).trans ?_
    by_cases hia : i < a.length
    · rw [if_pos hia]
      refine (c_pos (by omega)).trans ?_
      refine (c_inb (by omega)).trans ?_
      refine (c_inb (by omega)).trans ?_
      simp only [Int.toNat_natCast]
      by_cases hle : a.getD i 0 ≤ b.getD j 0
      · rw [decide_eq_true hle]
        refine (srt_p2t _ _ hia ha).trans ?_
        exact srt_p1 _ _ _ _ ho
      · rw [decide_eq_false hle]
        refine (srt_p2f _ _ (by omega) hb).trans ?_
        exact srt_p1 _ _ _ _ ho
    · rw [if_neg hia]
      refine (c_neg (by omega)).trans ?_
      refine (srt_p2f _ _ (by omega) hb).trans ?_
      exact srt_p1 _ _ _ _ ho

/-- What the merging keeps. -/
structure MI (a b : List Int) (i j : Nat) (out : List Int) : Prop where
  hi : i ≤ a.length
  hj : j ≤ b.length
  asc : Asc out
  mem : ∀ y, y ∈ out ↔ y ∈ a.take i ∨ y ∈ b.take j
  lo1 : ∀ y ∈ out, ∀ z ∈ a.drop i, y ≤ z
  lo2 : ∀ y ∈ out, ∀ z ∈ b.drop j, y ≤ z
  len : out.length ≤ i + j

theorem take_succ_mem {l : List Int} {i : Nat} (h : i < l.length) (y : Int) : y ∈ l.take (i + 1) ↔ y ∈ l.take i ∨ y = l.getD i 0 := by
  rw [List.take_add_one]
  have : l[i]? = some (l.getD i 0) := by simp [List.getD, h]
  rw [this]
  simp

theorem asc_drop {l : List Int} (h : Asc l) {i : Nat} (hi : i < l.length) : ∀ z ∈ l.drop i, l.getD i 0 ≤ z := by
  intro z hz
  have e : l.drop i = l.getD i 0 :: l.drop (i + 1) := by
    rw [List.drop_eq_getElem_cons hi]
    simp [List.getD, hi]
  have hd : Asc (l.drop i) := h.sublist (List.drop_sublist i l)
  rw [e] at hz hd
  rcases List.mem_cons.1 hz with rfl | hz
  · exact Int.le_refl _
  · have := (List.pairwise_cons.1 hd).1 z hz
    omega
theorem mem_drop_succ {l : List Int} {i : Nat} {z : Int} (h : z ∈ l.drop (i + 1)) : z ∈ l.drop i := by
  rw [← List.drop_drop] at h
  exact List.mem_of_mem_drop h
theorem getD_mem_drop {l : List Int} {i : Nat} (h : i < l.length) : l.getD i 0 ∈ l.drop i := by
  rw [List.drop_eq_getElem_cons h]
  have : l.getD i 0 = l[i] := by simp [List.getD, h]
  rw [this]
  exact List.mem_cons_self

theorem MI.stepA {a b : List Int} (ha : Asc a) (hb : Asc b) {i j : Nat} {out : List Int} (h : MI a b i j out) (hi : i < a.length) (hle : ∀ z ∈ b.drop j, a.getD i 0 ≤ z) : MI a b (i + 1) j (pushU out (a.getD i 0)) := by
  have hx : ∀ y ∈ out, y ≤ a.getD i 0 := fun y hy => h.lo1 y hy _ (getD_mem_drop hi)
  refine ⟨hi, h.hj, pushU_asc h.asc hx, fun y => ?_, fun y hy z hz => ?_, fun y hy z hz => ?_, ?_⟩
  · rw [pushU_mem, h.mem, take_succ_mem hi]
    constructor
    · rintro ((q | q) | q)
      · exact .inl (.inl q)
      · exact .inr q
      · exact .inl (.inr q)
    · rintro ((q | q) | q)
      · exact .inl (.inl q)
      · exact .inr q
      · exact .inl (.inr q)
  · rcases pushU_mem.1 hy with q | rfl
    · exact h.lo1 y q z (mem_drop_succ hz)
    · exact asc_drop ha hi z (mem_drop_succ hz)
  · rcases pushU_mem.1 hy with q | rfl
    · exact h.lo2 y q z hz
    · exact hle z hz
  · have := pushU_len out (a.getD i 0)
    have := h.len
    omega
theorem MI.stepB {a b : List Int} (ha : Asc a) (hb : Asc b) {i j : Nat} {out : List Int} (h : MI a b i j out) (hj : j < b.length) (hle : ∀ z ∈ a.drop i, b.getD j 0 ≤ z) : MI a b i (j + 1) (pushU out (b.getD j 0)) := by
  have hx : ∀ y ∈ out, y ≤ b.getD j 0 := fun y hy => h.lo2 y hy _ (getD_mem_drop hj)
  refine ⟨h.hi, hj, pushU_asc h.asc hx, fun y => ?_, fun y hy z hz => ?_, fun y hy z hz => ?_, ?_⟩
  · rw [pushU_mem, h.mem, take_succ_mem hj, or_assoc]
  · rcases pushU_mem.1 hy with q | rfl
    · exact h.lo1 y q z hz
    · exact hle z hz
  · rcases pushU_mem.1 hy with q | rfl
    · exact h.lo2 y q z (mem_drop_succ hz)
    · exact asc_drop hb hj z (mem_drop_succ hz)
  · have := pushU_len out (b.getD j 0)
    have := h.len
    omega
end

/-- The merging. -/
theorem srt_p4 {me : zq3u} {a b : List Int} (ha : Asc a) (hb : Asc b) (hal : a.length ≤ 30000) (hbl : b.length ≤ 30000) :
    ∃ out, (Asc out ∧ (∀ y, y ∈ out ↔ y ∈ a ∨ y ∈ b) ∧ out.length ≤ a.length + b.length) ∧ ∀ {β : Type} (k : List Int → Option β), zq4z me k 0 0 [] a b = k out := by
  have := while_loop (σ := Nat × Nat × List Int) (ρ := List Int) (Kt := fun β => List Int → Option β)
    (fun k N s => zq4x me N k (s.1 : Int) (s.2.1 : Int) s.2.2 a b) (fun k r => k r)
    (fun s => MI a b s.1 s.2.1 s.2.2) (fun s => (a.length - s.1) + (b.length - s.2.1)) (fun out => Asc out ∧ (∀ y, y ∈ out ↔ y ∈ a ∨ y ∈ b) ∧ out.length ≤ a.length + b.length) ?_ fuel (0, 0, []) ?_ ?_
  · exact this
  · rintro ⟨i, j, out⟩ h
    have h : MI a b i j out := h
    have hlen := h.len
    have hi := h.hi
    have hj := h.hj
    by_cases hm : i < a.length ∨ j < b.length
    · left
      have hstep : ∀ {β : Type} (k : List Int → Option β) (m : Nat), zq4x me (m + 1) k (i : Int) (j : Int) out a b =
          zq4v me (fun i2 j2 out2 a2 b2 => zq4x me m k i2 j2 out2 a2 b2) (i : Int) (j : Int) out a b := by
        intro β k m
        rw [zq4y]
        unfold zq4l
        by_cases hia : i < a.length
        · exact c_pos (by omega)
        · refine (c_neg (by omega)).trans ?_
          exact c_pos (by omega)
      by_cases ht : turnA a b i j = true
      · have hia : i < a.length := by
          unfold turnA at ht
          split at ht
          · omega
          · split at ht
            · assumption
            · cases ht
        refine ⟨(i + 1, j, pushU out (a.getD i 0)), h.stepA ha hb hia ?_, ?_, fun k m => ?_⟩
        · intro z hz
          unfold turnA at ht
          split at ht
          · rename_i hjb
            rw [hjb, List.drop_length] at hz
            cases hz
          · try rw [if_pos hia] at ht
            have := of_decide_eq_true ht
            have := asc_drop hb (show j < b.length by omega) z hz
            omega
        · show (a.length - (i + 1)) + (b.length - j) < (a.length - i) + (b.length - j)
          omega
        · refine (hstep k m).trans ?_
          rw [srt_p3 _ (by omega) (by omega) (by omega) hi hj hm, ht]
          rfl
      · have ht : turnA a b i j = false := by simpa using ht
        have hjb : j < b.length := by
          unfold turnA at ht
          split at ht
          · cases ht
          · omega
        refine ⟨(i, j + 1, pushU out (b.getD j 0)), h.stepB ha hb hjb ?_, ?_, fun k m => ?_⟩
        · intro z hz
          unfold turnA at ht
          rw [if_neg (by omega)] at ht
          split at ht
          · rename_i hia
            have := of_decide_eq_false ht
            have := asc_drop ha hia z hz
            omega
          · rename_i hia
            rw [List.drop_eq_nil_of_le (by omega)] at hz
            cases hz
        · show (a.length - i) + (b.length - (j + 1)) < (a.length - i) + (b.length - j)
          omega
        · refine (hstep k m).trans ?_
          rw [srt_p3 _ (by omega) (by omega) (by omega) hi hj hm, ht]
          rfl
    · right
      refine ⟨out, ⟨h.asc, fun y => ?_, by omega⟩, fun k m => ?_⟩
      · rw [h.mem, List.take_of_length_le (by omega), List.take_of_length_le (by omega)]
      · show zq4x me (m + 1) k (i : Int) (j : Int) out a b = k out
        rw [zq4y]
        unfold zq4l
        refine (c_neg (by omega)).trans ?_
        exact c_neg (by omega)
  · exact ⟨Nat.zero_le _, Nat.zero_le _, List.Pairwise.nil, by simp, by simp, by simp, by simp⟩
  · exact lt_fuel (by show (a.length - 0) + (b.length - 0) < _; omega)

theorem srt_n : ∀ (N : Nat) (l : List Int), l.length < N → l.length ≤ 20000 →
    ∃ out, (Asc out ∧ (∀ y, y ∈ out ↔ y ∈ l) ∧ out.length ≤ l.length) ∧ ∀ {β : Type} (k : List Int → Option β), zq51 N l k = k out
  | 0, l, h, _ => absurd h (Nat.not_lt_zero _)
  | N + 1, l, h, hl => by
    by_cases h2 : l.length < 2
    · refine ⟨l, ⟨?_, fun _ => Iff.rfl, Nat.le_refl _⟩, fun k => ?_⟩
      · match l, h2 with
        | [], _ => exact List.Pairwise.nil
        | [x], _ => exact List.pairwise_singleton _ _
      · rw [zq53]
        unfold zq4o
        refine (c_pos (by omega)).trans ?_
        exact c_room (by omega)
    · have e2 : IntKind.i64.wrap (Int.tdiv (l.length : Int) 2) = ((l.length / 2 : Nat) : Int) := by
        have : Int.tdiv (l.length : Int) 2 = ((l.length / 2 : Nat) : Int) := rfl
        rw [this, wr (by omega) (by omega)]
      obtain ⟨o1, ⟨a1, m1, n1⟩, f1⟩ := srt_n N (l.take (l.length / 2)) (by simp; omega) (by simp; omega)
      obtain ⟨o2, ⟨a2, m2, n2⟩, f2⟩ := srt_n N (l.drop (l.length / 2)) (by simp; omega) (by simp; omega)
      simp only [List.length_take] at n1
      simp only [List.length_drop] at n2
      obtain ⟨o3, ⟨a3, m3, n3⟩, f3⟩ := srt_p4 (me := zq51 N) a1 a2 (by omega) (by omega)
      refine ⟨o3, ⟨a3, fun y => ?_, by omega⟩, fun k => ?_⟩
      · rw [m3, m1, m2, ← List.mem_append, List.take_append_drop]
      · rw [zq53]
        unfold zq4o
        simp only [e2, Int.toNat_natCast, Int.toNat_zero, List.drop_zero, List.take_length]
        refine (c_neg (by omega)).trans ?_
        refine (c_nneg (by omega)).trans ?_
        rw [show (decide (0 ≤ (0 : Int)) && (decide ((0 : Int) ≤ ((l.length / 2 : Nat) : Int)) && decide (((l.length / 2 : Nat) : Int) ≤ (l.length : Int)))) = true by
          rw [decide_eq_true (by omega : (0 : Int) ≤ 0), decide_eq_true (by omega : (0 : Int) ≤ ((l.length / 2 : Nat) : Int)), decide_eq_true (by omega : ((l.length / 2 : Nat) : Int) ≤ (l.length : Int))]; rfl]
        refine c_t.trans ?_
        refine (f1 _).trans ?_
        refine (c_nneg (by omega)).trans ?_
        rw [show (decide (0 ≤ ((l.length / 2 : Nat) : Int)) && (decide (((l.length / 2 : Nat) : Int) ≤ (l.length : Int)) && decide ((l.length : Int) ≤ (l.length : Int)))) = true by
          rw [decide_eq_true (by omega : (0 : Int) ≤ ((l.length / 2 : Nat) : Int)), decide_eq_true (by omega : ((l.length / 2 : Nat) : Int) ≤ (l.length : Int)), decide_eq_true (by omega : (l.length : Int) ≤ (l.length : Int))]; rfl]
        refine c_t.trans ?_
        refine (f2 _).trans ?_
        exact f3 k

theorem srt {l : List Int} (hl : l.length ≤ 20000) : ∃ out, (Asc out ∧ (∀ y, y ∈ out ↔ y ∈ l) ∧ out.length ≤ l.length) ∧ ∀ {β : Type} (k : List Int → Option β), zq54 l k = k out :=
  srt_n fuel l (lt_fuel (by omega)) hl
end
end Go.Lift

/- The reference's normal form of any spans: by the borders and how many spans lie over each number. -/
namespace Go.Lift
open Go.RowKit Go.IntWalk
noncomputable section
set_option linter.unusedVariables false
set_option linter.unusedSimpArgs false

theorem mGet_mPut' (l : List (Int × Int)) (a b v z : Int) : mGet (.int .i64) (mPut (.int .i64) l a v) b z = if a = b then v else mGet (.int .i64) l b z := by
  induction l with
  | nil =>
    simp only [mPut, mGet, keyEq]
    by_cases h : a = b
    · simp [h]
    · simp [h]
  | cons y r ih =>
    simp only [mPut, keyEq]
    by_cases h1 : y.1 = a
    · simp only [h1, decide_true, cond_true, mGet, keyEq]
      by_cases h : a = b
      · simp [h]
      · simp [h]
    · simp only [h1, decide_false, cond_false, mGet, keyEq]
      by_cases h : y.1 = b
      · have : ¬ a = b := fun e => h1 (h.trans e.symm)
        simp [h, this]
      · simp only [h, decide_false, cond_false]
        exact ih

def isNe (s : Sp) : Bool := decide (s.1 < s.2)
/-- How many begin, or end, at a number; up to it. -/
def cntF (l : List Sp) (x : Int) : Int := (l.countP fun s => isNe s && decide (s.1 = x) : Nat)
def cntT (l : List Sp) (x : Int) : Int := (l.countP fun s => isNe s && decide (s.2 = x) : Nat)
def cumF (l : List Sp) (x : Int) : Int := (l.countP fun s => isNe s && decide (s.1 ≤ x) : Nat)
def cumT (l : List Sp) (x : Int) : Int := (l.countP fun s => isNe s && decide (s.2 ≤ x) : Nat)
def depthS (l : List Sp) (x : Int) : Int := cumF l x - cumT l x
def ptsS (l : List Sp) : List Int := l.flatMap fun s => if s.1 < s.2 then [s.1, s.2] else []

theorem countP_step (p : Sp → Bool) (s : Sp) (l : List Sp) : (((s :: l).countP p : Nat) : Int) = (l.countP p : Nat) + (if p s = true then 1 else 0) := by
  rw [List.countP_cons]
  split <;> simp

theorem depth_cons (s : Sp) (l : List Sp) (x : Int) : depthS (s :: l) x = depthS l x + (if s.1 ≤ x ∧ x < s.2 then 1 else 0) := by
  unfold depthS cumF cumT
  rw [countP_step, countP_step]
  by_cases h1 : s.1 < s.2
  · simp only [isNe, h1, decide_true, Bool.true_and, decide_eq_true_eq]
    by_cases h2 : s.1 ≤ x <;> by_cases h3 : s.2 ≤ x
    · rw [if_pos h2, if_pos h3, if_neg (by omega)]; omega
    · rw [if_pos h2, if_neg h3, if_pos (by omega)]; omega
    · omega
    · rw [if_neg h2, if_neg h3, if_neg (by omega)]; omega
  · have : ¬ (s.1 ≤ x ∧ x < s.2) := by omega
    simp [isNe, h1, this]

theorem depth_pos (l : List Sp) (x : Int) : 0 ≤ depthS l x ∧ (0 < depthS l x ↔ hasS l x) := by
  induction l with
  | nil =>
    refine ⟨by simp [depthS, cumF, cumT], fun h => ?_, fun h => absurd h hasS_nil⟩
    simp [depthS, cumF, cumT] at h
  | cons s l ih =>
    rw [depth_cons, hasS_cons]
    obtain ⟨i1, i2⟩ := ih
    by_cases h : s.1 ≤ x ∧ x < s.2
    · rw [if_pos h]
      exact ⟨by omega, fun _ => .inl h, fun _ => by omega⟩
    · rw [if_neg h]
      refine ⟨by omega, fun q => .inr (i2.1 (by omega)), ?_⟩
      rintro (q | q)
      · exact absurd q h
      · have := i2.2 q; omega

/-- Nothing begins or ends between a and p. -/
theorem depth_step (l : List Sp) {a p : Int} (hap : a < p) (hn : ∀ y ∈ ptsS l, ¬ (a < y ∧ y < p)) : depthS l p = depthS l a + (cntF l p - cntT l p) ∧ ∀ x, a ≤ x → x < p → depthS l x = depthS l a := by
  induction l with
  | nil => simp [depthS, cumF, cumT, cntF, cntT]
  | cons s l ih =>
    have hn' : ∀ y ∈ ptsS l, ¬ (a < y ∧ y < p) := fun y hy => hn y (by simp only [ptsS, List.flatMap_cons, List.mem_append]; exact .inr hy)
    obtain ⟨i1, i2⟩ := ih hn'
    by_cases hs : s.1 < s.2
    · have h1 := hn s.1 (by simp [ptsS, hs])
      have h2 := hn s.2 (by simp [ptsS, hs])
      have ef : cntF (s :: l) p = cntF l p + (if s.1 = p then 1 else 0) := by
        unfold cntF; rw [countP_step]; simp [isNe, hs]
      have et : cntT (s :: l) p = cntT l p + (if s.2 = p then 1 else 0) := by
        unfold cntT; rw [countP_step]; simp [isNe, hs]
      refine ⟨?_, fun x h3 h4 => ?_⟩
      · rw [depth_cons, depth_cons, ef, et, i1]
        by_cases q1 : s.1 ≤ a <;> by_cases q2 : s.2 ≤ a <;> by_cases q3 : s.1 = p <;> by_cases q4 : s.2 = p <;> simp only [q3, q4, if_true, if_false] <;> (split <;> split <;> omega)
      · rw [depth_cons, depth_cons, i2 x h3 h4]
        congr 1
        have : (s.1 ≤ x ∧ x < s.2) ↔ (s.1 ≤ a ∧ a < s.2) := by omega
        simp only [this]
    · have ef : cntF (s :: l) p = cntF l p := by
        unfold cntF; rw [countP_step]; simp [isNe, hs]
      have et : cntT (s :: l) p = cntT l p := by
        unfold cntT; rw [countP_step]; simp [isNe, hs]
      have hz : ∀ x, depthS (s :: l) x = depthS l x := fun x => by rw [depth_cons, if_neg (by omega)]; omega
      refine ⟨by rw [hz, hz, ef, et, i1], fun x h3 h4 => by rw [hz, hz, i2 x h3 h4]⟩

theorem mem_pts {l : List Sp} {y : Int} : y ∈ ptsS l ↔ ∃ s ∈ l, s.1 < s.2 ∧ (y = s.1 ∨ y = s.2) := by
  simp only [ptsS, List.mem_flatMap]
  constructor
  · rintro ⟨s, hs, h⟩
    split at h
    · rename_i hlt
      simp only [List.mem_cons, List.not_mem_nil, or_false] at h
      exact ⟨s, hs, hlt, h⟩
    · cases h
  · rintro ⟨s, hs, hlt, h⟩
    exact ⟨s, hs, by rw [if_pos hlt]; simpa using h⟩

theorem cnt_bounds (p : Sp → Bool) (l : List Sp) : (0 : Int) ≤ (l.countP p : Nat) ∧ ((l.countP p : Nat) : Int) ≤ l.length := by
  have := List.countP_le_length (p := p) (l := l)
  omega

/-! ### Collecting the borders -/
def rangeS (s : Sp) : Prop := s.1 < s.2 → 0 ≤ s.1 ∧ s.2 ≤ 8589934592

theorem ref_coll (l : List Sp) (hl : l.length ≤ 4096) : ∀ (r : List Sp) (j N : Nat) (at_ : List Int) (op sh : List (Int × Int)), l.drop j = r → r.length < N → (∀ s ∈ r, rangeS s) → at_.length + 2 * r.length ≤ 10000 →
    (∀ x, 0 ≤ mGet (.int .i64) op x 0 ∧ mGet (.int .i64) op x 0 + r.length ≤ 10000) → (∀ x, 0 ≤ mGet (.int .i64) sh x 0 ∧ mGet (.int .i64) sh x 0 + r.length ≤ 10000) →
    ∃ at' op' sh', (at' = at_ ++ ptsS r ∧ (∀ x, mGet (.int .i64) op' x 0 = mGet (.int .i64) op x 0 + cntF r x) ∧ (∀ x, mGet (.int .i64) sh' x 0 = mGet (.int .i64) sh x 0 + cntT r x)) ∧
      ∀ {β : Type} (k1 : zq6l β) (k2 : zq6m β), zq7o N k1 k2 l (j : Int) at_ op sh = k2 at' op' sh'
  | [], j, 0, _, _, _, _, h, _, _, _, _ => absurd h (Nat.not_lt_zero _)
  | _ :: _, j, 0, _, _, _, _, h, _, _, _, _ => absurd h (Nat.not_lt_zero _)
  | [], j, N + 1, at_, op, sh, hd, h, hr, ha, ho, hs => by
    refine ⟨at_, op, sh, ⟨by simp [ptsS], fun x => by simp [cntF], fun x => by simp [cntT]⟩, fun k1 k2 => ?_⟩
    have : l.length ≤ j := by simpa using hd
    rw [zq7p]
    unfold zq76
    exact c_neg (by omega)
  | s :: r, j, N + 1, at_, op, sh, hd, h, hr, ha, ho, hs => by
    obtain ⟨hj, hg, hd'⟩ := drop_cons hd ((0 : Int), (0 : Int))
    simp only [List.length_cons] at h ha ho hs
    have hrs := hr s (by simp)
    have hr' : ∀ t ∈ r, rangeS t := fun t ht => hr t (by simp [ht])
    have ew : IntKind.i64.wrap ((j : Int) + 1) = ((j + 1 : Nat) : Int) := by rw [wr (by omega) (by omega)]; omega
    by_cases hne : s.1 < s.2
    · obtain ⟨b1, b2⟩ := hrs hne
      have ho1 := ho s.1
      have hs1 := hs s.2
      obtain ⟨at', op', sh', ⟨e1, e2, e3⟩, hf⟩ := ref_coll l hl r (j + 1) N (at_ ++ [s.1, s.2]) (mPut (.int .i64) op s.1 (mGet (.int .i64) op s.1 0 + 1)) (mPut (.int .i64) sh s.2 (mGet (.int .i64) sh s.2 0 + 1)) hd' (by omega) hr' (by simp; omega)
        (fun x => by rw [mGet_mPut']; have := ho x; split <;> omega) (fun x => by rw [mGet_mPut']; have := hs x; split <;> omega)
      refine ⟨at', op', sh', ⟨?_, fun x => ?_, fun x => ?_⟩, fun k1 k2 => ?_⟩
      · rw [e1]; simp [ptsS, hne]
      · rw [e2, mGet_mPut']
        have ef : cntF (s :: r) x = cntF r x + (if s.1 = x then 1 else 0) := by
          unfold cntF; rw [countP_step]; simp [isNe, hne]
        rw [ef]
        split
        · rename_i hx; rw [hx]; omega
        · omega
      · rw [e3, mGet_mPut']
        have ef : cntT (s :: r) x = cntT r x + (if s.2 = x then 1 else 0) := by
          unfold cntT; rw [countP_step]; simp [isNe, hne]
        rw [ef]
        split
        · rename_i hx; rw [hx]; omega
        · omega
      · rw [zq7p]
        unfold zq76
        simp only [Int.toNat_natCast, hg]
        refine (c_pos (by omega)).trans ?_
        refine (c_inb (by omega)).trans ?_
        refine (c_neg (by omega)).trans ?_
        refine (c_neg (by omega)).trans ?_
        refine (c_neg (by omega)).trans ?_
        refine (c_room (by simp; omega)).trans ?_
        rw [wr (x := mGet (.int .i64) op s.1 0 + 1) (by omega) (by omega), wr (x := mGet (.int .i64) sh s.2 0 + 1) (by omega) (by omega), ew]
        exact hf k1 k2
    · obtain ⟨at', op', sh', ⟨e1, e2, e3⟩, hf⟩ := ref_coll l hl r (j + 1) N at_ op sh hd' (by omega) hr' (by omega) (fun x => by have := ho x; omega) (fun x => by have := hs x; omega)
      refine ⟨at', op', sh', ⟨?_, fun x => ?_, fun x => ?_⟩, fun k1 k2 => ?_⟩
      · rw [e1]; simp [ptsS, hne]
      · rw [e2]
        have ef : cntF (s :: r) x = cntF r x := by
          unfold cntF; rw [countP_step]; simp [isNe, hne]
        rw [ef]
      · rw [e3]
        have ef : cntT (s :: r) x = cntT r x := by
          unfold cntT; rw [countP_step]; simp [isNe, hne]
        rw [ef]
      · rw [zq7p]
        unfold zq76
        simp only [Int.toNat_natCast, hg]
        refine (c_pos (by omega)).trans ?_
        refine (c_inb (by omega)).trans ?_
        refine (c_pos (by omega)).trans ?_
        rw [ew]
        exact hf k1 k2

/-! ### The sweep -/
/-- What is known behind the border a. -/
def SweepI (S : List Sp) (a depth : Int) (out : List Sp) : Prop :=
  depth = depthS S a ∧
  (depth = 0 → NFa (-1) out ∧ (∀ x, x ≤ a → (hasS out x ↔ hasS S x)) ∧ ∀ s ∈ out, s.2 ≤ a) ∧
  (0 < depth → ∃ dn st, out = dn ++ [(st, 0)] ∧ 0 ≤ st ∧ st ≤ a ∧ NFa (-1) dn ∧ (∀ s ∈ dn, s.2 < st) ∧ (∀ x, x < st → (hasS dn x ↔ hasS S x)) ∧ ∀ x, st ≤ x → x ≤ a → hasS S x)

/-- What one border makes of the list. -/
def sweepO (before depth p : Int) (out : List Sp) : List Sp :=
  if before = 0 then (if 0 < depth then out ++ [(p, 0)] else out) else (if depth = 0 then out.dropLast ++ [((out.getLastD (0, 0)).1, p)] else out)

theorem hasS_ends {l : List Sp} {a x : Int} (h : ∀ s ∈ l, s.2 ≤ a) (hx : a ≤ x) : ¬ hasS l x := by
  rintro ⟨s, hs, _, h2⟩
  have := h s hs
  omega

theorem sweep_step {S : List Sp} {a p depth : Int} {out : List Sp} (h : SweepI S a depth out) (hap : a < p) (h0 : 0 ≤ p) (hn : ∀ y ∈ ptsS S, ¬ (a < y ∧ y < p)) :
    SweepI S p (depth + (cntF S p - cntT S p)) (sweepO depth (depth + (cntF S p - cntT S p)) p out) ∧ (0 < depth → out ≠ []) := by
  obtain ⟨d1, d2⟩ := depth_step S hap hn
  obtain ⟨i1, i2, i3⟩ := h
  have hdp : depth + (cntF S p - cntT S p) = depthS S p := by rw [i1, d1]
  rw [hdp]
  have hbet : ∀ x, a ≤ x → x < p → (hasS S x ↔ hasS S a) := fun x h1 h2 => by
    rw [← (depth_pos S x).2, ← (depth_pos S a).2, d2 x h1 h2]
  have hda := depth_pos S a
  have hdp' := depth_pos S p
  rw [← i1] at hda
  refine ⟨⟨rfl, ?_, ?_⟩, ?_⟩
  · intro hz
    unfold sweepO
    by_cases hb : depth = 0
    · rw [if_pos hb, if_neg (by omega)]
      obtain ⟨j1, j2, j3⟩ := i2 hb
      refine ⟨j1, fun x hx => ?_, fun s hs => by have := j3 s hs; omega⟩
      by_cases hxa : x ≤ a
      · exact j2 x hxa
      · have : ¬ hasS S x := by
          by_cases hxp : x < p
          · rw [hbet x (by omega) hxp, ← hda.2]; omega
          · have : x = p := by omega
            rw [this, ← hdp'.2]; omega
        exact ⟨fun q => absurd q (hasS_ends j3 (by omega)), fun q => absurd q this⟩
    · rw [if_neg hb, if_pos hz]
      obtain ⟨dn, st, rfl, s0, s1, j1, j2, j3, j4⟩ := i3 (by omega)
      have e1 : (dn ++ [(st, (0 : Int))]).dropLast = dn := by simp
      have e2 : ((dn ++ [(st, (0 : Int))]).getLastD (0, 0)).1 = st := by simp
      rw [e1, e2]
      have hm : NFa (-1) (dn ++ [(st, p)]) := by
        refine NFa.append (b := st - 1) j1 (fun x hx => ?_) ⟨by simp only; omega, by simp only; omega, trivial⟩ (by omega)
        obtain ⟨s, hs, _, h2⟩ := hx
        have := j2 s hs
        omega
      refine ⟨hm, fun x hx => ?_, fun s hs => ?_⟩
      · rw [hasS_append]
        have hone : hasS [(st, p)] x ↔ st ≤ x ∧ x < p := by
          rw [hasS_cons]
          exact ⟨fun q => q.resolve_right hasS_nil, .inl⟩
        rw [hone]
        by_cases hxs : x < st
        · rw [j3 x hxs]
          exact ⟨fun q => q.resolve_right (by omega), .inl⟩
        · have hno : ¬ hasS dn x := fun ⟨s, hs, _, h2⟩ => by have := j2 s hs; omega
          by_cases hxp : x < p
          · have : hasS S x := by
              by_cases hxa : x ≤ a
              · exact j4 x (by omega) hxa
              · rw [hbet x (by omega) hxp]
                exact j4 a (by omega) (Int.le_refl _)
            exact ⟨fun _ => this, fun _ => .inr ⟨by omega, hxp⟩⟩
          · have hxe : x = p := by omega
            have : ¬ hasS S x := by rw [hxe, ← hdp'.2]; omega
            refine ⟨?_, fun q => absurd q this⟩
            rintro (q | q)
            · exact absurd q hno
            · omega
      · rcases List.mem_append.1 hs with q | q
        · have := j2 s q; omega
        · simp only [List.mem_singleton] at q; rw [q]; exact Int.le_refl _
  · intro hpos
    unfold sweepO
    by_cases hb : depth = 0
    · rw [if_pos hb, if_pos hpos]
      obtain ⟨j1, j2, j3⟩ := i2 hb
      refine ⟨out, p, rfl, h0, Int.le_refl _, j1, fun s hs => by have := j3 s hs; omega, fun x hx => ?_, fun x h1 h2 => ?_⟩
      · by_cases hxa : x ≤ a
        · exact j2 x hxa
        · have : ¬ hasS S x := by rw [hbet x (by omega) hx, ← hda.2]; omega
          exact ⟨fun q => absurd q (hasS_ends j3 (by omega)), fun q => absurd q this⟩
      · have : x = p := by omega
        rw [this]
        exact hdp'.2.1 hpos
    · rw [if_neg hb, if_neg (by omega)]
      obtain ⟨dn, st, rfl, s0, s1, j1, j2, j3, j4⟩ := i3 (by omega)
      refine ⟨dn, st, rfl, s0, by omega, j1, j2, j3, fun x h1 h2 => ?_⟩
      by_cases hxa : x ≤ a
      · exact j4 x h1 hxa
      · by_cases hxp : x < p
        · rw [hbet x (by omega) hxp]
          exact j4 a (by omega) (Int.le_refl _)
        · have : x = p := by omega
          rw [this]
          exact hdp'.2.1 hpos
  · intro hpos
    obtain ⟨dn, st, rfl, _⟩ := i3 hpos
    simp

theorem sweepO_len (b d p : Int) (out : List Sp) : (sweepO b d p out).length ≤ out.length + 1 := by
  unfold sweepO
  split <;> split <;> simp <;> omega

theorem ref_sweep {S : List Sp} {at_ : List Int} {op sh : List (Int × Int)} (hS : S.length ≤ 4096) (hat : at_.length ≤ 10000) (hasc : Asc at_) (hp0 : ∀ y ∈ at_, 0 ≤ y) (hpts : ∀ y, y ∈ at_ ↔ y ∈ ptsS S)
    (ho : ∀ x, mGet (.int .i64) op x 0 = cntF S x) (hs : ∀ x, mGet (.int .i64) sh x 0 = cntT S x) : ∀ (r : List Int) (j N : Nat) (a depth : Int) (out : List Sp), at_.drop j = r → r.length < N → SweepI S a depth out → -1 ≤ a → (∀ y ∈ at_, y ≤ a ∨ y ∈ r) → (∀ y ∈ r, a < y) → out.length ≤ j →
    ∃ out', (NFa (-1) out' ∧ (∀ x, hasS out' x ↔ hasS S x)) ∧ ∀ {β : Type} (k1 : zq72 β), zq7y N k1 depth (j : Int) at_ op sh out = k1 out'
  | [], j, 0, _, _, _, _, h, _, _, _, _, _ => absurd h (Nat.not_lt_zero _)
  | _ :: _, j, 0, _, _, _, _, h, _, _, _, _, _ => absurd h (Nat.not_lt_zero _)
  | [], j, N + 1, a, depth, out, hd, h, hI, ha, hin, hgt, hol => by
    have hle : ∀ y ∈ ptsS S, y ≤ a := fun y hy => (hin y ((hpts y).2 hy)).resolve_right (by simp)
    have hno : ∀ x, a ≤ x → ¬ hasS S x := by
      rintro x hx ⟨s, hs1, h1, h2⟩
      have := hle s.2 (mem_pts.2 ⟨s, hs1, by omega, .inr rfl⟩)
      omega
    obtain ⟨i1, i2, i3⟩ := hI
    have hz : depth = 0 := by
      have h1 := depth_pos S a
      have h2 : ¬ 0 < depthS S a := fun q => hno a (Int.le_refl _) (h1.2.1 q)
      omega
    obtain ⟨j1, j2, j3⟩ := i2 hz
    refine ⟨out, ⟨j1, fun x => ?_⟩, fun k1 => ?_⟩
    · by_cases hx : x ≤ a
      · exact j2 x hx
      · exact ⟨fun q => absurd q (hasS_ends j3 (by omega)), fun q => absurd q (hno x (by omega))⟩
    · have : at_.length ≤ j := by simpa using hd
      rw [zq7z]
      unfold zq7i
      exact c_neg (by omega)
  | p :: r, j, N + 1, a, depth, out, hd, h, hI, ha, hin, hgt, hol => by
    obtain ⟨hj, hg, hd'⟩ := drop_cons hd (0 : Int)
    simp only [List.length_cons] at h
    have hmem : p ∈ at_ := List.mem_of_mem_drop (by rw [hd]; simp)
    have hpr : ∀ y ∈ r, p < y := by
      have := hasc.sublist (List.drop_sublist j at_)
      rw [hd] at this
      exact (List.pairwise_cons.1 this).1
    have hap : a < p := hgt p (by simp)
    have hbt : ∀ y ∈ ptsS S, ¬ (a < y ∧ y < p) := by
      rintro y hy ⟨h1, h2⟩
      rcases hin y ((hpts y).2 hy) with q | q
      · omega
      · rcases List.mem_cons.1 q with rfl | q
        · omega
        · have := hpr y q; omega
    obtain ⟨hI', hne⟩ := sweep_step hI hap (hp0 p hmem) hbt
    have c1 := cnt_bounds (fun s => isNe s && decide (s.1 = p)) S
    have c2 := cnt_bounds (fun s => isNe s && decide (s.2 = p)) S
    have c1 : 0 ≤ cntF S p ∧ cntF S p ≤ S.length := c1
    have c2 : 0 ≤ cntT S p ∧ cntT S p ≤ S.length := c2
    have hdep : 0 ≤ depth ∧ depth ≤ S.length := by
      rw [hI.1]
      have := depth_pos S a
      have c3 := cnt_bounds (fun s => isNe s && decide (s.1 ≤ a)) S
      have c4 := cnt_bounds (fun s => isNe s && decide (s.2 ≤ a)) S
      have e : depthS S a = ((S.countP fun s => isNe s && decide (s.1 ≤ a) : Nat) : Int) - (S.countP fun s => isNe s && decide (s.2 ≤ a) : Nat) := rfl
      omega
    have hdep' : 0 ≤ depth + (cntF S p - cntT S p) := by rw [hI'.1]; exact (depth_pos S p).1
    obtain ⟨out', hq, hf⟩ := ref_sweep hS hat hasc hp0 hpts ho hs r (j + 1) N p _ _ hd' (by omega) hI' (by omega) (fun y hy => by
      rcases hin y hy with q | q
      · exact .inl (by omega)
      · rcases List.mem_cons.1 q with rfl | q
        · exact .inl (Int.le_refl _)
        · exact .inr q) hpr (by have := sweepO_len depth (depth + (cntF S p - cntT S p)) p out; omega)
    refine ⟨out', hq, fun k1 => ?_⟩
    rw [zq7z]
    unfold zq7i
    simp only [Int.toNat_natCast, hg]
    refine (c_pos (by omega)).trans ?_
    refine (c_inb (by omega)).trans ?_
    refine (c_inb (by omega)).trans ?_
    rw [ho p, hs p, wr (x := cntF S p - cntT S p) (by omega) (by omega), wr (x := depth + (cntF S p - cntT S p)) (by omega) (by omega)]
    have ew : IntKind.i64.wrap ((j : Int) + 1) = ((j + 1 : Nat) : Int) := by rw [wr (by omega) (by omega)]; omega
    have hfin : ∀ out2, out2 = sweepO depth (depth + (cntF S p - cntT S p)) p out → zq7y N k1 (depth + (cntF S p - cntT S p)) (IntKind.i64.wrap ((j : Int) + 1)) at_ op sh out2 = k1 out' := by
      intro out2 e
      rw [ew, e]
      exact hf k1
    have p4f : ∀ {β : Type} (k1 : zq6y β) (d b : Int), zq7w k1 d (j : Int) b false at_ op sh out = k1 d (j : Int) b at_ op sh out := fun _ _ _ => rfl
    have p4t : ∀ {β : Type} (k1 : zq6y β) (d b : Int), zq7w k1 d (j : Int) b true at_ op sh out = k1 d (j : Int) b at_ op sh (out ++ [(p, 0)]) := by
      intro β k1 d b
      show zq7f k1 d (j : Int) b true at_ op sh out = _
      unfold zq7f
      refine c_t.trans ?_
      refine (c_inb (by omega)).trans ?_
      simp only [Int.toNat_natCast, hg]
      exact c_room (by simp; omega)
    have p2f : ∀ {β : Type} (k1 : zq6q β) (d : Int) (o : List Sp), zq7s k1 d (j : Int) false at_ op sh o = k1 d (j : Int) at_ op sh o := fun _ _ _ => rfl
    have p2t : ∀ {β : Type} (k1 : zq6q β) (d : Int), out ≠ [] → zq7s k1 d (j : Int) true at_ op sh out = k1 d (j : Int) at_ op sh (out.dropLast ++ [((out.getLastD (0, 0)).1, p)]) := by
      intro β k1 d hno
      show zq79 k1 d (j : Int) true at_ op sh out = _
      unfold zq79
      refine c_t.trans ?_
      refine (c_inb (by omega)).trans ?_
      simp only [Int.toNat_natCast, hg]
      rcases List.eq_nil_or_concat out with e | ⟨L, y, e⟩
      · exact absurd e hno
      · rw [List.concat_eq_append] at e
        have hlen : out.length = L.length + 1 := by rw [e]; simp
        have e1 : IntKind.i64.wrap ((out.length : Int) - 1) = (L.length : Int) := by
          rw [wr (by omega) (by omega)]; omega
        rw [e1]
        refine (c_inb (by omega)).trans ?_
        simp only [Int.toNat_natCast]
        rw [e]
        simp [List.getD]
    have p3z : ∀ {β : Type} (k1 : zq6u β) (d : Int) (o : List Sp), zq7u k1 d (j : Int) 0 at_ op sh o = k1 d (j : Int) at_ op sh o := by
      intro β k1 d o
      show zq7c zq7s k1 d (j : Int) 0 at_ op sh o = _
      unfold zq7c
      exact c_neg (by omega)
    by_cases hb : depth = 0
    · refine (c_pos hb).trans ?_
      by_cases hd2 : 0 < depth + (cntF S p - cntT S p)
      · rw [decide_eq_true hd2]
        refine (p4t _ _ _).trans ?_
        rw [hb] at hd2 ⊢
        refine (p3z _ _ _).trans ?_
        rw [hb] at hfin
        exact hfin _ (by unfold sweepO; rw [if_pos rfl, if_pos hd2])
      · rw [decide_eq_false hd2]
        refine (p4f _ _ _).trans ?_
        rw [hb] at hd2 ⊢
        refine (p3z _ _ _).trans ?_
        rw [hb] at hfin
        exact hfin _ (by unfold sweepO; rw [if_pos rfl, if_neg hd2])
    · refine (c_neg hb).trans ?_
      refine (p4f _ _ _).trans ?_
      show zq7c zq7s _ _ (j : Int) depth at_ op sh out = _
      unfold zq7c
      refine (c_pos (by omega)).trans ?_
      by_cases hd2 : depth + (cntF S p - cntT S p) = 0
      · rw [decide_eq_true hd2]
        refine (p2t _ _ (hne (by omega))).trans ?_
        exact hfin _ (by unfold sweepO; rw [if_neg hb, if_pos hd2])
      · rw [decide_eq_false hd2]
        refine (p2f _ _ _).trans ?_
        exact hfin _ (by unfold sweepO; rw [if_neg hb, if_neg hd2])

/-- The reference's normal form. -/
theorem ref_normal {l : List Sp} (hl : l.length ≤ 4096) (hr : ∀ s ∈ l, rangeS s) :
    ∃ out, (NFa (-1) out ∧ (∀ x, hasS out x ↔ hasS l x)) ∧ ∀ {β : Type} (k : Int → List Sp → Option β), zq82 l k = k 0 out := by
  have hz : ∀ x : Int, mGet (.int .i64) ([] : List (Int × Int)) x 0 = 0 := fun _ => rfl
  obtain ⟨at_, op, sh, ⟨e1, e2, e3⟩, hf⟩ := ref_coll l hl l 0 fuel [] [] [] rfl (lt_fuel (by omega)) hr (by simp; omega) (fun x => by rw [hz]; omega) (fun x => by rw [hz]; omega)
  simp only [List.nil_append] at e1
  have hlen : ∀ m : List Sp, (ptsS m).length ≤ 2 * m.length := by
    intro m
    induction m with
    | nil => simp [ptsS]
    | cons s m ih =>
      have : ptsS (s :: m) = (if s.1 < s.2 then [s.1, s.2] else []) ++ ptsS m := rfl
      rw [this, List.length_append, List.length_cons]
      split <;> simp <;> omega
  have hat : at_.length ≤ 8192 := by rw [e1]; have := hlen l; omega
  obtain ⟨p, ⟨p1, p2, p3⟩, hs⟩ := srt (l := at_) (by omega)
  have hp2 : ∀ y, y ∈ p ↔ y ∈ ptsS l := fun y => by rw [p2, e1]
  have h0 : ∀ y ∈ ptsS l, 0 ≤ y := by
    intro y hy
    obtain ⟨s, hs, hlt, h⟩ := mem_pts.1 hy
    have := hr s hs hlt
    omega
  have hdz : depthS l (-1) = 0 := by
    have h1 := depth_pos l (-1)
    have h2 : ¬ hasS l (-1) := by
      rintro ⟨s, hs, h3, h4⟩
      have := hr s hs (by omega)
      omega
    have h3 : ¬ 0 < depthS l (-1) := fun q => h2 (h1.2.1 q)
    omega
  have hst : SweepI l (-1) 0 [] := by
    refine ⟨hdz.symm, fun _ => ⟨trivial, fun x hx => ⟨fun q => absurd q hasS_nil, ?_⟩, by simp⟩, fun h => absurd h (by omega)⟩
    rintro ⟨s, hs, h3, h4⟩
    have := hr s hs (by omega)
    omega
  obtain ⟨out, hq, hg⟩ := ref_sweep (S := l) (at_ := p) (op := op) (sh := sh) hl (by omega) p1 (fun y hy => h0 y ((hp2 y).1 hy)) hp2 (fun x => by rw [e2, hz]; omega) (fun x => by rw [e3, hz]; omega) p 0 fuel (-1) 0 [] rfl (lt_fuel (by omega))
    hst (Int.le_refl _) (fun y hy => .inr hy) (fun y hy => by have := h0 y ((hp2 y).1 hy); omega) (by simp)
  refine ⟨out, hq, fun k => ?_⟩
  show zq7l zq54 zq7q zq80 l k = _
  unfold zq7l
  refine (c_neg (by omega)).trans ?_
  refine (hf _ _).trans ?_
  refine (hs _).trans ?_
  exact hg _
end
end Go.Lift

/- The functions of package span in plain Lean. -/
namespace Go.Lift
open Go.RowKit Go.IntWalk
noncomputable section
set_option linter.unusedVariables false
set_option linter.unusedSimpArgs false
set_option maxRecDepth 10000

/-! ### Valid -/
def vB : Int → List Sp → Bool
  | _, [] => true
  | p, s :: l => decide (p < s.1) && (decide (s.1 < s.2) && (decide (s.2 ≤ 8589934592) && vB s.2 l))
theorem vB_iff : ∀ {l : List Sp} {p : Int}, vB p l = true ↔ NFa p l ∧ ∀ s ∈ l, s.2 ≤ 8589934592
  | [], p => by simp [vB, NFa]
  | s :: l, p => by
    simp only [vB, Bool.and_eq_true, decide_eq_true_eq, NFa, List.mem_cons, forall_eq_or_imp, vB_iff (l := l) (p := s.2)]
    constructor
    · rintro ⟨h1, h2, h3, h4, h5⟩
      exact ⟨⟨h1, h2, h4⟩, h3, h5⟩
    · rintro ⟨⟨h1, h2, h4⟩, h3, h5⟩
      exact ⟨h1, h2, h3, h4, h5⟩
def validB (l : List Sp) : Bool := decide (l.length ≤ 4096) && vB (-1) l
structure VS (l : List Sp) : Prop where
  len : l.length ≤ 4096
  nf : NFa (-1) l
  le : ∀ s ∈ l, s.2 ≤ 8589934592
theorem validB_iff {l : List Sp} : validB l = true ↔ VS l := by
  unfold validB
  rw [Bool.and_eq_true, decide_eq_true_eq, vB_iff]
  exact ⟨fun h => ⟨h.1, h.2.1, h.2.2⟩, fun h => ⟨h.len, h.nf, h.le⟩⟩

section
variable {β : Type}

theorem valid_loop (l : List Sp) (hl : l.length ≤ 4096) (k1 : zq16 β) (k2 : zq17 β) : ∀ (r : List Sp) (j N : Nat) (p : Int), l.drop j = r → r.length < N → -1 ≤ p → (j = 0 → p = -1) → (0 < j → p = (l.getD (j - 1) ((0 : Int), (0 : Int))).2) →
    zq1h N k1 k2 l l (l.length : Int) (j : Int) = cond (vB p r) (k2 ()) (k1 false)
  | [], j, 0, _, _, h, _, _, _ => absurd h (Nat.not_lt_zero _)
  | _ :: _, j, 0, _, _, h, _, _, _ => absurd h (Nat.not_lt_zero _)
  | [], j, N + 1, p, hd, h, _, _, _ => by
    have : l.length ≤ j := by simpa using hd
    rw [zq1i]
    unfold zq1b
    exact c_neg (by omega)
  | s :: r, j, N + 1, p, hd, h, hp, hp0, hp1 => by
    obtain ⟨hj, hg, hd'⟩ := drop_cons hd ((0 : Int), (0 : Int))
    simp only [List.length_cons] at h
    have ew : IntKind.i64.wrap ((j : Int) + 1) = ((j + 1 : Nat) : Int) := by rw [wr (by omega) (by omega)]; omega
    rw [zq1i]
    unfold zq1b
    simp only [Int.toNat_natCast, hg]
    refine (c_pos (by omega)).trans ?_
    refine (c_inb (by omega)).trans ?_
    unfold vB
    by_cases h1 : s.1 < 0
    · refine (c_pos h1).trans ?_
      rw [decide_eq_false (show ¬ p < s.1 by omega), Bool.false_and]
      rfl
    refine (c_neg h1).trans ?_
    by_cases h2 : s.2 ≤ s.1
    · refine (c_pos h2).trans ?_
      rw [decide_eq_false (show ¬ s.1 < s.2 by omega), Bool.false_and, Bool.and_false]
      rfl
    refine (c_neg h2).trans ?_
    by_cases h3 : 8589934592 < s.2
    · refine (c_pos h3).trans ?_
      rw [decide_eq_false (show ¬ s.2 ≤ 8589934592 by omega), Bool.false_and, Bool.and_false, Bool.and_false]
      rfl
    refine (c_neg h3).trans ?_
    rw [decide_eq_true (show s.1 < s.2 by omega), decide_eq_true (show s.2 ≤ 8589934592 by omega), Bool.true_and, Bool.true_and]
    have ih := valid_loop l hl k1 k2 r (j + 1) N s.2 hd' (by omega) (by omega) (by omega) (fun _ => by rw [Nat.add_sub_cancel, hg])
    by_cases hj0 : j = 0
    · have := hp0 hj0
      refine (c_neg (by omega)).trans ?_
      rw [decide_eq_true (show p < s.1 by omega), Bool.true_and, ew]
      exact ih
    · refine (c_pos (by omega)).trans ?_
      have e2 : IntKind.i64.wrap ((j : Int) - 1) = ((j - 1 : Nat) : Int) := by rw [wr (by omega) (by omega)]; omega
      rw [e2]
      refine (c_inb (by omega)).trans ?_
      simp only [Int.toNat_natCast]
      have hp2 := hp1 (by omega)
      by_cases h4 : s.1 ≤ p
      · refine (c_pos (by rw [← hp2]; exact h4)).trans ?_
        rw [decide_eq_false (show ¬ p < s.1 by omega), Bool.false_and]
        rfl
      · refine (c_neg (by rw [← hp2]; exact h4)).trans ?_
        rw [decide_eq_true (show p < s.1 by omega), Bool.true_and, ew]
        exact ih

theorem valid_eq (l : List Sp) (k : Bool → Option β) : zq1l l k = k (validB l) := by
  show zq1e zq1j l k = _
  unfold zq1e validB
  by_cases h : l.length ≤ 4096
  · refine (c_neg (by omega)).trans ?_
    rw [decide_eq_true h, Bool.true_and]
    refine (valid_loop l h _ _ l 0 fuel (-1) rfl (lt_fuel (by omega)) (by omega) (fun _ => rfl) (fun h => by omega)).trans ?_
    cases vB (-1) l <;> rfl
  · refine (c_pos (by omega)).trans ?_
    rw [decide_eq_false h, Bool.false_and]

/-! ### Length -/
theorem lengthS_cons (s : Sp) (l : List Sp) : lengthS (s :: l) = (s.2 - s.1) + lengthS l := by simp [lengthS]
theorem length_loop (k1 : zq1p β) (l : List Sp) (hl : l.length ≤ 4096) : ∀ (r : List Sp) (j N : Nat) (n c : Int), l.drop j = r → r.length < N → 0 ≤ n → NFa c r → -1 ≤ c → (∀ s ∈ r, s.2 ≤ 8589934592) → n ≤ 1 + c →
    zq1z N k1 n l (l.length : Int) (j : Int) = k1 (n + lengthS r)
  | [], j, 0, _, _, _, h, _, _, _, _, _ => absurd h (Nat.not_lt_zero _)
  | _ :: _, j, 0, _, _, _, h, _, _, _, _, _ => absurd h (Nat.not_lt_zero _)
  | [], j, N + 1, n, c, hd, h, _, _, _, _, _ => by
    have : l.length ≤ j := by simpa using hd
    rw [zq20]
    unfold zq1t
    refine (c_neg (by omega)).trans ?_
    simp [lengthS]
  | s :: r, j, N + 1, n, c, hd, h, hn0, ⟨q1, q2, q3⟩, hc, hm, hn => by
    obtain ⟨hj, hg, hd'⟩ := drop_cons hd ((0 : Int), (0 : Int))
    simp only [List.length_cons] at h
    have ew : IntKind.i64.wrap ((j : Int) + 1) = ((j + 1 : Nat) : Int) := by rw [wr (by omega) (by omega)]; omega
    have hs := hm s (by simp)
    rw [zq20]
    unfold zq1t
    simp only [Int.toNat_natCast, hg]
    refine (c_pos (by omega)).trans ?_
    refine (c_inb (by omega)).trans ?_
    rw [wr (x := s.2 - s.1) (by omega) (by omega), wr (x := n + (s.2 - s.1)) (by omega) (by omega), ew]
    refine (length_loop k1 l hl r (j + 1) N (n + (s.2 - s.1)) s.2 hd' (by omega) (by omega) q3 (by omega) (fun t ht => hm t (by simp [ht])) (by omega)).trans ?_
    rw [lengthS_cons]
    congr 1
    omega

theorem VS.range {l : List Sp} (h : VS l) : ∀ s ∈ l, 0 ≤ s.1 ∧ s.1 < s.2 ∧ s.2 ≤ 8589934592 := fun s hs => by
  have := h.nf.mem s hs
  have := h.le s hs
  omega

theorem length_eq (l : List Sp) (k : Int → Option β) : zq23 l k = k (if validB l then lengthS l else 0) := by
  show zq1w zq1l zq21 l k = _
  unfold zq1w
  refine (valid_eq l _).trans ?_
  cases hv : validB l with
  | false => rfl
  | true =>
    have h := validB_iff.1 hv
    have hlen := h.len
    have e := length_loop (fun n => k n) l h.len l 0 fuel 0 (-1) rfl (lt_fuel (by omega)) (by omega) h.nf (by omega) h.le (by omega)
    rw [Int.natCast_zero, Int.zero_add] at e
    rw [if_pos rfl]
    refine c_f.trans ?_
    exact e

/-! ### First, Gap, Has -/
theorem first_loop (x : Int) (k1 : zq5j β) (k2 : zq5k β) (l : List Sp) (hl : l.length ≤ 4096) : ∀ (r : List Sp) (j N : Nat), l.drop j = r → r.length < N →
    zq5u N k1 k2 x l (l.length : Int) (j : Int) = (match firstS x r with | some n => k1 n true | none => k2 ())
  | [], j, 0, _, h => absurd h (Nat.not_lt_zero _)
  | _ :: _, j, 0, _, h => absurd h (Nat.not_lt_zero _)
  | [], j, N + 1, hd, h => by
    have : l.length ≤ j := by simpa using hd
    rw [zq5v]
    unfold zq5o
    exact c_neg (by omega)
  | s :: r, j, N + 1, hd, h => by
    obtain ⟨hj, hg, hd'⟩ := drop_cons hd ((0 : Int), (0 : Int))
    simp only [List.length_cons] at h
    have ew : IntKind.i64.wrap ((j : Int) + 1) = ((j + 1 : Nat) : Int) := by rw [wr (by omega) (by omega)]; omega
    rw [zq5v]
    unfold zq5o
    simp only [Int.toNat_natCast, hg]
    refine (c_pos (by omega)).trans ?_
    refine (c_inb (by omega)).trans ?_
    unfold firstS
    by_cases hx : x < s.2
    · refine (c_pos hx).trans ?_
      rw [if_pos hx]
      have : (if s.1 > x then s.1 else x) = max x s.1 := by split <;> omega
      rw [this]
    · refine (c_neg hx).trans ?_
      rw [if_neg hx, ew]
      exact first_loop x k1 k2 l hl r (j + 1) N hd' (by omega)

theorem first_eq (l : List Sp) (x : Int) (k : Int → Bool → Option β) : zq5y l x k = if validB l then (match firstS x l with | some n => k n true | none => k 0 false) else k 0 false := by
  show zq5r zq1l zq5w l x k = _
  unfold zq5r
  refine (valid_eq l _).trans ?_
  cases hv : validB l with
  | false => rfl
  | true =>
    have hlen := (validB_iff.1 hv).len
    have e := first_loop x (fun n b => k n b) (fun _ => k 0 false) l hlen l 0 fuel rfl (lt_fuel (by omega))
    rw [Int.natCast_zero] at e
    rw [if_pos rfl]
    refine c_f.trans ?_
    exact e

theorem gap_loop (x : Int) (k1 : zq62 β) (k2 : zq63 β) (l : List Sp) (hl : l.length ≤ 4096) (hk : ∀ y, k1 y = k2 y) : ∀ (r : List Sp) (j N : Nat), l.drop j = r → r.length < N →
    zq6d N k1 k2 x l (l.length : Int) (j : Int) = k1 (gapS x r)
  | [], j, 0, _, h => absurd h (Nat.not_lt_zero _)
  | _ :: _, j, 0, _, h => absurd h (Nat.not_lt_zero _)
  | [], j, N + 1, hd, h => by
    have : l.length ≤ j := by simpa using hd
    rw [zq6e]
    unfold zq67
    exact (c_neg (by omega)).trans (hk x).symm
  | s :: r, j, N + 1, hd, h => by
    obtain ⟨hj, hg, hd'⟩ := drop_cons hd ((0 : Int), (0 : Int))
    simp only [List.length_cons] at h
    have ew : IntKind.i64.wrap ((j : Int) + 1) = ((j + 1 : Nat) : Int) := by rw [wr (by omega) (by omega)]; omega
    rw [zq6e]
    unfold zq67
    simp only [Int.toNat_natCast, hg]
    refine (c_pos (by omega)).trans ?_
    refine (c_inb (by omega)).trans ?_
    unfold gapS
    rw [ew]
    have ih := gap_loop x k1 k2 l hl hk r (j + 1) N hd' (by omega)
    by_cases h1 : s.1 ≤ x
    · refine (c_pos h1).trans ?_
      by_cases h2 : x < s.2
      · refine (c_pos h2).trans ?_
        rw [if_pos ⟨h1, h2⟩]
      · refine (c_neg h2).trans ?_
        rw [if_neg (fun q => h2 q.2)]
        exact ih
    · refine (c_neg h1).trans ?_
      rw [if_neg (fun q => h1 q.1)]
      exact ih

theorem gap_eq (l : List Sp) (x : Int) (k : Int → Option β) : zq6h l x k = k (if validB l then gapS x l else x) := by
  show zq6a zq1l zq6f l x k = _
  unfold zq6a
  refine (valid_eq l _).trans ?_
  cases hv : validB l with
  | false => rfl
  | true =>
    have hlen := (validB_iff.1 hv).len
    have e := gap_loop x (fun y => k y) (fun y => k y) l hlen (fun _ => rfl) l 0 fuel rfl (lt_fuel (by omega))
    rw [Int.natCast_zero] at e
    rw [if_pos rfl]
    refine c_f.trans ?_
    exact e

theorem hasf_eq (s : Sp) (x : Int) (k : Bool → Int → Option β) : zq2o s x k = k (decide (s.1 ≤ x) && decide (x < s.2)) x := by
  show zq2l s x k = _
  unfold zq2l
  by_cases h : s.1 ≤ x
  · refine (c_pos h).trans ?_
    rw [decide_eq_true h, Bool.true_and]
  · refine (c_neg h).trans ?_
    rw [decide_eq_false h, Bool.false_and]

theorem hasi_loop (x : Int) (k1 : zq92 β) (k2 : zq93 β) (l : List Sp) (hl : l.length ≤ 4096) (q : Option β) (hk : ∀ i, 0 ≤ i → k1 i x = q) : ∀ (r : List Sp) (j N : Nat), l.drop j = r → r.length < N →
    zq9d N k1 k2 l (l.length : Int) (j : Int) x = if hasB r x then q else k2 x
  | [], j, 0, _, h => absurd h (Nat.not_lt_zero _)
  | _ :: _, j, 0, _, h => absurd h (Nat.not_lt_zero _)
  | [], j, N + 1, hd, h => by
    have : l.length ≤ j := by simpa using hd
    rw [zq9e]
    unfold zq97
    exact c_neg (by omega)
  | s :: r, j, N + 1, hd, h => by
    obtain ⟨hj, hg, hd'⟩ := drop_cons hd ((0 : Int), (0 : Int))
    simp only [List.length_cons] at h
    have ew : IntKind.i64.wrap ((j : Int) + 1) = ((j + 1 : Nat) : Int) := by rw [wr (by omega) (by omega)]; omega
    rw [zq9e]
    unfold zq97
    simp only [Int.toNat_natCast, hg]
    refine (c_pos (by omega)).trans ?_
    refine (c_inb (by omega)).trans ?_
    refine (hasf_eq _ _ _).trans ?_
    have e : hasB (s :: r) x = ((decide (s.1 ≤ x) && decide (x < s.2)) || hasB r x) := by simp [hasB]
    rw [e, ew]
    cases hb : (decide (s.1 ≤ x) && decide (x < s.2)) with
    | true => exact hk _ (by omega)
    | false => exact hasi_loop x k1 k2 l hl q hk r (j + 1) N hd' (by omega)

theorem has_eq (l : List Sp) (x : Int) (k : Bool → Option β) : zqb0 l x k = k (validB l && hasB l x) := by
  show zqax zqa7 zq1l l x k = _
  unfold zqax
  refine (valid_eq l _).trans ?_
  cases hv : validB l with
  | false => rfl
  | true =>
    have hlen := (validB_iff.1 hv).len
    refine c_t.trans ?_
    show zqa4 zq9h l x _ = _
    unfold zqa4
    show zq9a zq9f l x _ = _
    unfold zq9a
    refine (hasi_loop x _ _ l hlen (k true) (fun i hi => by show k (decide (0 ≤ i)) = k true; rw [decide_eq_true hi]) l 0 fuel rfl (lt_fuel (by omega))).trans ?_
    cases hasB l x <;> rfl
end

/-! ### Common -/
/-! ### Without -/
theorem cutS_skip {e at_ : Int} (h : at_ < e) : ∀ {p m : List Sp}, (∀ t ∈ p, t.1 < t.2 ∧ t.2 ≤ at_) → cutS e at_ (p ++ m) = cutS e at_ m
  | [], _, _ => rfl
  | t :: p, m, hp => by
    have ht := hp t (by simp)
    have e1 : cutS e at_ ((t :: p) ++ m) = if t.1 < e then restS t.1 at_ ++ cutS e (max at_ t.2) (p ++ m) else restS e at_ := rfl
    rw [e1, if_pos (by omega)]
    have e2 : restS t.1 at_ = [] := by unfold restS; rw [if_neg (by omega)]
    have e3 : max at_ t.2 = at_ := by omega
    rw [e2, e3, List.nil_append]
    exact cutS_skip h fun q hq => hp q (by simp [hq])

section
variable {β : Type}
theorem without_p1 {b : List Sp} (hb : b.length ≤ 10000) (k1 : zq2s β) (t11 : List Sp) (t12 t13 : Int) (out : List Sp) (s s2 : Int) : ∀ (r : List Sp) (j N : Nat), b.drop j = r → r.length < N →
    ∃ j', j ≤ j' ∧ j' ≤ max j b.length ∧ (∀ t ∈ (b.drop j).take (j' - j), t.2 ≤ s) ∧ zq3g N k1 b (j : Int) t11 t12 t13 out s s2 = k1 b (j' : Int) t11 t12 t13 out s s2
  | [], j, 0, _, h => absurd h (Nat.not_lt_zero _)
  | _ :: _, j, 0, _, h => absurd h (Nat.not_lt_zero _)
  | [], j, N + 1, hd, h => by
    have : b.length ≤ j := by simpa using hd
    refine ⟨j, Nat.le_refl _, by omega, by simp, ?_⟩
    rw [zq3h]
    unfold zq34
    exact c_neg (by omega)
  | t :: r, j, N + 1, hd, h => by
    obtain ⟨hj, hg, hd'⟩ := drop_cons hd ((0 : Int), (0 : Int))
    simp only [List.length_cons] at h
    have ew : IntKind.i64.wrap ((j : Int) + 1) = ((j + 1 : Nat) : Int) := by rw [wr (by omega) (by omega)]; omega
    by_cases hc : t.2 ≤ s
    · obtain ⟨j', h1, h2, h3, h4⟩ := without_p1 hb k1 t11 t12 t13 out s s2 r (j + 1) N hd' (by omega)
      refine ⟨j', by omega, by omega, ?_, ?_⟩
      · intro u hu
        rw [hd] at hu
        have e : j' - j = (j' - (j + 1)) + 1 := by omega
        rw [e, List.take_succ_cons] at hu
        rcases List.mem_cons.1 hu with rfl | hu
        · exact hc
        · exact h3 u (by rw [hd']; exact hu)
      · rw [zq3h]
        unfold zq34
        simp only [Int.toNat_natCast, hg]
        refine (c_pos (by omega)).trans ?_
        refine (c_inb (by omega)).trans ?_
        refine (c_pos hc).trans ?_
        rw [ew]
        exact h4
    · refine ⟨j, Nat.le_refl _, by omega, by simp, ?_⟩
      rw [zq3h]
      unfold zq34
      simp only [Int.toNat_natCast, hg]
      refine (c_pos (by omega)).trans ?_
      refine (c_inb (by omega)).trans ?_
      exact c_neg hc

theorem without_p2 {b : List Sp} (hb : b.length ≤ 10000) (k1 : zq2w β) (k_ : Int) (t11 : List Sp) (t12 t13 : Int) (s s2 : Int) : ∀ (r : List Sp) (i N : Nat) (at_ : Int) (out : List Sp), b.drop i = r → r.length < N → out.length + r.length ≤ 1000000000 →
    ∃ at' pre, pre ++ restS s2 at' = cutS s2 at_ r ∧ pre.length ≤ r.length ∧ zq3k N k1 b k_ at_ (i : Int) t11 t12 t13 out s s2 = k1 b k_ at' t11 t12 t13 (out ++ pre) s s2
  | [], j, 0, _, _, _, h, _ => absurd h (Nat.not_lt_zero _)
  | _ :: _, j, 0, _, _, _, h, _ => absurd h (Nat.not_lt_zero _)
  | [], i, N + 1, at_, out, hd, h, ho => by
    have : b.length ≤ i := by simpa using hd
    refine ⟨at_, [], rfl, by simp, ?_⟩
    rw [zq3l]
    unfold zq37
    rw [List.append_nil]
    exact c_neg (by omega)
  | t :: r, i, N + 1, at_, out, hd, h, ho => by
    obtain ⟨hj, hg, hd'⟩ := drop_cons hd ((0 : Int), (0 : Int))
    simp only [List.length_cons] at h ho
    have ew : IntKind.i64.wrap ((i : Int) + 1) = ((i + 1 : Nat) : Int) := by rw [wr (by omega) (by omega)]; omega
    have em : (if t.2 > at_ then t.2 else at_) = max at_ t.2 := by split <;> omega
    have ec : cutS s2 at_ (t :: r) = if t.1 < s2 then restS t.1 at_ ++ cutS s2 (max at_ t.2) r else restS s2 at_ := rfl
    by_cases hc : t.1 < s2
    · rw [ec, if_pos hc]
      by_cases hlt : at_ < t.1
      · obtain ⟨at', pre, h1, h2, h3⟩ := without_p2 hb k1 k_ t11 t12 t13 s s2 r (i + 1) N (max at_ t.2) (out ++ [(at_, t.1)]) hd' (by omega) (by simp; omega)
        refine ⟨at', (at_, t.1) :: pre, ?_, by simp; omega, ?_⟩
        · have : restS t.1 at_ = [(at_, t.1)] := by unfold restS; rw [if_pos hlt]
          rw [this, List.cons_append, h1]; rfl
        · rw [zq3l]
          unfold zq37
          simp only [Int.toNat_natCast, hg, em, ew]
          refine (c_pos (by omega)).trans ?_
          refine (c_inb (by omega)).trans ?_
          refine (c_pos hc).trans ?_
          refine (c_inb (by omega)).trans ?_
          refine (c_pos hlt).trans ?_
          refine (c_inb (by omega)).trans ?_
          refine (c_room (by simp; omega)).trans ?_
          refine (c_inb (by omega)).trans ?_
          rw [h3, List.append_assoc]
          rfl
      · obtain ⟨at', pre, h1, h2, h3⟩ := without_p2 hb k1 k_ t11 t12 t13 s s2 r (i + 1) N (max at_ t.2) out hd' (by omega) (by omega)
        refine ⟨at', pre, ?_, by simp; omega, ?_⟩
        · have : restS t.1 at_ = [] := by unfold restS; rw [if_neg hlt]
          rw [this, h1]; rfl
        · rw [zq3l]
          unfold zq37
          simp only [Int.toNat_natCast, hg, em, ew]
          refine (c_pos (by omega)).trans ?_
          refine (c_inb (by omega)).trans ?_
          refine (c_pos hc).trans ?_
          refine (c_inb (by omega)).trans ?_
          refine (c_neg hlt).trans ?_
          refine (c_inb (by omega)).trans ?_
          exact h3
    · rw [ec, if_neg hc]
      refine ⟨at_, [], rfl, by simp, ?_⟩
      rw [zq3l]
      unfold zq37
      simp only [Int.toNat_natCast, hg]
      rw [List.append_nil]
      refine (c_pos (by omega)).trans ?_
      refine (c_inb (by omega)).trans ?_
      exact c_neg hc

theorem take_add_drop {α : Type} {l : List α} {j j' : Nat} (h : j ≤ j') : l.take j' = l.take j ++ (l.drop j).take (j' - j) := by
  have e : j' = j + (j' - j) := by omega
  rw [e, List.take_add, Nat.add_sub_cancel_left]

theorem without_p3 {a b : List Sp} (ha : a.length ≤ 10000) (hb : b.length ≤ 10000) {ca : Int} (hna : NFa ca a) (hnb : ∀ t ∈ b, t.1 < t.2) (k1 : zq30 β) : ∀ (r : List Sp) (i k N : Nat) (c : Int) (out : List Sp), a.drop i = r → r.length < N → NFa c r → k ≤ b.length → (∀ t ∈ b.take k, t.2 ≤ c) → out.length ≤ i * 10001 →
    zq3o N k1 b (k : Int) a (a.length : Int) (i : Int) out = k1 (out ++ withoutS r b)
  | [], j, _, 0, _, _, _, h, _, _, _, _ => absurd h (Nat.not_lt_zero _)
  | _ :: _, j, _, 0, _, _, _, h, _, _, _, _ => absurd h (Nat.not_lt_zero _)
  | [], i, k, N + 1, c, out, hd, h, hr, hk, ht, ho => by
    have : a.length ≤ i := by simpa using hd
    rw [zq3p]
    unfold zq3a
    refine (c_neg (by omega)).trans ?_
    simp [withoutS]
  | s :: r, i, k, N + 1, c, out, hd, h, hr, hk, ht, ho => by
    obtain ⟨hj, hg, hd'⟩ := drop_cons hd ((0 : Int), (0 : Int))
    simp only [List.length_cons] at h
    obtain ⟨r1, r2, r3⟩ := hr
    have ew : IntKind.i64.wrap ((i : Int) + 1) = ((i + 1 : Nat) : Int) := by rw [wr (by omega) (by omega)]; omega
    rw [zq3p]
    unfold zq3a
    simp only [Int.toNat_natCast, hg]
    refine (c_pos (by omega)).trans ?_
    refine (c_inb (by omega)).trans ?_
    obtain ⟨k', q1, q2, q3, q4⟩ := without_p1 hb (fun b2 k2 t112 t122 t132 out2 s s2 => zq3m (fun b3 k3 at_ t113 t123 t133 out3 s3 s4 =>
        cond (decide (at_ < s4)) (cond (decide ((out3.length + ([(at_, s4)] : List Sp).length) * 16 ≤ roomMax)) (zq3o N k1 b3 k3 t113 t123 (IntKind.i64.wrap (t133 + 1)) (out3 ++ [(at_, s4)])) none)
          (zq3o N k1 b3 k3 t113 t123 (IntKind.i64.wrap (t133 + 1)) out3)) b2 k2 s k2 t112 t122 t132 out2 s s2) a (a.length : Int) (i : Int) out s.1 s.2 (b.drop k) k fuel rfl (lt_fuel (by simp; omega))
    refine q4.trans ?_
    obtain ⟨at', pre, w1, w2, w3⟩ := without_p2 hb (fun b3 k3 at_ t113 t123 t133 out3 s3 s4 =>
        cond (decide (at_ < s4)) (cond (decide ((out3.length + ([(at_, s4)] : List Sp).length) * 16 ≤ roomMax)) (zq3o N k1 b3 k3 t113 t123 (IntKind.i64.wrap (t133 + 1)) (out3 ++ [(at_, s4)])) none)
          (zq3o N k1 b3 k3 t113 t123 (IntKind.i64.wrap (t133 + 1)) out3)) (k' : Int) a (a.length : Int) (i : Int) s.1 s.2 (b.drop k') k' fuel s.1 out rfl (lt_fuel (by simp; omega)) (by simp; omega)
    refine w3.trans ?_
    have hk' : k' ≤ b.length := by omega
    have htk : ∀ t ∈ b.take k', t.2 ≤ s.1 := by
      intro t hm
      rw [take_add_drop q1] at hm
      rcases List.mem_append.1 hm with hm | hm
      · have := ht t hm; omega
      · exact q3 t hm
    have hcut : cutS s.2 s.1 b = cutS s.2 s.1 (b.drop k') := by
      have e : b = b.take k' ++ b.drop k' := (List.take_append_drop k' b).symm
      have := cutS_skip (e := s.2) (at_ := s.1) r2 (p := b.take k') (m := b.drop k') (fun t hm => ⟨hnb t (List.mem_of_mem_take hm), htk t hm⟩)
      rw [← e] at this
      exact this
    have hwo : withoutS (s :: r) b = cutS s.2 s.1 b ++ withoutS r b := rfl
    rw [hwo, hcut, ← w1]
    have hlp : pre.length ≤ 10000 := by simp at w2; omega
    have ih : ∀ out2, out2.length ≤ (i + 1) * 10001 → zq3o N k1 b (k' : Int) a (a.length : Int) (IntKind.i64.wrap ((i : Int) + 1)) out2 = k1 (out2 ++ withoutS r b) := by
      intro out2 hl2
      rw [ew]
      exact without_p3 ha hb hna hnb k1 r (i + 1) k' N s.2 out2 hd' (by omega) r3 hk' (fun t hm => by have := htk t hm; omega) hl2
    by_cases hlt : at' < s.2
    · refine (c_pos hlt).trans ?_
      refine (c_room (by simp; omega)).trans ?_
      have : restS s.2 at' = [(at', s.2)] := by unfold restS; rw [if_pos hlt]
      rw [this]
      refine (ih _ (by simp; omega)).trans ?_
      simp
    · refine (c_neg hlt).trans ?_
      have : restS s.2 at' = [] := by unfold restS; rw [if_neg hlt]
      rw [this, List.append_nil]
      refine (ih _ (by simp; omega)).trans ?_
      simp

theorem without_eq {a b : List Sp} (ha : a.length ≤ 10000) (hb : b.length ≤ 10000) {ca : Int} (hna : NFa ca a) (hnb : ∀ t ∈ b, t.1 < t.2) (k : List Sp → Option β) : zq3s a b k = k (withoutS a b) := by
  show zq3d zq3q a b k = _
  unfold zq3d
  refine (without_p3 ha hb hna hnb _ a 0 0 fuel ca [] rfl (lt_fuel (by omega)) hna (by omega) (by simp) (by simp)).trans ?_
  simp
end
end
end Go.Lift

/- The dice in plain Lean. -/
namespace Go.Lift
open Go.RowKit Go.IntWalk
noncomputable section
set_option linter.unusedVariables false
set_option linter.unusedSimpArgs false

abbrev Dice := List Int × Int
def DiceOk (d : Dice) : Prop := 0 ≤ d.2 ∧ d.2 ≤ d.1.length ∧ d.1.length ≤ 500

theorem light_eq {β : Type} (l : List Int) (k : Bool → Option β) : zq5 l k = k (decide ((l.length : Int) ≤ 500)) := by
  simp only [zq5, zq2]
theorem roll_eq {β : Type} (l : List Int) (k : Dice → Option β) : zqc l k = k (l, 0) := by
  simp only [zqc, zq9]
theorem roll_ok {l : List Int} (h : (l.length : Int) ≤ 500) : DiceOk (l, 0) := ⟨by simp, by simp, by show l.length ≤ 500; omega⟩

theorem next_ok {n : Int} {d : Dice} (hd : DiceOk d) (hn : 1 ≤ n ∧ n ≤ 4611686018427387904) :
    ∃ x d', 0 ≤ x ∧ x < n ∧ DiceOk d' ∧ ∀ {β : Type} (k : Int → Dice → Option β), zq2a n d k = k x d' := by
  obtain ⟨h1, h2, h3⟩ := hd
  by_cases ha : (d.1.length : Int) ≤ d.2
  · exact ⟨0, d, by omega, by omega, ⟨h1, h2, h3⟩, fun k => by simp (disch := omega) only [zq2a, zq27, c_pos]⟩
  · generalize hv : List.getD d.1 (Int.toNat d.2) (0 : Int) = v
    have hm1 := Int.tmod_lt_of_pos v (show 0 < n by omega)
    have hm2 : -n < Int.tmod v n := by
      have h5 := Int.tmod_lt_of_pos (-v) (show 0 < n by omega)
      rw [Int.neg_tmod] at h5
      omega
    have hd' : DiceOk (d.1, d.2 + 1) := ⟨by show (0 : Int) ≤ d.2 + 1; omega, by show d.2 + 1 ≤ (d.1.length : Int); omega, h3⟩
    by_cases hc : Int.tmod v n < 0
    · refine ⟨Int.tmod v n + n, (d.1, d.2 + 1), by omega, by omega, hd', fun k => ?_⟩
      simp (disch := omega) only [zq2a, zq27, hv, c_pos, c_neg, c_inb, c_nneg, i64_in]
    · refine ⟨Int.tmod v n, (d.1, d.2 + 1), by omega, by omega, hd', fun k => ?_⟩
      simp (disch := omega) only [zq2a, zq27, hv, c_pos, c_neg, c_inb, c_nneg, i64_in]

end
end Go.Lift

/- The functions of package span in plain Lean: merging, and what leans on it. -/
namespace Go.Lift
open Go.RowKit Go.IntWalk
noncomputable section
set_option linter.unusedVariables false
set_option linter.unusedSimpArgs false
set_option maxRecDepth 10000

/-! ### The empty spans go -/
theorem mf1_eq {β : Type} (s : Sp) (k : Bool → Option β) : zq5f s k = k (decide (s.2 ≤ s.1)) := rfl

abbrev neS (l : List Sp) : List Sp := l.filter fun s => decide (s.1 < s.2)

theorem idx_loop {β : Type} (k1 : zq9l β) (k2 : zq9m β) (l : List Sp) (hl : l.length ≤ 100000) : ∀ (r : List Sp) (j N : Nat), l.drop j = r → r.length < N → (∀ s ∈ l.take j, s.1 < s.2) →
    ((∀ s ∈ l, s.1 < s.2) ∧ zq9w N k1 k2 l (l.length : Int) (j : Int) = k2 ()) ∨
    (∃ i : Nat, i < l.length ∧ (∀ s ∈ l.take i, s.1 < s.2) ∧ ¬ (l.getD i (0, 0)).1 < (l.getD i (0, 0)).2 ∧ zq9w N k1 k2 l (l.length : Int) (j : Int) = k1 (i : Int))
  | [], j, 0, _, h, _ => absurd h (Nat.not_lt_zero _)
  | _ :: _, j, 0, _, h, _ => absurd h (Nat.not_lt_zero _)
  | [], j, N + 1, hd, h, ht => by
    have : l.length ≤ j := by simpa using hd
    refine .inl ⟨fun s hs => ht s (by rw [List.take_of_length_le this]; exact hs), ?_⟩
    rw [zq9x]
    unfold zq9q
    exact c_neg (by omega)
  | s :: r, j, N + 1, hd, h, ht => by
    obtain ⟨hj, hg, hd'⟩ := drop_cons hd ((0 : Int), (0 : Int))
    simp only [List.length_cons] at h
    have ew : IntKind.i64.wrap ((j : Int) + 1) = ((j + 1 : Nat) : Int) := by rw [wr (by omega) (by omega)]; omega
    have hstep : zq9w (N + 1) k1 k2 l (l.length : Int) (j : Int) = cond (decide (s.2 ≤ s.1)) (k1 (j : Int)) (zq9w N k1 k2 l (l.length : Int) ((j + 1 : Nat) : Int)) := by
      rw [zq9x]
      unfold zq9q
      simp only [Int.toNat_natCast, hg, ew]
      refine (c_pos (by omega)).trans ?_
      refine (c_inb (by omega)).trans ?_
      exact mf1_eq _ _
    rw [hstep]
    by_cases hc : s.2 ≤ s.1
    · exact .inr ⟨j, hj, ht, by rw [hg]; omega, c_pos hc⟩
    · have ht' : ∀ t ∈ l.take (j + 1), t.1 < t.2 := by
        intro t hm
        rw [List.take_add_one] at hm
        have e : l[j]? = some s := by rw [← hg]; simp [List.getD, hj]
        rw [e] at hm
        rcases List.mem_append.1 hm with hm | hm
        · exact ht t hm
        · simp only [Option.toList, List.mem_singleton] at hm
          rw [hm]; omega
      rcases idx_loop k1 k2 l hl r (j + 1) N hd' (by omega) ht' with ⟨q1, q2⟩ | ⟨i, q1, q2, q3, q4⟩
      · exact .inl ⟨q1, (c_neg hc).trans q2⟩
      · exact .inr ⟨i, q1, q2, q3, (c_neg hc).trans q4⟩

theorem filter_all {l : List Sp} (h : ∀ s ∈ l, s.1 < s.2) : neS l = l := List.filter_eq_self.2 fun s hs => decide_eq_true (h s hs)

theorem neS_one (l : List Sp) (x : Sp) : neS (l ++ [x]) = if x.1 < x.2 then neS l ++ [x] else neS l := by
  unfold neS
  rw [List.filter_append]
  by_cases h : x.1 < x.2 <;> simp [h]

theorem idx_loop0 {β : Type} (k1 : zq9l β) (k2 : zq9m β) (l : List Sp) (hl : l.length ≤ 100000) :
    ((∀ s ∈ l, s.1 < s.2) ∧ zq9y k1 k2 l (l.length : Int) 0 = k2 ()) ∨
    (∃ i : Nat, i < l.length ∧ (∀ s ∈ l.take i, s.1 < s.2) ∧ ¬ (l.getD i (0, 0)).1 < (l.getD i (0, 0)).2 ∧ zq9y k1 k2 l (l.length : Int) 0 = k1 (i : Int)) := by
  have h := idx_loop k1 k2 l hl l 0 fuel rfl (lt_fuel (by omega)) (by simp)
  rw [Int.natCast_zero] at h
  exact h

theorem del_loop (l : List Sp) (hl : l.length ≤ 100000) : ∀ (r : List Sp) (i j N : Nat) (s : List Sp), l.drop j = r → r.length < N → s.length = l.length → i < j → j ≤ l.length → s.take i = neS (l.take j) → s.drop j = r →
    ∃ i' s', s'.length = l.length ∧ i' ≤ l.length ∧ s'.take i' = neS l ∧ ∀ {β : Type} (k1 : zqab β), zqal N k1 (i : Int) (j : Int) s = k1 (i' : Int) s'
  | [], i, j, 0, _, _, h, _, _, _, _, _ => absurd h (Nat.not_lt_zero _)
  | _ :: _, i, j, 0, _, _, h, _, _, _, _, _ => absurd h (Nat.not_lt_zero _)
  | [], i, j, N + 1, s, hd, h, hs, hij, hjl, ht, hdr => by
    have : l.length ≤ j := by simpa using hd
    refine ⟨i, s, hs, by omega, by rw [ht, List.take_of_length_le this], fun k1 => ?_⟩
    rw [zqam]
    unfold zqaf
    exact c_neg (by omega)
  | x :: r, i, j, N + 1, s, hd, h, hs, hij, hjl, ht, hdr => by
    obtain ⟨hj, hg, hd'⟩ := drop_cons hd ((0 : Int), (0 : Int))
    obtain ⟨hj2, hg2, hd2⟩ := drop_cons hdr ((0 : Int), (0 : Int))
    simp only [List.length_cons] at h
    have ew : IntKind.i64.wrap ((j : Int) + 1) = ((j + 1 : Nat) : Int) := by rw [wr (by omega) (by omega)]; omega
    have ewi : IntKind.i64.wrap ((i : Int) + 1) = ((i + 1 : Nat) : Int) := by rw [wr (by omega) (by omega)]; omega
    have et : l.take (j + 1) = l.take j ++ [x] := by
      rw [List.take_add_one]
      have e : l[j]? = some x := by rw [← hg]; simp [List.getD, hj]
      rw [e]; rfl
    have hstep : ∀ {β : Type} (k1 : zqab β), zqal (N + 1) k1 (i : Int) (j : Int) s =
        cond (!decide (x.2 ≤ x.1)) (zqal N k1 ((i + 1 : Nat) : Int) ((j + 1 : Nat) : Int) (s.set i x)) (zqal N k1 (i : Int) ((j + 1 : Nat) : Int) s) := by
      intro β k1
      rw [zqam]
      unfold zqaf
      simp only [Int.toNat_natCast, hg2, ew, ewi]
      refine (c_pos (by omega)).trans ?_
      refine (c_inb (by omega)).trans ?_
      refine (mf1_eq _ _).trans ?_
      by_cases hc : x.2 ≤ x.1
      · rw [decide_eq_true hc]; rfl
      · rw [decide_eq_false hc]
        exact c_inb (by omega)
    by_cases hc : x.2 ≤ x.1
    · obtain ⟨i', s', q1, q2, q3, q4⟩ := del_loop l hl r i (j + 1) N s hd' (by omega) hs (by omega) (by omega) (by
        rw [ht, et, neS_one, if_neg (by omega)]) hd2
      exact ⟨i', s', q1, q2, q3, fun k1 => (hstep k1).trans ((c_npos hc).trans (q4 k1))⟩
    · obtain ⟨i', s', q1, q2, q3, q4⟩ := del_loop l hl r (i + 1) (j + 1) N (s.set i x) hd' (by omega) (by simpa using hs) (by omega) (by omega) (by
        have hi : i < s.length := by omega
        rw [et, neS_one, if_pos (by omega), ← ht]
        have e : (s.set i x).take (i + 1) = s.take i ++ [x] := by
          rw [List.take_add_one, List.take_set, List.getElem?_set_self hi]
          rw [List.set_eq_of_length_le (by simp; omega)]
          rfl
        exact e) (by rw [List.drop_set_of_lt (by omega)]; exact hd2)
      exact ⟨i', s', q1, q2, q3, fun k1 => (hstep k1).trans ((c_nneg hc).trans (q4 k1))⟩

theorem del_out {β : Type} (k : List Sp → Option β) {i : Nat} {s : List Sp} (h : i ≤ s.length) :
    cond (decide (0 ≤ (i : Int)) && (decide ((i : Int) ≤ (s.length : Int)) && decide ((s.length : Int) ≤ (s.length : Int))))
      (let l : List Sp := s.take (Int.toNat (i : Int)) ++ (List.replicate (s.length - Int.toNat (i : Int)) ((0 : Int), (0 : Int)) ++ s.drop s.length);
        cond (decide (0 ≤ (i : Int)) && decide ((i : Int) ≤ (l.length : Int))) (let l2 : List Sp := l.take (Int.toNat (i : Int)); k l2) none) none = k (s.take i) := by
  have e : Int.toNat (i : Int) = i := Int.toNat_natCast i
  rw [e, decide_eq_true (by omega : (0 : Int) ≤ (i : Int)), decide_eq_true (by omega : (i : Int) ≤ (s.length : Int)), decide_eq_true (by omega : (s.length : Int) ≤ (s.length : Int))]
  refine c_t.trans ?_
  have hlen : (s.take i ++ (List.replicate (s.length - i) ((0 : Int), (0 : Int)) ++ s.drop s.length)).length = s.length := by simp; omega
  show cond (true && decide ((i : Int) ≤ ((s.take i ++ (List.replicate (s.length - i) ((0 : Int), (0 : Int)) ++ s.drop s.length)).length : Int))) (k ((s.take i ++ (List.replicate (s.length - i) ((0 : Int), (0 : Int)) ++ s.drop s.length)).take i)) none = _
  rw [hlen, decide_eq_true (by omega : (i : Int) ≤ (s.length : Int))]
  refine c_t.trans ?_
  have e3 : (s.take i ++ (List.replicate (s.length - i) ((0 : Int), (0 : Int)) ++ s.drop s.length)).take i = s.take i := by
    rw [List.take_append_of_le_length (by simp; omega), List.take_take, Nat.min_self]
  rw [e3]

theorem del_eq {l : List Sp} (hl : l.length ≤ 100000) {β : Type} (k : List Sp → Option β) : zqap l k = k (neS l) := by
  show zqai zqa0 zqan l k = _
  unfold zqai
  show zq9t zq9y l _ = _
  unfold zq9t
  rcases idx_loop0 _ _ l hl with ⟨q1, q2⟩ | ⟨i, q1, q2, q3, q4⟩
  · refine q2.trans ?_
    refine (c_pos rfl).trans ?_
    rw [filter_all q1]
  · refine q4.trans ?_
    refine (c_neg (by omega)).trans ?_
    have ewi : IntKind.i64.wrap ((i : Int) + 1) = ((i + 1 : Nat) : Int) := by rw [wr (by omega) (by omega)]; omega
    have hg : l[i]? = some (l.getD i (0, 0)) := by simp [List.getD, q1]
    obtain ⟨i', s', p1, p2, p3, p4⟩ := del_loop l hl (l.drop (i + 1)) i (i + 1) fuel l rfl (lt_fuel (by simp; omega)) rfl (by omega) (by omega) (by
        rw [List.take_add_one, hg]
        show _ = neS (l.take i ++ [l.getD i (0, 0)])
        rw [neS_one, if_neg q3, filter_all q2]) rfl
    rw [ewi]
    refine (p4 _).trans ?_
    rw [← p3]
    exact del_out k (by omega)

theorem del_run {l : List Sp} (hl : l.length ≤ 100000) : zqar l = true ∧ zqas l = neS l := by
  have h := del_eq hl (some : List Sp → Option (List Sp))
  unfold zqar zqas
  rw [h]
  exact ⟨rfl, rfl⟩

/-! ### Merging -/
theorem mp1 {β : Type} (k1 : zqbd β) (n t14 t15 : Int) (b : Bool) (out : List Sp) (s s2 : Int) (t13 : List Sp) : zqbu k1 n t14 t15 b out s s2 t13 = zqbl k1 n t14 t15 b out s s2 t13 := rfl

theorem merge_loop {β : Type} (k1 : zqbh β) (l : List Sp) (hl : l.length ≤ 100000) : ∀ (r : List Sp) (j N : Nat) (pre : List Sp) (c : Sp), l.drop j = r → r.length < N → pre.length < j →
    zqbw N k1 (l.length : Int) (j : Int) (pre ++ [c]) l = k1 (pre ++ mergeS c r)
  | [], j, 0, _, _, _, h, _ => absurd h (Nat.not_lt_zero _)
  | _ :: _, j, 0, _, _, _, h, _ => absurd h (Nat.not_lt_zero _)
  | [], j, N + 1, pre, c, hd, h, hp => by
    have : l.length ≤ j := by simpa using hd
    rw [zqbx]
    unfold zqbo
    exact c_neg (by omega)
  | s :: r, j, N + 1, pre, c, hd, h, hp => by
    obtain ⟨hj, hg, hd'⟩ := drop_cons hd ((0 : Int), (0 : Int))
    simp only [List.length_cons] at h
    have ew : IntKind.i64.wrap ((j : Int) + 1) = ((j + 1 : Nat) : Int) := by rw [wr (by omega) (by omega)]; omega
    have hlen : (pre ++ [c]).length = pre.length + 1 := by simp
    have e1 : IntKind.i64.wrap (((pre ++ [c]).length : Int) - 1) = (pre.length : Int) := by rw [wr (by omega) (by omega)]; omega
    have e2 : (pre ++ [c]).getD pre.length ((0 : Int), (0 : Int)) = c := by simp [List.getD]
    rw [zqbx]
    unfold zqbo
    simp only [Int.toNat_natCast, hg, e1, e2, ew]
    refine (c_pos (by omega)).trans ?_
    refine (c_inb (by omega)).trans ?_
    refine (c_pos (by omega)).trans ?_
    refine (c_inb (by omega)).trans ?_
    by_cases hc : s.1 ≤ c.2
    · rw [decide_eq_true hc]
      refine (mp1 _ _ _ _ _ _ _ _ _).trans ?_
      unfold zqbl
      simp only [Int.toNat_natCast, e1, e2, ew]
      refine c_t.trans ?_
      refine (c_inb (by omega)).trans ?_
      refine (c_inb (by omega)).trans ?_
      have em : (if s.2 > c.2 then s.2 else c.2) = max c.2 s.2 := by split <;> omega
      have es : (pre ++ [c]).set pre.length (c.1, max c.2 s.2) = pre ++ [(c.1, max c.2 s.2)] := by
        simp [List.set_append]
      rw [em, es]
      have e3 : mergeS c (s :: r) = mergeS (c.1, max c.2 s.2) r := by
        show (if s.1 ≤ c.2 then mergeS (c.1, max c.2 s.2) r else c :: mergeS s r) = _
        rw [if_pos hc]
      rw [e3]
      exact merge_loop k1 l hl r (j + 1) N pre (c.1, max c.2 s.2) hd' (by omega) (by omega)
    · rw [decide_eq_false hc]
      refine (mp1 _ _ _ _ _ _ _ _ _).trans ?_
      unfold zqbl
      refine c_f.trans ?_
      refine (c_room (by simp; omega)).trans ?_
      simp only [ew]
      have e3 : mergeS c (s :: r) = c :: mergeS s r := by
        show (if s.1 ≤ c.2 then mergeS (c.1, max c.2 s.2) r else c :: mergeS s r) = _
        rw [if_neg hc]
      rw [e3]
      refine (merge_loop k1 l hl r (j + 1) N (pre ++ [c]) s hd' (by omega) (by simp; omega)).trans ?_
      simp

theorem merge_all {β : Type} (k1 : zqbh β) (l : List Sp) (hl : l.length ≤ 100000) : zqby k1 (l.length : Int) 0 [] l = k1 (mergeAll l) := by
  show zqbw fuel k1 (l.length : Int) 0 [] l = _
  obtain ⟨N, hN⟩ : ∃ N, fuel = N + 1 := ⟨18446744073709551615, rfl⟩
  rw [hN, zqbx]
  unfold zqbo
  cases l with
  | nil => exact c_neg (by simp)
  | cons s r =>
    simp only [List.length_cons] at hl
    have hg : (s :: r).getD (Int.toNat 0) ((0 : Int), (0 : Int)) = s := rfl
    simp only [hg]
    refine (c_pos (by simp only [List.length_cons]; omega)).trans ?_
    refine (c_inb (by simp only [List.length_cons]; omega)).trans ?_
    refine (c_neg (by simp)).trans ?_
    refine (mp1 _ _ _ _ _ _ _ _ _).trans ?_
    unfold zqbl
    refine c_f.trans ?_
    refine (c_room (by simp)).trans ?_
    have ew : IntKind.i64.wrap ((0 : Int) + 1) = ((1 : Nat) : Int) := by rw [wr (by omega) (by omega)]; rfl
    simp only [ew]
    have hN2 : (s :: r).length ≤ N := by
      have : fuel = 18446744073709551616 := rfl
      simp only [List.length_cons]; omega
    exact merge_loop k1 (s :: r) (by simp; omega) r 1 N [] s rfl (by simp only [List.length_cons] at hN2; omega) (by simp)

/-- What Merge makes of any spans that lie in a range. -/
theorem merge_eq {l : List Sp} (hl : l.length ≤ 50000) (hr : ∀ s ∈ l, s.1 < s.2 → 0 ≤ s.1 ∧ s.1 ≤ 4611686018427387904) :
    ∃ out, (NFa (-1) out ∧ (∀ x, hasS out x ↔ hasS l x)) ∧ ∀ {β : Type} (k : List Sp → Option β), zqc0 l k = k out := by
  have hgood : ∀ s ∈ neS l, zqb4 s = true := by
    intro s hs
    obtain ⟨h1, h2⟩ := List.mem_filter.1 hs
    obtain ⟨h3, h4⟩ := hr s h1 (of_decide_eq_true h2)
    show (decide (0 ≤ s.1) && decide (s.1 ≤ 4611686018427387904)) = true
    rw [decide_eq_true h3, decide_eq_true h4]; rfl
  obtain ⟨hp, hsd⟩ := sortRun_good (good := zqb4) (d0 := ((0, 0) : Int × Int)) (h0 := rfl) (cf := zqb5) zqb8 hgood
  have hlen : (zqb6 (neS l)).length ≤ l.length := by
    show (sortRun zqb4 ((0, 0) : Int × Int) rfl zqb5 (neS l)).length ≤ _
    rw [hp.length_eq]
    exact List.length_filter_le _ _
  have hpw : (zqb6 (neS l)).Pairwise (fun s t => s.1 ≤ t.1) := by
    rw [List.pairwise_iff_getElem]
    intro i j hi hj hij
    have hj' : j < (neS l).length := by
      have : (zqb6 (neS l)).length = (neS l).length := hp.length_eq
      omega
    have h1 := hsd i j hij hj'
    have e : ∀ q, (hq : q < (zqb6 (neS l)).length) → (sortRun zqb4 ((0, 0) : Int × Int) rfl zqb5 (neS l)).getD q ((0, 0) : Int × Int) = (zqb6 (neS l))[q] := by
      intro q hq
      have hq' : q < (sortRun zqb4 ((0, 0) : Int × Int) rfl zqb5 (neS l)).length := hq
      simp [List.getD, hq']
      rfl
    rw [e i hi, e j hj] at h1
    have h2 : ¬ ((zqb6 (neS l))[j].1 - (zqb6 (neS l))[i].1 < 0) := h1
    omega
  obtain ⟨n1, n2⟩ := norm_ok (l := l) (m := zqb6 (neS l)) (a := -1) hp hpw (fun s hs hlt => by have := hr s hs hlt; omega)
  refine ⟨mergeAll (zqb6 (neS l)), ⟨n2, n1⟩, fun k => ?_⟩
  obtain ⟨d1, d2⟩ := del_run (l := l) (by omega)
  show zqbr zq58 zqby l k = _
  unfold zqbr
  show cond (decide (l.length * 16 ≤ roomMax)) _ none = _
  refine (c_room (by omega)).trans ?_
  show cond (zqar l) _ none = _
  rw [d1]
  refine c_t.trans ?_
  simp only [d2]
  have t1 : ((neS l).all zqb4 && decide ((neS l).length < 4611686018427387904)) = true := by
    have h1 : (neS l).length ≤ l.length := List.length_filter_le _ _
    rw [List.all_eq_true.2 hgood, decide_eq_true (show (neS l).length < 4611686018427387904 by omega)]; rfl
  rw [t1]
  refine c_t.trans ?_
  exact merge_all _ _ (by omega)
end
end Go.Lift

/- The functions of package span in plain Lean: sets and what is made of two of them. -/
namespace Go.Lift
open Go.RowKit Go.IntWalk
noncomputable section
set_option linter.unusedVariables false
set_option linter.unusedSimpArgs false
set_option maxRecDepth 10000

/-! ### Normal -/
def badB (s : Sp) : Bool := decide (s.1 < s.2) && (decide (s.1 < 0) || decide (8589934592 < s.2))
theorem badB_no {s : Sp} (h : badB s = false) : rangeS s := by
  intro hlt
  unfold badB at h
  rw [decide_eq_true hlt, Bool.true_and, Bool.or_eq_false_iff] at h
  have := of_decide_eq_false h.1
  have := of_decide_eq_false h.2
  omega
theorem norm_loop {β : Type} (k1 : zqc4 β) (k2 : zqc5 β) (l : List Sp) (hl : l.length ≤ 4096) : ∀ (r : List Sp) (j N : Nat), l.drop j = r → r.length < N →
    zqcf N k1 k2 l l (l.length : Int) (j : Int) = cond (r.any badB) (k1 1 []) (k2 l)
  | [], j, 0, _, h => absurd h (Nat.not_lt_zero _)
  | _ :: _, j, 0, _, h => absurd h (Nat.not_lt_zero _)
  | [], j, N + 1, hd, h => by
    have : l.length ≤ j := by simpa using hd
    rw [zqcg]
    unfold zqc9
    exact c_neg (by omega)
  | s :: r, j, N + 1, hd, h => by
    obtain ⟨hj, hg, hd'⟩ := drop_cons hd ((0 : Int), (0 : Int))
    simp only [List.length_cons] at h
    have ew : IntKind.i64.wrap ((j : Int) + 1) = ((j + 1 : Nat) : Int) := by rw [wr (by omega) (by omega)]; omega
    have ih := norm_loop k1 k2 l hl r (j + 1) N hd' (by omega)
    rw [zqcg]
    unfold zqc9
    simp only [Int.toNat_natCast, hg, ew]
    refine (c_pos (by omega)).trans ?_
    refine (c_inb (by omega)).trans ?_
    have e : (s :: r).any badB = (badB s || r.any badB) := rfl
    rw [e]
    unfold badB
    by_cases h1 : s.1 < s.2
    · refine (c_pos h1).trans ?_
      rw [decide_eq_true h1, Bool.true_and]
      by_cases h2 : s.1 < 0
      · refine (c_pos h2).trans ?_
        rw [decide_eq_true h2]; rfl
      · refine (c_neg h2).trans ?_
        rw [decide_eq_false h2, Bool.false_or]
        by_cases h3 : 8589934592 < s.2
        · refine (c_pos h3).trans ?_
          rw [decide_eq_true h3]; rfl
        · refine (c_neg h3).trans ?_
          rw [decide_eq_false h3, Bool.false_or]
          exact ih
    · refine (c_neg h1).trans ?_
      rw [decide_eq_false h1, Bool.false_and, Bool.false_or]
      exact ih

theorem normal_s {β : Type} (l : List Sp) (k : Int → List Sp → Option β) : zqcj l k = cond (decide (4096 < l.length)) (k 5 []) (cond (l.any badB) (k 1 []) (zqc0 l (fun r => k 0 r))) := by
  show zqcc zqc0 zqch l k = _
  unfold zqcc
  by_cases h : 4096 < l.length
  · refine (c_pos (by omega)).trans ?_
    exact (c_pos h).symm
  · refine (c_neg (by omega)).trans ?_
    refine Eq.trans ?_ (c_neg h).symm
    have e := norm_loop (fun (t3 : Int) (t2 : List Sp) => k t3 t2) (fun l2 => zqc0 l2 (fun r => k 0 r)) l (by omega) l 0 fuel rfl (lt_fuel (by omega))
    rw [Int.natCast_zero] at e
    exact e

theorem normal_ok {l : List Sp} (hl : l.length ≤ 4096) (hr : ∀ s ∈ l, badB s = false) :
    ∃ out, (NFa (-1) out ∧ (∀ x, hasS out x ↔ hasS l x)) ∧ ∀ {β : Type} (k : Int → List Sp → Option β), zqcj l k = k 0 out := by
  obtain ⟨out, h, hf⟩ := merge_eq (l := l) (by omega) (fun s hs hlt => by have := badB_no (hr s hs) hlt; omega)
  refine ⟨out, h, fun k => ?_⟩
  rw [normal_s, decide_eq_false (by omega)]
  refine c_f.trans ?_
  rw [List.any_eq_false.2 (fun s hs => by rw [hr s hs]; simp)]
  refine c_f.trans ?_
  exact hf _

/-! ### Two lists as one -/
/-! ### What is made of two sets -/
theorem minus_ok {a b : List Sp} (ha : VS a) (hb : VS b) :
    ∃ out, (NFa (-1) out ∧ (∀ x, hasS out x ↔ hasS a x ∧ ¬ hasS b x)) ∧ ∀ {β : Type} (k : Int → List Sp → Option β), zq8y a b k = cond (decide (4096 < out.length)) (k 5 []) (k 0 out) := by
  have la := ha.len
  have lb := hb.len
  obtain ⟨h1, h2⟩ := withoutS_ok hb.nf a (-1) ha.nf
  refine ⟨withoutS a b, ⟨h2, h1⟩, fun k => ?_⟩
  show zq8v zq89 a b k = _
  unfold zq8v
  show zq86 zq1l zq3s a b _ = _
  unfold zq86
  refine (valid_eq a _).trans ?_
  rw [validB_iff.2 ha]
  refine c_f.trans ?_
  refine (valid_eq b _).trans ?_
  rw [validB_iff.2 hb]
  refine c_f.trans ?_
  refine (without_eq (by omega) (by omega) ha.nf (fun t ht => (hb.range t ht).2.1) _).trans ?_
  generalize withoutS a b = out
  have : decide ((4096 : Int) < (out.length : Int)) = decide (4096 < out.length) := by
    by_cases h : 4096 < out.length
    · rw [decide_eq_true h, decide_eq_true (by omega)]
    · rw [decide_eq_false h, decide_eq_false (by omega)]
  rw [← this]

/-! ### Equal lists -/
theorem same_loop {β : Type} (k1 : zqn β) (k2 : zqo β) (l : List Sp) (hl : l.length ≤ 100000) : ∀ (r : List Sp) (j N : Nat), l.drop j = r → r.length < N →
    zqy N k1 k2 l l (l.length : Int) (j : Int) = k2 ()
  | [], j, 0, _, h => absurd h (Nat.not_lt_zero _)
  | _ :: _, j, 0, _, h => absurd h (Nat.not_lt_zero _)
  | [], j, N + 1, hd, h => by
    have : l.length ≤ j := by simpa using hd
    rw [zqz]
    unfold zqs
    exact c_neg (by omega)
  | s :: r, j, N + 1, hd, h => by
    obtain ⟨hj, hg, hd'⟩ := drop_cons hd ((0 : Int), (0 : Int))
    simp only [List.length_cons] at h
    have ew : IntKind.i64.wrap ((j : Int) + 1) = ((j + 1 : Nat) : Int) := by rw [wr (by omega) (by omega)]; omega
    rw [zqz]
    unfold zqs
    simp only [Int.toNat_natCast, hg, ew]
    refine (c_pos (by omega)).trans ?_
    refine (c_inb (by omega)).trans ?_
    refine (c_inb (by omega)).trans ?_
    have hb : (!(decide True && (decide True && true))) = false := rfl
    rw [hb]
    refine c_f.trans ?_
    exact same_loop k1 k2 l hl r (j + 1) N hd' (by omega)

theorem same_eq {a b : List Sp} (hl : a.length ≤ 100000) (h : a = b) {β : Type} (k : Bool → Option β) : zq12 a b k = k true := by
  subst h
  show zqv zq10 a a k = _
  unfold zqv
  refine (c_npos rfl).trans ?_
  have e := same_loop (fun b => k b) (fun _ => k true) a hl a 0 fuel rfl (lt_fuel (by omega))
  rw [Int.natCast_zero] at e
  exact e

/-! ### Sets of small numbers -/
structure S80 (l : List Sp) : Prop where
  nf : NFa (-1) l
  le : ∀ s ∈ l, s.2 ≤ 80
theorem nf_len {M : Int} : ∀ {l : List Sp} {a : Int}, NFa a l → (∀ s ∈ l, s.2 ≤ M) → a ≤ M → 2 * (l.length : Int) ≤ M - a
  | [], a, _, _, h => by simp; omega
  | s :: l, a, ⟨h1, h2, h3⟩, hm, h => by
    have := nf_len h3 (fun t ht => hm t (by simp [ht])) (hm s (by simp))
    simp only [List.length_cons]
    omega
theorem S80.len {l : List Sp} (h : S80 l) : l.length ≤ 40 := by
  have := nf_len h.nf h.le (by omega)
  omega
theorem S80.vs {l : List Sp} (h : S80 l) : VS l := ⟨by have := h.len; omega, h.nf, fun s hs => by have := h.le s hs; omega⟩
theorem S80.lt {l : List Sp} (h : S80 l) {x : Int} (hx : hasS l x) : 0 ≤ x ∧ x < 80 := by
  have := h.nf.lt hx
  obtain ⟨s, hs, h1, h2⟩ := hx
  have := h.le s hs
  omega
theorem S80.of {l : List Sp} (h : NFa (-1) l) (hx : ∀ x, hasS l x → x < 80) : S80 l := ⟨h, below_of_has h hx⟩

/-! ### A set made by the dice -/
theorem set_loop {d : Dice} : ∀ (i N : Nat) (d : Dice) (l : List Sp), i < N → DiceOk d → (∀ s ∈ l, 0 ≤ s.1 ∧ s.1 < s.2 ∧ s.2 ≤ 80) → l.length + i ≤ 100 →
    ∃ d' l', (DiceOk d' ∧ (∀ s ∈ l', 0 ≤ s.1 ∧ s.1 < s.2 ∧ s.2 ≤ 80) ∧ l'.length ≤ l.length + i) ∧ ∀ {β : Type} (k1 : zq8d β), zq8n N k1 (i : Int) d.1 d.2 l = k1 d'.1 d'.2 l'
  | i, 0, _, _, h, _, _, _ => absurd h (Nat.not_lt_zero _)
  | 0, N + 1, d, l, h, hd, hl, hlen => by
    refine ⟨d, l, ⟨hd, hl, by omega⟩, fun k1 => ?_⟩
    rw [zq8o]
    unfold zq8h
    exact c_neg (by omega)
  | i + 1, N + 1, d, l, h, hd, hl, hlen => by
    obtain ⟨x, d1, x0, x1, hd1, f1⟩ := next_ok (n := 60) hd (by omega)
    obtain ⟨y, d2, y0, y1, hd2, f2⟩ := next_ok (n := 9) hd1 (by omega)
    have ew : IntKind.i64.wrap (((i + 1 : Nat) : Int) - 1) = (i : Int) := by rw [wr (by omega) (by omega)]; omega
    have e1 : IntKind.i64.wrap (x + y) = x + y := wr (by omega) (by omega)
    have e2 : IntKind.i64.wrap (x + y - 1) = x + y - 1 := wr (by omega) (by omega)
    have hsp : ∀ {β : Type} (k : Sp → Dice → Option β), zq2h d k = k (x, x + y - 1) d2 := by
      intro β k
      show zq2e zq2a d k = _
      unfold zq2e
      refine (f1 _).trans ?_
      refine (f2 _).trans ?_
      rw [e1, e2]
    by_cases hc : x < x + y - 1
    · obtain ⟨d', l', hq, hf⟩ := set_loop (d := d) i N d2 (l ++ [(x, x + y - 1)]) (by omega) hd2 (by
        intro s hs
        rcases List.mem_append.1 hs with q | q
        · exact hl s q
        · simp only [List.mem_singleton] at q
          rw [q]
          simp only
          omega) (by simp; omega)
      refine ⟨d', l', ⟨hq.1, hq.2.1, by have := hq.2.2; simp at this; omega⟩, fun k1 => ?_⟩
      rw [zq8o]
      unfold zq8h
      refine (c_pos (by omega)).trans ?_
      refine (hsp _).trans ?_
      refine (c_pos hc).trans ?_
      refine (c_room (by simp; omega)).trans ?_
      rw [ew]
      exact hf k1
    · obtain ⟨d', l', hq, hf⟩ := set_loop (d := d) i N d2 l (by omega) hd2 hl (by omega)
      refine ⟨d', l', ⟨hq.1, hq.2.1, by have := hq.2.2; omega⟩, fun k1 => ?_⟩
      rw [zq8o]
      unfold zq8h
      refine (c_pos (by omega)).trans ?_
      refine (hsp _).trans ?_
      refine (c_neg hc).trans ?_
      rw [ew]
      exact hf k1

theorem set_ok {d : Dice} (hd : DiceOk d) : ∃ s d', (S80 s ∧ DiceOk d') ∧ ∀ {β : Type} (k : Dice → List Sp → Option β), zq8r d k = k d' s := by
  obtain ⟨n, d1, n0, n1, hd1, f1⟩ := next_ok (n := 7) hd (by omega)
  obtain ⟨d2, l, ⟨hd2, hl, hlen⟩, f2⟩ := set_loop (d := d) n.toNat fuel d1 [] (lt_fuel (by omega)) hd1 (by simp) (by simp; omega)
  have hn : ((n.toNat : Nat) : Int) = n := Int.toNat_of_nonneg n0
  rw [hn] at f2
  simp only [List.length_nil, Nat.zero_add] at hlen
  obtain ⟨out, ⟨h1, h2⟩, f3⟩ := ref_normal (l := l) (by omega) (fun s hs _ => by have := hl s hs; omega)
  refine ⟨out, d2, ⟨S80.of h1 fun x hx => ?_, hd2⟩, fun k => ?_⟩
  · obtain ⟨s, hs, _, h4⟩ := (h2 x).1 hx
    have := hl s hs
    omega
  · show zq8k zq2a zq82 zq8p d k = _
    unfold zq8k
    refine (f1 _).trans ?_
    refine (f2 _).trans ?_
    exact f3 _

/-! ### The example -/
theorem sane03 {β : Type} (k : Bool → Option β) : zqcq k = k true := by
  obtain ⟨n, ⟨n1, n2⟩, f1⟩ := normal_ok (l := [(5, 9), (1, 3), (3, 4), (7, 6)]) (by simp) (by
    intro s hs
    simp only [List.mem_cons, List.not_mem_nil, or_false] at hs
    rcases hs with rfl | rfl | rfl | rfl <;> rfl)
  have hn : n = [(1, 4), (5, 9)] := by
    refine n1.uniq (b := -1) ⟨by decide, by decide, by decide, by decide, trivial⟩ fun x => ?_
    rw [n2]
    simp only [hasS_cons, hasS_nil, or_false]
    omega
  have v1 : VS [(0, 10)] := ⟨by simp, ⟨by decide, by decide, trivial⟩, by simp⟩
  have v2 : VS [(2, 3), (5, 20)] := ⟨by simp, ⟨by decide, by decide, by decide, by decide, trivial⟩, by simp⟩
  obtain ⟨m, ⟨m1, m2⟩, f2⟩ := minus_ok v1 v2
  have hm : m = [(0, 2), (3, 5)] := by
    refine m1.uniq (b := -1) ⟨by decide, by decide, by decide, by decide, trivial⟩ fun x => ?_
    rw [m2]
    simp only [hasS_cons, hasS_nil, or_false]
    omega
  subst hn hm
  show zqcn zq12 zq6h zq8y zqcj k = _
  unfold zqcn
  refine (f1 _).trans ?_
  refine (f2 _).trans ?_
  refine (c_neg (by simp)).trans ?_
  refine (c_pos rfl).trans ?_
  refine (c_pos rfl).trans ?_
  refine (same_eq (by simp) rfl _).trans ?_
  refine c_t.trans ?_
  refine (same_eq (by simp) rfl _).trans ?_
  refine c_t.trans ?_
  refine (gap_eq _ _ _).trans ?_
  rw [validB_iff.2 v1, if_pos rfl]
  rfl
end
end Go.Lift

/- SpanLaws and SpanForms in plain Lean. -/
namespace Go.Lift
open Go.RowKit Go.IntWalk
noncomputable section
set_option linter.unusedVariables false
set_option linter.unusedSimpArgs false
set_option maxRecDepth 10000

/-! ### SpanForms -/
theorem mod_eq {x n : Int} (hn : 1 ≤ n ∧ n ≤ 4611686018427387904) : ∃ r, (0 ≤ r ∧ r < n) ∧ ∀ {β : Type} (k : Int → Option β), zqj x n k = k r := by
  have h1 := Int.tmod_lt_of_pos x (show 0 < n by omega)
  have h2 : -n < Int.tmod x n := by
    have h5 := Int.tmod_lt_of_pos (-x) (show 0 < n by omega)
    rw [Int.neg_tmod] at h5
    omega
  have hw : IntKind.i64.wrap (Int.tmod x n + n) = Int.tmod x n + n := wr (by omega) (by omega)
  refine ⟨Int.tmod (Int.tmod x n + n) n, ⟨Int.tmod_nonneg _ (by omega), Int.tmod_lt_of_pos _ (by omega)⟩, fun k => ?_⟩
  show zqg x n k = _
  unfold zqg
  rw [hw]
  refine (c_nneg (by omega)).trans ?_
  exact c_nneg (by omega)

end
end Go.Lift

/- SpanNext and SpanPoints in plain Lean. -/
namespace Go.Lift
open Go.RowKit Go.IntWalk
noncomputable section
set_option linter.unusedVariables false
set_option linter.unusedSimpArgs false
set_option maxRecDepth 10000

theorem has80 {l : List Sp} (h : S80 l) (x : Int) {β : Type} (k : Bool → Option β) : zqb0 l x k = k (hasB l x) := by
  refine (has_eq l x k).trans ?_
  rw [validB_iff.2 h.vs, Bool.true_and]

/-! ### SpanNext -/
theorem next_loop {a : List Sp} (ha : S80 a) {x n g : Int} {ok : Bool} (h1 : ∀ j, x ≤ j → hasS a j → ok = true ∧ n ≤ j) (h2 : ∀ j, x ≤ j → ¬ hasS a j → g ≤ j) {β : Type} (k1 : zqcu β) (k2 : zqcv β) :
    ∀ (m N : Nat) (j : Int), m < N → j + m = 80 → x ≤ j → 0 ≤ j → zqd5 N k1 k2 x n ok g j a = k2 x n ok g a
  | m, 0, _, h, _, _, _ => absurd h (Nat.not_lt_zero _)
  | 0, N + 1, j, h, hj, hx, h0 => by
    rw [zqd6]
    unfold zqcz
    exact c_neg (by omega)
  | m + 1, N + 1, j, h, hj, hx, h0 => by
    have ew : IntKind.i64.wrap (j + 1) = j + 1 := wr (by omega) (by omega)
    have ih := next_loop ha h1 h2 k1 k2 m N (j + 1) (by omega) (by omega) (by omega) (by omega)
    rw [zqd6]
    unfold zqcz
    refine (c_pos (by omega)).trans ?_
    refine (has80 ha j _).trans ?_
    cases hb : hasB a j with
    | true =>
      obtain ⟨q1, q2⟩ := h1 j hx (hasB_iff.1 hb)
      refine c_t.trans ?_
      rw [q1]
      refine c_f.trans ?_
      refine (c_neg (by omega)).trans ?_
      refine (has80 ha j _).trans ?_
      rw [hb]
      refine c_f.trans ?_
      rw [ew]
      rw [q1] at ih
      exact ih
    | false =>
      have q := h2 j hx (fun hc => by rw [hasB_iff.2 hc] at hb; cases hb)
      refine c_f.trans ?_
      refine (has80 ha j _).trans ?_
      rw [hb]
      refine c_t.trans ?_
      refine (c_neg (by omega)).trans ?_
      rw [ew]
      exact ih

theorem spanNext (t : List Int) (x : Int) {β : Type} (k : Bool → Option β) : zqd9 t x k = k true := by
  show zqd2 zqcq zq8r zq5 zqj zqc zq5y zq6h zqb0 zqd7 t x k = _
  unfold zqd2
  refine (light_eq _ _).trans ?_
  by_cases hl : (t.length : Int) ≤ 500
  · refine (c_npos hl).trans ?_
    refine (roll_eq _ _).trans ?_
    obtain ⟨a, d1, ⟨ha, hd1⟩, f1⟩ := set_ok (roll_ok hl)
    obtain ⟨y, ⟨y0, y1⟩, f2⟩ := mod_eq (x := x) (n := 80) (by omega)
    refine (f1 _).trans ?_
    refine (f2 _).trans ?_
    refine (first_eq _ _ _).trans ?_
    rw [validB_iff.2 ha.vs, if_pos rfl]
    obtain ⟨fo1, fo2⟩ := firstS_ok (x := y) ha.nf
    obtain ⟨go1, go2, go3⟩ := gapS_ok (x := y) ha.nf
    have hgb : hasB a (gapS y a) = false := by
      cases hb : hasB a (gapS y a) with
      | false => rfl
      | true => exact absurd (hasB_iff.1 hb) go2
    have hgap : ∀ {β : Type} (k : Int → Option β), zq6h a y k = k (gapS y a) := fun k => by
      refine (gap_eq _ _ _).trans ?_
      rw [validB_iff.2 ha.vs, if_pos rfl]
    have h2 : ∀ j, y ≤ j → ¬ hasS a j → gapS y a ≤ j := fun j hj hn => Int.le_of_not_gt fun hlt => hn (go3 j hj hlt)
    cases hf : firstS y a with
    | none =>
      refine (hgap _).trans ?_
      have e := next_loop ha (x := y) (n := 0) (g := gapS y a) (ok := false) (fun j hj hh => by
        obtain ⟨n, hn, _⟩ := fo2 j hj hh
        rw [hf] at hn; cases hn) h2 (fun t4 => k t4) (fun (x2 : Int) (n : Int) (ok : Bool) (g : Int) (a : List Sp) =>
          cond (!ok) (cond (decide (x2 ≤ g)) (zqb0 a g (fun r => cond (!r) (zqcq (fun r => k r)) (k false))) (k false))
            (cond (decide (x2 ≤ n)) (zqb0 a n (fun r => cond r (cond (decide (x2 ≤ g)) (zqb0 a g (fun r => cond (!r) (zqcq (fun r => k r)) (k false))) (k false)) (k false))) (k false))) (80 - y).toNat fuel y (lt_fuel (by omega)) (by omega) (Int.le_refl _) y0
      refine Eq.trans e ?_
      refine c_t.trans ?_
      refine (c_pos go1).trans ?_
      refine (has80 ha _ _).trans ?_
      rw [hgb]
      refine c_t.trans ?_
      exact sane03 _
    | some n =>
      obtain ⟨q1, q2⟩ := fo1 n hf
      refine (hgap _).trans ?_
      have e := next_loop ha (x := y) (n := n) (g := gapS y a) (ok := true) (fun j hj hh => by
        obtain ⟨n', hn, hle⟩ := fo2 j hj hh
        rw [hf] at hn; cases hn
        exact ⟨rfl, hle⟩) h2 (fun t4 => k t4) (fun (x2 : Int) (n : Int) (ok : Bool) (g : Int) (a : List Sp) =>
          cond (!ok) (cond (decide (x2 ≤ g)) (zqb0 a g (fun r => cond (!r) (zqcq (fun r => k r)) (k false))) (k false))
            (cond (decide (x2 ≤ n)) (zqb0 a n (fun r => cond r (cond (decide (x2 ≤ g)) (zqb0 a g (fun r => cond (!r) (zqcq (fun r => k r)) (k false))) (k false)) (k false))) (k false))) (80 - y).toNat fuel y (lt_fuel (by omega)) (by omega) (Int.le_refl _) y0
      refine Eq.trans e ?_
      refine c_f.trans ?_
      refine (c_pos q1).trans ?_
      refine (has80 ha _ _).trans ?_
      rw [hasB_iff.2 q2]
      refine c_t.trans ?_
      refine (c_pos go1).trans ?_
      refine (has80 ha _ _).trans ?_
      rw [hgb]
      refine c_t.trans ?_
      exact sane03 _
  · refine (c_nneg hl).trans ?_
    exact sane03 _

/-! ### SpanPoints -/
end
end Go.Lift

