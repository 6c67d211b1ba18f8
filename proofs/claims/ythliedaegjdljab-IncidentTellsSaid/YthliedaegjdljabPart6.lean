/- Part6: Fn0. -/
import Derived.Test.YthliedaegjdljabProg
import Derived.Test.YthliedaegjdljabPart5
namespace Go.Lift
open Go.Proofs
noncomputable section
set_option maxRecDepth 100000
set_option linter.unusedVariables false

abbrev zq0 := (List UInt8 × (Int × (Int × Int)))
abbrev zq1 : Ty := (.prod .str (.prod (.int .i64) (.prod (.int .i64) (.int .i64))))
abbrev zq2 := (Int × (Int × (List UInt8 × List Int)))
abbrev zq3 : Ty := (.prod (.int .i64) (.prod (.int .i64) (.prod .str (.slice (.int .i64)))))
abbrev zq4 := (Int × (Int × (Int × (Int × (List UInt8 × ((Int × (Int × Int)) × (List Int × (List zq0 × (List zq2 × (List Int × (List (Int × (Int × Int)) × Int)))))))))))
abbrev zq5 : Ty := (.prod (.int .i64) (.prod (.int .i64) (.prod (.int .i64) (.prod (.int .i64) (.prod .str (.prod (.prod (.int .i64) (.prod (.int .i64) (.int .i64))) (.prod (.slice (.int .i64)) (.prod (.slice zq1) (.prod (.slice zq3) (.prod (.slice (.int .i64)) (.prod (.slice (.prod (.int .i64) (.prod (.int .i64) (.int .i64)))) (.int .i64))))))))))))

def tab : List (Nat × TI) := [
  (3, ⟨false, 1, 8, [.int .i64 (0 : Int)], [], none, none, (some (.int .i64)), (some .i64), false, false, none, none⟩),
  (4, ⟨false, 1, 1, [.bool false], [], none, none, (some .bool), none, true, false, none, none⟩),
  (5, ⟨false, 1, 1, [.int .u8 (0 : Int)], [], none, none, (some (.int .u8)), (some .u8), false, false, none, none⟩),
  (9, ⟨false, 1, 16, [.str ([] : List UInt8)], [], none, none, (some .str), none, false, true, none, none⟩),
  (22, ⟨false, 1, 24, [.nils], [], (some 3), none, (some (.slice (.int .i64))), none, false, false, none, none⟩),
  (27, ⟨true, 3, 24, [.int .i64 (0 : Int), .int .i64 (0 : Int), .int .i64 (0 : Int)], [], (some 3), (some 3), (some (.prod (.int .i64) (.prod (.int .i64) (.int .i64)))), none, false, false, (some [.i, .i, .i]), none⟩),
  (28, ⟨false, 1, 24, [.nils], [], (some 69), none, (some (.slice zq1)), none, false, false, none, none⟩),
  (29, ⟨false, 1, 24, [.nils], [], (some 42), none, (some (.slice zq3)), none, false, false, none, none⟩),
  (30, ⟨false, 1, 24, [.nils], [], (some 64), none, (some (.slice (.prod (.int .i64) (.prod (.int .i64) (.int .i64))))), none, false, false, none, none⟩),
  (32, ⟨true, 14, 200, [.int .i64 (0 : Int), .int .i64 (0 : Int), .int .i64 (0 : Int), .int .i64 (0 : Int), .str ([] : List UInt8), .int .i64 (0 : Int), .int .i64 (0 : Int), .int .i64 (0 : Int), .nils, .nils, .nils, .nils, .nils, .int .i64 (0 : Int)], [(0, 1, false), (1, 1, false), (2, 1, false), (3, 1, false), (4, 1, false), (5, 3, true), (8, 1, false), (9, 1, false), (10, 1, false), (11, 1, false), (12, 1, false), (13, 1, false)], none, none, (some zq5), none, false, false, none, none⟩),
  (42, ⟨true, 4, 56, [.int .i64 (0 : Int), .int .i64 (0 : Int), .str ([] : List UInt8), .nils], [(0, 1, false), (1, 1, false), (2, 1, false), (3, 1, false)], none, none, (some zq3), none, false, false, none, none⟩),
  (48, ⟨true, 2, 32, [.nils, .int .i64 (0 : Int)], [(0, 1, false), (1, 1, false)], none, none, (some (.prod (.slice (.int .i64)) (.int .i64))), none, false, false, none, none⟩),
  (64, ⟨true, 3, 24, [.int .i64 (0 : Int), .int .i64 (0 : Int), .int .i64 (0 : Int)], [(0, 1, false), (1, 1, false), (2, 1, false)], none, none, (some (.prod (.int .i64) (.prod (.int .i64) (.int .i64)))), none, false, false, (some [.i, .i, .i]), none⟩),
  (69, ⟨true, 4, 40, [.str ([] : List UInt8), .int .i64 (0 : Int), .int .i64 (0 : Int), .int .i64 (0 : Int)], [(0, 1, false), (1, 1, false), (2, 1, false), (3, 1, false)], none, none, (some zq1), none, false, false, (some [.s, .i, .i, .i]), none⟩),
  (77, ⟨true, 5, 120, [.nils, .nils, .nils, .nils, .nils], [], (some 22), (some 5), (some (.prod (.slice (.int .i64)) (.prod (.slice (.int .i64)) (.prod (.slice (.int .i64)) (.prod (.slice (.int .i64)) (.slice (.int .i64))))))), none, false, false, none, none⟩)]

theorem tab_ok : TOk Try.prog (look tab) := TOk_of (by kernel_rfl)
theorem mixed : Try.prog.follows .mixedOrders = true := by kernel_rfl

/-- pagewatch/pagewatchmade.Light -/
abbrev zq6 := {β : Type} → (List Int) → (Bool → Option β) → Option β
def zq7 (c : zq6) : Spec :=
  ⟨[(false, [.data (.slice (.int .i64))])], [], [(false, [.data .bool])], [], fun x k => c x.1.1.1 (fun r0 => k (((r0, ()), ()), ()))⟩
section
@[reducible] def made_Light_X : Ctx := ⟨look tab, pick1 [], false, false, false, false, false⟩
def zq8 {β : Type} (l : List Int) (k : (Bool → Option β)) : Option β :=
  let t : Bool := (decide ((List.length l : Int) ≤ (500 : Int)));
  k t
theorem zq9 (hΓ : ΓOk Try.prog made_Light_X.Γ) : SpecOk Try.prog 4 (zq7 (zq8)) :=
  spec_exec (X := made_Light_X) (Λ := pick1 []) (rs := [.tmp 2]) (c := bodyOf Try.f4) mixed tab_ok hΓ Try.func4 (by kernel_rfl) (by kernel_rfl) (by kernel_rfl) (by kernel_rfl) CutsOk_nil (fun x k r h => Eq.trans (b := (zq7 (zq8)).run x k) (by kernel_rfl) h)
end
theorem zqaΓ : ΓOk Try.prog (pick1 []) := ΓOk_nil
def zqb : zq6 := zq8
theorem zqc : SpecOk Try.prog 4 (zq7 zqb) := zq9 zqaΓ

/-- pagewatch/pagewatchmade.Roll -/
abbrev zqd := {β : Type} → (List Int) → ((List Int × Int) → Option β) → Option β
def zqe (c : zqd) : Spec :=
  ⟨[(false, [.data (.slice (.int .i64))])], [], [(false, [.ptr 0 0])], [.cells 48 [.data (.prod (.slice (.int .i64)) (.int .i64))]], fun x k => c x.1.1.1 (fun r0 => k (((), ()), ((r0, ()), ())))⟩
section
@[reducible] def made_Roll_X : Ctx := ⟨look tab, pick1 [], false, false, false, false, false⟩
def zqf {β : Type} (l : List Int) (k : ((List Int × Int) → Option β)) : Option β :=
  k (l, (0 : Int))
theorem zqg (hΓ : ΓOk Try.prog made_Roll_X.Γ) : SpecOk Try.prog 6 (zqe (zqf)) :=
  spec_exec (X := made_Roll_X) (Λ := pick1 []) (rs := [.tmp 2]) (c := bodyOf Try.f6) mixed tab_ok hΓ Try.func6 (by kernel_rfl) (by kernel_rfl) (by kernel_rfl) (by kernel_rfl) CutsOk_nil (fun x k r h => Eq.trans (b := (zqe (zqf)).run x k) (by kernel_rfl) h)
end
theorem zqhΓ : ΓOk Try.prog (pick1 []) := ΓOk_nil
def zqi : zqd := zqf
theorem zqj : SpecOk Try.prog 6 (zqe zqi) := zqg zqhΓ

/-- pagewatch/pagewatchref25.Has -/
abbrev zqk := {β : Type} → (List Int) → Int → (Bool → Option β) → Option β
def zql (c : zqk) : Spec :=
  ⟨[(false, [.data (.slice (.int .i64))]), (false, [.data (.int .i64)])], [], [(false, [.data .bool])], [], fun x k => c x.1.1.1 x.1.2.1.1 (fun r0 => k (((r0, ()), ()), ()))⟩
noncomputable def ref25_Has_p1_code : Code := codeAt 26 (bodyOf Try.f9)
abbrev zqm (β : Type) := Bool → Option β
abbrev zqn (β : Type) := Unit → Option β
abbrev zqo := {β : Type} → zqm β → zqn β → (List Int) → Int → Int → Option β
def zqp : View := ⟨0, [0, 1, 5], [(false, [.data (.slice (.int .i64))]), (false, [.data (.int .i64)]), (false, [.data (.int .i64)])], []⟩
def zqq : List (AExit × View) := [(.ret, ⟨0, [4], [(false, [.data .bool])], []⟩), (.exit 0, ⟨0, [], [], []⟩)]
@[reducible] def ref25_Has_p1_G (p : zqo) {β : Type} (d : zqp.den) (ks : Outs.K β zqq) : Option β :=
  p (fun a0 => ks.1 (((a0, ()), ()), ())) (fun _ => ks.2.1 ((), ())) d.1.1.1 d.1.2.1.1 d.1.2.2.1.1
section
@[reducible] def ref25_Has_X : Ctx := ⟨look tab, pick1 [], false, false, false, false, false⟩
def zqr {β : Type} (rec : (List Int) → Int → Int → Option β) (k1 : zqm β) (k2 : zqn β) (l : List Int) (x : Int) (i_ : Int) : Option β :=
  cond (decide (i_ < (List.length l : Int)))
  (cond (decide (0 ≤ i_) && decide (i_ < (List.length l : Int)))
  (let e : Int := List.getD l (Int.toNat i_) (0 : Int);
  cond (decide (e = x))
  (k1 true)
  (let i_2 : Int := (IntKind.i64.wrap (i_ + (1 : Int)));
  rec l x i_2))
  none)
  (k2 ())
def zqs {β : Type} : Nat → zqm β → zqn β → (List Int) → Int → Int → Option β
  | 0 => fun _ _ _ _ _ => none
  | i + 1 => fun k1 k2 l x i_ => zqr (zqs i k1 k2) k1 k2 l x i_
theorem zqt (hΓ : ΓOk Try.prog ref25_Has_X.Γ) (i : Nat) : PieceOk Try.prog 18 0 ref25_Has_p1_code zqp zqq (ref25_Has_p1_G (zqs i)) := by
  rw [show ref25_Has_p1_code = .loop (loopBody ref25_Has_p1_code) by kernel_rfl]
  exact piece_loop (X := ref25_Has_X) (p := 1) (Λ := pick1 []) (G := fun i => @fun β d ks => ref25_Has_p1_G (zqs i) d ks) mixed tab_ok hΓ rfl (by kernel_rfl) CutsOk_nil (fun _ _ => rfl) (fun i => @fun β d ks r h => Eq.trans (b := ref25_Has_p1_G (zqs (i + 1)) d ks) (by kernel_rfl) h) i
def zqu (p1 : zqo) {β : Type} (l : List Int) (x : Int) (k : (Bool → Option β)) : Option β :=
  p1 (fun (t4 : Bool) =>
  k t4) (fun (_ : Unit) =>
  k false) l x (0 : Int)
theorem zqv (hΓ : ΓOk Try.prog ref25_Has_X.Γ) (p1 : zqo) (hp1 : PieceOk Try.prog 18 0 ref25_Has_p1_code zqp zqq (ref25_Has_p1_G p1)) : SpecOk Try.prog 9 (zql (zqu p1)) :=
  spec_exec (X := ref25_Has_X) (Λ := pick1 [(26, pieceCut zqp zqq (ref25_Has_p1_G p1))]) (rs := [.tmp 4]) (c := bodyOf Try.f9) mixed tab_ok hΓ Try.func9 (by kernel_rfl) (by kernel_rfl) (by kernel_rfl) (by kernel_rfl) (CutsOk_cons (q := 26) (c' := ref25_Has_p1_code) (by kernel_rfl) rfl hp1 CutsOk_nil) (fun x k r h => Eq.trans (b := (zql (zqu p1)).run x k) (by kernel_rfl) h)
end
theorem zqwΓ : ΓOk Try.prog (pick1 []) := ΓOk_nil
def zqx (m : Nat) : zqo := zqs m
theorem zqy {β : Type} (i : Nat) (k1 k2 l x i_) : (zqx (i + 1) k1 k2 l x i_ : Option β) = zqr (zqx i k1 k2) k1 k2 l x i_ := rfl
def zqz : zqo := zqx fuel
theorem zq10 : PieceOk Try.prog 18 0 ref25_Has_p1_code zqp zqq (ref25_Has_p1_G zqz) := zqt zqwΓ fuel
def zq11 : zqk := zqu zqz
theorem zq12 : SpecOk Try.prog 9 (zql zq11) := zqv zqwΓ zqz zq10

/-- pagewatch/pagewatchref25.Set -/
abbrev zq13 := {β : Type} → (List Int) → Int → (Bool → Option β) → Option β
def zq14 (c : zq13) : Spec :=
  ⟨[(false, [.data (.slice (.int .i64))]), (false, [.data (.int .i64)])], [], [(false, [.data .bool])], [], fun x k => c x.1.1.1 x.1.2.1.1 (fun r0 => k (((r0, ()), ()), ()))⟩
noncomputable def ref25_Set_p1_code : Code := codeAt 26 (bodyOf Try.f11)
abbrev zq15 (β : Type) := Bool → Option β
abbrev zq16 (β : Type) := Unit → Option β
abbrev zq17 := {β : Type} → zq15 β → zq16 β → (List Int) → Int → Int → Option β
def zq18 : View := ⟨0, [0, 1, 5], [(false, [.data (.slice (.int .i64))]), (false, [.data (.int .i64)]), (false, [.data (.int .i64)])], []⟩
def zq19 : List (AExit × View) := [(.ret, ⟨0, [4], [(false, [.data .bool])], []⟩), (.exit 0, ⟨0, [], [], []⟩)]
@[reducible] def ref25_Set_p1_G (p : zq17) {β : Type} (d : zq18.den) (ks : Outs.K β zq19) : Option β :=
  p (fun a0 => ks.1 (((a0, ()), ()), ())) (fun _ => ks.2.1 ((), ())) d.1.1.1 d.1.2.1.1 d.1.2.2.1.1
section
@[reducible] def ref25_Set_X : Ctx := ⟨look tab, pick1 [], false, false, false, false, false⟩
def zq1a {β : Type} (rec : (List Int) → Int → Int → Option β) (k1 : zq15 β) (k2 : zq16 β) (l : List Int) (n : Int) (i_ : Int) : Option β :=
  cond (decide (i_ < (List.length l : Int)))
  (cond (decide (0 ≤ i_) && decide (i_ < (List.length l : Int)))
  (let e : Int := List.getD l (Int.toNat i_) (0 : Int);
  cond (decide (e < (0 : Int)))
  (k1 false)
  (cond (decide (0 ≤ i_) && decide (i_ < (List.length l : Int)))
  (let e2 : Int := List.getD l (Int.toNat i_) (0 : Int);
  cond (decide (n ≤ e2))
  (k1 false)
  (cond (decide ((0 : Int) < i_))
  (cond (decide (0 ≤ (IntKind.i64.wrap (i_ - (1 : Int)))) && decide ((IntKind.i64.wrap (i_ - (1 : Int))) < (List.length l : Int)))
  (let e3 : Int := List.getD l (Int.toNat (IntKind.i64.wrap (i_ - (1 : Int)))) (0 : Int);
  cond (decide (0 ≤ i_) && decide (i_ < (List.length l : Int)))
  (let e4 : Int := List.getD l (Int.toNat i_) (0 : Int);
  cond (decide (e4 ≤ e3))
  (k1 false)
  (let i_2 : Int := (IntKind.i64.wrap (i_ + (1 : Int)));
  rec l n i_2))
  none)
  none)
  (let i_2 : Int := (IntKind.i64.wrap (i_ + (1 : Int)));
  rec l n i_2)))
  none))
  none)
  (k2 ())
def zq1b {β : Type} : Nat → zq15 β → zq16 β → (List Int) → Int → Int → Option β
  | 0 => fun _ _ _ _ _ => none
  | i + 1 => fun k1 k2 l n i_ => zq1a (zq1b i k1 k2) k1 k2 l n i_
theorem zq1c (hΓ : ΓOk Try.prog ref25_Set_X.Γ) (i : Nat) : PieceOk Try.prog 41 0 ref25_Set_p1_code zq18 zq19 (ref25_Set_p1_G (zq1b i)) := by
  rw [show ref25_Set_p1_code = .loop (loopBody ref25_Set_p1_code) by kernel_rfl]
  exact piece_loop (X := ref25_Set_X) (p := 1) (Λ := pick1 []) (G := fun i => @fun β d ks => ref25_Set_p1_G (zq1b i) d ks) mixed tab_ok hΓ rfl (by kernel_rfl) CutsOk_nil (fun _ _ => rfl) (fun i => @fun β d ks r h => Eq.trans (b := ref25_Set_p1_G (zq1b (i + 1)) d ks) (by kernel_rfl) h) i
def zq1d (p1 : zq17) {β : Type} (l : List Int) (n : Int) (k : (Bool → Option β)) : Option β :=
  p1 (fun (t4 : Bool) =>
  k t4) (fun (_ : Unit) =>
  k true) l n (0 : Int)
theorem zq1e (hΓ : ΓOk Try.prog ref25_Set_X.Γ) (p1 : zq17) (hp1 : PieceOk Try.prog 41 0 ref25_Set_p1_code zq18 zq19 (ref25_Set_p1_G p1)) : SpecOk Try.prog 11 (zq14 (zq1d p1)) :=
  spec_exec (X := ref25_Set_X) (Λ := pick1 [(26, pieceCut zq18 zq19 (ref25_Set_p1_G p1))]) (rs := [.tmp 4]) (c := bodyOf Try.f11) mixed tab_ok hΓ Try.func11 (by kernel_rfl) (by kernel_rfl) (by kernel_rfl) (by kernel_rfl) (CutsOk_cons (q := 26) (c' := ref25_Set_p1_code) (by kernel_rfl) rfl hp1 CutsOk_nil) (fun x k r h => Eq.trans (b := (zq14 (zq1d p1)).run x k) (by kernel_rfl) h)
end
theorem zq1fΓ : ΓOk Try.prog (pick1 []) := ΓOk_nil
def zq1g (m : Nat) : zq17 := zq1b m
theorem zq1h {β : Type} (i : Nat) (k1 k2 l n i_) : (zq1g (i + 1) k1 k2 l n i_ : Option β) = zq1a (zq1g i k1 k2) k1 k2 l n i_ := rfl
def zq1i : zq17 := zq1g fuel
theorem zq1j : PieceOk Try.prog 41 0 ref25_Set_p1_code zq18 zq19 (ref25_Set_p1_G zq1i) := zq1c zq1fΓ fuel
def zq1k : zq13 := zq1d zq1i
theorem zq1l : SpecOk Try.prog 11 (zq14 zq1k) := zq1e zq1fΓ zq1i zq1j

/-- pagewatch/pagewatchref25.Same -/
abbrev zq1m := {β : Type} → (List Int) → (List Int) → (Bool → Option β) → Option β
def zq1n (c : zq1m) : Spec :=
  ⟨[(false, [.data (.slice (.int .i64))]), (false, [.data (.slice (.int .i64))])], [], [(false, [.data .bool])], [], fun x k => c x.1.1.1 x.1.2.1.1 (fun r0 => k (((r0, ()), ()), ()))⟩
noncomputable def ref25_Same_p1_code : Code := codeAt 58 (bodyOf Try.f12)
abbrev zq1o (β : Type) := Bool → Option β
abbrev zq1p (β : Type) := Unit → Option β
abbrev zq1q := {β : Type} → zq1o β → zq1p β → (List Int) → (List Int) → Int → Option β
def zq1r : View := ⟨0, [0, 1, 5], [(false, [.data (.slice (.int .i64))]), (false, [.data (.slice (.int .i64))]), (false, [.data (.int .i64)])], []⟩
def zq1s : List (AExit × View) := [(.ret, ⟨0, [4], [(false, [.data .bool])], []⟩), (.exit 0, ⟨0, [], [], []⟩)]
@[reducible] def ref25_Same_p1_G (p : zq1q) {β : Type} (d : zq1r.den) (ks : Outs.K β zq1s) : Option β :=
  p (fun a0 => ks.1 (((a0, ()), ()), ())) (fun _ => ks.2.1 ((), ())) d.1.1.1 d.1.2.1.1 d.1.2.2.1.1
section
@[reducible] def ref25_Same_X : Ctx := ⟨look tab, pick1 [], false, false, false, false, false⟩
def zq1t {β : Type} (rec : (List Int) → (List Int) → Int → Option β) (k1 : zq1o β) (k2 : zq1p β) (a : List Int) (b : List Int) (i_ : Int) : Option β :=
  cond (decide (i_ < (List.length a : Int)))
  (cond (decide (0 ≤ i_) && decide (i_ < (List.length a : Int)))
  (let e : Int := List.getD a (Int.toNat i_) (0 : Int);
  cond (decide (0 ≤ i_) && decide (i_ < (List.length b : Int)))
  (let e2 : Int := List.getD b (Int.toNat i_) (0 : Int);
  cond (!decide (e = e2))
  (k1 false)
  (let i_2 : Int := (IntKind.i64.wrap (i_ + (1 : Int)));
  rec a b i_2))
  none)
  none)
  (k2 ())
def zq1u {β : Type} : Nat → zq1o β → zq1p β → (List Int) → (List Int) → Int → Option β
  | 0 => fun _ _ _ _ _ => none
  | i + 1 => fun k1 k2 a b i_ => zq1t (zq1u i k1 k2) k1 k2 a b i_
theorem zq1v (hΓ : ΓOk Try.prog ref25_Same_X.Γ) (i : Nat) : PieceOk Try.prog 26 0 ref25_Same_p1_code zq1r zq1s (ref25_Same_p1_G (zq1u i)) := by
  rw [show ref25_Same_p1_code = .loop (loopBody ref25_Same_p1_code) by kernel_rfl]
  exact piece_loop (X := ref25_Same_X) (p := 1) (Λ := pick1 []) (G := fun i => @fun β d ks => ref25_Same_p1_G (zq1u i) d ks) mixed tab_ok hΓ rfl (by kernel_rfl) CutsOk_nil (fun _ _ => rfl) (fun i => @fun β d ks r h => Eq.trans (b := ref25_Same_p1_G (zq1u (i + 1)) d ks) (by kernel_rfl) h) i
def zq1w (p1 : zq1q) {β : Type} (a : List Int) (b : List Int) (k : (Bool → Option β)) : Option β :=
  cond (!decide ((List.length a : Int) = (List.length b : Int)))
  (k false)
  (p1 (fun (t4 : Bool) =>
  k t4) (fun (_ : Unit) =>
  k true) a b (0 : Int))
theorem zq1x (hΓ : ΓOk Try.prog ref25_Same_X.Γ) (p1 : zq1q) (hp1 : PieceOk Try.prog 26 0 ref25_Same_p1_code zq1r zq1s (ref25_Same_p1_G p1)) : SpecOk Try.prog 12 (zq1n (zq1w p1)) :=
  spec_exec (X := ref25_Same_X) (Λ := pick1 [(58, pieceCut zq1r zq1s (ref25_Same_p1_G p1))]) (rs := [.tmp 4]) (c := bodyOf Try.f12) mixed tab_ok hΓ Try.func12 (by kernel_rfl) (by kernel_rfl) (by kernel_rfl) (by kernel_rfl) (CutsOk_cons (q := 58) (c' := ref25_Same_p1_code) (by kernel_rfl) rfl hp1 CutsOk_nil) (fun x k r h => Eq.trans (b := (zq1n (zq1w p1)).run x k) (by kernel_rfl) h)
end
theorem zq1yΓ : ΓOk Try.prog (pick1 []) := ΓOk_nil
def zq1z (m : Nat) : zq1q := zq1u m
theorem zq20 {β : Type} (i : Nat) (k1 k2 a b i_) : (zq1z (i + 1) k1 k2 a b i_ : Option β) = zq1t (zq1z i k1 k2) k1 k2 a b i_ := rfl
def zq21 : zq1q := zq1z fuel
theorem zq22 : PieceOk Try.prog 26 0 ref25_Same_p1_code zq1r zq1s (ref25_Same_p1_G zq21) := zq1v zq1yΓ fuel
def zq23 : zq1m := zq1w zq21
theorem zq24 : SpecOk Try.prog 12 (zq1n zq23) := zq1x zq1yΓ zq21 zq22

/-- (*pagewatch/pagewatchmade.Dice).Next -/
abbrev zq25 := {β : Type} → Int → (List Int × Int) → (Int → (List Int × Int) → Option β) → Option β
def zq26 (c : zq25) : Spec :=
  ⟨[(false, [.ptr 0 0]), (false, [.data (.int .i64)])], [.cells 48 [.data (.prod (.slice (.int .i64)) (.int .i64))]], [(false, [.data (.int .i64)])], [.cells 48 [.data (.prod (.slice (.int .i64)) (.int .i64))]], fun x k => c x.1.2.1.1 x.2.1.1 (fun r0 r1 => k (((r0, ()), ()), ((r1, ()), ())))⟩
section
@[reducible] def made_Dice_Next_X : Ctx := ⟨look tab, pick1 [], false, false, false, false, false⟩
def zq27 {β : Type} (n : Int) (d : (List Int × Int)) (k : (Int → (List Int × Int) → Option β)) : Option β :=
  cond (decide ((List.length d.1 : Int) ≤ d.2))
  (k (0 : Int) d)
  (cond (decide (n < (1 : Int)))
  (k (0 : Int) d)
  (cond (decide (0 ≤ d.2) && decide (d.2 < (List.length d.1 : Int)))
  (let e : Int := List.getD d.1 (Int.toNat d.2) (0 : Int);
  cond (!decide (n = 0))
  (cond (decide ((Int.tmod e n) < (0 : Int)))
  (let x : Int := (IntKind.i64.wrap ((Int.tmod e n) + n));
  k x (d.1, (IntKind.i64.wrap (d.2 + (1 : Int)))))
  (k (Int.tmod e n) (d.1, (IntKind.i64.wrap (d.2 + (1 : Int))))))
  none)
  none))
theorem zq28 (hΓ : ΓOk Try.prog made_Dice_Next_X.Γ) : SpecOk Try.prog 19 (zq26 (zq27)) :=
  spec_exec (X := made_Dice_Next_X) (Λ := pick1 []) (rs := [.tmp 4]) (c := bodyOf Try.f19) mixed tab_ok hΓ Try.func19 (by kernel_rfl) (by kernel_rfl) (by kernel_rfl) (by kernel_rfl) CutsOk_nil (fun x k r h => Eq.trans (b := (zq26 (zq27)).run x k) (by kernel_rfl) h)
end
theorem zq29Γ : ΓOk Try.prog (pick1 []) := ΓOk_nil
def zq2a : zq25 := zq27
theorem zq2b : SpecOk Try.prog 19 (zq26 zq2a) := zq28 zq29Γ

/-- pagewatch/incident.in -/
abbrev zq2c := {β : Type} → Int → Int → Int → (Bool → Option β) → Option β
def zq2d (c : zq2c) : Spec :=
  ⟨[(false, [.data (.int .i64)]), (false, [.data (.int .i64)]), (false, [.data (.int .i64)])], [], [(false, [.data .bool])], [], fun x k => c x.1.1.1 x.1.2.1.1 x.1.2.2.1.1 (fun r0 => k (((r0, ()), ()), ()))⟩
section
@[reducible] def incident_in_X : Ctx := ⟨look tab, pick1 [], false, false, false, false, false⟩
def zq2e {β : Type} (n : Int) (low : Int) (high : Int) (k : (Bool → Option β)) : Option β :=
  cond (decide (low ≤ n))
  (k (decide (n ≤ high)))
  (k false)
theorem zq2f (hΓ : ΓOk Try.prog incident_in_X.Γ) : SpecOk Try.prog 28 (zq2d (zq2e)) :=
  spec_exec (X := incident_in_X) (Λ := pick1 []) (rs := [.tmp 6]) (c := bodyOf Try.f28) mixed tab_ok hΓ Try.func28 (by kernel_rfl) (by kernel_rfl) (by kernel_rfl) (by kernel_rfl) CutsOk_nil (fun x k r h => Eq.trans (b := (zq2d (zq2e)).run x k) (by kernel_rfl) h)
end
theorem zq2gΓ : ΓOk Try.prog (pick1 []) := ΓOk_nil
def zq2h : zq2c := zq2e
theorem zq2i : SpecOk Try.prog 28 (zq2d zq2h) := zq2f zq2gΓ

/-- pagewatch/incident.latest -/
abbrev zq2j := {β : Type} → zq4 → (Int → Option β) → Option β
def zq2k (c : zq2j) : Spec :=
  ⟨[(true, [.data zq5])], [], [(false, [.data (.int .i64)])], [], fun x k => c x.1.1.1 (fun r0 => k (((r0, ()), ()), ()))⟩
noncomputable def incident_latest_p1_code : Code := codeAt 58 (bodyOf Try.f29)
noncomputable def incident_latest_p2_code : Code := codeAt 122 (bodyOf Try.f29)
abbrev zq2l (β : Type) := Int → Int → Int → Int → Int → (List UInt8) → Int → Int → Int → (List Int) → (List zq0) → (List zq2) → (List Int) → (List (Int × (Int × Int))) → Int → Option β
abbrev zq2m := {β : Type} → zq2l β → Int → (List zq2) → Int → Int → Int → Int → Int → Int → (List UInt8) → Int → Int → Int → (List Int) → (List zq0) → (List zq2) → (List Int) → (List (Int × (Int × Int))) → Int → Option β
def zq2n : View := ⟨0, [1, 3, 11, 12, 13], [(false, [.ptr 0 0]), (false, [.data (.int .i64)]), (false, [.data (.slice zq3)]), (false, [.data (.int .i64)]), (false, [.data (.int .i64)])], [.cells 32 [.data (.int .i64), .data (.int .i64), .data (.int .i64), .data (.int .i64), .data .str, .data (.int .i64), .data (.int .i64), .data (.int .i64), .data (.slice (.int .i64)), .data (.slice zq1), .data (.slice zq3), .data (.slice (.int .i64)), .data (.slice (.prod (.int .i64) (.prod (.int .i64) (.int .i64)))), .data (.int .i64)]]⟩
def zq2o : List (AExit × View) := [(.exit 0, ⟨0, [1, 3], [(false, [.ptr 0 0]), (false, [.data (.int .i64)])], [.cells 32 [.data (.int .i64), .data (.int .i64), .data (.int .i64), .data (.int .i64), .data .str, .data (.int .i64), .data (.int .i64), .data (.int .i64), .data (.slice (.int .i64)), .data (.slice zq1), .data (.slice zq3), .data (.slice (.int .i64)), .data (.slice (.prod (.int .i64) (.prod (.int .i64) (.int .i64)))), .data (.int .i64)]]⟩)]
@[reducible] def incident_latest_p1_G (p : zq2m) {β : Type} (d : zq2n.den) (ks : Outs.K β zq2o) : Option β :=
  p (fun a0 a1 a2 a3 a4 a5 a6 a7 a8 a9 a10 a11 a12 a13 a14 => ks.1 (((), (a0, ()), ()), ((a1, a2, a3, a4, a5, a6, a7, a8, a9, a10, a11, a12, a13, a14, ()), ()))) d.1.2.1.1 d.1.2.2.1.1 d.1.2.2.2.1.1 d.1.2.2.2.2.1.1 d.2.1.1 d.2.1.2.1 d.2.1.2.2.1 d.2.1.2.2.2.1 d.2.1.2.2.2.2.1 d.2.1.2.2.2.2.2.1 d.2.1.2.2.2.2.2.2.1 d.2.1.2.2.2.2.2.2.2.1 d.2.1.2.2.2.2.2.2.2.2.1 d.2.1.2.2.2.2.2.2.2.2.2.1 d.2.1.2.2.2.2.2.2.2.2.2.2.1 d.2.1.2.2.2.2.2.2.2.2.2.2.2.1 d.2.1.2.2.2.2.2.2.2.2.2.2.2.2.1 d.2.1.2.2.2.2.2.2.2.2.2.2.2.2.2.1
abbrev zq2p (β : Type) := Int → Option β
abbrev zq2q := {β : Type} → zq2p β → Int → (List (Int × (Int × Int))) → Int → Int → Option β
def zq2r : View := ⟨0, [3, 23, 24, 25], [(false, [.data (.int .i64)]), (false, [.data (.slice (.prod (.int .i64) (.prod (.int .i64) (.int .i64))))]), (false, [.data (.int .i64)]), (false, [.data (.int .i64)])], []⟩
def zq2s : List (AExit × View) := [(.exit 2, ⟨0, [3], [(false, [.data (.int .i64)])], []⟩)]
@[reducible] def incident_latest_p2_G (p : zq2q) {β : Type} (d : zq2r.den) (ks : Outs.K β zq2s) : Option β :=
  p (fun a0 => ks.1 (((a0, ()), ()), ())) d.1.1.1 d.1.2.1.1 d.1.2.2.1.1 d.1.2.2.2.1.1
section
@[reducible] def incident_latest_X : Ctx := ⟨look tab, pick1 [], false, false, false, false, false⟩
def zq2t {β : Type} (rec : Int → (List zq2) → Int → Int → Int → Int → Int → Int → (List UInt8) → Int → Int → Int → (List Int) → (List zq0) → (List zq2) → (List Int) → (List (Int × (Int × Int))) → Int → Option β) (k1 : zq2l β) (at_ : Int) (t11 : List zq2) (t12 : Int) (t13 : Int) (x : Int) (x2 : Int) (x3 : Int) (x4 : Int) (x5 : List UInt8) (x6 : Int) (x7 : Int) (x8 : Int) (x9 : List Int) (x10 : List zq0) (x11 : List zq2) (x12 : List Int) (x13 : List (Int × (Int × Int))) (x14 : Int) : Option β :=
  cond (decide (t13 < t12))
  (cond (decide (0 ≤ t13) && decide (t13 < (List.length t11 : Int)))
  (let e : zq2 := List.getD t11 (Int.toNat t13) ((0 : Int), ((0 : Int), (([] : List UInt8), ([] : List Int))));
  let at_2 : Int := (if e.1 > at_ then e.1 else at_);
  rec at_2 t11 t12 (IntKind.i64.wrap (t13 + (1 : Int))) x x2 x3 x4 x5 x6 x7 x8 x9 x10 x11 x12 x13 x14)
  none)
  (k1 at_ x x2 x3 x4 x5 x6 x7 x8 x9 x10 x11 x12 x13 x14)
def zq2u {β : Type} : Nat → zq2l β → Int → (List zq2) → Int → Int → Int → Int → Int → Int → (List UInt8) → Int → Int → Int → (List Int) → (List zq0) → (List zq2) → (List Int) → (List (Int × (Int × Int))) → Int → Option β
  | 0 => fun _ _ _ _ _ _ _ _ _ _ _ _ _ _ _ _ _ _ _ => none
  | i + 1 => fun k1 at_ t11 t12 t13 x x2 x3 x4 x5 x6 x7 x8 x9 x10 x11 x12 x13 x14 => zq2t (zq2u i k1) k1 at_ t11 t12 t13 x x2 x3 x4 x5 x6 x7 x8 x9 x10 x11 x12 x13 x14
theorem zq2v (hΓ : ΓOk Try.prog incident_latest_X.Γ) (i : Nat) : PieceOk Try.prog 35 0 incident_latest_p1_code zq2n zq2o (incident_latest_p1_G (zq2u i)) := by
  rw [show incident_latest_p1_code = .loop (loopBody incident_latest_p1_code) by kernel_rfl]
  exact piece_loop (X := incident_latest_X) (p := 1) (Λ := pick1 []) (G := fun i => @fun β d ks => incident_latest_p1_G (zq2u i) d ks) mixed tab_ok hΓ rfl (by kernel_rfl) CutsOk_nil (fun _ _ => rfl) (fun i => @fun β d ks r h => Eq.trans (b := incident_latest_p1_G (zq2u (i + 1)) d ks) (by kernel_rfl) h) i
def zq2w {β : Type} (rec : Int → (List (Int × (Int × Int))) → Int → Int → Option β) (k1 : zq2p β) (at_ : Int) (t23 : List (Int × (Int × Int))) (t24 : Int) (t25 : Int) : Option β :=
  cond (decide (t25 < t24))
  (cond (decide (0 ≤ t25) && decide (t25 < (List.length t23 : Int)))
  (let e : (Int × (Int × Int)) := List.getD t23 (Int.toNat t25) ((0 : Int), ((0 : Int), (0 : Int)));
  let at_2 : Int := (if e.1 > at_ then e.1 else at_);
  rec at_2 t23 t24 (IntKind.i64.wrap (t25 + (1 : Int))))
  none)
  (k1 at_)
def zq2x {β : Type} : Nat → zq2p β → Int → (List (Int × (Int × Int))) → Int → Int → Option β
  | 0 => fun _ _ _ _ _ => none
  | i + 1 => fun k1 at_ t23 t24 t25 => zq2w (zq2x i k1) k1 at_ t23 t24 t25
theorem zq2y (hΓ : ΓOk Try.prog incident_latest_X.Γ) (i : Nat) : PieceOk Try.prog 35 0 incident_latest_p2_code zq2r zq2s (incident_latest_p2_G (zq2x i)) := by
  rw [show incident_latest_p2_code = .loop (loopBody incident_latest_p2_code) by kernel_rfl]
  exact piece_loop (X := incident_latest_X) (p := 1) (Λ := pick1 []) (G := fun i => @fun β d ks => incident_latest_p2_G (zq2x i) d ks) mixed tab_ok hΓ rfl (by kernel_rfl) CutsOk_nil (fun _ _ => rfl) (fun i => @fun β d ks r h => Eq.trans (b := incident_latest_p2_G (zq2x (i + 1)) d ks) (by kernel_rfl) h) i
def zq2z (p1 : zq2m) (p2 : zq2q) {β : Type} (x : zq4) (k : (Int → Option β)) : Option β :=
  p1 (fun (at_ : Int) (x2 : Int) (x3 : Int) (x4 : Int) (x5 : Int) (x6 : List UInt8) (x7 : Int) (x8 : Int) (x9 : Int) (x10 : List Int) (x11 : List zq0) (x12 : List zq2) (x13 : List Int) (x14 : List (Int × (Int × Int))) (x15 : Int) =>
  p2 (fun (at_2 : Int) =>
  k at_2) at_ x14 (List.length x14 : Int) (0 : Int)) x.2.2.2.1 x.2.2.2.2.2.2.2.2.1 (List.length x.2.2.2.2.2.2.2.2.1 : Int) (0 : Int) x.1 x.2.1 x.2.2.1 x.2.2.2.1 x.2.2.2.2.1 x.2.2.2.2.2.1.1 x.2.2.2.2.2.1.2.1 x.2.2.2.2.2.1.2.2 x.2.2.2.2.2.2.1 x.2.2.2.2.2.2.2.1 x.2.2.2.2.2.2.2.2.1 x.2.2.2.2.2.2.2.2.2.1 x.2.2.2.2.2.2.2.2.2.2.1 x.2.2.2.2.2.2.2.2.2.2.2
theorem zq30 (hΓ : ΓOk Try.prog incident_latest_X.Γ) (p1 : zq2m) (p2 : zq2q) (hp1 : PieceOk Try.prog 35 0 incident_latest_p1_code zq2n zq2o (incident_latest_p1_G p1)) (hp2 : PieceOk Try.prog 35 0 incident_latest_p2_code zq2r zq2s (incident_latest_p2_G p2)) : SpecOk Try.prog 29 (zq2k (zq2z p1 p2)) :=
  spec_exec (X := incident_latest_X) (Λ := pick1 [(58, pieceCut zq2n zq2o (incident_latest_p1_G p1)), (122, pieceCut zq2r zq2s (incident_latest_p2_G p2))]) (rs := [.tmp 2]) (c := bodyOf Try.f29) mixed tab_ok hΓ Try.func29 (by kernel_rfl) (by kernel_rfl) (by kernel_rfl) (by kernel_rfl) (CutsOk_cons (q := 58) (c' := incident_latest_p1_code) (by kernel_rfl) rfl hp1 (CutsOk_cons (q := 122) (c' := incident_latest_p2_code) (by kernel_rfl) rfl hp2 CutsOk_nil)) (fun x k r h => Eq.trans (b := (zq2k (zq2z p1 p2)).run x k) (by kernel_rfl) h)
end
theorem zq31Γ : ΓOk Try.prog (pick1 []) := ΓOk_nil
def zq32 (m : Nat) : zq2m := zq2u m
theorem zq33 {β : Type} (i : Nat) (k1 at_ t11 t12 t13 x x2 x3 x4 x5 x6 x7 x8 x9 x10 x11 x12 x13 x14) : (zq32 (i + 1) k1 at_ t11 t12 t13 x x2 x3 x4 x5 x6 x7 x8 x9 x10 x11 x12 x13 x14 : Option β) = zq2t (zq32 i k1) k1 at_ t11 t12 t13 x x2 x3 x4 x5 x6 x7 x8 x9 x10 x11 x12 x13 x14 := rfl
def zq34 : zq2m := zq32 fuel
theorem zq35 : PieceOk Try.prog 35 0 incident_latest_p1_code zq2n zq2o (incident_latest_p1_G zq34) := zq2v zq31Γ fuel
def zq36 (m : Nat) : zq2q := zq2x m
theorem zq37 {β : Type} (i : Nat) (k1 at_ t23 t24 t25) : (zq36 (i + 1) k1 at_ t23 t24 t25 : Option β) = zq2w (zq36 i k1) k1 at_ t23 t24 t25 := rfl
def zq38 : zq2q := zq36 fuel
theorem zq39 : PieceOk Try.prog 35 0 incident_latest_p2_code zq2r zq2s (incident_latest_p2_G zq38) := zq2y zq31Γ fuel
def zq3a : zq2j := zq2z zq34 zq38
theorem zq3b : SpecOk Try.prog 29 (zq2k zq3a) := zq30 zq31Γ zq34 zq38 zq35 zq39

/-- pagewatch/incident.Text -/
abbrev zq3c := {β : Type} → (List UInt8) → (Bool → Option β) → Option β
def zq3d (c : zq3c) : Spec :=
  ⟨[(false, [.data .str])], [], [(false, [.data .bool])], [], fun x k => c x.1.1.1 (fun r0 => k (((r0, ()), ()), ()))⟩
noncomputable def incident_Text_p1_code : Code := codeAt 26 (bodyOf Try.f30)
abbrev zq3e (β : Type) := Bool → Option β
abbrev zq3f (β : Type) := (List UInt8) → Option β
abbrev zq3g := {β : Type} → zq3e β → zq3f β → (List UInt8) → Int → Int → Option β
def zq3h : View := ⟨0, [0, 5, 6], [(false, [.data .str]), (false, [.data (.int .i64)]), (false, [.data (.int .i64)])], []⟩
def zq3i : List (AExit × View) := [(.ret, ⟨0, [2], [(false, [.data .bool])], []⟩), (.exit 0, ⟨0, [0], [(false, [.data .str])], []⟩)]
@[reducible] def incident_Text_p1_G (p : zq3g) {β : Type} (d : zq3h.den) (ks : Outs.K β zq3i) : Option β :=
  p (fun a0 => ks.1 (((a0, ()), ()), ())) (fun a0 => ks.2.1 (((a0, ()), ()), ())) d.1.1.1 d.1.2.1.1 d.1.2.2.1.1
section
variable (c_incident_in : zq2c)
@[reducible] def incident_Text_X : Ctx := ⟨look tab, pick1 [(28, .spec (zq2d c_incident_in))], false, false, false, false, false⟩
def zq3j {β : Type} (rec : (List UInt8) → Int → Int → Option β) (k1 : zq3e β) (k2 : zq3f β) (s : List UInt8) (t5 : Int) (t6 : Int) : Option β :=
  cond (decide (t6 < t5))
  (cond (decide (0 ≤ t6) && decide (t6 < (List.length s : Int)))
  (c_incident_in (IntKind.i64.wrap ((List.getD s (Int.toNat t6) 0).toNat : Int)) (32 : Int) (126 : Int) (fun (rin : Bool) =>
  cond (!rin)
  (k1 false)
  (rec s t5 (IntKind.i64.wrap (t6 + (1 : Int))))))
  none)
  (k2 s)
def zq3k {β : Type} : Nat → zq3e β → zq3f β → (List UInt8) → Int → Int → Option β
  | 0 => fun _ _ _ _ _ => none
  | i + 1 => fun k1 k2 s t5 t6 => zq3j c_incident_in (zq3k i k1 k2) k1 k2 s t5 t6
theorem zq3l (hΓ : ΓOk Try.prog (incident_Text_X c_incident_in).Γ) (i : Nat) : PieceOk Try.prog 19 0 incident_Text_p1_code zq3h zq3i (incident_Text_p1_G (zq3k c_incident_in i)) := by
  rw [show incident_Text_p1_code = .loop (loopBody incident_Text_p1_code) by kernel_rfl]
  exact piece_loop (X := (incident_Text_X c_incident_in)) (p := 1) (Λ := pick1 []) (G := fun i => @fun β d ks => incident_Text_p1_G (zq3k c_incident_in i) d ks) mixed tab_ok hΓ rfl (by kernel_rfl) CutsOk_nil (fun _ _ => rfl) (fun i => @fun β d ks r h => Eq.trans (b := incident_Text_p1_G (zq3k c_incident_in (i + 1)) d ks) (by kernel_rfl) h) i
def zq3m (p1 : zq3g) {β : Type} (s : List UInt8) (k : (Bool → Option β)) : Option β :=
  p1 (fun (t2 : Bool) =>
  k t2) (fun (s2 : List UInt8) =>
  c_incident_in (List.length s2 : Int) (1 : Int) (512 : Int) (fun (rin : Bool) =>
  k rin)) s (List.length s : Int) (0 : Int)
theorem zq3n (hΓ : ΓOk Try.prog (incident_Text_X c_incident_in).Γ) (p1 : zq3g) (hp1 : PieceOk Try.prog 19 0 incident_Text_p1_code zq3h zq3i (incident_Text_p1_G p1)) : SpecOk Try.prog 30 (zq3d (zq3m c_incident_in p1)) :=
  spec_exec (X := (incident_Text_X c_incident_in)) (Λ := pick1 [(26, pieceCut zq3h zq3i (incident_Text_p1_G p1))]) (rs := [.tmp 2]) (c := bodyOf Try.f30) mixed tab_ok hΓ Try.func30 (by kernel_rfl) (by kernel_rfl) (by kernel_rfl) (by kernel_rfl) (CutsOk_cons (q := 26) (c' := incident_Text_p1_code) (by kernel_rfl) rfl hp1 CutsOk_nil) (fun x k r h => Eq.trans (b := (zq3d (zq3m c_incident_in p1)).run x k) (by kernel_rfl) h)
end
theorem zq3oΓ : ΓOk Try.prog (pick1 [(28, .spec (zq2d zq2h))]) := (ΓOk_cons zq2i ΓOk_nil)
def zq3p (m : Nat) : zq3g := zq3k zq2h m
theorem zq3q {β : Type} (i : Nat) (k1 k2 s t5 t6) : (zq3p (i + 1) k1 k2 s t5 t6 : Option β) = zq3j zq2h (zq3p i k1 k2) k1 k2 s t5 t6 := rfl
def zq3r : zq3g := zq3p fuel
theorem zq3s : PieceOk Try.prog 19 0 incident_Text_p1_code zq3h zq3i (incident_Text_p1_G zq3r) := zq3l zq2h zq3oΓ fuel
def zq3t : zq3c := zq3m zq2h zq3r
theorem zq3u : SpecOk Try.prog 30 (zq3d zq3t) := zq3n zq2h zq3oΓ zq3r zq3s

/-- slices.Clone[[]int,int] -/
abbrev zq3v := {β : Type} → (List Int) → ((List Int) → Option β) → Option β
def zq3w (c : zq3v) : Spec :=
  ⟨[(false, [.data (.slice (.int .i64))])], [], [(false, [.rowh 0])], [.row 3 (.int .i64)], fun x k => c x.1.1.1 (fun r0 => k (((), ()), (r0, ())))⟩
def zq3x : zq3v := fun l k => cloneF (.int .i64) 8 l k
theorem zq3y : SpecOk Try.prog 33 (zq3w zq3x) :=
  clone_ok (et := 3) (e := (.int .i64)) (bytes := 8) (by kernel_rfl)
    (spec_exec (X := ⟨look tab, pick1 [], false, false, false, false, false⟩) (Λ := pick1 []) (rs := [.tmp 2]) (c := bodyOf Try.f33) mixed tab_ok ΓOk_nil Try.func33 (by kernel_rfl) (by kernel_rfl) (by kernel_rfl) (by kernel_rfl) CutsOk_nil (fun x k r h => Eq.trans (b := (clone1S 3 (.int .i64) 8).run x k) (by kernel_rfl) h))
    (spec_exec (X := ⟨look tab, pick1 [], false, false, false, false, false⟩) (Λ := pick1 []) (rs := [.tmp 2]) (c := bodyOf Try.f33) mixed tab_ok ΓOk_nil Try.func33 (by kernel_rfl) (by kernel_rfl) (by kernel_rfl) (by kernel_rfl) CutsOk_nil (fun x k r h => Eq.trans (b := (clone2S 3 (.int .i64)).run x k) (by kernel_rfl) h))

/-- pagewatch/incident.person -/
abbrev zq3z := {β : Type} → Int → (Bool → Option β) → Option β
def zq40 (c : zq3z) : Spec :=
  ⟨[(false, [.data (.int .i64)])], [], [(false, [.data .bool])], [], fun x k => c x.1.1.1 (fun r0 => k (((r0, ()), ()), ()))⟩
section
variable (c_incident_in : zq2c)
@[reducible] def incident_person_X : Ctx := ⟨look tab, pick1 [(28, .spec (zq2d c_incident_in))], false, false, false, false, false⟩
def zq41 {β : Type} (n : Int) (k : (Bool → Option β)) : Option β :=
  c_incident_in n (0 : Int) (31 : Int) (fun (rin : Bool) =>
  k rin)
theorem zq42 (hΓ : ΓOk Try.prog (incident_person_X c_incident_in).Γ) : SpecOk Try.prog 34 (zq40 (zq41 c_incident_in)) :=
  spec_exec (X := (incident_person_X c_incident_in)) (Λ := pick1 []) (rs := [.tmp 2]) (c := bodyOf Try.f34) mixed tab_ok hΓ Try.func34 (by kernel_rfl) (by kernel_rfl) (by kernel_rfl) (by kernel_rfl) CutsOk_nil (fun x k r h => Eq.trans (b := (zq40 (zq41 c_incident_in)).run x k) (by kernel_rfl) h)
end
theorem zq43Γ : ΓOk Try.prog (pick1 [(28, .spec (zq2d zq2h))]) := (ΓOk_cons zq2i ΓOk_nil)
def zq44 : zq3z := zq41 zq2h
theorem zq45 : SpecOk Try.prog 34 (zq40 zq44) := zq42 zq2h zq43Γ

/-- pagewatch/pagewatchref25.In -/
abbrev zq46 := {β : Type} → Int → Int → Int → (Bool → Option β) → Option β
def zq47 (c : zq46) : Spec :=
  ⟨[(false, [.data (.int .i64)]), (false, [.data (.int .i64)]), (false, [.data (.int .i64)])], [], [(false, [.data .bool])], [], fun x k => c x.1.1.1 x.1.2.1.1 x.1.2.2.1.1 (fun r0 => k (((r0, ()), ()), ()))⟩
section
@[reducible] def ref25_In_X : Ctx := ⟨look tab, pick1 [], false, false, false, false, false⟩
def zq48 {β : Type} (n : Int) (lo : Int) (hi : Int) (k : (Bool → Option β)) : Option β :=
  cond (decide (lo ≤ n))
  (k (decide (n ≤ hi)))
  (k false)
theorem zq49 (hΓ : ΓOk Try.prog ref25_In_X.Γ) : SpecOk Try.prog 36 (zq47 (zq48)) :=
  spec_exec (X := ref25_In_X) (Λ := pick1 []) (rs := [.tmp 6]) (c := bodyOf Try.f36) mixed tab_ok hΓ Try.func36 (by kernel_rfl) (by kernel_rfl) (by kernel_rfl) (by kernel_rfl) CutsOk_nil (fun x k r h => Eq.trans (b := (zq47 (zq48)).run x k) (by kernel_rfl) h)
end
theorem zq4aΓ : ΓOk Try.prog (pick1 []) := ΓOk_nil
def zq4b : zq46 := zq48
theorem zq4c : SpecOk Try.prog 36 (zq47 zq4b) := zq49 zq4aΓ

/-- pagewatch/pagewatchref37.state -/
abbrev zq4d := {β : Type} → Int → (Bool → Option β) → Option β
def zq4e (c : zq4d) : Spec :=
  ⟨[(false, [.data (.int .i64)])], [], [(false, [.data .bool])], [], fun x k => c x.1.1.1 (fun r0 => k (((r0, ()), ()), ()))⟩
section
variable (c_ref25_In : zq46)
@[reducible] def ref37_state_X : Ctx := ⟨look tab, pick1 [(36, .spec (zq47 c_ref25_In))], false, false, false, false, false⟩
def zq4f {β : Type} (n : Int) (k : (Bool → Option β)) : Option β :=
  c_ref25_In n (0 : Int) (4 : Int) (fun (rIn : Bool) =>
  k rIn)
theorem zq4g (hΓ : ΓOk Try.prog (ref37_state_X c_ref25_In).Γ) : SpecOk Try.prog 37 (zq4e (zq4f c_ref25_In)) :=
  spec_exec (X := (ref37_state_X c_ref25_In)) (Λ := pick1 []) (rs := [.tmp 2]) (c := bodyOf Try.f37) mixed tab_ok hΓ Try.func37 (by kernel_rfl) (by kernel_rfl) (by kernel_rfl) (by kernel_rfl) CutsOk_nil (fun x k r h => Eq.trans (b := (zq4e (zq4f c_ref25_In)).run x k) (by kernel_rfl) h)
end
theorem zq4hΓ : ΓOk Try.prog (pick1 [(36, .spec (zq47 zq4b))]) := (ΓOk_cons zq4c ΓOk_nil)
def zq4i : zq4d := zq4f zq4b
theorem zq4j : SpecOk Try.prog 37 (zq4e zq4i) := zq4g zq4b zq4hΓ

/-- pagewatch/pagewatchref37.Text -/
abbrev zq4k := {β : Type} → (List UInt8) → (Bool → Option β) → Option β
def zq4l (c : zq4k) : Spec :=
  ⟨[(false, [.data .str])], [], [(false, [.data .bool])], [], fun x k => c x.1.1.1 (fun r0 => k (((r0, ()), ()), ()))⟩
noncomputable def ref37_Text_p1_code : Code := codeAt 26 (bodyOf Try.f38)
abbrev zq4m (β : Type) := Bool → Option β
abbrev zq4n (β : Type) := (List UInt8) → Option β
abbrev zq4o := {β : Type} → zq4m β → zq4n β → (List UInt8) → Int → Option β
def zq4p : View := ⟨0, [0, 3], [(false, [.data .str]), (false, [.data (.int .i64)])], []⟩
def zq4q : List (AExit × View) := [(.ret, ⟨0, [2], [(false, [.data .bool])], []⟩), (.exit 0, ⟨0, [0], [(false, [.data .str])], []⟩)]
@[reducible] def ref37_Text_p1_G (p : zq4o) {β : Type} (d : zq4p.den) (ks : Outs.K β zq4q) : Option β :=
  p (fun a0 => ks.1 (((a0, ()), ()), ())) (fun a0 => ks.2.1 (((a0, ()), ()), ())) d.1.1.1 d.1.2.1.1
section
variable (c_ref25_In : zq46)
@[reducible] def ref37_Text_X : Ctx := ⟨look tab, pick1 [(36, .spec (zq47 c_ref25_In))], false, false, false, false, false⟩
def zq4r {β : Type} (rec : (List UInt8) → Int → Option β) (k1 : zq4m β) (k2 : zq4n β) (s : List UInt8) (i_ : Int) : Option β :=
  cond (decide (i_ < (List.length s : Int)))
  (cond (decide (0 ≤ i_) && decide (i_ < (List.length s : Int)))
  (cond (decide (((List.getD s (Int.toNat i_) 0).toNat : Int) < (32 : Int)))
  (k1 false)
  (cond (decide (0 ≤ i_) && decide (i_ < (List.length s : Int)))
  (cond (decide ((126 : Int) < ((List.getD s (Int.toNat i_) 0).toNat : Int)))
  (k1 false)
  (let i_2 : Int := (IntKind.i64.wrap (i_ + (1 : Int)));
  rec s i_2))
  none))
  none)
  (k2 s)
def zq4s {β : Type} : Nat → zq4m β → zq4n β → (List UInt8) → Int → Option β
  | 0 => fun _ _ _ _ => none
  | i + 1 => fun k1 k2 s i_ => zq4r (zq4s i k1 k2) k1 k2 s i_
theorem zq4t (hΓ : ΓOk Try.prog (ref37_Text_X c_ref25_In).Γ) (i : Nat) : PieceOk Try.prog 23 0 ref37_Text_p1_code zq4p zq4q (ref37_Text_p1_G (zq4s i)) := by
  rw [show ref37_Text_p1_code = .loop (loopBody ref37_Text_p1_code) by kernel_rfl]
  exact piece_loop (X := (ref37_Text_X c_ref25_In)) (p := 1) (Λ := pick1 []) (G := fun i => @fun β d ks => ref37_Text_p1_G (zq4s i) d ks) mixed tab_ok hΓ rfl (by kernel_rfl) CutsOk_nil (fun _ _ => rfl) (fun i => @fun β d ks r h => Eq.trans (b := ref37_Text_p1_G (zq4s (i + 1)) d ks) (by kernel_rfl) h) i
def zq4u (p1 : zq4o) {β : Type} (s : List UInt8) (k : (Bool → Option β)) : Option β :=
  p1 (fun (t2 : Bool) =>
  k t2) (fun (s2 : List UInt8) =>
  c_ref25_In (List.length s2 : Int) (1 : Int) (512 : Int) (fun (rIn : Bool) =>
  k rIn)) s (0 : Int)
theorem zq4v (hΓ : ΓOk Try.prog (ref37_Text_X c_ref25_In).Γ) (p1 : zq4o) (hp1 : PieceOk Try.prog 23 0 ref37_Text_p1_code zq4p zq4q (ref37_Text_p1_G p1)) : SpecOk Try.prog 38 (zq4l (zq4u c_ref25_In p1)) :=
  spec_exec (X := (ref37_Text_X c_ref25_In)) (Λ := pick1 [(26, pieceCut zq4p zq4q (ref37_Text_p1_G p1))]) (rs := [.tmp 2]) (c := bodyOf Try.f38) mixed tab_ok hΓ Try.func38 (by kernel_rfl) (by kernel_rfl) (by kernel_rfl) (by kernel_rfl) (CutsOk_cons (q := 26) (c' := ref37_Text_p1_code) (by kernel_rfl) rfl hp1 CutsOk_nil) (fun x k r h => Eq.trans (b := (zq4l (zq4u c_ref25_In p1)).run x k) (by kernel_rfl) h)
end
theorem zq4wΓ : ΓOk Try.prog (pick1 [(36, .spec (zq47 zq4b))]) := (ΓOk_cons zq4c ΓOk_nil)
def zq4x (m : Nat) : zq4o := zq4s m
theorem zq4y {β : Type} (i : Nat) (k1 k2 s i_) : (zq4x (i + 1) k1 k2 s i_ : Option β) = zq4r (zq4x i k1 k2) k1 k2 s i_ := rfl
def zq4z : zq4o := zq4x fuel
theorem zq50 : PieceOk Try.prog 23 0 ref37_Text_p1_code zq4p zq4q (ref37_Text_p1_G zq4z) := zq4t zq4b zq4wΓ fuel
def zq51 : zq4k := zq4u zq4b zq4z
theorem zq52 : SpecOk Try.prog 38 (zq4l zq51) := zq4v zq4b zq4wΓ zq4z zq50

/-- pagewatch/pagewatchref37.person -/
abbrev zq53 := {β : Type} → Int → Bool → (Bool → Option β) → Option β
def zq54 (c : zq53) : Spec :=
  ⟨[(false, [.data (.int .i64)]), (false, [.data .bool])], [], [(false, [.data .bool])], [], fun x k => c x.1.1.1 x.1.2.1.1 (fun r0 => k (((r0, ()), ()), ()))⟩
section
variable (c_ref25_In : zq46)
@[reducible] def ref37_person_X : Ctx := ⟨look tab, pick1 [(36, .spec (zq47 c_ref25_In))], false, false, false, false, false⟩
def zq55 {β : Type} (n : Int) (nobody : Bool) (k : (Bool → Option β)) : Option β :=
  c_ref25_In n (0 : Int) (31 : Int) (fun (rIn : Bool) =>
  cond rIn
  (k true)
  (cond nobody
  (let t : Bool := (decide (n = (-1 : Int)));
  k t)
  (k false)))
theorem zq56 (hΓ : ΓOk Try.prog (ref37_person_X c_ref25_In).Γ) : SpecOk Try.prog 39 (zq54 (zq55 c_ref25_In)) :=
  spec_exec (X := (ref37_person_X c_ref25_In)) (Λ := pick1 []) (rs := [.tmp 4]) (c := bodyOf Try.f39) mixed tab_ok hΓ Try.func39 (by kernel_rfl) (by kernel_rfl) (by kernel_rfl) (by kernel_rfl) CutsOk_nil (fun x k r h => Eq.trans (b := (zq54 (zq55 c_ref25_In)).run x k) (by kernel_rfl) h)
end
theorem zq57Γ : ΓOk Try.prog (pick1 [(36, .spec (zq47 zq4b))]) := (ΓOk_cons zq4c ΓOk_nil)
def zq58 : zq53 := zq55 zq4b
theorem zq59 : SpecOk Try.prog 39 (zq54 zq58) := zq56 zq4b zq57Γ

/-- pagewatch/pagewatchref37.lists -/
abbrev zq5a := {β : Type} → zq4 → (Bool → Option β) → Option β
def zq5b (c : zq5a) : Spec :=
  ⟨[(true, [.data zq5])], [], [(false, [.data .bool])], [], fun x k => c x.1.1.1 (fun r0 => k (((r0, ()), ()), ()))⟩
noncomputable def ref37_lists_p1_code : Code := codeAt 26 (bodyOf Try.f40)
noncomputable def ref37_lists_p2_code : Code := codeAt 122 (bodyOf Try.f40)
noncomputable def ref37_lists_p3_code : Code := codeAt 1018 (bodyOf Try.f40)
abbrev zq5c (β : Type) := Bool → Option β
abbrev zq5d (β : Type) := Int → Int → Int → Int → (List UInt8) → Int → Int → Int → (List Int) → (List zq0) → (List zq2) → (List Int) → (List (Int × (Int × Int))) → Int → Option β
abbrev zq5e := {β : Type} → zq5c β → zq5d β → Int → Int → Int → Int → Int → (List UInt8) → Int → Int → Int → (List Int) → (List zq0) → (List zq2) → (List Int) → (List (Int × (Int × Int))) → Int → Option β
def zq5f : View := ⟨0, [1, 3], [(false, [.ptr 0 0]), (false, [.data (.int .i64)])], [.cells 32 [.data (.int .i64), .data (.int .i64), .data (.int .i64), .data (.int .i64), .data .str, .data (.int .i64), .data (.int .i64), .data (.int .i64), .data (.slice (.int .i64)), .data (.slice zq1), .data (.slice zq3), .data (.slice (.int .i64)), .data (.slice (.prod (.int .i64) (.prod (.int .i64) (.int .i64)))), .data (.int .i64)]]⟩
def zq5g : List (AExit × View) := [(.ret, ⟨0, [2], [(false, [.data .bool])], []⟩), (.exit 0, ⟨0, [1], [(false, [.ptr 0 0])], [.cells 32 [.data (.int .i64), .data (.int .i64), .data (.int .i64), .data (.int .i64), .data .str, .data (.int .i64), .data (.int .i64), .data (.int .i64), .data (.slice (.int .i64)), .data (.slice zq1), .data (.slice zq3), .data (.slice (.int .i64)), .data (.slice (.prod (.int .i64) (.prod (.int .i64) (.int .i64)))), .data (.int .i64)]]⟩)]
@[reducible] def ref37_lists_p1_G (p : zq5e) {β : Type} (d : zq5f.den) (ks : Outs.K β zq5g) : Option β :=
  p (fun a0 => ks.1 (((a0, ()), ()), ())) (fun a0 a1 a2 a3 a4 a5 a6 a7 a8 a9 a10 a11 a12 a13 => ks.2.1 (((), ()), ((a0, a1, a2, a3, a4, a5, a6, a7, a8, a9, a10, a11, a12, a13, ()), ()))) d.1.2.1.1 d.2.1.1 d.2.1.2.1 d.2.1.2.2.1 d.2.1.2.2.2.1 d.2.1.2.2.2.2.1 d.2.1.2.2.2.2.2.1 d.2.1.2.2.2.2.2.2.1 d.2.1.2.2.2.2.2.2.2.1 d.2.1.2.2.2.2.2.2.2.2.1 d.2.1.2.2.2.2.2.2.2.2.2.1 d.2.1.2.2.2.2.2.2.2.2.2.2.1 d.2.1.2.2.2.2.2.2.2.2.2.2.2.1 d.2.1.2.2.2.2.2.2.2.2.2.2.2.2.1 d.2.1.2.2.2.2.2.2.2.2.2.2.2.2.2.1
abbrev zq5h (β : Type) := Bool → Option β
abbrev zq5i (β : Type) := Int → Int → Int → Int → (List UInt8) → Int → Int → Int → (List Int) → (List zq0) → (List zq2) → (List Int) → (List (Int × (Int × Int))) → Int → Option β
abbrev zq5j := {β : Type} → zq5h β → zq5i β → Int → Int → Int → Int → Int → Int → (List UInt8) → Int → Int → Int → (List Int) → (List zq0) → (List zq2) → (List Int) → (List (Int × (Int × Int))) → Int → Option β
def zq5k : View := ⟨0, [1, 5, 6], [(false, [.ptr 0 0]), (false, [.data (.int .i64)]), (false, [.data (.int .i64)])], [.cells 32 [.data (.int .i64), .data (.int .i64), .data (.int .i64), .data (.int .i64), .data .str, .data (.int .i64), .data (.int .i64), .data (.int .i64), .data (.slice (.int .i64)), .data (.slice zq1), .data (.slice zq3), .data (.slice (.int .i64)), .data (.slice (.prod (.int .i64) (.prod (.int .i64) (.int .i64)))), .data (.int .i64)]]⟩
def zq5l : List (AExit × View) := [(.ret, ⟨0, [2], [(false, [.data .bool])], []⟩), (.exit 2, ⟨0, [1], [(false, [.ptr 0 0])], [.cells 32 [.data (.int .i64), .data (.int .i64), .data (.int .i64), .data (.int .i64), .data .str, .data (.int .i64), .data (.int .i64), .data (.int .i64), .data (.slice (.int .i64)), .data (.slice zq1), .data (.slice zq3), .data (.slice (.int .i64)), .data (.slice (.prod (.int .i64) (.prod (.int .i64) (.int .i64)))), .data (.int .i64)]]⟩)]
@[reducible] def ref37_lists_p2_G (p : zq5j) {β : Type} (d : zq5k.den) (ks : Outs.K β zq5l) : Option β :=
  p (fun a0 => ks.1 (((a0, ()), ()), ())) (fun a0 a1 a2 a3 a4 a5 a6 a7 a8 a9 a10 a11 a12 a13 => ks.2.1 (((), ()), ((a0, a1, a2, a3, a4, a5, a6, a7, a8, a9, a10, a11, a12, a13, ()), ()))) d.1.2.1.1 d.1.2.2.1.1 d.2.1.1 d.2.1.2.1 d.2.1.2.2.1 d.2.1.2.2.2.1 d.2.1.2.2.2.2.1 d.2.1.2.2.2.2.2.1 d.2.1.2.2.2.2.2.2.1 d.2.1.2.2.2.2.2.2.2.1 d.2.1.2.2.2.2.2.2.2.2.1 d.2.1.2.2.2.2.2.2.2.2.2.1 d.2.1.2.2.2.2.2.2.2.2.2.2.1 d.2.1.2.2.2.2.2.2.2.2.2.2.2.1 d.2.1.2.2.2.2.2.2.2.2.2.2.2.2.1 d.2.1.2.2.2.2.2.2.2.2.2.2.2.2.2.1
abbrev zq5m (β : Type) := Bool → Option β
abbrev zq5n (β : Type) := Int → Int → Int → Int → Int → (List UInt8) → Int → Int → Int → (List Int) → (List zq0) → (List zq2) → (List Int) → (List (Int × (Int × Int))) → Int → Option β
abbrev zq5o := {β : Type} → zq5m β → zq5n β → Int → Int → Int → Int → Int → Int → Int → (List UInt8) → Int → Int → Int → (List Int) → (List zq0) → (List zq2) → (List Int) → (List (Int × (Int × Int))) → Int → Option β
def zq5p : View := ⟨0, [1, 5, 8, 9], [(false, [.ptr 0 0]), (false, [.data (.int .i64)]), (false, [.data (.int .i64)]), (false, [.data (.int .i64)])], [.cells 32 [.data (.int .i64), .data (.int .i64), .data (.int .i64), .data (.int .i64), .data .str, .data (.int .i64), .data (.int .i64), .data (.int .i64), .data (.slice (.int .i64)), .data (.slice zq1), .data (.slice zq3), .data (.slice (.int .i64)), .data (.slice (.prod (.int .i64) (.prod (.int .i64) (.int .i64)))), .data (.int .i64)]]⟩
def zq5q : List (AExit × View) := [(.ret, ⟨0, [2], [(false, [.data .bool])], []⟩), (.exit 4, ⟨0, [1, 8], [(false, [.ptr 0 0]), (false, [.data (.int .i64)])], [.cells 32 [.data (.int .i64), .data (.int .i64), .data (.int .i64), .data (.int .i64), .data .str, .data (.int .i64), .data (.int .i64), .data (.int .i64), .data (.slice (.int .i64)), .data (.slice zq1), .data (.slice zq3), .data (.slice (.int .i64)), .data (.slice (.prod (.int .i64) (.prod (.int .i64) (.int .i64)))), .data (.int .i64)]]⟩)]
@[reducible] def ref37_lists_p3_G (p : zq5o) {β : Type} (d : zq5p.den) (ks : Outs.K β zq5q) : Option β :=
  p (fun a0 => ks.1 (((a0, ()), ()), ())) (fun a0 a1 a2 a3 a4 a5 a6 a7 a8 a9 a10 a11 a12 a13 a14 => ks.2.1 (((), (a0, ()), ()), ((a1, a2, a3, a4, a5, a6, a7, a8, a9, a10, a11, a12, a13, a14, ()), ()))) d.1.2.1.1 d.1.2.2.1.1 d.1.2.2.2.1.1 d.2.1.1 d.2.1.2.1 d.2.1.2.2.1 d.2.1.2.2.2.1 d.2.1.2.2.2.2.1 d.2.1.2.2.2.2.2.1 d.2.1.2.2.2.2.2.2.1 d.2.1.2.2.2.2.2.2.2.1 d.2.1.2.2.2.2.2.2.2.2.1 d.2.1.2.2.2.2.2.2.2.2.2.1 d.2.1.2.2.2.2.2.2.2.2.2.2.1 d.2.1.2.2.2.2.2.2.2.2.2.2.2.1 d.2.1.2.2.2.2.2.2.2.2.2.2.2.2.1 d.2.1.2.2.2.2.2.2.2.2.2.2.2.2.2.1
section
variable (c_ref25_In : zq46) (c_ref25_Set : zq13) (c_ref37_Text : zq4k) (c_ref37_person : zq53) (c_ref37_state : zq4d)
@[reducible] def ref37_lists_X : Ctx := ⟨look tab, pick1 [(36, .spec (zq47 c_ref25_In)), (11, .spec (zq14 c_ref25_Set)), (38, .spec (zq4l c_ref37_Text)), (39, .spec (zq54 c_ref37_person)), (37, .spec (zq4e c_ref37_state))], false, false, false, false, false⟩
def zq5r {β : Type} (rec : Int → Int → Int → Int → Int → (List UInt8) → Int → Int → Int → (List Int) → (List zq0) → (List zq2) → (List Int) → (List (Int × (Int × Int))) → Int → Option β) (k1 : zq5c β) (k2 : zq5d β) (i_ : Int) (x : Int) (x2 : Int) (x3 : Int) (x4 : Int) (x5 : List UInt8) (x6 : Int) (x7 : Int) (x8 : Int) (x9 : List Int) (x10 : List zq0) (x11 : List zq2) (x12 : List Int) (x13 : List (Int × (Int × Int))) (x14 : Int) : Option β :=
  cond (decide (i_ < (List.length x10 : Int)))
  (cond (decide (0 ≤ i_) && decide (i_ < (List.length x10 : Int)))
  (let e : zq0 := List.getD x10 (Int.toNat i_) (([] : List UInt8), ((0 : Int), ((0 : Int), (0 : Int))));
  c_ref37_Text e.1 (fun (rText : Bool) =>
  cond (!rText)
  (k1 false)
  (c_ref37_person e.2.1 true (fun (rperson : Bool) =>
  cond (!rperson)
  (k1 false)
  (c_ref25_In e.2.2.1 x4 (8589934592 : Int) (fun (rIn : Bool) =>
  cond (!rIn)
  (k1 false)
  (cond (!decide (e.2.2.2 = (-1 : Int)))
  (c_ref25_In e.2.2.2 e.2.2.1 (8589934592 : Int) (fun (rIn2 : Bool) =>
  cond (!rIn2)
  (k1 false)
  (let i_2 : Int := (IntKind.i64.wrap (i_ + (1 : Int)));
  rec i_2 x x2 x3 x4 x5 x6 x7 x8 x9 x10 x11 x12 x13 x14)))
  (let i_2 : Int := (IntKind.i64.wrap (i_ + (1 : Int)));
  rec i_2 x x2 x3 x4 x5 x6 x7 x8 x9 x10 x11 x12 x13 x14))))))))
  none)
  (k2 x x2 x3 x4 x5 x6 x7 x8 x9 x10 x11 x12 x13 x14)
def zq5s {β : Type} : Nat → zq5c β → zq5d β → Int → Int → Int → Int → Int → (List UInt8) → Int → Int → Int → (List Int) → (List zq0) → (List zq2) → (List Int) → (List (Int × (Int × Int))) → Int → Option β
  | 0 => fun _ _ _ _ _ _ _ _ _ _ _ _ _ _ _ _ _ => none
  | i + 1 => fun k1 k2 i_ x x2 x3 x4 x5 x6 x7 x8 x9 x10 x11 x12 x13 x14 => zq5r c_ref25_In c_ref37_Text c_ref37_person (zq5s i k1 k2) k1 k2 i_ x x2 x3 x4 x5 x6 x7 x8 x9 x10 x11 x12 x13 x14
theorem zq5t (hΓ : ΓOk Try.prog (ref37_lists_X c_ref25_In c_ref25_Set c_ref37_Text c_ref37_person c_ref37_state).Γ) (i : Nat) : PieceOk Try.prog 138 0 ref37_lists_p1_code zq5f zq5g (ref37_lists_p1_G (zq5s c_ref25_In c_ref37_Text c_ref37_person i)) := by
  rw [show ref37_lists_p1_code = .loop (loopBody ref37_lists_p1_code) by kernel_rfl]
  exact piece_loop (X := (ref37_lists_X c_ref25_In c_ref25_Set c_ref37_Text c_ref37_person c_ref37_state)) (p := 1) (Λ := pick1 []) (G := fun i => @fun β d ks => ref37_lists_p1_G (zq5s c_ref25_In c_ref37_Text c_ref37_person i) d ks) mixed tab_ok hΓ rfl (by kernel_rfl) CutsOk_nil (fun _ _ => rfl) (fun i => @fun β d ks r h => Eq.trans (b := ref37_lists_p1_G (zq5s c_ref25_In c_ref37_Text c_ref37_person (i + 1)) d ks) (by kernel_rfl) h) i
def zq5u {β : Type} (rec : Int → Int → Int → Int → Int → Int → (List UInt8) → Int → Int → Int → (List Int) → (List zq0) → (List zq2) → (List Int) → (List (Int × (Int × Int))) → Int → Option β) (k1 : zq5h β) (k2 : zq5i β) (at_ : Int) (i_ : Int) (x : Int) (x2 : Int) (x3 : Int) (x4 : Int) (x5 : List UInt8) (x6 : Int) (x7 : Int) (x8 : Int) (x9 : List Int) (x10 : List zq0) (x11 : List zq2) (x12 : List Int) (x13 : List (Int × (Int × Int))) (x14 : Int) : Option β :=
  cond (decide (i_ < (List.length x11 : Int)))
  (cond (decide (0 ≤ i_) && decide (i_ < (List.length x11 : Int)))
  (let e : zq2 := List.getD x11 (Int.toNat i_) ((0 : Int), ((0 : Int), (([] : List UInt8), ([] : List Int))));
  c_ref37_Text e.2.2.1 (fun (rText : Bool) =>
  cond (!rText)
  (k1 false)
  (c_ref37_state e.2.1 (fun (rstate : Bool) =>
  cond (!rstate)
  (k1 false)
  (c_ref25_Set e.2.2.2 (32 : Int) (fun (rSet : Bool) =>
  cond (!rSet)
  (k1 false)
  (c_ref25_In e.1 at_ (8589934592 : Int) (fun (rIn : Bool) =>
  cond (!rIn)
  (k1 false)
  (let i_2 : Int := (IntKind.i64.wrap (i_ + (1 : Int)));
  rec e.1 i_2 x x2 x3 x4 x5 x6 x7 x8 x9 x10 x11 x12 x13 x14)))))))))
  none)
  (k2 x x2 x3 x4 x5 x6 x7 x8 x9 x10 x11 x12 x13 x14)
def zq5v {β : Type} : Nat → zq5h β → zq5i β → Int → Int → Int → Int → Int → Int → (List UInt8) → Int → Int → Int → (List Int) → (List zq0) → (List zq2) → (List Int) → (List (Int × (Int × Int))) → Int → Option β
  | 0 => fun _ _ _ _ _ _ _ _ _ _ _ _ _ _ _ _ _ _ => none
  | i + 1 => fun k1 k2 at_ i_ x x2 x3 x4 x5 x6 x7 x8 x9 x10 x11 x12 x13 x14 => zq5u c_ref25_In c_ref25_Set c_ref37_Text c_ref37_state (zq5v i k1 k2) k1 k2 at_ i_ x x2 x3 x4 x5 x6 x7 x8 x9 x10 x11 x12 x13 x14
theorem zq5w (hΓ : ΓOk Try.prog (ref37_lists_X c_ref25_In c_ref25_Set c_ref37_Text c_ref37_person c_ref37_state).Γ) (i : Nat) : PieceOk Try.prog 138 0 ref37_lists_p2_code zq5k zq5l (ref37_lists_p2_G (zq5v c_ref25_In c_ref25_Set c_ref37_Text c_ref37_state i)) := by
  rw [show ref37_lists_p2_code = .loop (loopBody ref37_lists_p2_code) by kernel_rfl]
  exact piece_loop (X := (ref37_lists_X c_ref25_In c_ref25_Set c_ref37_Text c_ref37_person c_ref37_state)) (p := 1) (Λ := pick1 []) (G := fun i => @fun β d ks => ref37_lists_p2_G (zq5v c_ref25_In c_ref25_Set c_ref37_Text c_ref37_state i) d ks) mixed tab_ok hΓ rfl (by kernel_rfl) CutsOk_nil (fun _ _ => rfl) (fun i => @fun β d ks r h => Eq.trans (b := ref37_lists_p2_G (zq5v c_ref25_In c_ref25_Set c_ref37_Text c_ref37_state (i + 1)) d ks) (by kernel_rfl) h) i
def zq5x {β : Type} (rec : Int → Int → Int → Int → Int → Int → Int → (List UInt8) → Int → Int → Int → (List Int) → (List zq0) → (List zq2) → (List Int) → (List (Int × (Int × Int))) → Int → Option β) (k1 : zq5m β) (k2 : zq5n β) (at_ : Int) (now : Int) (i_ : Int) (x : Int) (x2 : Int) (x3 : Int) (x4 : Int) (x5 : List UInt8) (x6 : Int) (x7 : Int) (x8 : Int) (x9 : List Int) (x10 : List zq0) (x11 : List zq2) (x12 : List Int) (x13 : List (Int × (Int × Int))) (x14 : Int) : Option β :=
  cond (decide (i_ < (List.length x13 : Int)))
  (cond (decide (0 ≤ i_) && decide (i_ < (List.length x13 : Int)))
  (let e : (Int × (Int × Int)) := List.getD x13 (Int.toNat i_) ((0 : Int), ((0 : Int), (0 : Int)));
  c_ref37_state e.2.1 (fun (rstate : Bool) =>
  cond (!rstate)
  (k1 false)
  (cond (decide (e.2.1 = now))
  (k1 false)
  (c_ref37_person e.2.2 true (fun (rperson : Bool) =>
  cond (!rperson)
  (k1 false)
  (c_ref25_In e.1 at_ (8589934592 : Int) (fun (rIn : Bool) =>
  cond (!rIn)
  (k1 false)
  (let i_2 : Int := (IntKind.i64.wrap (i_ + (1 : Int)));
  rec e.1 e.2.1 i_2 x x2 x3 x4 x5 x6 x7 x8 x9 x10 x11 x12 x13 x14))))))))
  none)
  (k2 now x x2 x3 x4 x5 x6 x7 x8 x9 x10 x11 x12 x13 x14)
def zq5y {β : Type} : Nat → zq5m β → zq5n β → Int → Int → Int → Int → Int → Int → Int → (List UInt8) → Int → Int → Int → (List Int) → (List zq0) → (List zq2) → (List Int) → (List (Int × (Int × Int))) → Int → Option β
  | 0 => fun _ _ _ _ _ _ _ _ _ _ _ _ _ _ _ _ _ _ _ => none
  | i + 1 => fun k1 k2 at_ now i_ x x2 x3 x4 x5 x6 x7 x8 x9 x10 x11 x12 x13 x14 => zq5x c_ref25_In c_ref37_person c_ref37_state (zq5y i k1 k2) k1 k2 at_ now i_ x x2 x3 x4 x5 x6 x7 x8 x9 x10 x11 x12 x13 x14
theorem zq5z (hΓ : ΓOk Try.prog (ref37_lists_X c_ref25_In c_ref25_Set c_ref37_Text c_ref37_person c_ref37_state).Γ) (i : Nat) : PieceOk Try.prog 138 0 ref37_lists_p3_code zq5p zq5q (ref37_lists_p3_G (zq5y c_ref25_In c_ref37_person c_ref37_state i)) := by
  rw [show ref37_lists_p3_code = .loop (loopBody ref37_lists_p3_code) by kernel_rfl]
  exact piece_loop (X := (ref37_lists_X c_ref25_In c_ref25_Set c_ref37_Text c_ref37_person c_ref37_state)) (p := 1) (Λ := pick1 []) (G := fun i => @fun β d ks => ref37_lists_p3_G (zq5y c_ref25_In c_ref37_person c_ref37_state i) d ks) mixed tab_ok hΓ rfl (by kernel_rfl) CutsOk_nil (fun _ _ => rfl) (fun i => @fun β d ks r h => Eq.trans (b := ref37_lists_p3_G (zq5y c_ref25_In c_ref37_person c_ref37_state (i + 1)) d ks) (by kernel_rfl) h) i
def zq60 (p1 : zq5e) (p2 : zq5j) (p3 : zq5o) {β : Type} (x : zq4) (k : (Bool → Option β)) : Option β :=
  p1 (fun (t2 : Bool) =>
  k t2) (fun (x2 : Int) (x3 : Int) (x4 : Int) (x5 : Int) (x6 : List UInt8) (x7 : Int) (x8 : Int) (x9 : Int) (x10 : List Int) (x11 : List zq0) (x12 : List zq2) (x13 : List Int) (x14 : List (Int × (Int × Int))) (x15 : Int) =>
  p2 (fun (t2 : Bool) =>
  k t2) (fun (x16 : Int) (x17 : Int) (x18 : Int) (x19 : Int) (x20 : List UInt8) (x21 : Int) (x22 : Int) (x23 : Int) (x24 : List Int) (x25 : List zq0) (x26 : List zq2) (x27 : List Int) (x28 : List (Int × (Int × Int))) (x29 : Int) =>
  p3 (fun (t2 : Bool) =>
  k t2) (fun (now : Int) (x30 : Int) (x31 : Int) (x32 : Int) (x33 : Int) (x34 : List UInt8) (x35 : Int) (x36 : Int) (x37 : Int) (x38 : List Int) (x39 : List zq0) (x40 : List zq2) (x41 : List Int) (x42 : List (Int × (Int × Int))) (x43 : Int) =>
  k (decide (now = x31))) x19 (0 : Int) (0 : Int) x16 x17 x18 x19 x20 x21 x22 x23 x24 x25 x26 x27 x28 x29) x5 (0 : Int) x2 x3 x4 x5 x6 x7 x8 x9 x10 x11 x12 x13 x14 x15) (0 : Int) x.1 x.2.1 x.2.2.1 x.2.2.2.1 x.2.2.2.2.1 x.2.2.2.2.2.1.1 x.2.2.2.2.2.1.2.1 x.2.2.2.2.2.1.2.2 x.2.2.2.2.2.2.1 x.2.2.2.2.2.2.2.1 x.2.2.2.2.2.2.2.2.1 x.2.2.2.2.2.2.2.2.2.1 x.2.2.2.2.2.2.2.2.2.2.1 x.2.2.2.2.2.2.2.2.2.2.2
theorem zq61 (hΓ : ΓOk Try.prog (ref37_lists_X c_ref25_In c_ref25_Set c_ref37_Text c_ref37_person c_ref37_state).Γ) (p1 : zq5e) (p2 : zq5j) (p3 : zq5o) (hp1 : PieceOk Try.prog 138 0 ref37_lists_p1_code zq5f zq5g (ref37_lists_p1_G p1)) (hp2 : PieceOk Try.prog 138 0 ref37_lists_p2_code zq5k zq5l (ref37_lists_p2_G p2)) (hp3 : PieceOk Try.prog 138 0 ref37_lists_p3_code zq5p zq5q (ref37_lists_p3_G p3)) : SpecOk Try.prog 40 (zq5b (zq60 p1 p2 p3)) :=
  spec_exec (X := (ref37_lists_X c_ref25_In c_ref25_Set c_ref37_Text c_ref37_person c_ref37_state)) (Λ := pick1 [(26, pieceCut zq5f zq5g (ref37_lists_p1_G p1)), (122, pieceCut zq5k zq5l (ref37_lists_p2_G p2)), (1018, pieceCut zq5p zq5q (ref37_lists_p3_G p3))]) (rs := [.tmp 2]) (c := bodyOf Try.f40) mixed tab_ok hΓ Try.func40 (by kernel_rfl) (by kernel_rfl) (by kernel_rfl) (by kernel_rfl) (CutsOk_cons (q := 26) (c' := ref37_lists_p1_code) (by kernel_rfl) rfl hp1 (CutsOk_cons (q := 122) (c' := ref37_lists_p2_code) (by kernel_rfl) rfl hp2 (CutsOk_cons (q := 1018) (c' := ref37_lists_p3_code) (by kernel_rfl) rfl hp3 CutsOk_nil))) (fun x k r h => Eq.trans (b := (zq5b (zq60 p1 p2 p3)).run x k) (by kernel_rfl) h)
end
theorem zq62Γ : ΓOk Try.prog (pick1 [(36, .spec (zq47 zq4b)), (11, .spec (zq14 zq1k)), (38, .spec (zq4l zq51)), (39, .spec (zq54 zq58)), (37, .spec (zq4e zq4i))]) := (ΓOk_cons zq4c (ΓOk_cons zq1l (ΓOk_cons zq52 (ΓOk_cons zq59 (ΓOk_cons zq4j ΓOk_nil)))))
def zq63 (m : Nat) : zq5e := zq5s zq4b zq51 zq58 m
theorem zq64 {β : Type} (i : Nat) (k1 k2 i_ x x2 x3 x4 x5 x6 x7 x8 x9 x10 x11 x12 x13 x14) : (zq63 (i + 1) k1 k2 i_ x x2 x3 x4 x5 x6 x7 x8 x9 x10 x11 x12 x13 x14 : Option β) = zq5r zq4b zq51 zq58 (zq63 i k1 k2) k1 k2 i_ x x2 x3 x4 x5 x6 x7 x8 x9 x10 x11 x12 x13 x14 := rfl
def zq65 : zq5e := zq63 fuel
theorem zq66 : PieceOk Try.prog 138 0 ref37_lists_p1_code zq5f zq5g (ref37_lists_p1_G zq65) := zq5t zq4b zq1k zq51 zq58 zq4i zq62Γ fuel
def zq67 (m : Nat) : zq5j := zq5v zq4b zq1k zq51 zq4i m
theorem zq68 {β : Type} (i : Nat) (k1 k2 at_ i_ x x2 x3 x4 x5 x6 x7 x8 x9 x10 x11 x12 x13 x14) : (zq67 (i + 1) k1 k2 at_ i_ x x2 x3 x4 x5 x6 x7 x8 x9 x10 x11 x12 x13 x14 : Option β) = zq5u zq4b zq1k zq51 zq4i (zq67 i k1 k2) k1 k2 at_ i_ x x2 x3 x4 x5 x6 x7 x8 x9 x10 x11 x12 x13 x14 := rfl
def zq69 : zq5j := zq67 fuel
theorem zq6a : PieceOk Try.prog 138 0 ref37_lists_p2_code zq5k zq5l (ref37_lists_p2_G zq69) := zq5w zq4b zq1k zq51 zq58 zq4i zq62Γ fuel
def zq6b (m : Nat) : zq5o := zq5y zq4b zq58 zq4i m
theorem zq6c {β : Type} (i : Nat) (k1 k2 at_ now i_ x x2 x3 x4 x5 x6 x7 x8 x9 x10 x11 x12 x13 x14) : (zq6b (i + 1) k1 k2 at_ now i_ x x2 x3 x4 x5 x6 x7 x8 x9 x10 x11 x12 x13 x14 : Option β) = zq5x zq4b zq58 zq4i (zq6b i k1 k2) k1 k2 at_ now i_ x x2 x3 x4 x5 x6 x7 x8 x9 x10 x11 x12 x13 x14 := rfl
def zq6d : zq5o := zq6b fuel
theorem zq6e : PieceOk Try.prog 138 0 ref37_lists_p3_code zq5p zq5q (ref37_lists_p3_G zq6d) := zq5z zq4b zq1k zq51 zq58 zq4i zq62Γ fuel
def zq6f : zq5a := zq60 zq65 zq69 zq6d
theorem zq6g : SpecOk Try.prog 40 (zq5b zq6f) := zq61 zq4b zq1k zq51 zq58 zq4i zq62Γ zq65 zq69 zq6d zq66 zq6a zq6e

/-- pagewatch/incident.somebody -/
abbrev zq6h := {β : Type} → Int → (Bool → Option β) → Option β
def zq6i (c : zq6h) : Spec :=
  ⟨[(false, [.data (.int .i64)])], [], [(false, [.data .bool])], [], fun x k => c x.1.1.1 (fun r0 => k (((r0, ()), ()), ()))⟩
section
variable (c_incident_person : zq3z)
@[reducible] def incident_somebody_X : Ctx := ⟨look tab, pick1 [(34, .spec (zq40 c_incident_person))], false, false, false, false, false⟩
def zq6j {β : Type} (n : Int) (k : (Bool → Option β)) : Option β :=
  cond (decide (n = (-1 : Int)))
  (k true)
  (c_incident_person n (fun (rperson : Bool) =>
  k rperson))
theorem zq6k (hΓ : ΓOk Try.prog (incident_somebody_X c_incident_person).Γ) : SpecOk Try.prog 42 (zq6i (zq6j c_incident_person)) :=
  spec_exec (X := (incident_somebody_X c_incident_person)) (Λ := pick1 []) (rs := [.tmp 2]) (c := bodyOf Try.f42) mixed tab_ok hΓ Try.func42 (by kernel_rfl) (by kernel_rfl) (by kernel_rfl) (by kernel_rfl) CutsOk_nil (fun x k r h => Eq.trans (b := (zq6i (zq6j c_incident_person)).run x k) (by kernel_rfl) h)
end
theorem zq6lΓ : ΓOk Try.prog (pick1 [(34, .spec (zq40 zq44))]) := (ΓOk_cons zq45 ΓOk_nil)
def zq6m : zq6h := zq6j zq44
theorem zq6n : SpecOk Try.prog 42 (zq6i zq6m) := zq6k zq44 zq6lΓ

/-- pagewatch/pagewatchref37.Copy -/
abbrev zq6o := {β : Type} → zq4 → (Int → Int → Int → Int → (List UInt8) → Int → Int → Int → Int → (List Int) → (List zq0) → (List zq2) → (List Int) → (List (Int × (Int × Int))) → Option β) → Option β
def zq6p (c : zq6o) : Spec :=
  ⟨[(true, [.data zq5])], [], [(true, [.data (.int .i64), .data (.int .i64), .data (.int .i64), .data (.int .i64), .data .str, .data (.int .i64), .data (.int .i64), .data (.int .i64), .rowh 0, .rowh 1, .rowh 2, .rowh 3, .rowh 4, .data (.int .i64)])], [.row 3 (.int .i64), .row 69 zq1, .row 42 zq3, .row 3 (.int .i64), .row 64 (.prod (.int .i64) (.prod (.int .i64) (.int .i64)))], fun x k => c x.1.1.1 (fun r0 r1 r2 r3 r4 r5 r6 r7 r8 r9 r10 r11 r12 r13 => k (((r0, r1, r2, r3, r4, r5, r6, r7, r8, ()), ()), (r9, r10, r11, r12, r13, ())))⟩
noncomputable def ref37_Copy_p1_code : Code := codeAt 250 (bodyOf Try.f45)
abbrev zq6q (β : Type) := Int → Int → Int → Int → (List UInt8) → Int → Int → Int → (List zq2) → Int → Int → Int → Int → Int → (List UInt8) → Int → Int → Int → Int → (List zq2) → (List Int) → (List zq0) → (List Int) → (List (Int × (Int × Int))) → (List Int) → (List zq0) → (List zq2) → (List Int) → (List (Int × (Int × Int))) → Option β
abbrev zq6r := {β : Type} → zq6q β → Int → Int → Int → Int → Int → (List UInt8) → Int → Int → Int → (List zq2) → Int → Int → Int → Int → Int → (List UInt8) → Int → Int → Int → Int → (List zq2) → (List Int) → (List zq0) → (List Int) → (List (Int × (Int × Int))) → (List Int) → (List zq0) → (List zq2) → (List Int) → (List (Int × (Int × Int))) → Option β
def zq6s : View := ⟨0, [1, 2, 3, 4], [(false, [.ptr 0 0]), (false, [.ptr 1 0]), (false, [.rowh 2]), (false, [.data (.int .i64)])], [.cells 32 [.data (.int .i64), .data (.int .i64), .data (.int .i64), .data (.int .i64), .data .str, .data (.int .i64), .data (.int .i64), .data (.int .i64), .rowh 3, .rowh 4, .data (.slice zq3), .rowh 5, .rowh 6, .data (.int .i64)], .cells 32 [.data (.int .i64), .data (.int .i64), .data (.int .i64), .data (.int .i64), .data .str, .data (.int .i64), .data (.int .i64), .data (.int .i64), .rowh 7, .rowh 8, .rowh 9, .rowh 10, .rowh 11, .data (.int .i64)], .row 42 zq3, .row 3 (.int .i64), .row 69 zq1, .row 3 (.int .i64), .row 64 (.prod (.int .i64) (.prod (.int .i64) (.int .i64))), .row 3 (.int .i64), .row 69 zq1, .row 42 zq3, .row 3 (.int .i64), .row 64 (.prod (.int .i64) (.prod (.int .i64) (.int .i64)))]⟩
def zq6t : List (AExit × View) := [(.exit 0, ⟨0, [1, 2, 3], [(false, [.ptr 0 0]), (false, [.ptr 1 0]), (false, [.rowh 2])], [.cells 32 [.data (.int .i64), .data (.int .i64), .data (.int .i64), .data (.int .i64), .data .str, .data (.int .i64), .data (.int .i64), .data (.int .i64), .rowh 3, .rowh 4, .data (.slice zq3), .rowh 5, .rowh 6, .data (.int .i64)], .cells 32 [.data (.int .i64), .data (.int .i64), .data (.int .i64), .data (.int .i64), .data .str, .data (.int .i64), .data (.int .i64), .data (.int .i64), .rowh 7, .rowh 8, .rowh 9, .rowh 10, .rowh 11, .data (.int .i64)], .row 42 zq3, .row 3 (.int .i64), .row 69 zq1, .row 3 (.int .i64), .row 64 (.prod (.int .i64) (.prod (.int .i64) (.int .i64))), .row 3 (.int .i64), .row 69 zq1, .row 42 zq3, .row 3 (.int .i64), .row 64 (.prod (.int .i64) (.prod (.int .i64) (.int .i64)))]⟩)]
@[reducible] def ref37_Copy_p1_G (p : zq6r) {β : Type} (d : zq6s.den) (ks : Outs.K β zq6t) : Option β :=
  p (fun a0 a1 a2 a3 a4 a5 a6 a7 a8 a9 a10 a11 a12 a13 a14 a15 a16 a17 a18 a19 a20 a21 a22 a23 a24 a25 a26 a27 a28 => ks.1 (((), (), (), ()), ((a0, a1, a2, a3, a4, a5, a6, a7, a8, a9, ()), (a10, a11, a12, a13, a14, a15, a16, a17, a18, ()), a19, a20, a21, a22, a23, a24, a25, a26, a27, a28, ()))) d.1.2.2.2.1.1 d.2.1.1 d.2.1.2.1 d.2.1.2.2.1 d.2.1.2.2.2.1 d.2.1.2.2.2.2.1 d.2.1.2.2.2.2.2.1 d.2.1.2.2.2.2.2.2.1 d.2.1.2.2.2.2.2.2.2.1 d.2.1.2.2.2.2.2.2.2.2.1 d.2.1.2.2.2.2.2.2.2.2.2.1 d.2.2.1.1 d.2.2.1.2.1 d.2.2.1.2.2.1 d.2.2.1.2.2.2.1 d.2.2.1.2.2.2.2.1 d.2.2.1.2.2.2.2.2.1 d.2.2.1.2.2.2.2.2.2.1 d.2.2.1.2.2.2.2.2.2.2.1 d.2.2.1.2.2.2.2.2.2.2.2.1 d.2.2.2.1 d.2.2.2.2.1 d.2.2.2.2.2.1 d.2.2.2.2.2.2.1 d.2.2.2.2.2.2.2.1 d.2.2.2.2.2.2.2.2.1 d.2.2.2.2.2.2.2.2.2.1 d.2.2.2.2.2.2.2.2.2.2.1 d.2.2.2.2.2.2.2.2.2.2.2.1 d.2.2.2.2.2.2.2.2.2.2.2.2.1
section
@[reducible] def ref37_Copy_X : Ctx := ⟨look tab, pick1 [], false, false, false, false, false⟩
def zq6u {β : Type} (rec : Int → Int → Int → Int → Int → (List UInt8) → Int → Int → Int → (List zq2) → Int → Int → Int → Int → Int → (List UInt8) → Int → Int → Int → Int → (List zq2) → (List Int) → (List zq0) → (List Int) → (List (Int × (Int × Int))) → (List Int) → (List zq0) → (List zq2) → (List Int) → (List (Int × (Int × Int))) → Option β) (k1 : zq6q β) (i_ : Int) (x : Int) (x2 : Int) (x3 : Int) (x4 : Int) (x5 : List UInt8) (x6 : Int) (x7 : Int) (x8 : Int) (x9 : List zq2) (x10 : Int) (t2 : Int) (t22 : Int) (t23 : Int) (t24 : Int) (t25 : List UInt8) (t26 : Int) (t27 : Int) (t28 : Int) (t29 : Int) (l : List zq2) (b3_ : List Int) (b4_ : List zq0) (b5_ : List Int) (b6_ : List (Int × (Int × Int))) (b7_ : List Int) (b8_ : List zq0) (b9_ : List zq2) (b10_ : List Int) (b11_ : List (Int × (Int × Int))) : Option β :=
  cond (decide (i_ < (List.length x9 : Int)))
  (cond (decide (0 ≤ i_) && decide (i_ < (List.length x9 : Int)))
  (let e : zq2 := List.getD x9 (Int.toNat i_) ((0 : Int), ((0 : Int), (([] : List UInt8), ([] : List Int))));
  cond (decide (List.length e.2.2.2 * 8 ≤ roomMax))
  (let l2 : List zq2 := ([e] : List zq2);
  cond (decide ((List.length l + List.length l2) * 56 ≤ roomMax))
  (let l3 : List zq2 := (l ++ l2);
  let i_2 : Int := (IntKind.i64.wrap (i_ + (1 : Int)));
  rec i_2 x x2 x3 x4 x5 x6 x7 x8 x9 x10 t2 t22 t23 t24 t25 t26 t27 t28 t29 l3 b3_ b4_ b5_ b6_ b7_ b8_ b9_ b10_ b11_)
  none)
  none)
  none)
  (k1 x x2 x3 x4 x5 x6 x7 x8 x9 x10 t2 t22 t23 t24 t25 t26 t27 t28 t29 l b3_ b4_ b5_ b6_ b7_ b8_ b9_ b10_ b11_)
def zq6v {β : Type} : Nat → zq6q β → Int → Int → Int → Int → Int → (List UInt8) → Int → Int → Int → (List zq2) → Int → Int → Int → Int → Int → (List UInt8) → Int → Int → Int → Int → (List zq2) → (List Int) → (List zq0) → (List Int) → (List (Int × (Int × Int))) → (List Int) → (List zq0) → (List zq2) → (List Int) → (List (Int × (Int × Int))) → Option β
  | 0 => fun _ _ _ _ _ _ _ _ _ _ _ _ _ _ _ _ _ _ _ _ _ _ _ _ _ _ _ _ _ _ _ => none
  | i + 1 => fun k1 i_ x x2 x3 x4 x5 x6 x7 x8 x9 x10 t2 t22 t23 t24 t25 t26 t27 t28 t29 l b3_ b4_ b5_ b6_ b7_ b8_ b9_ b10_ b11_ => zq6u (zq6v i k1) k1 i_ x x2 x3 x4 x5 x6 x7 x8 x9 x10 t2 t22 t23 t24 t25 t26 t27 t28 t29 l b3_ b4_ b5_ b6_ b7_ b8_ b9_ b10_ b11_
theorem zq6w (hΓ : ΓOk Try.prog ref37_Copy_X.Γ) (i : Nat) : PieceOk Try.prog 45 0 ref37_Copy_p1_code zq6s zq6t (ref37_Copy_p1_G (zq6v i)) := by
  rw [show ref37_Copy_p1_code = .loop (loopBody ref37_Copy_p1_code) by kernel_rfl]
  exact piece_loop (X := ref37_Copy_X) (p := 1) (Λ := pick1 []) (G := fun i => @fun β d ks => ref37_Copy_p1_G (zq6v i) d ks) mixed tab_ok hΓ rfl (by kernel_rfl) CutsOk_nil (fun _ _ => rfl) (fun i => @fun β d ks r h => Eq.trans (b := ref37_Copy_p1_G (zq6v (i + 1)) d ks) (by kernel_rfl) h) i
def zq6x (p1 : zq6r) {β : Type} (x : zq4) (k : (Int → Int → Int → Int → (List UInt8) → Int → Int → Int → Int → (List Int) → (List zq0) → (List zq2) → (List Int) → (List (Int × (Int × Int))) → Option β)) : Option β :=
  cond (decide (List.length x.2.2.2.2.2.2.1 * 8 ≤ roomMax))
  (cond (decide (List.length x.2.2.2.2.2.2.2.1 * 40 ≤ roomMax))
  (cond (decide (List.length x.2.2.2.2.2.2.2.2.2.1 * 8 ≤ roomMax))
  (cond (decide (List.length x.2.2.2.2.2.2.2.2.2.2.1 * 24 ≤ roomMax))
  (p1 (fun (x2 : Int) (x3 : Int) (x4 : Int) (x5 : Int) (x6 : List UInt8) (x7 : Int) (x8 : Int) (x9 : Int) (x10 : List zq2) (x11 : Int) (t2 : Int) (t22 : Int) (t23 : Int) (t24 : Int) (t25 : List UInt8) (t26 : Int) (t27 : Int) (t28 : Int) (t29 : Int) (l : List zq2) (b3_ : List Int) (b4_ : List zq0) (b5_ : List Int) (b6_ : List (Int × (Int × Int))) (b7_ : List Int) (b8_ : List zq0) (b9_ : List zq2) (b10_ : List Int) (b11_ : List (Int × (Int × Int))) =>
  k x2 x3 x4 x5 x6 x7 x8 x9 x11 b3_ b4_ l b5_ b6_) (0 : Int) x.1 x.2.1 x.2.2.1 x.2.2.2.1 x.2.2.2.2.1 x.2.2.2.2.2.1.1 x.2.2.2.2.2.1.2.1 x.2.2.2.2.2.1.2.2 x.2.2.2.2.2.2.2.2.1 x.2.2.2.2.2.2.2.2.2.2.2 (0 : Int) (0 : Int) (0 : Int) (0 : Int) ([] : List UInt8) (0 : Int) (0 : Int) (0 : Int) (0 : Int) ([] : List zq2) x.2.2.2.2.2.2.1 x.2.2.2.2.2.2.2.1 x.2.2.2.2.2.2.2.2.2.1 x.2.2.2.2.2.2.2.2.2.2.1 ([] : List Int) ([] : List zq0) ([] : List zq2) ([] : List Int) ([] : List (Int × (Int × Int))))
  none)
  none)
  none)
  none
theorem zq6y (hΓ : ΓOk Try.prog ref37_Copy_X.Γ) (p1 : zq6r) (hp1 : PieceOk Try.prog 45 0 ref37_Copy_p1_code zq6s zq6t (ref37_Copy_p1_G p1)) : SpecOk Try.prog 45 (zq6p (zq6x p1)) :=
  spec_exec (X := ref37_Copy_X) (Λ := pick1 [(250, pieceCut zq6s zq6t (ref37_Copy_p1_G p1))]) (rs := [.cell 2 32]) (c := bodyOf Try.f45) mixed tab_ok hΓ Try.func45 (by kernel_rfl) (by kernel_rfl) (by kernel_rfl) (by kernel_rfl) (CutsOk_cons (q := 250) (c' := ref37_Copy_p1_code) (by kernel_rfl) rfl hp1 CutsOk_nil) (fun x k r h => Eq.trans (b := (zq6p (zq6x p1)).run x k) (by kernel_rfl) h)
end
theorem zq6zΓ : ΓOk Try.prog (pick1 []) := ΓOk_nil
def zq70 (m : Nat) : zq6r := zq6v m
theorem zq71 {β : Type} (i : Nat) (k1 i_ x x2 x3 x4 x5 x6 x7 x8 x9 x10 t2 t22 t23 t24 t25 t26 t27 t28 t29 l b3_ b4_ b5_ b6_ b7_ b8_ b9_ b10_ b11_) : (zq70 (i + 1) k1 i_ x x2 x3 x4 x5 x6 x7 x8 x9 x10 t2 t22 t23 t24 t25 t26 t27 t28 t29 l b3_ b4_ b5_ b6_ b7_ b8_ b9_ b10_ b11_ : Option β) = zq6u (zq70 i k1) k1 i_ x x2 x3 x4 x5 x6 x7 x8 x9 x10 t2 t22 t23 t24 t25 t26 t27 t28 t29 l b3_ b4_ b5_ b6_ b7_ b8_ b9_ b10_ b11_ := rfl
def zq72 : zq6r := zq70 fuel
theorem zq73 : PieceOk Try.prog 45 0 ref37_Copy_p1_code zq6s zq6t (ref37_Copy_p1_G zq72) := zq6w zq6zΓ fuel
def zq74 : zq6o := zq6x zq72
theorem zq75 : SpecOk Try.prog 45 (zq6p zq74) := zq6y zq6zΓ zq72 zq73

/-- pagewatch/pagewatchref37.last -/
abbrev zq76 := {β : Type} → zq4 → (Int → Option β) → Option β
def zq77 (c : zq76) : Spec :=
  ⟨[(true, [.data zq5])], [], [(false, [.data (.int .i64)])], [], fun x k => c x.1.1.1 (fun r0 => k (((r0, ()), ()), ()))⟩
noncomputable def ref37_last_p1_code : Code := codeAt 15 (bodyOf Try.f46)
abbrev zq78 (β : Type) := Int → Option β
abbrev zq79 := {β : Type} → zq78 β → Int → Int → Int → Int → Int → (List UInt8) → Int → Int → Int → (List Int) → (List zq0) → (List zq2) → (List Int) → (List (Int × (Int × Int))) → Int → Option β
def zq7a : View := ⟨0, [1, 3], [(false, [.ptr 0 0]), (false, [.data (.int .i64)])], [.cells 32 [.data (.int .i64), .data (.int .i64), .data (.int .i64), .data (.int .i64), .data .str, .data (.int .i64), .data (.int .i64), .data (.int .i64), .data (.slice (.int .i64)), .data (.slice zq1), .data (.slice zq3), .data (.slice (.int .i64)), .data (.slice (.prod (.int .i64) (.prod (.int .i64) (.int .i64)))), .data (.int .i64)]]⟩
def zq7b : List (AExit × View) := [(.ret, ⟨0, [2], [(false, [.data (.int .i64)])], []⟩)]
@[reducible] def ref37_last_p1_G (p : zq79) {β : Type} (d : zq7a.den) (ks : Outs.K β zq7b) : Option β :=
  p (fun a0 => ks.1 (((a0, ()), ()), ())) d.1.2.1.1 d.2.1.1 d.2.1.2.1 d.2.1.2.2.1 d.2.1.2.2.2.1 d.2.1.2.2.2.2.1 d.2.1.2.2.2.2.2.1 d.2.1.2.2.2.2.2.2.1 d.2.1.2.2.2.2.2.2.2.1 d.2.1.2.2.2.2.2.2.2.2.1 d.2.1.2.2.2.2.2.2.2.2.2.1 d.2.1.2.2.2.2.2.2.2.2.2.2.1 d.2.1.2.2.2.2.2.2.2.2.2.2.2.1 d.2.1.2.2.2.2.2.2.2.2.2.2.2.2.1 d.2.1.2.2.2.2.2.2.2.2.2.2.2.2.2.1
section
@[reducible] def ref37_last_X : Ctx := ⟨look tab, pick1 [], false, false, false, false, false⟩
def zq7c {β : Type} (k1 : zq78 β) (at_ : Int) (x : Int) (x2 : Int) (x3 : Int) (x4 : Int) (x5 : List UInt8) (x6 : Int) (x7 : Int) (x8 : Int) (x9 : List Int) (x10 : List zq0) (x11 : List zq2) (x12 : List Int) (x13 : List (Int × (Int × Int))) (x14 : Int) : Option β :=
  cond (decide ((0 : Int) < (List.length x13 : Int)))
  (cond (decide (0 ≤ (IntKind.i64.wrap ((List.length x13 : Int) - (1 : Int)))) && decide ((IntKind.i64.wrap ((List.length x13 : Int) - (1 : Int))) < (List.length x13 : Int)))
  (let e : (Int × (Int × Int)) := List.getD x13 (Int.toNat (IntKind.i64.wrap ((List.length x13 : Int) - (1 : Int)))) ((0 : Int), ((0 : Int), (0 : Int)));
  let at_2 : Int := (if e.1 > at_ then e.1 else at_);
  k1 at_2)
  none)
  (k1 at_)
def zq7d {β : Type} (k1 : zq78 β) (at_ : Int) (x : Int) (x2 : Int) (x3 : Int) (x4 : Int) (x5 : List UInt8) (x6 : Int) (x7 : Int) (x8 : Int) (x9 : List Int) (x10 : List zq0) (x11 : List zq2) (x12 : List Int) (x13 : List (Int × (Int × Int))) (x14 : Int) : Option β := zq7c k1 at_ x x2 x3 x4 x5 x6 x7 x8 x9 x10 x11 x12 x13 x14
theorem zq7e (hΓ : ΓOk Try.prog ref37_last_X.Γ) : PieceOk Try.prog 37 0 ref37_last_p1_code zq7a zq7b (ref37_last_p1_G (zq7d)) :=
  piece_exec (X := ref37_last_X) (p := 15) (Λ := pick1 []) mixed tab_ok hΓ (by kernel_rfl) CutsOk_nil (fun d ks r h => Eq.trans (b := ref37_last_p1_G (zq7d) d ks) (by kernel_rfl) h)
def zq7f (p1 : zq79) {β : Type} (x : zq4) (k : (Int → Option β)) : Option β :=
  cond (decide ((0 : Int) < (List.length x.2.2.2.2.2.2.2.2.1 : Int)))
  (cond (decide (0 ≤ (IntKind.i64.wrap ((List.length x.2.2.2.2.2.2.2.2.1 : Int) - (1 : Int)))) && decide ((IntKind.i64.wrap ((List.length x.2.2.2.2.2.2.2.2.1 : Int) - (1 : Int))) < (List.length x.2.2.2.2.2.2.2.2.1 : Int)))
  (let e : zq2 := List.getD x.2.2.2.2.2.2.2.2.1 (Int.toNat (IntKind.i64.wrap ((List.length x.2.2.2.2.2.2.2.2.1 : Int) - (1 : Int)))) ((0 : Int), ((0 : Int), (([] : List UInt8), ([] : List Int))));
  let at_ : Int := (if e.1 > x.2.2.2.1 then e.1 else x.2.2.2.1);
  p1 (fun (t2 : Int) =>
  k t2) at_ x.1 x.2.1 x.2.2.1 x.2.2.2.1 x.2.2.2.2.1 x.2.2.2.2.2.1.1 x.2.2.2.2.2.1.2.1 x.2.2.2.2.2.1.2.2 x.2.2.2.2.2.2.1 x.2.2.2.2.2.2.2.1 x.2.2.2.2.2.2.2.2.1 x.2.2.2.2.2.2.2.2.2.1 x.2.2.2.2.2.2.2.2.2.2.1 x.2.2.2.2.2.2.2.2.2.2.2)
  none)
  (p1 (fun (t2 : Int) =>
  k t2) x.2.2.2.1 x.1 x.2.1 x.2.2.1 x.2.2.2.1 x.2.2.2.2.1 x.2.2.2.2.2.1.1 x.2.2.2.2.2.1.2.1 x.2.2.2.2.2.1.2.2 x.2.2.2.2.2.2.1 x.2.2.2.2.2.2.2.1 x.2.2.2.2.2.2.2.2.1 x.2.2.2.2.2.2.2.2.2.1 x.2.2.2.2.2.2.2.2.2.2.1 x.2.2.2.2.2.2.2.2.2.2.2)
theorem zq7g (hΓ : ΓOk Try.prog ref37_last_X.Γ) (p1 : zq79) (hp1 : PieceOk Try.prog 37 0 ref37_last_p1_code zq7a zq7b (ref37_last_p1_G p1)) : SpecOk Try.prog 46 (zq77 (zq7f p1)) :=
  spec_exec (X := ref37_last_X) (Λ := pick1 [(15, pieceCut zq7a zq7b (ref37_last_p1_G p1))]) (rs := [.tmp 2]) (c := bodyOf Try.f46) mixed tab_ok hΓ Try.func46 (by kernel_rfl) (by kernel_rfl) (by kernel_rfl) (by kernel_rfl) (CutsOk_cons (q := 15) (c' := ref37_last_p1_code) (by kernel_rfl) rfl hp1 CutsOk_nil) (fun x k r h => Eq.trans (b := (zq77 (zq7f p1)).run x k) (by kernel_rfl) h)
end
theorem zq7hΓ : ΓOk Try.prog (pick1 []) := ΓOk_nil
def zq7i : zq79 := zq7d
theorem zq7j : PieceOk Try.prog 37 0 ref37_last_p1_code zq7a zq7b (ref37_last_p1_G zq7i) := zq7e zq7hΓ
def zq7k : zq76 := zq7f zq7i
theorem zq7l : SpecOk Try.prog 46 (zq77 zq7k) := zq7g zq7hΓ zq7i zq7j

/-- pagewatch/pagewatchref37.Possible -/
abbrev zq7m := {β : Type} → Int → Int → (Bool → Option β) → Option β
def zq7n (c : zq7m) : Spec :=
  ⟨[(false, [.data (.int .i64)]), (false, [.data (.int .i64)])], [], [(false, [.data .bool])], [], fun x k => c x.1.1.1 x.1.2.1.1 (fun r0 => k (((r0, ()), ()), ()))⟩
section
@[reducible] def ref37_Possible_X : Ctx := ⟨look tab, pick1 [], false, false, false, false, false⟩
def zq7o {β : Type} (from_ : Int) (to_ : Int) (k : (Bool → Option β)) : Option β :=
  let t : Bool := (decide (from_ = (0 : Int)));
  cond t
  (cond (decide (to_ = (1 : Int)))
  (k true)
  (cond (decide (to_ = (2 : Int)))
  (k true)
  (let t2 : Bool := (decide (to_ = (4 : Int)));
  k t2)))
  (let t2 : Bool := (decide (from_ = (1 : Int)));
  cond t2
  (cond (decide (to_ = (0 : Int)))
  (k true)
  (cond (decide (to_ = (2 : Int)))
  (k true)
  (let t3 : Bool := (decide (to_ = (4 : Int)));
  k t3)))
  (let t3 : Bool := (decide (from_ = (2 : Int)));
  cond t3
  (cond (decide (to_ = (0 : Int)))
  (k true)
  (let t4 : Bool := (decide (to_ = (3 : Int)));
  k t4))
  (k false)))
theorem zq7p (hΓ : ΓOk Try.prog ref37_Possible_X.Γ) : SpecOk Try.prog 47 (zq7n (zq7o)) :=
  spec_exec (X := ref37_Possible_X) (Λ := pick1 []) (rs := [.tmp 4]) (c := bodyOf Try.f47) mixed tab_ok hΓ Try.func47 (by kernel_rfl) (by kernel_rfl) (by kernel_rfl) (by kernel_rfl) CutsOk_nil (fun x k r h => Eq.trans (b := (zq7n (zq7o)).run x k) (by kernel_rfl) h)
end
theorem zq7qΓ : ΓOk Try.prog (pick1 []) := ΓOk_nil
def zq7r : zq7m := zq7o
theorem zq7s : SpecOk Try.prog 47 (zq7n zq7r) := zq7p zq7qΓ

/-- pagewatch/pagewatchref37.move -/
abbrev zq7t := {β : Type} → zq4 → Int → Int → Int → (zq4 → Option β) → Option β
def zq7u (c : zq7t) : Spec :=
  ⟨[(true, [.data zq5]), (false, [.data (.int .i64)]), (false, [.data (.int .i64)]), (false, [.data (.int .i64)])], [], [(true, [.data zq5])], [], fun x k => c x.1.1.1 x.1.2.1.1 x.1.2.2.1.1 x.1.2.2.2.1.1 (fun r0 => k (((r0, ()), ()), ()))⟩
section
variable (c_ref37_Copy : zq6o)
@[reducible] def ref37_move_X : Ctx := ⟨look tab, pick1 [(45, .spec (zq6p c_ref37_Copy))], false, false, false, false, false⟩
def zq7v {β : Type} (x : zq4) (at_ : Int) (to_ : Int) (who : Int) (k : (zq4 → Option β)) : Option β :=
  c_ref37_Copy x (fun (rCopy : Int) (rCopy2 : Int) (rCopy3 : Int) (rCopy4 : Int) (rCopy5 : List UInt8) (rCopy6 : Int) (rCopy7 : Int) (rCopy8 : Int) (rCopy9 : Int) (lrCopy : List Int) (lrCopy2 : List zq0) (lrCopy3 : List zq2) (lrCopy4 : List Int) (lrCopy5 : List (Int × (Int × Int))) =>
  let l : List (Int × (Int × Int)) := ([(at_, (to_, who))] : List (Int × (Int × Int)));
  cond (decide ((List.length lrCopy5 + List.length l) * 24 ≤ roomMax))
  (let l2 : List (Int × (Int × Int)) := (lrCopy5 ++ l);
  k (rCopy, (to_, (rCopy3, (rCopy4, (rCopy5, ((rCopy6, (rCopy7, rCopy8)), (lrCopy, (lrCopy2, (lrCopy3, (lrCopy4, (l2, rCopy9))))))))))))
  none)
theorem zq7w (hΓ : ΓOk Try.prog (ref37_move_X c_ref37_Copy).Γ) : SpecOk Try.prog 48 (zq7u (zq7v c_ref37_Copy)) :=
  spec_exec (X := (ref37_move_X c_ref37_Copy)) (Λ := pick1 []) (rs := [.cell 8 32]) (c := bodyOf Try.f48) mixed tab_ok hΓ Try.func48 (by kernel_rfl) (by kernel_rfl) (by kernel_rfl) (by kernel_rfl) CutsOk_nil (fun x k r h => Eq.trans (b := (zq7u (zq7v c_ref37_Copy)).run x k) (by kernel_rfl) h)
end
theorem zq7xΓ : ΓOk Try.prog (pick1 [(45, .spec (zq6p zq74))]) := (ΓOk_cons zq75 ΓOk_nil)
def zq7y : zq7t := zq7v zq74
theorem zq7z : SpecOk Try.prog 48 (zq7u zq7y) := zq7w zq74 zq7xΓ

/-- pagewatch/pagewatchref25.With -/
abbrev zq80 := {β : Type} → (List Int) → Int → ((List Int) → Option β) → Option β
def zq81 (c : zq80) : Spec :=
  ⟨[(false, [.data (.slice (.int .i64))]), (false, [.data (.int .i64)])], [], [(false, [.rowh 0])], [.row 3 (.int .i64)], fun x k => c x.1.1.1 x.1.2.1.1 (fun r0 => k (((), ()), (r0, ())))⟩
noncomputable def ref25_With_p2_code : Code := codeAt 122 (bodyOf Try.f49)
noncomputable def ref25_With_p1_code : Code := codeAt 25 (loopBody ref25_With_p2_code)
abbrev zq82 (β : Type) := (List Int) → Int → Bool → Int → (List Int) → Option β
abbrev zq83 := {β : Type} → zq82 β → (List Int) → Int → Bool → Int → (List Int) → Option β
def zq84 : View := ⟨0, [0, 1, 5, 6, 7], [(false, [.data (.slice (.int .i64))]), (false, [.data (.int .i64)]), (false, [.rowh 0]), (false, [.data .bool]), (false, [.data (.int .i64)])], [.row 3 (.int .i64)]⟩
def zq85 : List (AExit × View) := [(.normal, ⟨0, [0, 1, 5, 6, 7], [(false, [.data (.slice (.int .i64))]), (false, [.data (.int .i64)]), (false, [.rowh 0]), (false, [.data .bool]), (false, [.data (.int .i64)])], [.row 3 (.int .i64)]⟩)]
@[reducible] def ref25_With_p1_G (p : zq83) {β : Type} (d : zq84.den) (ks : Outs.K β zq85) : Option β :=
  p (fun a0 a1 a2 a3 a4 => ks.1 (((a0, ()), (a1, ()), (), (a2, ()), (a3, ()), ()), (a4, ()))) d.1.1.1 d.1.2.1.1 d.1.2.2.2.1.1 d.1.2.2.2.2.1.1 d.2.1
abbrev zq86 (β : Type) := Int → Bool → (List Int) → Option β
abbrev zq87 := {β : Type} → zq86 β → (List Int) → Int → Bool → Int → (List Int) → Option β
def zq88 : View := ⟨0, [0, 1, 5, 6, 7], [(false, [.data (.slice (.int .i64))]), (false, [.data (.int .i64)]), (false, [.rowh 0]), (false, [.data .bool]), (false, [.data (.int .i64)])], [.row 3 (.int .i64)]⟩
def zq89 : List (AExit × View) := [(.exit 0, ⟨0, [1, 5, 6], [(false, [.data (.int .i64)]), (false, [.rowh 0]), (false, [.data .bool])], [.row 3 (.int .i64)]⟩)]
@[reducible] def ref25_With_p2_G (p : zq87) {β : Type} (d : zq88.den) (ks : Outs.K β zq89) : Option β :=
  p (fun a0 a1 a2 => ks.1 (((a0, ()), (), (a1, ()), ()), (a2, ()))) d.1.1.1 d.1.2.1.1 d.1.2.2.2.1.1 d.1.2.2.2.2.1.1 d.2.1
section
@[reducible] def ref25_With_X : Ctx := ⟨look tab, pick1 [], false, false, false, false, false⟩
def zq8a {β : Type} (k1 : zq82 β) (l : List Int) (x : Int) (done : Bool) (i_ : Int) (out : List Int) : Option β :=
  cond (decide (0 ≤ i_) && decide (i_ < (List.length l : Int)))
  (let e : Int := List.getD l (Int.toNat i_) (0 : Int);
  cond (!decide (e = x))
  (cond (decide (0 ≤ i_) && decide (i_ < (List.length l : Int)))
  (let e2 : Int := List.getD l (Int.toNat i_) (0 : Int);
  let l2 : List Int := ([e2] : List Int);
  cond (decide ((List.length out + List.length l2) * 8 ≤ roomMax))
  (let l3 : List Int := (out ++ l2);
  k1 l x done i_ l3)
  none)
  none)
  (k1 l x done i_ out))
  none
def zq8b {β : Type} (k1 : zq82 β) (l : List Int) (x : Int) (done : Bool) (i_ : Int) (out : List Int) : Option β := zq8a k1 l x done i_ out
theorem zq8c (hΓ : ΓOk Try.prog ref25_With_X.Γ) : PieceOk Try.prog 48 0 ref25_With_p1_code zq84 zq85 (ref25_With_p1_G (zq8b)) :=
  piece_exec (X := ref25_With_X) (p := 25) (Λ := pick1 []) mixed tab_ok hΓ (by kernel_rfl) CutsOk_nil (fun d ks r h => Eq.trans (b := ref25_With_p1_G (zq8b) d ks) (by kernel_rfl) h)
def zq8d (p1 : zq83) {β : Type} (rec : (List Int) → Int → Bool → Int → (List Int) → Option β) (k1 : zq86 β) (l : List Int) (x : Int) (done : Bool) (i_ : Int) (out : List Int) : Option β :=
  cond (decide (i_ < (List.length l : Int)))
  (cond (!done)
  (cond (decide (0 ≤ i_) && decide (i_ < (List.length l : Int)))
  (let e : Int := List.getD l (Int.toNat i_) (0 : Int);
  cond (decide (x ≤ e))
  (let l2 : List Int := ([x] : List Int);
  cond (decide ((List.length out + List.length l2) * 8 ≤ roomMax))
  (let l3 : List Int := (out ++ l2);
  p1 (fun (l4 : List Int) (x2 : Int) (done2 : Bool) (i_2 : Int) (out2 : List Int) =>
  let i_3 : Int := (IntKind.i64.wrap (i_2 + (1 : Int)));
  rec l4 x2 done2 i_3 out2) l x true i_ l3)
  none)
  (p1 (fun (l2 : List Int) (x2 : Int) (done2 : Bool) (i_2 : Int) (out2 : List Int) =>
  let i_3 : Int := (IntKind.i64.wrap (i_2 + (1 : Int)));
  rec l2 x2 done2 i_3 out2) l x done i_ out))
  none)
  (p1 (fun (l2 : List Int) (x2 : Int) (done2 : Bool) (i_2 : Int) (out2 : List Int) =>
  let i_3 : Int := (IntKind.i64.wrap (i_2 + (1 : Int)));
  rec l2 x2 done2 i_3 out2) l x done i_ out))
  (k1 x done out)
def zq8e (p1 : zq83) {β : Type} : Nat → zq86 β → (List Int) → Int → Bool → Int → (List Int) → Option β
  | 0 => fun _ _ _ _ _ _ => none
  | i + 1 => fun k1 l x done i_ out => zq8d p1 (zq8e p1 i k1) k1 l x done i_ out
theorem zq8f (hΓ : ΓOk Try.prog ref25_With_X.Γ) (p1 : zq83) (hp1 : PieceOk Try.prog 48 0 ref25_With_p1_code zq84 zq85 (ref25_With_p1_G p1)) (i : Nat) : PieceOk Try.prog 48 0 ref25_With_p2_code zq88 zq89 (ref25_With_p2_G (zq8e p1 i)) := by
  rw [show ref25_With_p2_code = .loop (loopBody ref25_With_p2_code) by kernel_rfl]
  exact piece_loop (X := ref25_With_X) (p := 1) (Λ := pick1 [(25, pieceCut zq84 zq85 (ref25_With_p1_G p1))]) (G := fun i => @fun β d ks => ref25_With_p2_G (zq8e p1 i) d ks) mixed tab_ok hΓ rfl (by kernel_rfl) (CutsOk_cons (q := 25) (c' := ref25_With_p1_code) (by kernel_rfl) rfl hp1 CutsOk_nil) (fun _ _ => rfl) (fun i => @fun β d ks r h => Eq.trans (b := ref25_With_p2_G (zq8e p1 (i + 1)) d ks) (by kernel_rfl) h) i
def zq8g (p2 : zq87) {β : Type} (l : List Int) (x : Int) (k : ((List Int) → Option β)) : Option β :=
  p2 (fun (x2 : Int) (done : Bool) (out : List Int) =>
  cond (!done)
  (let l2 : List Int := ([x2] : List Int);
  cond (decide ((List.length out + List.length l2) * 8 ≤ roomMax))
  (let l3 : List Int := (out ++ l2);
  k l3)
  none)
  (k out)) l x false (0 : Int) ([] : List Int)
theorem zq8h (hΓ : ΓOk Try.prog ref25_With_X.Γ) (p2 : zq87) (hp2 : PieceOk Try.prog 48 0 ref25_With_p2_code zq88 zq89 (ref25_With_p2_G p2)) : SpecOk Try.prog 49 (zq81 (zq8g p2)) :=
  spec_exec (X := ref25_With_X) (Λ := pick1 [(122, pieceCut zq88 zq89 (ref25_With_p2_G p2))]) (rs := [.tmp 4]) (c := bodyOf Try.f49) mixed tab_ok hΓ Try.func49 (by kernel_rfl) (by kernel_rfl) (by kernel_rfl) (by kernel_rfl) (CutsOk_cons (q := 122) (c' := ref25_With_p2_code) (by kernel_rfl) rfl hp2 CutsOk_nil) (fun x k r h => Eq.trans (b := (zq81 (zq8g p2)).run x k) (by kernel_rfl) h)
end
theorem zq8iΓ : ΓOk Try.prog (pick1 []) := ΓOk_nil
def zq8j : zq83 := zq8b
theorem zq8k : PieceOk Try.prog 48 0 ref25_With_p1_code zq84 zq85 (ref25_With_p1_G zq8j) := zq8c zq8iΓ
def zq8l (m : Nat) : zq87 := zq8e zq8j m
theorem zq8m {β : Type} (i : Nat) (k1 l x done i_ out) : (zq8l (i + 1) k1 l x done i_ out : Option β) = zq8d zq8j (zq8l i k1) k1 l x done i_ out := rfl
def zq8n : zq87 := zq8l fuel
theorem zq8o : PieceOk Try.prog 48 0 ref25_With_p2_code zq88 zq89 (ref25_With_p2_G zq8n) := zq8f zq8iΓ zq8j zq8k fuel
def zq8p : zq80 := zq8g zq8n
theorem zq8q : SpecOk Try.prog 49 (zq81 zq8p) := zq8h zq8iΓ zq8n zq8o

/-- slices.Clone[[]pagewatch/api.Task,pagewatch/api.Task] -/
abbrev zq8r := {β : Type} → (List zq0) → ((List zq0) → Option β) → Option β
def zq8s (c : zq8r) : Spec :=
  ⟨[(false, [.data (.slice zq1)])], [], [(false, [.rowh 0])], [.row 69 zq1], fun x k => c x.1.1.1 (fun r0 => k (((), ()), (r0, ())))⟩
def zq8t : zq8r := fun l k => cloneF zq1 40 l k
theorem zq8u : SpecOk Try.prog 50 (zq8s zq8t) :=
  clone_ok (et := 69) (e := zq1) (bytes := 40) (by kernel_rfl)
    (spec_exec (X := ⟨look tab, pick1 [], false, false, false, false, false⟩) (Λ := pick1 []) (rs := [.tmp 2]) (c := bodyOf Try.f50) mixed tab_ok ΓOk_nil Try.func50 (by kernel_rfl) (by kernel_rfl) (by kernel_rfl) (by kernel_rfl) CutsOk_nil (fun x k r h => Eq.trans (b := (clone1S 69 zq1 40).run x k) (by kernel_rfl) h))
    (spec_exec (X := ⟨look tab, pick1 [], false, false, false, false, false⟩) (Λ := pick1 []) (rs := [.tmp 2]) (c := bodyOf Try.f50) mixed tab_ok ΓOk_nil Try.func50 (by kernel_rfl) (by kernel_rfl) (by kernel_rfl) (by kernel_rfl) CutsOk_nil (fun x k r h => Eq.trans (b := (clone2S 69 zq1).run x k) (by kernel_rfl) h))

/-- slices.Clone[[]pagewatch/api.Update,pagewatch/api.Update] -/
abbrev zq8v := {β : Type} → (List zq2) → ((List zq2) → Option β) → Option β
def zq8w (c : zq8v) : Spec :=
  ⟨[(false, [.data (.slice zq3)])], [], [(false, [.rowh 0])], [.row 42 zq3], fun x k => c x.1.1.1 (fun r0 => k (((), ()), (r0, ())))⟩
def zq8x : zq8v := fun l k => cloneF zq3 56 l k
theorem zq8y : SpecOk Try.prog 51 (zq8w zq8x) :=
  clone_ok (et := 42) (e := zq3) (bytes := 56) (by kernel_rfl)
    (spec_exec (X := ⟨look tab, pick1 [], false, false, false, false, false⟩) (Λ := pick1 []) (rs := [.tmp 2]) (c := bodyOf Try.f51) mixed tab_ok ΓOk_nil Try.func51 (by kernel_rfl) (by kernel_rfl) (by kernel_rfl) (by kernel_rfl) CutsOk_nil (fun x k r h => Eq.trans (b := (clone1S 42 zq3 56).run x k) (by kernel_rfl) h))
    (spec_exec (X := ⟨look tab, pick1 [], false, false, false, false, false⟩) (Λ := pick1 []) (rs := [.tmp 2]) (c := bodyOf Try.f51) mixed tab_ok ΓOk_nil Try.func51 (by kernel_rfl) (by kernel_rfl) (by kernel_rfl) (by kernel_rfl) CutsOk_nil (fun x k r h => Eq.trans (b := (clone2S 42 zq3).run x k) (by kernel_rfl) h))

/-- slices.Clone[[]pagewatch/api.StateChange,pagewatch/api.StateChange] -/
abbrev zq8z := {β : Type} → (List (Int × (Int × Int))) → ((List (Int × (Int × Int))) → Option β) → Option β
def zq90 (c : zq8z) : Spec :=
  ⟨[(false, [.data (.slice (.prod (.int .i64) (.prod (.int .i64) (.int .i64))))])], [], [(false, [.rowh 0])], [.row 64 (.prod (.int .i64) (.prod (.int .i64) (.int .i64)))], fun x k => c x.1.1.1 (fun r0 => k (((), ()), (r0, ())))⟩
def zq91 : zq8z := fun l k => cloneF (.prod (.int .i64) (.prod (.int .i64) (.int .i64))) 24 l k
theorem zq92 : SpecOk Try.prog 52 (zq90 zq91) :=
  clone_ok (et := 64) (e := (.prod (.int .i64) (.prod (.int .i64) (.int .i64)))) (bytes := 24) (by kernel_rfl)
    (spec_exec (X := ⟨look tab, pick1 [], false, false, false, false, false⟩) (Λ := pick1 []) (rs := [.tmp 2]) (c := bodyOf Try.f52) mixed tab_ok ΓOk_nil Try.func52 (by kernel_rfl) (by kernel_rfl) (by kernel_rfl) (by kernel_rfl) CutsOk_nil (fun x k r h => Eq.trans (b := (clone1S 64 (.prod (.int .i64) (.prod (.int .i64) (.int .i64))) 24).run x k) (by kernel_rfl) h))
    (spec_exec (X := ⟨look tab, pick1 [], false, false, false, false, false⟩) (Λ := pick1 []) (rs := [.tmp 2]) (c := bodyOf Try.f52) mixed tab_ok ΓOk_nil Try.func52 (by kernel_rfl) (by kernel_rfl) (by kernel_rfl) (by kernel_rfl) CutsOk_nil (fun x k r h => Eq.trans (b := (clone2S 64 (.prod (.int .i64) (.prod (.int .i64) (.int .i64)))).run x k) (by kernel_rfl) h))

/-- slices.Sort[[]int,int] -/
def zq93 : Shelf.Ren :=
      { 
      f := fun x =>
        match x with
        | 189 => 53
        | 125 => 64
        | 257 => 63
        | 128 => 74
        | 129 => 75
        | 294 => 65
        | 295 => 66
        | 296 => 67
        | 297 => 68
        | 298 => 69
        | 299 => 70
        | 216 => 71
        | 300 => 72
        | 301 => 73
        | 328 => 76
        | 329 => 77
        | 330 => 78
        | 331 => 79
        | 332 => 80
        | 215 => 81
        | 343 => 82
        | n => n,
      t := fun x =>
        match x with
        | 28 => 22
        | 3 => 3
        | 46 => 81
        | 0 => 0
        | 51 => 90
        | 53 => 92
        | 4 => 4
        | 183 => 84
        | 182 => 83
        | 131 => 87
        | 5 => 5
        | 9 => 9
        | 218 => 93
        | 222 => 97
        | 228 => 99
        | 229 => 100
        | n => n,
      g := fun x => x }
theorem zq94 : Go.Proofs.Lays.n189 Try.prog zq93 :=
  { mixed := by kernel_rfl,
    f125 := Eq.trans Try.func64 (congrArg some (by kernel_rfl)),
    f128 := Eq.trans Try.func74 (congrArg some (by kernel_rfl)),
    f129 := Eq.trans Try.func75 (congrArg some (by kernel_rfl)),
    f189 := Eq.trans Try.func53 (congrArg some (by kernel_rfl)),
    f215 := Eq.trans Try.func81 (congrArg some (by kernel_rfl)),
    f216 := Eq.trans Try.func71 (congrArg some (by kernel_rfl)),
    f257 := Eq.trans Try.func63 (congrArg some (by kernel_rfl)),
    f294 := Eq.trans Try.func65 (congrArg some (by kernel_rfl)),
    f295 := Eq.trans Try.func66 (congrArg some (by kernel_rfl)),
    f296 := Eq.trans Try.func67 (congrArg some (by kernel_rfl)),
    f297 := Eq.trans Try.func68 (congrArg some (by kernel_rfl)),
    f298 := Eq.trans Try.func69 (congrArg some (by kernel_rfl)),
    f299 := Eq.trans Try.func70 (congrArg some (by kernel_rfl)),
    f300 := Eq.trans Try.func72 (congrArg some (by kernel_rfl)),
    f301 := Eq.trans Try.func73 (congrArg some (by kernel_rfl)),
    f328 := Eq.trans Try.func76 (congrArg some (by kernel_rfl)),
    f329 := Eq.trans Try.func77 (congrArg some (by kernel_rfl)),
    f330 := Eq.trans Try.func78 (congrArg some (by kernel_rfl)),
    f331 := Eq.trans Try.func79 (congrArg some (by kernel_rfl)),
    f332 := Eq.trans Try.func80 (congrArg some (by kernel_rfl)),
    f343 := Eq.trans Try.func82 (congrArg some (by kernel_rfl)),
    t0 := Try.underlying0,
    a0 := Try.isAgg0,
    z0 := Try.sizeOf0,
    v0 := Try.zeroValue0,
    t3 := Try.underlying3,
    a3 := Try.isAgg3,
    z3 := Try.sizeOf3,
    v3 := Try.zeroValue3,
    t4 := Try.underlying4,
    a4 := Try.isAgg4,
    z4 := Try.sizeOf4,
    v4 := Try.zeroValue4,
    t5 := Try.underlying5,
    a5 := Try.isAgg5,
    z5 := Try.sizeOf5,
    v5 := Try.zeroValue5,
    t9 := Try.underlying9,
    a9 := Try.isAgg9,
    z9 := Try.sizeOf9,
    v9 := Try.zeroValue9,
    t28 := Try.underlying22,
    a28 := Try.isAgg22,
    z28 := Try.sizeOf22,
    v28 := Try.zeroValue22,
    t46 := Try.underlying81,
    a46 := Try.isAgg81,
    z46 := Try.sizeOf81,
    v46 := Try.zeroValue81,
    t51 := Try.underlying90,
    a51 := Try.isAgg90,
    z51 := Try.sizeOf90,
    v51 := Try.zeroValue90,
    t53 := Try.underlying92,
    a53 := Try.isAgg92,
    z53 := Try.sizeOf92,
    v53 := Try.zeroValue92,
    t131 := Try.underlying87,
    a131 := Try.isAgg87,
    z131 := Try.sizeOf87,
    v131 := Try.zeroValue87,
    t182 := Try.underlying83,
    a182 := Try.isAgg83,
    z182 := Try.sizeOf83,
    v182 := Try.zeroValue83,
    t183 := Try.underlying84,
    a183 := Try.isAgg84,
    z183 := Try.sizeOf84,
    v183 := Try.zeroValue84,
    t218 := Try.underlying93,
    a218 := Try.isAgg93,
    z218 := Try.sizeOf93,
    v218 := Try.zeroValue93,
    t222 := Try.underlying97,
    a222 := Try.isAgg97,
    z222 := Try.sizeOf97,
    v222 := Try.zeroValue97,
    t228 := Try.underlying99,
    a228 := Try.isAgg99,
    z228 := Try.sizeOf99,
    v228 := Try.zeroValue99,
    t229 := Try.underlying100,
    a229 := Try.isAgg100,
    z229 := Try.sizeOf100,
    v229 := Try.zeroValue100 }
def zq95 : RowF := sortF 3
theorem zq96 : RowOk Try.prog 53 zq95 :=
  sort_rowok zq94 rfl ⟨_, Try.func53, by kernel_rfl, by kernel_rfl⟩

/-- slices.Compact[[]int,int] -/
def zq97 : Shelf.Ren :=
      { 
      f := fun x =>
        match x with
        | 20 => 54
        | n => n,
      t := fun x =>
        match x with
        | 22 => 22
        | 3 => 3
        | 4 => 4
        | 0 => 0
        | n => n,
      g := fun x => x }
theorem zq98 : Go.Proofs.Lays2.n20 Try.prog zq97 :=
  { mixed := by kernel_rfl,
    f20 := Eq.trans Try.func54 (congrArg some (by kernel_rfl)),
    t0 := Try.underlying0,
    a0 := Try.isAgg0,
    z0 := Try.sizeOf0,
    v0 := Try.zeroValue0,
    t3 := Try.underlying3,
    a3 := Try.isAgg3,
    z3 := Try.sizeOf3,
    v3 := Try.zeroValue3,
    t4 := Try.underlying4,
    a4 := Try.isAgg4,
    z4 := Try.sizeOf4,
    v4 := Try.zeroValue4,
    t22 := Try.underlying22,
    a22 := Try.isAgg22,
    z22 := Try.sizeOf22,
    v22 := Try.zeroValue22,
    i3 := by kernel_rfl }
def zq99 : RowF := compactF 3
theorem zq9a : RowOk Try.prog 54 zq99 :=
  compact_rowok zq98 rfl ⟨_, Try.func54, by kernel_rfl, by kernel_rfl⟩

/-- slices.Index[[]int,int] -/
abbrev zq9b := {β : Type} → (List Int) → Int → (Int → Option β) → Option β
def zq9c (c : zq9b) : Spec :=
  ⟨[(false, [.data (.slice (.int .i64))]), (false, [.data (.int .i64)])], [], [(false, [.data (.int .i64)])], [], fun x k => c x.1.1.1 x.1.2.1.1 (fun r0 => k (((r0, ()), ()), ()))⟩
noncomputable def slices_Index_int_int_p1_code : Code := codeAt 26 (bodyOf Try.f55)
abbrev zq9d (β : Type) := Int → Option β
abbrev zq9e (β : Type) := Unit → Option β
abbrev zq9f := {β : Type} → zq9d β → zq9e β → (List Int) → Int → Int → Int → Option β
def zq9g : View := ⟨0, [0, 1, 7, 8], [(false, [.data (.slice (.int .i64))]), (false, [.data (.int .i64)]), (false, [.data (.int .i64)]), (false, [.data (.int .i64)])], []⟩
def zq9h : List (AExit × View) := [(.ret, ⟨0, [4], [(false, [.data (.int .i64)])], []⟩), (.exit 0, ⟨0, [], [], []⟩)]
@[reducible] def slices_Index_int_int_p1_G (p : zq9f) {β : Type} (d : zq9g.den) (ks : Outs.K β zq9h) : Option β :=
  p (fun a0 => ks.1 (((a0, ()), ()), ())) (fun _ => ks.2.1 ((), ())) d.1.1.1 d.1.2.1.1 d.1.2.2.1.1 d.1.2.2.2.1.1
section
@[reducible] def slices_Index_int_int_X : Ctx := ⟨look tab, pick1 [], false, false, false, false, false⟩
def zq9i {β : Type} (rec : (List Int) → Int → Int → Int → Option β) (k1 : zq9d β) (k2 : zq9e β) (s : List Int) (v : Int) (t7 : Int) (t8 : Int) : Option β :=
  cond (decide (t8 < t7))
  (cond (decide (0 ≤ t8) && decide (t8 < (List.length s : Int)))
  (let e : Int := List.getD s (Int.toNat t8) (0 : Int);
  cond (decide (v = e))
  (k1 t8)
  (rec s v t7 (IntKind.i64.wrap (t8 + (1 : Int)))))
  none)
  (k2 ())
def zq9j {β : Type} : Nat → zq9d β → zq9e β → (List Int) → Int → Int → Int → Option β
  | 0 => fun _ _ _ _ _ _ => none
  | i + 1 => fun k1 k2 s v t7 t8 => zq9i (zq9j i k1 k2) k1 k2 s v t7 t8
theorem zq9k (hΓ : ΓOk Try.prog slices_Index_int_int_X.Γ) (i : Nat) : PieceOk Try.prog 19 0 slices_Index_int_int_p1_code zq9g zq9h (slices_Index_int_int_p1_G (zq9j i)) := by
  rw [show slices_Index_int_int_p1_code = .loop (loopBody slices_Index_int_int_p1_code) by kernel_rfl]
  exact piece_loop (X := slices_Index_int_int_X) (p := 1) (Λ := pick1 []) (G := fun i => @fun β d ks => slices_Index_int_int_p1_G (zq9j i) d ks) mixed tab_ok hΓ rfl (by kernel_rfl) CutsOk_nil (fun _ _ => rfl) (fun i => @fun β d ks r h => Eq.trans (b := slices_Index_int_int_p1_G (zq9j (i + 1)) d ks) (by kernel_rfl) h) i
def zq9l (p1 : zq9f) {β : Type} (s : List Int) (v : Int) (k : (Int → Option β)) : Option β :=
  p1 (fun (t4 : Int) =>
  k t4) (fun (_ : Unit) =>
  k (-1 : Int)) s v (List.length s : Int) (0 : Int)
theorem zq9m (hΓ : ΓOk Try.prog slices_Index_int_int_X.Γ) (p1 : zq9f) (hp1 : PieceOk Try.prog 19 0 slices_Index_int_int_p1_code zq9g zq9h (slices_Index_int_int_p1_G p1)) : SpecOk Try.prog 55 (zq9c (zq9l p1)) :=
  spec_exec (X := slices_Index_int_int_X) (Λ := pick1 [(26, pieceCut zq9g zq9h (slices_Index_int_int_p1_G p1))]) (rs := [.tmp 4]) (c := bodyOf Try.f55) mixed tab_ok hΓ Try.func55 (by kernel_rfl) (by kernel_rfl) (by kernel_rfl) (by kernel_rfl) (CutsOk_cons (q := 26) (c' := slices_Index_int_int_p1_code) (by kernel_rfl) rfl hp1 CutsOk_nil) (fun x k r h => Eq.trans (b := (zq9c (zq9l p1)).run x k) (by kernel_rfl) h)
end
theorem zq9nΓ : ΓOk Try.prog (pick1 []) := ΓOk_nil
def zq9o (m : Nat) : zq9f := zq9j m
theorem zq9p {β : Type} (i : Nat) (k1 k2 s v t7 t8) : (zq9o (i + 1) k1 k2 s v t7 t8 : Option β) = zq9i (zq9o i k1 k2) k1 k2 s v t7 t8 := rfl
def zq9q : zq9f := zq9o fuel
theorem zq9r : PieceOk Try.prog 19 0 slices_Index_int_int_p1_code zq9g zq9h (slices_Index_int_int_p1_G zq9q) := zq9k zq9nΓ fuel
def zq9s : zq9b := zq9l zq9q
theorem zq9t : SpecOk Try.prog 55 (zq9c zq9s) := zq9m zq9nΓ zq9q zq9r

/-- pagewatch/incident.number -/
abbrev zq9u := {β : Type} → Int → (Bool → Option β) → Option β
def zq9v (c : zq9u) : Spec :=
  ⟨[(false, [.data (.int .i64)])], [], [(false, [.data .bool])], [], fun x k => c x.1.1.1 (fun r0 => k (((r0, ()), ()), ()))⟩
section
variable (c_incident_in : zq2c)
@[reducible] def incident_number_X : Ctx := ⟨look tab, pick1 [(28, .spec (zq2d c_incident_in))], false, false, false, false, false⟩
def zq9w {β : Type} (n : Int) (k : (Bool → Option β)) : Option β :=
  c_incident_in n (1 : Int) (999999 : Int) (fun (rin : Bool) =>
  k rin)
theorem zq9x (hΓ : ΓOk Try.prog (incident_number_X c_incident_in).Γ) : SpecOk Try.prog 56 (zq9v (zq9w c_incident_in)) :=
  spec_exec (X := (incident_number_X c_incident_in)) (Λ := pick1 []) (rs := [.tmp 2]) (c := bodyOf Try.f56) mixed tab_ok hΓ Try.func56 (by kernel_rfl) (by kernel_rfl) (by kernel_rfl) (by kernel_rfl) CutsOk_nil (fun x k r h => Eq.trans (b := (zq9v (zq9w c_incident_in)).run x k) (by kernel_rfl) h)
end
theorem zq9yΓ : ΓOk Try.prog (pick1 [(28, .spec (zq2d zq2h))]) := (ΓOk_cons zq2i ΓOk_nil)
def zq9z : zq9u := zq9w zq2h
theorem zqa0 : SpecOk Try.prog 56 (zq9v zq9z) := zq9x zq2h zq9yΓ

/-- pagewatch/incident.set -/
abbrev zqa1 := {β : Type} → (List Int) → Int → Int → (Bool → Option β) → Option β
def zqa2 (c : zqa1) : Spec :=
  ⟨[(false, [.data (.slice (.int .i64))]), (false, [.data (.int .i64)]), (false, [.data (.int .i64)])], [], [(false, [.data .bool])], [], fun x k => c x.1.1.1 x.1.2.1.1 x.1.2.2.1.1 (fun r0 => k (((r0, ()), ()), ()))⟩
noncomputable def incident_set_p1_code : Code := codeAt 26 (bodyOf Try.f57)
abbrev zqa3 (β : Type) := Bool → Option β
abbrev zqa4 (β : Type) := Unit → Option β
abbrev zqa5 := {β : Type} → zqa3 β → zqa4 β → (List Int) → Int → Int → (List Int) → Int → Int → Option β
def zqa6 : View := ⟨0, [0, 1, 2, 9, 10, 11], [(false, [.data (.slice (.int .i64))]), (false, [.data (.int .i64)]), (false, [.data (.int .i64)]), (false, [.data (.slice (.int .i64))]), (false, [.data (.int .i64)]), (false, [.data (.int .i64)])], []⟩
def zqa7 : List (AExit × View) := [(.ret, ⟨0, [6], [(false, [.data .bool])], []⟩), (.exit 0, ⟨0, [], [], []⟩)]
@[reducible] def incident_set_p1_G (p : zqa5) {β : Type} (d : zqa6.den) (ks : Outs.K β zqa7) : Option β :=
  p (fun a0 => ks.1 (((a0, ()), ()), ())) (fun _ => ks.2.1 ((), ())) d.1.1.1 d.1.2.1.1 d.1.2.2.1.1 d.1.2.2.2.1.1 d.1.2.2.2.2.1.1 d.1.2.2.2.2.2.1.1
section
variable (c_incident_in : zq2c)
@[reducible] def incident_set_X : Ctx := ⟨look tab, pick1 [(28, .spec (zq2d c_incident_in))], false, false, false, false, false⟩
def zqa8 {β : Type} (rec : (List Int) → Int → Int → (List Int) → Int → Int → Option β) (k1 : zqa3 β) (k2 : zqa4 β) (l : List Int) (low : Int) (high : Int) (t9 : List Int) (t10 : Int) (t11 : Int) : Option β :=
  cond (decide (t11 < t10))
  (cond (decide (0 ≤ t11) && decide (t11 < (List.length t9 : Int)))
  (let e : Int := List.getD t9 (Int.toNat t11) (0 : Int);
  c_incident_in e low high (fun (rin : Bool) =>
  cond (!rin)
  (k1 false)
  (cond (decide ((0 : Int) < t11))
  (cond (decide (0 ≤ (IntKind.i64.wrap (t11 - (1 : Int)))) && decide ((IntKind.i64.wrap (t11 - (1 : Int))) < (List.length l : Int)))
  (let e2 : Int := List.getD l (Int.toNat (IntKind.i64.wrap (t11 - (1 : Int)))) (0 : Int);
  cond (decide (e ≤ e2))
  (k1 false)
  (rec l low high t9 t10 (IntKind.i64.wrap (t11 + (1 : Int)))))
  none)
  (rec l low high t9 t10 (IntKind.i64.wrap (t11 + (1 : Int)))))))
  none)
  (k2 ())
def zqa9 {β : Type} : Nat → zqa3 β → zqa4 β → (List Int) → Int → Int → (List Int) → Int → Int → Option β
  | 0 => fun _ _ _ _ _ _ _ _ => none
  | i + 1 => fun k1 k2 l low high t9 t10 t11 => zqa8 c_incident_in (zqa9 i k1 k2) k1 k2 l low high t9 t10 t11
theorem zqaa (hΓ : ΓOk Try.prog (incident_set_X c_incident_in).Γ) (i : Nat) : PieceOk Try.prog 35 0 incident_set_p1_code zqa6 zqa7 (incident_set_p1_G (zqa9 c_incident_in i)) := by
  rw [show incident_set_p1_code = .loop (loopBody incident_set_p1_code) by kernel_rfl]
  exact piece_loop (X := (incident_set_X c_incident_in)) (p := 1) (Λ := pick1 []) (G := fun i => @fun β d ks => incident_set_p1_G (zqa9 c_incident_in i) d ks) mixed tab_ok hΓ rfl (by kernel_rfl) CutsOk_nil (fun _ _ => rfl) (fun i => @fun β d ks r h => Eq.trans (b := incident_set_p1_G (zqa9 c_incident_in (i + 1)) d ks) (by kernel_rfl) h) i
def zqab (p1 : zqa5) {β : Type} (l : List Int) (low : Int) (high : Int) (k : (Bool → Option β)) : Option β :=
  p1 (fun (t6 : Bool) =>
  k t6) (fun (_ : Unit) =>
  k true) l low high l (List.length l : Int) (0 : Int)
theorem zqac (hΓ : ΓOk Try.prog (incident_set_X c_incident_in).Γ) (p1 : zqa5) (hp1 : PieceOk Try.prog 35 0 incident_set_p1_code zqa6 zqa7 (incident_set_p1_G p1)) : SpecOk Try.prog 57 (zqa2 (zqab p1)) :=
  spec_exec (X := (incident_set_X c_incident_in)) (Λ := pick1 [(26, pieceCut zqa6 zqa7 (incident_set_p1_G p1))]) (rs := [.tmp 6]) (c := bodyOf Try.f57) mixed tab_ok hΓ Try.func57 (by kernel_rfl) (by kernel_rfl) (by kernel_rfl) (by kernel_rfl) (CutsOk_cons (q := 26) (c' := incident_set_p1_code) (by kernel_rfl) rfl hp1 CutsOk_nil) (fun x k r h => Eq.trans (b := (zqa2 (zqab p1)).run x k) (by kernel_rfl) h)
end
theorem zqadΓ : ΓOk Try.prog (pick1 [(28, .spec (zq2d zq2h))]) := (ΓOk_cons zq2i ΓOk_nil)
def zqae (m : Nat) : zqa5 := zqa9 zq2h m
theorem zqaf {β : Type} (i : Nat) (k1 k2 l low high t9 t10 t11) : (zqae (i + 1) k1 k2 l low high t9 t10 t11 : Option β) = zqa8 zq2h (zqae i k1 k2) k1 k2 l low high t9 t10 t11 := rfl
def zqag : zqa5 := zqae fuel
theorem zqah : PieceOk Try.prog 35 0 incident_set_p1_code zqa6 zqa7 (incident_set_p1_G zqag) := zqaa zq2h zqadΓ fuel
def zqai : zqa1 := zqab zqag
theorem zqaj : SpecOk Try.prog 57 (zqa2 zqai) := zqac zq2h zqadΓ zqag zqah

/-- pagewatch/incident.persons -/
abbrev zqak := {β : Type} → (List Int) → (Bool → Option β) → Option β
def zqal (c : zqak) : Spec :=
  ⟨[(false, [.data (.slice (.int .i64))])], [], [(false, [.data .bool])], [], fun x k => c x.1.1.1 (fun r0 => k (((r0, ()), ()), ()))⟩
section
variable (c_incident_set : zqa1)
@[reducible] def incident_persons_X : Ctx := ⟨look tab, pick1 [(57, .spec (zqa2 c_incident_set))], false, false, false, false, false⟩
def zqam {β : Type} (l : List Int) (k : (Bool → Option β)) : Option β :=
  c_incident_set l (0 : Int) (31 : Int) (fun (rset : Bool) =>
  k rset)
theorem zqan (hΓ : ΓOk Try.prog (incident_persons_X c_incident_set).Γ) : SpecOk Try.prog 58 (zqal (zqam c_incident_set)) :=
  spec_exec (X := (incident_persons_X c_incident_set)) (Λ := pick1 []) (rs := [.tmp 2]) (c := bodyOf Try.f58) mixed tab_ok hΓ Try.func58 (by kernel_rfl) (by kernel_rfl) (by kernel_rfl) (by kernel_rfl) CutsOk_nil (fun x k r h => Eq.trans (b := (zqal (zqam c_incident_set)).run x k) (by kernel_rfl) h)
end
theorem zqaoΓ : ΓOk Try.prog (pick1 [(57, .spec (zqa2 zqai))]) := (ΓOk_cons zqaj ΓOk_nil)
def zqap : zqak := zqam zqai
theorem zqaq : SpecOk Try.prog 58 (zqal zqap) := zqan zqai zqaoΓ

/-- pagewatch/incident.tasks -/
abbrev zqar := {β : Type} → zq4 → (Bool → Option β) → Option β
def zqas (c : zqar) : Spec :=
  ⟨[(true, [.data zq5])], [], [(false, [.data .bool])], [], fun x k => c x.1.1.1 (fun r0 => k (((r0, ()), ()), ()))⟩
noncomputable def incident_tasks_p1_code : Code := codeAt 26 (bodyOf Try.f59)
abbrev zqat (β : Type) := Bool → Option β
abbrev zqau (β : Type) := Int → Int → Int → Int → (List UInt8) → Int → Int → Int → (List Int) → (List zq0) → (List zq2) → (List Int) → (List (Int × (Int × Int))) → Int → Option β
abbrev zqav := {β : Type} → zqat β → zqau β → (List zq0) → Int → Int → Int → Int → Int → Int → (List UInt8) → Int → Int → Int → (List Int) → (List zq0) → (List zq2) → (List Int) → (List (Int × (Int × Int))) → Int → Option β
def zqaw : View := ⟨0, [1, 6, 7, 8], [(false, [.ptr 0 0]), (false, [.data (.slice zq1)]), (false, [.data (.int .i64)]), (false, [.data (.int .i64)])], [.cells 32 [.data (.int .i64), .data (.int .i64), .data (.int .i64), .data (.int .i64), .data .str, .data (.int .i64), .data (.int .i64), .data (.int .i64), .data (.slice (.int .i64)), .data (.slice zq1), .data (.slice zq3), .data (.slice (.int .i64)), .data (.slice (.prod (.int .i64) (.prod (.int .i64) (.int .i64)))), .data (.int .i64)]]⟩
def zqax : List (AExit × View) := [(.ret, ⟨0, [2], [(false, [.data .bool])], []⟩), (.exit 0, ⟨0, [1], [(false, [.ptr 0 0])], [.cells 32 [.data (.int .i64), .data (.int .i64), .data (.int .i64), .data (.int .i64), .data .str, .data (.int .i64), .data (.int .i64), .data (.int .i64), .data (.slice (.int .i64)), .data (.slice zq1), .data (.slice zq3), .data (.slice (.int .i64)), .data (.slice (.prod (.int .i64) (.prod (.int .i64) (.int .i64)))), .data (.int .i64)]]⟩)]
@[reducible] def incident_tasks_p1_G (p : zqav) {β : Type} (d : zqaw.den) (ks : Outs.K β zqax) : Option β :=
  p (fun a0 => ks.1 (((a0, ()), ()), ())) (fun a0 a1 a2 a3 a4 a5 a6 a7 a8 a9 a10 a11 a12 a13 => ks.2.1 (((), ()), ((a0, a1, a2, a3, a4, a5, a6, a7, a8, a9, a10, a11, a12, a13, ()), ()))) d.1.2.1.1 d.1.2.2.1.1 d.1.2.2.2.1.1 d.2.1.1 d.2.1.2.1 d.2.1.2.2.1 d.2.1.2.2.2.1 d.2.1.2.2.2.2.1 d.2.1.2.2.2.2.2.1 d.2.1.2.2.2.2.2.2.1 d.2.1.2.2.2.2.2.2.2.1 d.2.1.2.2.2.2.2.2.2.2.1 d.2.1.2.2.2.2.2.2.2.2.2.1 d.2.1.2.2.2.2.2.2.2.2.2.2.1 d.2.1.2.2.2.2.2.2.2.2.2.2.2.1 d.2.1.2.2.2.2.2.2.2.2.2.2.2.2.1 d.2.1.2.2.2.2.2.2.2.2.2.2.2.2.2.1
section
variable (c_incident_Text : zq3c) (c_incident_in : zq2c) (c_incident_somebody : zq6h)
@[reducible] def incident_tasks_X : Ctx := ⟨look tab, pick1 [(30, .spec (zq3d c_incident_Text)), (28, .spec (zq2d c_incident_in)), (42, .spec (zq6i c_incident_somebody))], false, false, false, false, false⟩
def zqay {β : Type} (rec : (List zq0) → Int → Int → Int → Int → Int → Int → (List UInt8) → Int → Int → Int → (List Int) → (List zq0) → (List zq2) → (List Int) → (List (Int × (Int × Int))) → Int → Option β) (k1 : zqat β) (k2 : zqau β) (t6 : List zq0) (t7 : Int) (t8 : Int) (x : Int) (x2 : Int) (x3 : Int) (x4 : Int) (x5 : List UInt8) (x6 : Int) (x7 : Int) (x8 : Int) (x9 : List Int) (x10 : List zq0) (x11 : List zq2) (x12 : List Int) (x13 : List (Int × (Int × Int))) (x14 : Int) : Option β :=
  cond (decide (t8 < t7))
  (cond (decide (0 ≤ t8) && decide (t8 < (List.length t6 : Int)))
  (let e : zq0 := List.getD t6 (Int.toNat t8) (([] : List UInt8), ((0 : Int), ((0 : Int), (0 : Int))));
  c_incident_Text e.1 (fun (rText : Bool) =>
  cond (!rText)
  (k1 false)
  (c_incident_somebody e.2.1 (fun (rsomebody : Bool) =>
  cond (!rsomebody)
  (k1 false)
  (c_incident_in e.2.2.1 x4 (8589934592 : Int) (fun (rin : Bool) =>
  cond (!rin)
  (k1 false)
  (cond (!decide (e.2.2.2 = (-1 : Int)))
  (c_incident_in e.2.2.2 e.2.2.1 (8589934592 : Int) (fun (rin2 : Bool) =>
  cond (!rin2)
  (k1 false)
  (rec t6 t7 (IntKind.i64.wrap (t8 + (1 : Int))) x x2 x3 x4 x5 x6 x7 x8 x9 x10 x11 x12 x13 x14)))
  (rec t6 t7 (IntKind.i64.wrap (t8 + (1 : Int))) x x2 x3 x4 x5 x6 x7 x8 x9 x10 x11 x12 x13 x14))))))))
  none)
  (k2 x x2 x3 x4 x5 x6 x7 x8 x9 x10 x11 x12 x13 x14)
def zqaz {β : Type} : Nat → zqat β → zqau β → (List zq0) → Int → Int → Int → Int → Int → Int → (List UInt8) → Int → Int → Int → (List Int) → (List zq0) → (List zq2) → (List Int) → (List (Int × (Int × Int))) → Int → Option β
  | 0 => fun _ _ _ _ _ _ _ _ _ _ _ _ _ _ _ _ _ _ _ => none
  | i + 1 => fun k1 k2 t6 t7 t8 x x2 x3 x4 x5 x6 x7 x8 x9 x10 x11 x12 x13 x14 => zqay c_incident_Text c_incident_in c_incident_somebody (zqaz i k1 k2) k1 k2 t6 t7 t8 x x2 x3 x4 x5 x6 x7 x8 x9 x10 x11 x12 x13 x14
theorem zqb0 (hΓ : ΓOk Try.prog (incident_tasks_X c_incident_Text c_incident_in c_incident_somebody).Γ) (i : Nat) : PieceOk Try.prog 48 0 incident_tasks_p1_code zqaw zqax (incident_tasks_p1_G (zqaz c_incident_Text c_incident_in c_incident_somebody i)) := by
  rw [show incident_tasks_p1_code = .loop (loopBody incident_tasks_p1_code) by kernel_rfl]
  exact piece_loop (X := (incident_tasks_X c_incident_Text c_incident_in c_incident_somebody)) (p := 1) (Λ := pick1 []) (G := fun i => @fun β d ks => incident_tasks_p1_G (zqaz c_incident_Text c_incident_in c_incident_somebody i) d ks) mixed tab_ok hΓ rfl (by kernel_rfl) CutsOk_nil (fun _ _ => rfl) (fun i => @fun β d ks r h => Eq.trans (b := incident_tasks_p1_G (zqaz c_incident_Text c_incident_in c_incident_somebody (i + 1)) d ks) (by kernel_rfl) h) i
def zqb1 (p1 : zqav) {β : Type} (x : zq4) (k : (Bool → Option β)) : Option β :=
  p1 (fun (t2 : Bool) =>
  k t2) (fun (x2 : Int) (x3 : Int) (x4 : Int) (x5 : Int) (x6 : List UInt8) (x7 : Int) (x8 : Int) (x9 : Int) (x10 : List Int) (x11 : List zq0) (x12 : List zq2) (x13 : List Int) (x14 : List (Int × (Int × Int))) (x15 : Int) =>
  let t : Bool := (decide ((List.length x11 : Int) ≤ (16 : Int)));
  k t) x.2.2.2.2.2.2.2.1 (List.length x.2.2.2.2.2.2.2.1 : Int) (0 : Int) x.1 x.2.1 x.2.2.1 x.2.2.2.1 x.2.2.2.2.1 x.2.2.2.2.2.1.1 x.2.2.2.2.2.1.2.1 x.2.2.2.2.2.1.2.2 x.2.2.2.2.2.2.1 x.2.2.2.2.2.2.2.1 x.2.2.2.2.2.2.2.2.1 x.2.2.2.2.2.2.2.2.2.1 x.2.2.2.2.2.2.2.2.2.2.1 x.2.2.2.2.2.2.2.2.2.2.2
theorem zqb2 (hΓ : ΓOk Try.prog (incident_tasks_X c_incident_Text c_incident_in c_incident_somebody).Γ) (p1 : zqav) (hp1 : PieceOk Try.prog 48 0 incident_tasks_p1_code zqaw zqax (incident_tasks_p1_G p1)) : SpecOk Try.prog 59 (zqas (zqb1 p1)) :=
  spec_exec (X := (incident_tasks_X c_incident_Text c_incident_in c_incident_somebody)) (Λ := pick1 [(26, pieceCut zqaw zqax (incident_tasks_p1_G p1))]) (rs := [.tmp 2]) (c := bodyOf Try.f59) mixed tab_ok hΓ Try.func59 (by kernel_rfl) (by kernel_rfl) (by kernel_rfl) (by kernel_rfl) (CutsOk_cons (q := 26) (c' := incident_tasks_p1_code) (by kernel_rfl) rfl hp1 CutsOk_nil) (fun x k r h => Eq.trans (b := (zqas (zqb1 p1)).run x k) (by kernel_rfl) h)
end
theorem zqb3Γ : ΓOk Try.prog (pick1 [(30, .spec (zq3d zq3t)), (28, .spec (zq2d zq2h)), (42, .spec (zq6i zq6m))]) := (ΓOk_cons zq3u (ΓOk_cons zq2i (ΓOk_cons zq6n ΓOk_nil)))
def zqb4 (m : Nat) : zqav := zqaz zq3t zq2h zq6m m
theorem zqb5 {β : Type} (i : Nat) (k1 k2 t6 t7 t8 x x2 x3 x4 x5 x6 x7 x8 x9 x10 x11 x12 x13 x14) : (zqb4 (i + 1) k1 k2 t6 t7 t8 x x2 x3 x4 x5 x6 x7 x8 x9 x10 x11 x12 x13 x14 : Option β) = zqay zq3t zq2h zq6m (zqb4 i k1 k2) k1 k2 t6 t7 t8 x x2 x3 x4 x5 x6 x7 x8 x9 x10 x11 x12 x13 x14 := rfl
def zqb6 : zqav := zqb4 fuel
theorem zqb7 : PieceOk Try.prog 48 0 incident_tasks_p1_code zqaw zqax (incident_tasks_p1_G zqb6) := zqb0 zq3t zq2h zq6m zqb3Γ fuel
def zqb8 : zqar := zqb1 zqb6
theorem zqb9 : SpecOk Try.prog 59 (zqas zqb8) := zqb2 zq3t zq2h zq6m zqb3Γ zqb6 zqb7

/-- pagewatch/incident.updates -/
abbrev zqba := {β : Type} → zq4 → (Bool → Option β) → Option β
def zqbb (c : zqba) : Spec :=
  ⟨[(true, [.data zq5])], [], [(false, [.data .bool])], [], fun x k => c x.1.1.1 (fun r0 => k (((r0, ()), ()), ()))⟩
noncomputable def incident_updates_p1_code : Code := codeAt 58 (bodyOf Try.f60)
abbrev zqbc (β : Type) := Bool → Option β
abbrev zqbd (β : Type) := Int → Int → Int → Int → (List UInt8) → Int → Int → Int → (List Int) → (List zq0) → (List zq2) → (List Int) → (List (Int × (Int × Int))) → Int → Option β
abbrev zqbe := {β : Type} → zqbc β → zqbd β → Int → (List zq2) → Int → Int → Int → Int → Int → Int → (List UInt8) → Int → Int → Int → (List Int) → (List zq0) → (List zq2) → (List Int) → (List (Int × (Int × Int))) → Int → Option β
def zqbf : View := ⟨0, [1, 3, 9, 10, 11], [(false, [.ptr 0 0]), (false, [.data (.int .i64)]), (false, [.data (.slice zq3)]), (false, [.data (.int .i64)]), (false, [.data (.int .i64)])], [.cells 32 [.data (.int .i64), .data (.int .i64), .data (.int .i64), .data (.int .i64), .data .str, .data (.int .i64), .data (.int .i64), .data (.int .i64), .data (.slice (.int .i64)), .data (.slice zq1), .data (.slice zq3), .data (.slice (.int .i64)), .data (.slice (.prod (.int .i64) (.prod (.int .i64) (.int .i64)))), .data (.int .i64)]]⟩
def zqbg : List (AExit × View) := [(.ret, ⟨0, [2], [(false, [.data .bool])], []⟩), (.exit 0, ⟨0, [1], [(false, [.ptr 0 0])], [.cells 32 [.data (.int .i64), .data (.int .i64), .data (.int .i64), .data (.int .i64), .data .str, .data (.int .i64), .data (.int .i64), .data (.int .i64), .data (.slice (.int .i64)), .data (.slice zq1), .data (.slice zq3), .data (.slice (.int .i64)), .data (.slice (.prod (.int .i64) (.prod (.int .i64) (.int .i64)))), .data (.int .i64)]]⟩)]
@[reducible] def incident_updates_p1_G (p : zqbe) {β : Type} (d : zqbf.den) (ks : Outs.K β zqbg) : Option β :=
  p (fun a0 => ks.1 (((a0, ()), ()), ())) (fun a0 a1 a2 a3 a4 a5 a6 a7 a8 a9 a10 a11 a12 a13 => ks.2.1 (((), ()), ((a0, a1, a2, a3, a4, a5, a6, a7, a8, a9, a10, a11, a12, a13, ()), ()))) d.1.2.1.1 d.1.2.2.1.1 d.1.2.2.2.1.1 d.1.2.2.2.2.1.1 d.2.1.1 d.2.1.2.1 d.2.1.2.2.1 d.2.1.2.2.2.1 d.2.1.2.2.2.2.1 d.2.1.2.2.2.2.2.1 d.2.1.2.2.2.2.2.2.1 d.2.1.2.2.2.2.2.2.2.1 d.2.1.2.2.2.2.2.2.2.2.1 d.2.1.2.2.2.2.2.2.2.2.2.1 d.2.1.2.2.2.2.2.2.2.2.2.2.1 d.2.1.2.2.2.2.2.2.2.2.2.2.2.1 d.2.1.2.2.2.2.2.2.2.2.2.2.2.2.1 d.2.1.2.2.2.2.2.2.2.2.2.2.2.2.2.1
section
variable (c_incident_Text : zq3c) (c_incident_in : zq2c) (c_incident_persons : zqak)
@[reducible] def incident_updates_X : Ctx := ⟨look tab, pick1 [(30, .spec (zq3d c_incident_Text)), (28, .spec (zq2d c_incident_in)), (58, .spec (zqal c_incident_persons))], false, false, false, false, false⟩
def zqbh {β : Type} (rec : Int → (List zq2) → Int → Int → Int → Int → Int → Int → (List UInt8) → Int → Int → Int → (List Int) → (List zq0) → (List zq2) → (List Int) → (List (Int × (Int × Int))) → Int → Option β) (k1 : zqbc β) (k2 : zqbd β) (at_ : Int) (t9 : List zq2) (t10 : Int) (t11 : Int) (x : Int) (x2 : Int) (x3 : Int) (x4 : Int) (x5 : List UInt8) (x6 : Int) (x7 : Int) (x8 : Int) (x9 : List Int) (x10 : List zq0) (x11 : List zq2) (x12 : List Int) (x13 : List (Int × (Int × Int))) (x14 : Int) : Option β :=
  cond (decide (t11 < t10))
  (cond (decide (0 ≤ t11) && decide (t11 < (List.length t9 : Int)))
  (let e : zq2 := List.getD t9 (Int.toNat t11) ((0 : Int), ((0 : Int), (([] : List UInt8), ([] : List Int))));
  c_incident_in e.1 at_ (8589934592 : Int) (fun (rin : Bool) =>
  cond (!rin)
  (k1 false)
  (c_incident_in e.2.1 (0 : Int) (4 : Int) (fun (rin2 : Bool) =>
  cond (!rin2)
  (k1 false)
  (c_incident_Text e.2.2.1 (fun (rText : Bool) =>
  cond (!rText)
  (k1 false)
  (c_incident_persons e.2.2.2 (fun (rpersons : Bool) =>
  cond (!rpersons)
  (k1 false)
  (rec e.1 t9 t10 (IntKind.i64.wrap (t11 + (1 : Int))) x x2 x3 x4 x5 x6 x7 x8 x9 x10 x11 x12 x13 x14)))))))))
  none)
  (k2 x x2 x3 x4 x5 x6 x7 x8 x9 x10 x11 x12 x13 x14)
def zqbi {β : Type} : Nat → zqbc β → zqbd β → Int → (List zq2) → Int → Int → Int → Int → Int → Int → (List UInt8) → Int → Int → Int → (List Int) → (List zq0) → (List zq2) → (List Int) → (List (Int × (Int × Int))) → Int → Option β
  | 0 => fun _ _ _ _ _ _ _ _ _ _ _ _ _ _ _ _ _ _ _ _ => none
  | i + 1 => fun k1 k2 at_ t9 t10 t11 x x2 x3 x4 x5 x6 x7 x8 x9 x10 x11 x12 x13 x14 => zqbh c_incident_Text c_incident_in c_incident_persons (zqbi i k1 k2) k1 k2 at_ t9 t10 t11 x x2 x3 x4 x5 x6 x7 x8 x9 x10 x11 x12 x13 x14
theorem zqbj (hΓ : ΓOk Try.prog (incident_updates_X c_incident_Text c_incident_in c_incident_persons).Γ) (i : Nat) : PieceOk Try.prog 45 0 incident_updates_p1_code zqbf zqbg (incident_updates_p1_G (zqbi c_incident_Text c_incident_in c_incident_persons i)) := by
  rw [show incident_updates_p1_code = .loop (loopBody incident_updates_p1_code) by kernel_rfl]
  exact piece_loop (X := (incident_updates_X c_incident_Text c_incident_in c_incident_persons)) (p := 1) (Λ := pick1 []) (G := fun i => @fun β d ks => incident_updates_p1_G (zqbi c_incident_Text c_incident_in c_incident_persons i) d ks) mixed tab_ok hΓ rfl (by kernel_rfl) CutsOk_nil (fun _ _ => rfl) (fun i => @fun β d ks r h => Eq.trans (b := incident_updates_p1_G (zqbi c_incident_Text c_incident_in c_incident_persons (i + 1)) d ks) (by kernel_rfl) h) i
def zqbk (p1 : zqbe) {β : Type} (x : zq4) (k : (Bool → Option β)) : Option β :=
  p1 (fun (t2 : Bool) =>
  k t2) (fun (x2 : Int) (x3 : Int) (x4 : Int) (x5 : Int) (x6 : List UInt8) (x7 : Int) (x8 : Int) (x9 : Int) (x10 : List Int) (x11 : List zq0) (x12 : List zq2) (x13 : List Int) (x14 : List (Int × (Int × Int))) (x15 : Int) =>
  let t : Bool := (decide ((List.length x12 : Int) ≤ (32 : Int)));
  k t) x.2.2.2.1 x.2.2.2.2.2.2.2.2.1 (List.length x.2.2.2.2.2.2.2.2.1 : Int) (0 : Int) x.1 x.2.1 x.2.2.1 x.2.2.2.1 x.2.2.2.2.1 x.2.2.2.2.2.1.1 x.2.2.2.2.2.1.2.1 x.2.2.2.2.2.1.2.2 x.2.2.2.2.2.2.1 x.2.2.2.2.2.2.2.1 x.2.2.2.2.2.2.2.2.1 x.2.2.2.2.2.2.2.2.2.1 x.2.2.2.2.2.2.2.2.2.2.1 x.2.2.2.2.2.2.2.2.2.2.2
theorem zqbl (hΓ : ΓOk Try.prog (incident_updates_X c_incident_Text c_incident_in c_incident_persons).Γ) (p1 : zqbe) (hp1 : PieceOk Try.prog 45 0 incident_updates_p1_code zqbf zqbg (incident_updates_p1_G p1)) : SpecOk Try.prog 60 (zqbb (zqbk p1)) :=
  spec_exec (X := (incident_updates_X c_incident_Text c_incident_in c_incident_persons)) (Λ := pick1 [(58, pieceCut zqbf zqbg (incident_updates_p1_G p1))]) (rs := [.tmp 2]) (c := bodyOf Try.f60) mixed tab_ok hΓ Try.func60 (by kernel_rfl) (by kernel_rfl) (by kernel_rfl) (by kernel_rfl) (CutsOk_cons (q := 58) (c' := incident_updates_p1_code) (by kernel_rfl) rfl hp1 CutsOk_nil) (fun x k r h => Eq.trans (b := (zqbb (zqbk p1)).run x k) (by kernel_rfl) h)
end
theorem zqbmΓ : ΓOk Try.prog (pick1 [(30, .spec (zq3d zq3t)), (28, .spec (zq2d zq2h)), (58, .spec (zqal zqap))]) := (ΓOk_cons zq3u (ΓOk_cons zq2i (ΓOk_cons zqaq ΓOk_nil)))
def zqbn (m : Nat) : zqbe := zqbi zq3t zq2h zqap m
theorem zqbo {β : Type} (i : Nat) (k1 k2 at_ t9 t10 t11 x x2 x3 x4 x5 x6 x7 x8 x9 x10 x11 x12 x13 x14) : (zqbn (i + 1) k1 k2 at_ t9 t10 t11 x x2 x3 x4 x5 x6 x7 x8 x9 x10 x11 x12 x13 x14 : Option β) = zqbh zq3t zq2h zqap (zqbn i k1 k2) k1 k2 at_ t9 t10 t11 x x2 x3 x4 x5 x6 x7 x8 x9 x10 x11 x12 x13 x14 := rfl
def zqbp : zqbe := zqbn fuel
theorem zqbq : PieceOk Try.prog 45 0 incident_updates_p1_code zqbf zqbg (incident_updates_p1_G zqbp) := zqbj zq3t zq2h zqap zqbmΓ fuel
def zqbr : zqba := zqbk zqbp
theorem zqbs : SpecOk Try.prog 60 (zqbb zqbr) := zqbl zq3t zq2h zqap zqbmΓ zqbp zqbq

/-- pagewatch/incident.changes -/
abbrev zqbt := {β : Type} → zq4 → (Bool → Option β) → Option β
def zqbu (c : zqbt) : Spec :=
  ⟨[(true, [.data zq5])], [], [(false, [.data .bool])], [], fun x k => c x.1.1.1 (fun r0 => k (((r0, ()), ()), ()))⟩
noncomputable def incident_changes_p1_code : Code := codeAt 58 (bodyOf Try.f61)
abbrev zqbv (β : Type) := Bool → Option β
abbrev zqbw (β : Type) := Int → Int → Int → Int → Int → (List UInt8) → Int → Int → Int → (List Int) → (List zq0) → (List zq2) → (List Int) → (List (Int × (Int × Int))) → Int → Option β
abbrev zqbx := {β : Type} → zqbv β → zqbw β → Int → Int → (List (Int × (Int × Int))) → Int → Int → Int → Int → Int → Int → (List UInt8) → Int → Int → Int → (List Int) → (List zq0) → (List zq2) → (List Int) → (List (Int × (Int × Int))) → Int → Option β
def zqby : View := ⟨0, [1, 3, 4, 10, 11, 12], [(false, [.ptr 0 0]), (false, [.data (.int .i64)]), (false, [.data (.int .i64)]), (false, [.data (.slice (.prod (.int .i64) (.prod (.int .i64) (.int .i64))))]), (false, [.data (.int .i64)]), (false, [.data (.int .i64)])], [.cells 32 [.data (.int .i64), .data (.int .i64), .data (.int .i64), .data (.int .i64), .data .str, .data (.int .i64), .data (.int .i64), .data (.int .i64), .data (.slice (.int .i64)), .data (.slice zq1), .data (.slice zq3), .data (.slice (.int .i64)), .data (.slice (.prod (.int .i64) (.prod (.int .i64) (.int .i64)))), .data (.int .i64)]]⟩
def zqbz : List (AExit × View) := [(.ret, ⟨0, [2], [(false, [.data .bool])], []⟩), (.exit 0, ⟨0, [1, 4], [(false, [.ptr 0 0]), (false, [.data (.int .i64)])], [.cells 32 [.data (.int .i64), .data (.int .i64), .data (.int .i64), .data (.int .i64), .data .str, .data (.int .i64), .data (.int .i64), .data (.int .i64), .data (.slice (.int .i64)), .data (.slice zq1), .data (.slice zq3), .data (.slice (.int .i64)), .data (.slice (.prod (.int .i64) (.prod (.int .i64) (.int .i64)))), .data (.int .i64)]]⟩)]
@[reducible] def incident_changes_p1_G (p : zqbx) {β : Type} (d : zqby.den) (ks : Outs.K β zqbz) : Option β :=
  p (fun a0 => ks.1 (((a0, ()), ()), ())) (fun a0 a1 a2 a3 a4 a5 a6 a7 a8 a9 a10 a11 a12 a13 a14 => ks.2.1 (((), (a0, ()), ()), ((a1, a2, a3, a4, a5, a6, a7, a8, a9, a10, a11, a12, a13, a14, ()), ()))) d.1.2.1.1 d.1.2.2.1.1 d.1.2.2.2.1.1 d.1.2.2.2.2.1.1 d.1.2.2.2.2.2.1.1 d.2.1.1 d.2.1.2.1 d.2.1.2.2.1 d.2.1.2.2.2.1 d.2.1.2.2.2.2.1 d.2.1.2.2.2.2.2.1 d.2.1.2.2.2.2.2.2.1 d.2.1.2.2.2.2.2.2.2.1 d.2.1.2.2.2.2.2.2.2.2.1 d.2.1.2.2.2.2.2.2.2.2.2.1 d.2.1.2.2.2.2.2.2.2.2.2.2.1 d.2.1.2.2.2.2.2.2.2.2.2.2.2.1 d.2.1.2.2.2.2.2.2.2.2.2.2.2.2.1 d.2.1.2.2.2.2.2.2.2.2.2.2.2.2.2.1
section
variable (c_incident_in : zq2c) (c_incident_somebody : zq6h)
@[reducible] def incident_changes_X : Ctx := ⟨look tab, pick1 [(28, .spec (zq2d c_incident_in)), (42, .spec (zq6i c_incident_somebody))], false, false, false, false, false⟩
def zqc0 {β : Type} (rec : Int → Int → (List (Int × (Int × Int))) → Int → Int → Int → Int → Int → Int → (List UInt8) → Int → Int → Int → (List Int) → (List zq0) → (List zq2) → (List Int) → (List (Int × (Int × Int))) → Int → Option β) (k1 : zqbv β) (k2 : zqbw β) (at_ : Int) (state : Int) (t10 : List (Int × (Int × Int))) (t11 : Int) (t12 : Int) (x : Int) (x2 : Int) (x3 : Int) (x4 : Int) (x5 : List UInt8) (x6 : Int) (x7 : Int) (x8 : Int) (x9 : List Int) (x10 : List zq0) (x11 : List zq2) (x12 : List Int) (x13 : List (Int × (Int × Int))) (x14 : Int) : Option β :=
  cond (decide (t12 < t11))
  (cond (decide (0 ≤ t12) && decide (t12 < (List.length t10 : Int)))
  (let e : (Int × (Int × Int)) := List.getD t10 (Int.toNat t12) ((0 : Int), ((0 : Int), (0 : Int)));
  c_incident_in e.1 at_ (8589934592 : Int) (fun (rin : Bool) =>
  cond (!rin)
  (k1 false)
  (c_incident_in e.2.1 (0 : Int) (4 : Int) (fun (rin2 : Bool) =>
  cond (!rin2)
  (k1 false)
  (cond (decide (e.2.1 = state))
  (k1 false)
  (c_incident_somebody e.2.2 (fun (rsomebody : Bool) =>
  cond (!rsomebody)
  (k1 false)
  (rec e.1 e.2.1 t10 t11 (IntKind.i64.wrap (t12 + (1 : Int))) x x2 x3 x4 x5 x6 x7 x8 x9 x10 x11 x12 x13 x14))))))))
  none)
  (k2 state x x2 x3 x4 x5 x6 x7 x8 x9 x10 x11 x12 x13 x14)
def zqc1 {β : Type} : Nat → zqbv β → zqbw β → Int → Int → (List (Int × (Int × Int))) → Int → Int → Int → Int → Int → Int → (List UInt8) → Int → Int → Int → (List Int) → (List zq0) → (List zq2) → (List Int) → (List (Int × (Int × Int))) → Int → Option β
  | 0 => fun _ _ _ _ _ _ _ _ _ _ _ _ _ _ _ _ _ _ _ _ _ => none
  | i + 1 => fun k1 k2 at_ state t10 t11 t12 x x2 x3 x4 x5 x6 x7 x8 x9 x10 x11 x12 x13 x14 => zqc0 c_incident_in c_incident_somebody (zqc1 i k1 k2) k1 k2 at_ state t10 t11 t12 x x2 x3 x4 x5 x6 x7 x8 x9 x10 x11 x12 x13 x14
theorem zqc2 (hΓ : ΓOk Try.prog (incident_changes_X c_incident_in c_incident_somebody).Γ) (i : Nat) : PieceOk Try.prog 54 0 incident_changes_p1_code zqby zqbz (incident_changes_p1_G (zqc1 c_incident_in c_incident_somebody i)) := by
  rw [show incident_changes_p1_code = .loop (loopBody incident_changes_p1_code) by kernel_rfl]
  exact piece_loop (X := (incident_changes_X c_incident_in c_incident_somebody)) (p := 1) (Λ := pick1 []) (G := fun i => @fun β d ks => incident_changes_p1_G (zqc1 c_incident_in c_incident_somebody i) d ks) mixed tab_ok hΓ rfl (by kernel_rfl) CutsOk_nil (fun _ _ => rfl) (fun i => @fun β d ks r h => Eq.trans (b := incident_changes_p1_G (zqc1 c_incident_in c_incident_somebody (i + 1)) d ks) (by kernel_rfl) h) i
def zqc3 (p1 : zqbx) {β : Type} (x : zq4) (k : (Bool → Option β)) : Option β :=
  p1 (fun (t2 : Bool) =>
  k t2) (fun (state : Int) (x2 : Int) (x3 : Int) (x4 : Int) (x5 : Int) (x6 : List UInt8) (x7 : Int) (x8 : Int) (x9 : Int) (x10 : List Int) (x11 : List zq0) (x12 : List zq2) (x13 : List Int) (x14 : List (Int × (Int × Int))) (x15 : Int) =>
  cond (decide ((List.length x14 : Int) ≤ (32 : Int)))
  (k (decide (x3 = state)))
  (k false)) x.2.2.2.1 (0 : Int) x.2.2.2.2.2.2.2.2.2.2.1 (List.length x.2.2.2.2.2.2.2.2.2.2.1 : Int) (0 : Int) x.1 x.2.1 x.2.2.1 x.2.2.2.1 x.2.2.2.2.1 x.2.2.2.2.2.1.1 x.2.2.2.2.2.1.2.1 x.2.2.2.2.2.1.2.2 x.2.2.2.2.2.2.1 x.2.2.2.2.2.2.2.1 x.2.2.2.2.2.2.2.2.1 x.2.2.2.2.2.2.2.2.2.1 x.2.2.2.2.2.2.2.2.2.2.1 x.2.2.2.2.2.2.2.2.2.2.2
theorem zqc4 (hΓ : ΓOk Try.prog (incident_changes_X c_incident_in c_incident_somebody).Γ) (p1 : zqbx) (hp1 : PieceOk Try.prog 54 0 incident_changes_p1_code zqby zqbz (incident_changes_p1_G p1)) : SpecOk Try.prog 61 (zqbu (zqc3 p1)) :=
  spec_exec (X := (incident_changes_X c_incident_in c_incident_somebody)) (Λ := pick1 [(58, pieceCut zqby zqbz (incident_changes_p1_G p1))]) (rs := [.tmp 2]) (c := bodyOf Try.f61) mixed tab_ok hΓ Try.func61 (by kernel_rfl) (by kernel_rfl) (by kernel_rfl) (by kernel_rfl) (CutsOk_cons (q := 58) (c' := incident_changes_p1_code) (by kernel_rfl) rfl hp1 CutsOk_nil) (fun x k r h => Eq.trans (b := (zqbu (zqc3 p1)).run x k) (by kernel_rfl) h)
end
theorem zqc5Γ : ΓOk Try.prog (pick1 [(28, .spec (zq2d zq2h)), (42, .spec (zq6i zq6m))]) := (ΓOk_cons zq2i (ΓOk_cons zq6n ΓOk_nil))
def zqc6 (m : Nat) : zqbx := zqc1 zq2h zq6m m
theorem zqc7 {β : Type} (i : Nat) (k1 k2 at_ state t10 t11 t12 x x2 x3 x4 x5 x6 x7 x8 x9 x10 x11 x12 x13 x14) : (zqc6 (i + 1) k1 k2 at_ state t10 t11 t12 x x2 x3 x4 x5 x6 x7 x8 x9 x10 x11 x12 x13 x14 : Option β) = zqc0 zq2h zq6m (zqc6 i k1 k2) k1 k2 at_ state t10 t11 t12 x x2 x3 x4 x5 x6 x7 x8 x9 x10 x11 x12 x13 x14 := rfl
def zqc8 : zqbx := zqc6 fuel
theorem zqc9 : PieceOk Try.prog 54 0 incident_changes_p1_code zqby zqbz (incident_changes_p1_G zqc8) := zqc2 zq2h zq6m zqc5Γ fuel
def zqca : zqbt := zqc3 zqc8
theorem zqcb : SpecOk Try.prog 61 (zqbu zqca) := zqc4 zq2h zq6m zqc5Γ zqc8 zqc9

/-- pagewatch/incident.possible -/
abbrev zqcc := {β : Type} → ((List Int × (List Int × (List Int × (List Int × List Int)))) → Option β) → Option β
def zqcd (c : zqcc) : Spec :=
  ⟨[], [], [(true, [.data (.prod (.slice (.int .i64)) (.prod (.slice (.int .i64)) (.prod (.slice (.int .i64)) (.prod (.slice (.int .i64)) (.slice (.int .i64))))))])], [], fun x k => c  (fun r0 => k (((r0, ()), ()), ()))⟩
section
@[reducible] def incident_possible_X : Ctx := ⟨look tab, pick1 [], false, false, false, false, false⟩
def zqce {β : Type} (k : ((List Int × (List Int × (List Int × (List Int × List Int)))) → Option β)) : Option β :=
  let l : List Int := ([(1 : Int), (2 : Int), (4 : Int)] : List Int);
  let l2 : List Int := ([(0 : Int), (2 : Int), (4 : Int)] : List Int);
  let l3 : List Int := ([(0 : Int), (3 : Int)] : List Int);
  k (l, (l2, (l3, (([] : List Int), ([] : List Int)))))
theorem zqcf (hΓ : ΓOk Try.prog incident_possible_X.Γ) : SpecOk Try.prog 62 (zqcd (zqce)) :=
  spec_exec (X := incident_possible_X) (Λ := pick1 []) (rs := [.cell 0 77]) (c := bodyOf Try.f62) mixed tab_ok hΓ Try.func62 (by kernel_rfl) (by kernel_rfl) (by kernel_rfl) (by kernel_rfl) CutsOk_nil (fun x k r h => Eq.trans (b := (zqcd (zqce)).run x k) (by kernel_rfl) h)
end
theorem zqcgΓ : ΓOk Try.prog (pick1 []) := ΓOk_nil
def zqch : zqcc := zqce
theorem zqci : SpecOk Try.prog 62 (zqcd zqch) := zqcf zqcgΓ

/-- pagewatch/pagewatchref37.Check -/
abbrev zqcj := {β : Type} → zq4 → (Bool → Option β) → Option β
def zqck (c : zqcj) : Spec :=
  ⟨[(true, [.data zq5])], [], [(false, [.data .bool])], [], fun x k => c x.1.1.1 (fun r0 => k (((r0, ()), ()), ()))⟩
noncomputable def ref37_Check_p1_code : Code := codeAt 58 (bodyOf Try.f13)
noncomputable def ref37_Check_p2_code : Code := codeAt 122 (bodyOf Try.f13)
abbrev zqcl (β : Type) := Bool → Option β
abbrev zqcm (β : Type) := Int → Int → Int → Int → (List UInt8) → Int → Int → Int → (List Int) → (List zq0) → (List zq2) → (List Int) → (List (Int × (Int × Int))) → Int → Option β
abbrev zqcn := {β : Type} → zqcl β → zqcm β → Int → Int → Int → Int → Int → (List UInt8) → Int → Int → Int → (List Int) → (List zq0) → (List zq2) → (List Int) → (List (Int × (Int × Int))) → Int → Option β
def zqco : View := ⟨0, [1, 3], [(false, [.ptr 0 0]), (false, [.data (.int .i64)])], [.cells 32 [.data (.int .i64), .data (.int .i64), .data (.int .i64), .data (.int .i64), .data .str, .data (.int .i64), .data (.int .i64), .data (.int .i64), .data (.slice (.int .i64)), .data (.slice zq1), .data (.slice zq3), .data (.slice (.int .i64)), .data (.slice (.prod (.int .i64) (.prod (.int .i64) (.int .i64)))), .data (.int .i64)]]⟩
def zqcp : List (AExit × View) := [(.ret, ⟨0, [2], [(false, [.data .bool])], []⟩), (.exit 0, ⟨0, [1], [(false, [.ptr 0 0])], [.cells 32 [.data (.int .i64), .data (.int .i64), .data (.int .i64), .data (.int .i64), .data .str, .data (.int .i64), .data (.int .i64), .data (.int .i64), .data (.slice (.int .i64)), .data (.slice zq1), .data (.slice zq3), .data (.slice (.int .i64)), .data (.slice (.prod (.int .i64) (.prod (.int .i64) (.int .i64)))), .data (.int .i64)]]⟩)]
@[reducible] def ref37_Check_p1_G (p : zqcn) {β : Type} (d : zqco.den) (ks : Outs.K β zqcp) : Option β :=
  p (fun a0 => ks.1 (((a0, ()), ()), ())) (fun a0 a1 a2 a3 a4 a5 a6 a7 a8 a9 a10 a11 a12 a13 => ks.2.1 (((), ()), ((a0, a1, a2, a3, a4, a5, a6, a7, a8, a9, a10, a11, a12, a13, ()), ()))) d.1.2.1.1 d.2.1.1 d.2.1.2.1 d.2.1.2.2.1 d.2.1.2.2.2.1 d.2.1.2.2.2.2.1 d.2.1.2.2.2.2.2.1 d.2.1.2.2.2.2.2.2.1 d.2.1.2.2.2.2.2.2.2.1 d.2.1.2.2.2.2.2.2.2.2.1 d.2.1.2.2.2.2.2.2.2.2.2.1 d.2.1.2.2.2.2.2.2.2.2.2.2.1 d.2.1.2.2.2.2.2.2.2.2.2.2.2.1 d.2.1.2.2.2.2.2.2.2.2.2.2.2.2.1 d.2.1.2.2.2.2.2.2.2.2.2.2.2.2.2.1
abbrev zqcq (β : Type) := Bool → Option β
abbrev zqcr (β : Type) := Int → Int → Int → Int → (List UInt8) → Int → Int → Int → (List Int) → (List zq0) → (List zq2) → (List Int) → (List (Int × (Int × Int))) → Int → Option β
abbrev zqcs := {β : Type} → zqcq β → zqcr β → Int → Int → Int → Int → Int → (List UInt8) → Int → Int → Int → (List Int) → (List zq0) → (List zq2) → (List Int) → (List (Int × (Int × Int))) → Int → Option β
def zqct : View := ⟨0, [1, 4], [(false, [.ptr 0 0]), (false, [.data (.int .i64)])], [.cells 32 [.data (.int .i64), .data (.int .i64), .data (.int .i64), .data (.int .i64), .data .str, .data (.int .i64), .data (.int .i64), .data (.int .i64), .data (.slice (.int .i64)), .data (.slice zq1), .data (.slice zq3), .data (.slice (.int .i64)), .data (.slice (.prod (.int .i64) (.prod (.int .i64) (.int .i64)))), .data (.int .i64)]]⟩
def zqcu : List (AExit × View) := [(.ret, ⟨0, [2], [(false, [.data .bool])], []⟩), (.exit 2, ⟨0, [1], [(false, [.ptr 0 0])], [.cells 32 [.data (.int .i64), .data (.int .i64), .data (.int .i64), .data (.int .i64), .data .str, .data (.int .i64), .data (.int .i64), .data (.int .i64), .data (.slice (.int .i64)), .data (.slice zq1), .data (.slice zq3), .data (.slice (.int .i64)), .data (.slice (.prod (.int .i64) (.prod (.int .i64) (.int .i64)))), .data (.int .i64)]]⟩)]
@[reducible] def ref37_Check_p2_G (p : zqcs) {β : Type} (d : zqct.den) (ks : Outs.K β zqcu) : Option β :=
  p (fun a0 => ks.1 (((a0, ()), ()), ())) (fun a0 a1 a2 a3 a4 a5 a6 a7 a8 a9 a10 a11 a12 a13 => ks.2.1 (((), ()), ((a0, a1, a2, a3, a4, a5, a6, a7, a8, a9, a10, a11, a12, a13, ()), ()))) d.1.2.1.1 d.2.1.1 d.2.1.2.1 d.2.1.2.2.1 d.2.1.2.2.2.1 d.2.1.2.2.2.2.1 d.2.1.2.2.2.2.2.1 d.2.1.2.2.2.2.2.2.1 d.2.1.2.2.2.2.2.2.2.1 d.2.1.2.2.2.2.2.2.2.2.1 d.2.1.2.2.2.2.2.2.2.2.2.1 d.2.1.2.2.2.2.2.2.2.2.2.2.1 d.2.1.2.2.2.2.2.2.2.2.2.2.2.1 d.2.1.2.2.2.2.2.2.2.2.2.2.2.2.1 d.2.1.2.2.2.2.2.2.2.2.2.2.2.2.2.1
section
variable (c_ref25_In : zq46) (c_ref25_Set : zq13) (c_ref37_Text : zq4k) (c_ref37_lists : zq5a) (c_ref37_person : zq53) (c_ref37_state : zq4d)
@[reducible] def ref37_Check_X : Ctx := ⟨look tab, pick1 [(36, .spec (zq47 c_ref25_In)), (11, .spec (zq14 c_ref25_Set)), (38, .spec (zq4l c_ref37_Text)), (40, .spec (zq5b c_ref37_lists)), (39, .spec (zq54 c_ref37_person)), (37, .spec (zq4e c_ref37_state))], false, false, false, false, false⟩
def zqcv {β : Type} (rec : Int → Int → Int → Int → Int → (List UInt8) → Int → Int → Int → (List Int) → (List zq0) → (List zq2) → (List Int) → (List (Int × (Int × Int))) → Int → Option β) (k1 : zqcl β) (k2 : zqcm β) (i_ : Int) (x : Int) (x2 : Int) (x3 : Int) (x4 : Int) (x5 : List UInt8) (x6 : Int) (x7 : Int) (x8 : Int) (x9 : List Int) (x10 : List zq0) (x11 : List zq2) (x12 : List Int) (x13 : List (Int × (Int × Int))) (x14 : Int) : Option β :=
  cond (decide (i_ < (3 : Int)))
  (cond (decide (i_ = (0 : Int)))
  (c_ref37_person x6 true (fun (rperson : Bool) =>
  cond (!rperson)
  (k1 false)
  (let i_2 : Int := (IntKind.i64.wrap (i_ + (1 : Int)));
  rec i_2 x x2 x3 x4 x5 x6 x7 x8 x9 x10 x11 x12 x13 x14)))
  (cond (decide (i_ = (1 : Int)))
  (c_ref37_person x7 true (fun (rperson : Bool) =>
  cond (!rperson)
  (k1 false)
  (let i_2 : Int := (IntKind.i64.wrap (i_ + (1 : Int)));
  rec i_2 x x2 x3 x4 x5 x6 x7 x8 x9 x10 x11 x12 x13 x14)))
  (cond (decide (i_ = (2 : Int)))
  (c_ref37_person x8 true (fun (rperson : Bool) =>
  cond (!rperson)
  (k1 false)
  (let i_2 : Int := (IntKind.i64.wrap (i_ + (1 : Int)));
  rec i_2 x x2 x3 x4 x5 x6 x7 x8 x9 x10 x11 x12 x13 x14)))
  (none))))
  (k2 x x2 x3 x4 x5 x6 x7 x8 x9 x10 x11 x12 x13 x14)
def zqcw {β : Type} : Nat → zqcl β → zqcm β → Int → Int → Int → Int → Int → (List UInt8) → Int → Int → Int → (List Int) → (List zq0) → (List zq2) → (List Int) → (List (Int × (Int × Int))) → Int → Option β
  | 0 => fun _ _ _ _ _ _ _ _ _ _ _ _ _ _ _ _ _ => none
  | i + 1 => fun k1 k2 i_ x x2 x3 x4 x5 x6 x7 x8 x9 x10 x11 x12 x13 x14 => zqcv c_ref37_person (zqcw i k1 k2) k1 k2 i_ x x2 x3 x4 x5 x6 x7 x8 x9 x10 x11 x12 x13 x14
theorem zqcx (hΓ : ΓOk Try.prog (ref37_Check_X c_ref25_In c_ref25_Set c_ref37_Text c_ref37_lists c_ref37_person c_ref37_state).Γ) (i : Nat) : PieceOk Try.prog 124 0 ref37_Check_p1_code zqco zqcp (ref37_Check_p1_G (zqcw c_ref37_person i)) := by
  rw [show ref37_Check_p1_code = .loop (loopBody ref37_Check_p1_code) by kernel_rfl]
  exact piece_loop (X := (ref37_Check_X c_ref25_In c_ref25_Set c_ref37_Text c_ref37_lists c_ref37_person c_ref37_state)) (p := 1) (Λ := pick1 []) (G := fun i => @fun β d ks => ref37_Check_p1_G (zqcw c_ref37_person i) d ks) mixed tab_ok hΓ rfl (by kernel_rfl) CutsOk_nil (fun _ _ => rfl) (fun i => @fun β d ks r h => Eq.trans (b := ref37_Check_p1_G (zqcw c_ref37_person (i + 1)) d ks) (by kernel_rfl) h) i
def zqcy {β : Type} (rec : Int → Int → Int → Int → Int → (List UInt8) → Int → Int → Int → (List Int) → (List zq0) → (List zq2) → (List Int) → (List (Int × (Int × Int))) → Int → Option β) (k1 : zqcq β) (k2 : zqcr β) (i_ : Int) (x : Int) (x2 : Int) (x3 : Int) (x4 : Int) (x5 : List UInt8) (x6 : Int) (x7 : Int) (x8 : Int) (x9 : List Int) (x10 : List zq0) (x11 : List zq2) (x12 : List Int) (x13 : List (Int × (Int × Int))) (x14 : Int) : Option β :=
  cond (decide (i_ < (List.length x9 : Int)))
  (cond (decide (0 ≤ i_) && decide (i_ < (List.length x9 : Int)))
  (let e : Int := List.getD x9 (Int.toNat i_) (0 : Int);
  c_ref25_In e (1 : Int) (999999 : Int) (fun (rIn : Bool) =>
  cond (!rIn)
  (k1 false)
  (cond (decide ((0 : Int) < i_))
  (cond (decide (0 ≤ (IntKind.i64.wrap (i_ - (1 : Int)))) && decide ((IntKind.i64.wrap (i_ - (1 : Int))) < (List.length x9 : Int)))
  (let e2 : Int := List.getD x9 (Int.toNat (IntKind.i64.wrap (i_ - (1 : Int)))) (0 : Int);
  cond (decide (0 ≤ i_) && decide (i_ < (List.length x9 : Int)))
  (let e3 : Int := List.getD x9 (Int.toNat i_) (0 : Int);
  cond (decide (e3 ≤ e2))
  (k1 false)
  (let i_2 : Int := (IntKind.i64.wrap (i_ + (1 : Int)));
  rec i_2 x x2 x3 x4 x5 x6 x7 x8 x9 x10 x11 x12 x13 x14))
  none)
  none)
  (let i_2 : Int := (IntKind.i64.wrap (i_ + (1 : Int)));
  rec i_2 x x2 x3 x4 x5 x6 x7 x8 x9 x10 x11 x12 x13 x14))))
  none)
  (k2 x x2 x3 x4 x5 x6 x7 x8 x9 x10 x11 x12 x13 x14)
def zqcz {β : Type} : Nat → zqcq β → zqcr β → Int → Int → Int → Int → Int → (List UInt8) → Int → Int → Int → (List Int) → (List zq0) → (List zq2) → (List Int) → (List (Int × (Int × Int))) → Int → Option β
  | 0 => fun _ _ _ _ _ _ _ _ _ _ _ _ _ _ _ _ _ => none
  | i + 1 => fun k1 k2 i_ x x2 x3 x4 x5 x6 x7 x8 x9 x10 x11 x12 x13 x14 => zqcy c_ref25_In (zqcz i k1 k2) k1 k2 i_ x x2 x3 x4 x5 x6 x7 x8 x9 x10 x11 x12 x13 x14
theorem zqd0 (hΓ : ΓOk Try.prog (ref37_Check_X c_ref25_In c_ref25_Set c_ref37_Text c_ref37_lists c_ref37_person c_ref37_state).Γ) (i : Nat) : PieceOk Try.prog 124 0 ref37_Check_p2_code zqct zqcu (ref37_Check_p2_G (zqcz c_ref25_In i)) := by
  rw [show ref37_Check_p2_code = .loop (loopBody ref37_Check_p2_code) by kernel_rfl]
  exact piece_loop (X := (ref37_Check_X c_ref25_In c_ref25_Set c_ref37_Text c_ref37_lists c_ref37_person c_ref37_state)) (p := 1) (Λ := pick1 []) (G := fun i => @fun β d ks => ref37_Check_p2_G (zqcz c_ref25_In i) d ks) mixed tab_ok hΓ rfl (by kernel_rfl) CutsOk_nil (fun _ _ => rfl) (fun i => @fun β d ks r h => Eq.trans (b := ref37_Check_p2_G (zqcz c_ref25_In (i + 1)) d ks) (by kernel_rfl) h) i
def zqd1 (p1 : zqcn) (p2 : zqcs) {β : Type} (x : zq4) (k : (Bool → Option β)) : Option β :=
  c_ref25_In x.1 (1 : Int) (999999 : Int) (fun (rIn : Bool) =>
  cond (!rIn)
  (k false)
  (c_ref37_state x.2.1 (fun (rstate : Bool) =>
  cond (!rstate)
  (k false)
  (c_ref25_In x.2.2.1 (1 : Int) (5 : Int) (fun (rIn2 : Bool) =>
  cond (!rIn2)
  (k false)
  (c_ref25_In x.2.2.2.1 (0 : Int) (8589934592 : Int) (fun (rIn3 : Bool) =>
  cond (!rIn3)
  (k false)
  (c_ref37_Text x.2.2.2.2.1 (fun (rText : Bool) =>
  cond (!rText)
  (k false)
  (p1 (fun (t2 : Bool) =>
  k t2) (fun (x2 : Int) (x3 : Int) (x4 : Int) (x5 : Int) (x6 : List UInt8) (x7 : Int) (x8 : Int) (x9 : Int) (x10 : List Int) (x11 : List zq0) (x12 : List zq2) (x13 : List Int) (x14 : List (Int × (Int × Int))) (x15 : Int) =>
  p2 (fun (t2 : Bool) =>
  k t2) (fun (x16 : Int) (x17 : Int) (x18 : Int) (x19 : Int) (x20 : List UInt8) (x21 : Int) (x22 : Int) (x23 : Int) (x24 : List Int) (x25 : List zq0) (x26 : List zq2) (x27 : List Int) (x28 : List (Int × (Int × Int))) (x29 : Int) =>
  cond (decide ((64 : Int) < (List.length x24 : Int)))
  (k false)
  (cond (decide ((16 : Int) < (List.length x25 : Int)))
  (k false)
  (cond (decide ((32 : Int) < (List.length x26 : Int)))
  (k false)
  (cond (decide ((32 : Int) < (List.length x28 : Int)))
  (k false)
  (c_ref25_Set x27 (32 : Int) (fun (rSet : Bool) =>
  cond (!rSet)
  (k false)
  (c_ref37_lists (x16, (x17, (x18, (x19, (x20, ((x21, (x22, x23)), (x24, (x25, (x26, (x27, (x28, x29))))))))))) (fun (rlists : Bool) =>
  cond (!rlists)
  (k false)
  (cond (decide (x17 = (4 : Int)))
  (c_ref25_In x29 (1 : Int) (999999 : Int) (fun (rIn4 : Bool) =>
  cond rIn4
  (k (!decide (x29 = x16)))
  (k false)))
  (let t : Bool := (decide (x29 = (0 : Int)));
  k t)))))))))) (0 : Int) x2 x3 x4 x5 x6 x7 x8 x9 x10 x11 x12 x13 x14 x15) (0 : Int) x.1 x.2.1 x.2.2.1 x.2.2.2.1 x.2.2.2.2.1 x.2.2.2.2.2.1.1 x.2.2.2.2.2.1.2.1 x.2.2.2.2.2.1.2.2 x.2.2.2.2.2.2.1 x.2.2.2.2.2.2.2.1 x.2.2.2.2.2.2.2.2.1 x.2.2.2.2.2.2.2.2.2.1 x.2.2.2.2.2.2.2.2.2.2.1 x.2.2.2.2.2.2.2.2.2.2.2))))))))))
theorem zqd2 (hΓ : ΓOk Try.prog (ref37_Check_X c_ref25_In c_ref25_Set c_ref37_Text c_ref37_lists c_ref37_person c_ref37_state).Γ) (p1 : zqcn) (p2 : zqcs) (hp1 : PieceOk Try.prog 124 0 ref37_Check_p1_code zqco zqcp (ref37_Check_p1_G p1)) (hp2 : PieceOk Try.prog 124 0 ref37_Check_p2_code zqct zqcu (ref37_Check_p2_G p2)) : SpecOk Try.prog 13 (zqck (zqd1 c_ref25_In c_ref25_Set c_ref37_Text c_ref37_lists c_ref37_state p1 p2)) :=
  spec_exec (X := (ref37_Check_X c_ref25_In c_ref25_Set c_ref37_Text c_ref37_lists c_ref37_person c_ref37_state)) (Λ := pick1 [(58, pieceCut zqco zqcp (ref37_Check_p1_G p1)), (122, pieceCut zqct zqcu (ref37_Check_p2_G p2))]) (rs := [.tmp 2]) (c := bodyOf Try.f13) mixed tab_ok hΓ Try.func13 (by kernel_rfl) (by kernel_rfl) (by kernel_rfl) (by kernel_rfl) (CutsOk_cons (q := 58) (c' := ref37_Check_p1_code) (by kernel_rfl) rfl hp1 (CutsOk_cons (q := 122) (c' := ref37_Check_p2_code) (by kernel_rfl) rfl hp2 CutsOk_nil)) (fun x k r h => Eq.trans (b := (zqck (zqd1 c_ref25_In c_ref25_Set c_ref37_Text c_ref37_lists c_ref37_state p1 p2)).run x k) (by kernel_rfl) h)
end
theorem zqd3Γ : ΓOk Try.prog (pick1 [(36, .spec (zq47 zq4b)), (11, .spec (zq14 zq1k)), (38, .spec (zq4l zq51)), (40, .spec (zq5b zq6f)), (39, .spec (zq54 zq58)), (37, .spec (zq4e zq4i))]) := (ΓOk_cons zq4c (ΓOk_cons zq1l (ΓOk_cons zq52 (ΓOk_cons zq6g (ΓOk_cons zq59 (ΓOk_cons zq4j ΓOk_nil))))))
def zqd4 (m : Nat) : zqcn := zqcw zq58 m
theorem zqd5 {β : Type} (i : Nat) (k1 k2 i_ x x2 x3 x4 x5 x6 x7 x8 x9 x10 x11 x12 x13 x14) : (zqd4 (i + 1) k1 k2 i_ x x2 x3 x4 x5 x6 x7 x8 x9 x10 x11 x12 x13 x14 : Option β) = zqcv zq58 (zqd4 i k1 k2) k1 k2 i_ x x2 x3 x4 x5 x6 x7 x8 x9 x10 x11 x12 x13 x14 := rfl
def zqd6 : zqcn := zqd4 fuel
theorem zqd7 : PieceOk Try.prog 124 0 ref37_Check_p1_code zqco zqcp (ref37_Check_p1_G zqd6) := zqcx zq4b zq1k zq51 zq6f zq58 zq4i zqd3Γ fuel
def zqd8 (m : Nat) : zqcs := zqcz zq4b m
theorem zqd9 {β : Type} (i : Nat) (k1 k2 i_ x x2 x3 x4 x5 x6 x7 x8 x9 x10 x11 x12 x13 x14) : (zqd8 (i + 1) k1 k2 i_ x x2 x3 x4 x5 x6 x7 x8 x9 x10 x11 x12 x13 x14 : Option β) = zqcy zq4b (zqd8 i k1 k2) k1 k2 i_ x x2 x3 x4 x5 x6 x7 x8 x9 x10 x11 x12 x13 x14 := rfl
def zqda : zqcs := zqd8 fuel
theorem zqdb : PieceOk Try.prog 124 0 ref37_Check_p2_code zqct zqcu (ref37_Check_p2_G zqda) := zqd0 zq4b zq1k zq51 zq6f zq58 zq4i zqd3Γ fuel
def zqdc : zqcj := zqd1 zq4b zq1k zq51 zq6f zq4i zqd6 zqda
theorem zqdd : SpecOk Try.prog 13 (zqck zqdc) := zqd2 zq4b zq1k zq51 zq6f zq58 zq4i zqd3Γ zqd6 zqda zqd7 zqdb

/-- pagewatch/pagewatchref37.Open -/
abbrev zqde := {β : Type} → Int → Int → Int → (List UInt8) → Int → (zq4 → Int → Option β) → Option β
def zqdf (c : zqde) : Spec :=
  ⟨[(false, [.data (.int .i64)]), (false, [.data (.int .i64)]), (false, [.data (.int .i64)]), (false, [.data .str]), (false, [.data (.int .i64)])], [], [(true, [.data zq5]), (false, [.data (.int .i64)])], [], fun x k => c x.1.1.1 x.1.2.1.1 x.1.2.2.1.1 x.1.2.2.2.1.1 x.1.2.2.2.2.1.1 (fun r0 r1 => k (((r0, ()), (r1, ()), ()), ()))⟩
noncomputable def ref37_Open_p1_code : Code := codeAt 15 (bodyOf Try.f17)
abbrev zqdg (β : Type) := Int → Int → Int → Int → Int → (List UInt8) → Int → Int → Int → Int → (List Int) → (List zq0) → (List zq2) → (List Int) → (List (Int × (Int × Int))) → Option β
abbrev zqdh := {β : Type} → zqdg β → Int → Int → Int → Int → (List UInt8) → Int → Int → Int → Int → Int → Int → Int → Int → (List UInt8) → Int → Int → Int → Int → (List Int) → (List Int) → (List zq0) → (List zq2) → (List Int) → (List (Int × (Int × Int))) → (List zq0) → (List zq2) → (List Int) → (List (Int × (Int × Int))) → Option β
def zqdi : View := ⟨0, [10, 12], [(false, [.ptr 0 0]), (false, [.ptr 1 0])], [.cells 32 [.data (.int .i64), .data (.int .i64), .data (.int .i64), .data (.int .i64), .data .str, .data (.int .i64), .data (.int .i64), .data (.int .i64), .rowh 3, .rowh 4, .rowh 5, .rowh 6, .rowh 7, .data (.int .i64)], .cells 32 [.data (.int .i64), .data (.int .i64), .data (.int .i64), .data (.int .i64), .data .str, .data (.int .i64), .data (.int .i64), .data (.int .i64), .rowh 2, .rowh 8, .rowh 9, .rowh 10, .rowh 11, .data (.int .i64)], .row 3 (.int .i64), .row 3 (.int .i64), .row 69 zq1, .row 42 zq3, .row 3 (.int .i64), .row 64 (.prod (.int .i64) (.prod (.int .i64) (.int .i64))), .row 69 zq1, .row 42 zq3, .row 3 (.int .i64), .row 64 (.prod (.int .i64) (.prod (.int .i64) (.int .i64)))]⟩
def zqdj : List (AExit × View) := [(.ret, ⟨0, [10, 11], [(false, [.ptr 0 0]), (false, [.data (.int .i64)])], [.cells 32 [.data (.int .i64), .data (.int .i64), .data (.int .i64), .data (.int .i64), .data .str, .data (.int .i64), .data (.int .i64), .data (.int .i64), .rowh 1, .rowh 2, .rowh 3, .rowh 4, .rowh 5, .data (.int .i64)], .row 3 (.int .i64), .row 69 zq1, .row 42 zq3, .row 3 (.int .i64), .row 64 (.prod (.int .i64) (.prod (.int .i64) (.int .i64)))]⟩)]
@[reducible] def ref37_Open_p1_G (p : zqdh) {β : Type} (d : zqdi.den) (ks : Outs.K β zqdj) : Option β :=
  p (fun a0 a1 a2 a3 a4 a5 a6 a7 a8 a9 a10 a11 a12 a13 a14 => ks.1 (((), (a0, ()), ()), ((a1, a2, a3, a4, a5, a6, a7, a8, a9, ()), a10, a11, a12, a13, a14, ()))) d.2.1.1 d.2.1.2.1 d.2.1.2.2.1 d.2.1.2.2.2.1 d.2.1.2.2.2.2.1 d.2.1.2.2.2.2.2.1 d.2.1.2.2.2.2.2.2.1 d.2.1.2.2.2.2.2.2.2.1 d.2.1.2.2.2.2.2.2.2.2.1 d.2.2.1.1 d.2.2.1.2.1 d.2.2.1.2.2.1 d.2.2.1.2.2.2.1 d.2.2.1.2.2.2.2.1 d.2.2.1.2.2.2.2.2.1 d.2.2.1.2.2.2.2.2.2.1 d.2.2.1.2.2.2.2.2.2.2.1 d.2.2.1.2.2.2.2.2.2.2.2.1 d.2.2.2.1 d.2.2.2.2.1 d.2.2.2.2.2.1 d.2.2.2.2.2.2.1 d.2.2.2.2.2.2.2.1 d.2.2.2.2.2.2.2.2.1 d.2.2.2.2.2.2.2.2.2.1 d.2.2.2.2.2.2.2.2.2.2.1 d.2.2.2.2.2.2.2.2.2.2.2.1 d.2.2.2.2.2.2.2.2.2.2.2.2.1
section
variable (c_ref37_Check : zqcj)
@[reducible] def ref37_Open_X : Ctx := ⟨look tab, pick1 [(13, .spec (zqck c_ref37_Check))], false, false, false, false, false⟩
def zqdk {β : Type} (k1 : zqdg β) (t10 : Int) (t102 : Int) (t103 : Int) (t104 : Int) (t105 : List UInt8) (t106 : Int) (t107 : Int) (t108 : Int) (t109 : Int) (x : Int) (x2 : Int) (x3 : Int) (x4 : Int) (x5 : List UInt8) (x6 : Int) (x7 : Int) (x8 : Int) (x9 : Int) (b2_ : List Int) (b3_ : List Int) (b4_ : List zq0) (b5_ : List zq2) (b6_ : List Int) (b7_ : List (Int × (Int × Int))) (b8_ : List zq0) (b9_ : List zq2) (b10_ : List Int) (b11_ : List (Int × (Int × Int))) : Option β :=
  c_ref37_Check (x, (x2, (x3, (x4, (x5, ((x6, (x7, x8)), (b2_, (b8_, (b9_, (b10_, (b11_, x9))))))))))) (fun (rCheck : Bool) =>
  cond (!rCheck)
  (k1 (8 : Int) (0 : Int) (0 : Int) (0 : Int) (0 : Int) ([] : List UInt8) (0 : Int) (0 : Int) (0 : Int) (0 : Int) ([] : List Int) ([] : List zq0) ([] : List zq2) ([] : List Int) ([] : List (Int × (Int × Int))))
  (k1 (0 : Int) x x2 x3 x4 x5 x6 x7 x8 x9 b2_ b8_ b9_ b10_ b11_))
def zqdl {β : Type} (k1 : zqdg β) (t10 : Int) (t102 : Int) (t103 : Int) (t104 : Int) (t105 : List UInt8) (t106 : Int) (t107 : Int) (t108 : Int) (t109 : Int) (x : Int) (x2 : Int) (x3 : Int) (x4 : Int) (x5 : List UInt8) (x6 : Int) (x7 : Int) (x8 : Int) (x9 : Int) (b2_ : List Int) (b3_ : List Int) (b4_ : List zq0) (b5_ : List zq2) (b6_ : List Int) (b7_ : List (Int × (Int × Int))) (b8_ : List zq0) (b9_ : List zq2) (b10_ : List Int) (b11_ : List (Int × (Int × Int))) : Option β := zqdk c_ref37_Check k1 t10 t102 t103 t104 t105 t106 t107 t108 t109 x x2 x3 x4 x5 x6 x7 x8 x9 b2_ b3_ b4_ b5_ b6_ b7_ b8_ b9_ b10_ b11_
theorem zqdm (hΓ : ΓOk Try.prog (ref37_Open_X c_ref37_Check).Γ) : PieceOk Try.prog 29 0 ref37_Open_p1_code zqdi zqdj (ref37_Open_p1_G (zqdl c_ref37_Check)) :=
  piece_exec (X := (ref37_Open_X c_ref37_Check)) (p := 15) (Λ := pick1 []) mixed tab_ok hΓ (by kernel_rfl) CutsOk_nil (fun d ks r h => Eq.trans (b := ref37_Open_p1_G (zqdl c_ref37_Check) d ks) (by kernel_rfl) h)
def zqdn (p1 : zqdh) {β : Type} (id : Int) (at_ : Int) (severity : Int) (title : List UInt8) (page : Int) (k : (zq4 → Int → Option β)) : Option β :=
  cond (!decide (page = (0 : Int)))
  (let l : List Int := ([page] : List Int);
  p1 (fun (t11 : Int) (t10 : Int) (t102 : Int) (t103 : Int) (t104 : Int) (t105 : List UInt8) (t106 : Int) (t107 : Int) (t108 : Int) (t109 : Int) (b1_ : List Int) (b2_ : List zq0) (b3_ : List zq2) (b4_ : List Int) (b5_ : List (Int × (Int × Int))) =>
  k (t10, (t102, (t103, (t104, (t105, ((t106, (t107, t108)), (b1_, (b2_, (b3_, (b4_, (b5_, t109))))))))))) t11) (0 : Int) (0 : Int) (0 : Int) (0 : Int) ([] : List UInt8) (0 : Int) (0 : Int) (0 : Int) (0 : Int) id (0 : Int) severity at_ title (-1 : Int) (-1 : Int) (-1 : Int) (0 : Int) l ([] : List Int) ([] : List zq0) ([] : List zq2) ([] : List Int) ([] : List (Int × (Int × Int))) ([] : List zq0) ([] : List zq2) ([] : List Int) ([] : List (Int × (Int × Int))))
  (p1 (fun (t11 : Int) (t10 : Int) (t102 : Int) (t103 : Int) (t104 : Int) (t105 : List UInt8) (t106 : Int) (t107 : Int) (t108 : Int) (t109 : Int) (b1_ : List Int) (b2_ : List zq0) (b3_ : List zq2) (b4_ : List Int) (b5_ : List (Int × (Int × Int))) =>
  k (t10, (t102, (t103, (t104, (t105, ((t106, (t107, t108)), (b1_, (b2_, (b3_, (b4_, (b5_, t109))))))))))) t11) (0 : Int) (0 : Int) (0 : Int) (0 : Int) ([] : List UInt8) (0 : Int) (0 : Int) (0 : Int) (0 : Int) id (0 : Int) severity at_ title (-1 : Int) (-1 : Int) (-1 : Int) (0 : Int) ([] : List Int) ([] : List Int) ([] : List zq0) ([] : List zq2) ([] : List Int) ([] : List (Int × (Int × Int))) ([] : List zq0) ([] : List zq2) ([] : List Int) ([] : List (Int × (Int × Int))))
theorem zqdo (hΓ : ΓOk Try.prog (ref37_Open_X c_ref37_Check).Γ) (p1 : zqdh) (hp1 : PieceOk Try.prog 29 0 ref37_Open_p1_code zqdi zqdj (ref37_Open_p1_G p1)) : SpecOk Try.prog 17 (zqdf (zqdn p1)) :=
  spec_exec (X := (ref37_Open_X c_ref37_Check)) (Λ := pick1 [(15, pieceCut zqdi zqdj (ref37_Open_p1_G p1))]) (rs := [.cell 10 32, .tmp 11]) (c := bodyOf Try.f17) mixed tab_ok hΓ Try.func17 (by kernel_rfl) (by kernel_rfl) (by kernel_rfl) (by kernel_rfl) (CutsOk_cons (q := 15) (c' := ref37_Open_p1_code) (by kernel_rfl) rfl hp1 CutsOk_nil) (fun x k r h => Eq.trans (b := (zqdf (zqdn p1)).run x k) (by kernel_rfl) h)
end
theorem zqdpΓ : ΓOk Try.prog (pick1 [(13, .spec (zqck zqdc))]) := (ΓOk_cons zqdd ΓOk_nil)
def zqdq : zqdh := zqdl zqdc
theorem zqdr : PieceOk Try.prog 29 0 ref37_Open_p1_code zqdi zqdj (ref37_Open_p1_G zqdq) := zqdm zqdc zqdpΓ
def zqds : zqde := zqdn zqdq
theorem zqdt : SpecOk Try.prog 17 (zqdf zqds) := zqdo zqdc zqdpΓ zqdq zqdr

/-- (*pagewatch/pagewatchmade.Dice).One -/
abbrev zqdu := {β : Type} → (List Int) → (List Int × Int) → (Int → (List Int × Int) → Option β) → Option β
def zqdv (c : zqdu) : Spec :=
  ⟨[(false, [.ptr 0 0]), (false, [.data (.slice (.int .i64))])], [.cells 48 [.data (.prod (.slice (.int .i64)) (.int .i64))]], [(false, [.data (.int .i64)])], [.cells 48 [.data (.prod (.slice (.int .i64)) (.int .i64))]], fun x k => c x.1.2.1.1 x.2.1.1 (fun r0 r1 => k (((r0, ()), ()), ((r1, ()), ())))⟩
section
variable (c_made_Dice_Next : zq25)
@[reducible] def made_Dice_One_X : Ctx := ⟨look tab, pick1 [(19, .spec (zq26 c_made_Dice_Next))], false, false, false, false, false⟩
def zqdw {β : Type} (l : List Int) (d : (List Int × Int)) (k : (Int → (List Int × Int) → Option β)) : Option β :=
  c_made_Dice_Next (List.length l : Int) d (fun (rNext : Int) (mrNext : (List Int × Int)) =>
  cond (decide (0 ≤ rNext) && decide (rNext < (List.length l : Int)))
  (let e : Int := List.getD l (Int.toNat rNext) (0 : Int);
  k e mrNext)
  none)
theorem zqdx (hΓ : ΓOk Try.prog (made_Dice_One_X c_made_Dice_Next).Γ) : SpecOk Try.prog 18 (zqdv (zqdw c_made_Dice_Next)) :=
  spec_exec (X := (made_Dice_One_X c_made_Dice_Next)) (Λ := pick1 []) (rs := [.tmp 4]) (c := bodyOf Try.f18) mixed tab_ok hΓ Try.func18 (by kernel_rfl) (by kernel_rfl) (by kernel_rfl) (by kernel_rfl) CutsOk_nil (fun x k r h => Eq.trans (b := (zqdv (zqdw c_made_Dice_Next)).run x k) (by kernel_rfl) h)
end
theorem zqdyΓ : ΓOk Try.prog (pick1 [(19, .spec (zq26 zq2a))]) := (ΓOk_cons zq2b ΓOk_nil)
def zqdz : zqdu := zqdw zq2a
theorem zqe0 : SpecOk Try.prog 18 (zqdv zqdz) := zqdx zq2a zqdyΓ

/-- pagewatch/incident.copied -/
abbrev zqe1 := {β : Type} → zq4 → (Int → Int → Int → Int → (List UInt8) → Int → Int → Int → Int → (List Int) → (List zq0) → (List zq2) → (List Int) → (List (Int × (Int × Int))) → Option β) → Option β
def zqe2 (c : zqe1) : Spec :=
  ⟨[(true, [.data zq5])], [], [(true, [.data (.int .i64), .data (.int .i64), .data (.int .i64), .data (.int .i64), .data .str, .data (.int .i64), .data (.int .i64), .data (.int .i64), .rowh 0, .rowh 1, .rowh 2, .rowh 3, .rowh 4, .data (.int .i64)])], [.row 3 (.int .i64), .row 69 zq1, .row 42 zq3, .row 3 (.int .i64), .row 64 (.prod (.int .i64) (.prod (.int .i64) (.int .i64)))], fun x k => c x.1.1.1 (fun r0 r1 r2 r3 r4 r5 r6 r7 r8 r9 r10 r11 r12 r13 => k (((r0, r1, r2, r3, r4, r5, r6, r7, r8, ()), ()), (r9, r10, r11, r12, r13, ())))⟩
noncomputable def incident_copied_p1_code : Code := codeAt 58 (bodyOf Try.f31)
abbrev zqe3 (β : Type) := Int → Int → Int → Int → (List UInt8) → Int → Int → Int → Int → Int → Int → Int → Int → (List UInt8) → Int → Int → Int → Int → (List Int) → (List zq0) → (List zq2) → (List Int) → (List (Int × (Int × Int))) → (List Int) → (List zq0) → (List zq2) → (List Int) → (List (Int × (Int × Int))) → Option β
abbrev zqe4 := {β : Type} → zqe3 β → Int → Int → Int → Int → Int → Int → (List UInt8) → Int → Int → Int → Int → Int → Int → Int → Int → (List UInt8) → Int → Int → Int → Int → (List Int) → (List zq0) → (List zq2) → (List Int) → (List (Int × (Int × Int))) → (List Int) → (List zq0) → (List zq2) → (List Int) → (List (Int × (Int × Int))) → Option β
def zqe5 : View := ⟨0, [1, 2, 26, 27], [(false, [.ptr 0 0]), (false, [.ptr 1 0]), (false, [.data (.int .i64)]), (false, [.data (.int .i64)])], [.cells 32 [.data (.int .i64), .data (.int .i64), .data (.int .i64), .data (.int .i64), .data .str, .data (.int .i64), .data (.int .i64), .data (.int .i64), .rowh 2, .rowh 3, .rowh 4, .rowh 5, .rowh 6, .data (.int .i64)], .cells 32 [.data (.int .i64), .data (.int .i64), .data (.int .i64), .data (.int .i64), .data .str, .data (.int .i64), .data (.int .i64), .data (.int .i64), .rowh 7, .rowh 8, .rowh 9, .rowh 10, .rowh 11, .data (.int .i64)], .row 3 (.int .i64), .row 69 zq1, .row 42 zq3, .row 3 (.int .i64), .row 64 (.prod (.int .i64) (.prod (.int .i64) (.int .i64))), .row 3 (.int .i64), .row 69 zq1, .row 42 zq3, .row 3 (.int .i64), .row 64 (.prod (.int .i64) (.prod (.int .i64) (.int .i64)))]⟩
def zqe6 : List (AExit × View) := [(.exit 0, ⟨0, [1, 2], [(false, [.ptr 0 0]), (false, [.ptr 1 0])], [.cells 32 [.data (.int .i64), .data (.int .i64), .data (.int .i64), .data (.int .i64), .data .str, .data (.int .i64), .data (.int .i64), .data (.int .i64), .rowh 2, .rowh 3, .rowh 4, .rowh 5, .rowh 6, .data (.int .i64)], .cells 32 [.data (.int .i64), .data (.int .i64), .data (.int .i64), .data (.int .i64), .data .str, .data (.int .i64), .data (.int .i64), .data (.int .i64), .rowh 7, .rowh 8, .rowh 9, .rowh 10, .rowh 11, .data (.int .i64)], .row 3 (.int .i64), .row 69 zq1, .row 42 zq3, .row 3 (.int .i64), .row 64 (.prod (.int .i64) (.prod (.int .i64) (.int .i64))), .row 3 (.int .i64), .row 69 zq1, .row 42 zq3, .row 3 (.int .i64), .row 64 (.prod (.int .i64) (.prod (.int .i64) (.int .i64)))]⟩)]
@[reducible] def incident_copied_p1_G (p : zqe4) {β : Type} (d : zqe5.den) (ks : Outs.K β zqe6) : Option β :=
  p (fun a0 a1 a2 a3 a4 a5 a6 a7 a8 a9 a10 a11 a12 a13 a14 a15 a16 a17 a18 a19 a20 a21 a22 a23 a24 a25 a26 a27 => ks.1 (((), (), ()), ((a0, a1, a2, a3, a4, a5, a6, a7, a8, ()), (a9, a10, a11, a12, a13, a14, a15, a16, a17, ()), a18, a19, a20, a21, a22, a23, a24, a25, a26, a27, ()))) d.1.2.2.1.1 d.1.2.2.2.1.1 d.2.1.1 d.2.1.2.1 d.2.1.2.2.1 d.2.1.2.2.2.1 d.2.1.2.2.2.2.1 d.2.1.2.2.2.2.2.1 d.2.1.2.2.2.2.2.2.1 d.2.1.2.2.2.2.2.2.2.1 d.2.1.2.2.2.2.2.2.2.2.1 d.2.2.1.1 d.2.2.1.2.1 d.2.2.1.2.2.1 d.2.2.1.2.2.2.1 d.2.2.1.2.2.2.2.1 d.2.2.1.2.2.2.2.2.1 d.2.2.1.2.2.2.2.2.2.1 d.2.2.1.2.2.2.2.2.2.2.1 d.2.2.1.2.2.2.2.2.2.2.2.1 d.2.2.2.1 d.2.2.2.2.1 d.2.2.2.2.2.1 d.2.2.2.2.2.2.1 d.2.2.2.2.2.2.2.1 d.2.2.2.2.2.2.2.2.1 d.2.2.2.2.2.2.2.2.2.1 d.2.2.2.2.2.2.2.2.2.2.1 d.2.2.2.2.2.2.2.2.2.2.2.1 d.2.2.2.2.2.2.2.2.2.2.2.2.1
section
variable (c_slices_Clone_api_StateChange_api_StateChange : zq8z) (c_slices_Clone_api_Task_api_Task : zq8r) (c_slices_Clone_api_Update_api_Update : zq8v) (c_slices_Clone_int_int : zq3v)
@[reducible] def incident_copied_X : Ctx := ⟨look tab, pick1 [(52, .spec (zq90 c_slices_Clone_api_StateChange_api_StateChange)), (50, .spec (zq8s c_slices_Clone_api_Task_api_Task)), (51, .spec (zq8w c_slices_Clone_api_Update_api_Update)), (33, .spec (zq3w c_slices_Clone_int_int))], false, false, false, false, false⟩
def zqe7 {β : Type} (rec : Int → Int → Int → Int → Int → Int → (List UInt8) → Int → Int → Int → Int → Int → Int → Int → Int → (List UInt8) → Int → Int → Int → Int → (List Int) → (List zq0) → (List zq2) → (List Int) → (List (Int × (Int × Int))) → (List Int) → (List zq0) → (List zq2) → (List Int) → (List (Int × (Int × Int))) → Option β) (k1 : zqe3 β) (t26 : Int) (t27 : Int) (x : Int) (x2 : Int) (x3 : Int) (x4 : Int) (x5 : List UInt8) (x6 : Int) (x7 : Int) (x8 : Int) (x9 : Int) (t2 : Int) (t22 : Int) (t23 : Int) (t24 : Int) (t25 : List UInt8) (t28 : Int) (t29 : Int) (t210 : Int) (t211 : Int) (b2_ : List Int) (b3_ : List zq0) (b4_ : List zq2) (b5_ : List Int) (b6_ : List (Int × (Int × Int))) (b7_ : List Int) (b8_ : List zq0) (b9_ : List zq2) (b10_ : List Int) (b11_ : List (Int × (Int × Int))) : Option β :=
  cond (decide (t27 < t26))
  (cond (decide (0 ≤ t27) && decide (t27 < (List.length b4_ : Int)))
  (c_slices_Clone_int_int ((((List.getD b4_ (Int.toNat t27) ((0 : Int), ((0 : Int), (([] : List UInt8), ([] : List Int))))).2).2).2) (fun (lrCloneintint : List Int) =>
  cond (decide (0 ≤ t27) && decide (t27 < (List.length b4_ : Int)))
  (let l : List zq2 := (List.set b4_ (Int.toNat t27) ((List.getD b4_ (Int.toNat t27) ((0 : Int), ((0 : Int), (([] : List UInt8), ([] : List Int))))).1, (((List.getD b4_ (Int.toNat t27) ((0 : Int), ((0 : Int), (([] : List UInt8), ([] : List Int))))).2).1, ((((List.getD b4_ (Int.toNat t27) ((0 : Int), ((0 : Int), (([] : List UInt8), ([] : List Int))))).2).2).1, lrCloneintint))));
  rec t26 (IntKind.i64.wrap (t27 + (1 : Int))) x x2 x3 x4 x5 x6 x7 x8 x9 t2 t22 t23 t24 t25 t28 t29 t210 t211 b2_ b3_ l b5_ b6_ b7_ b8_ b9_ b10_ b11_)
  none))
  none)
  (k1 x x2 x3 x4 x5 x6 x7 x8 x9 t2 t22 t23 t24 t25 t28 t29 t210 t211 b2_ b3_ b4_ b5_ b6_ b7_ b8_ b9_ b10_ b11_)
def zqe8 {β : Type} : Nat → zqe3 β → Int → Int → Int → Int → Int → Int → (List UInt8) → Int → Int → Int → Int → Int → Int → Int → Int → (List UInt8) → Int → Int → Int → Int → (List Int) → (List zq0) → (List zq2) → (List Int) → (List (Int × (Int × Int))) → (List Int) → (List zq0) → (List zq2) → (List Int) → (List (Int × (Int × Int))) → Option β
  | 0 => fun _ _ _ _ _ _ _ _ _ _ _ _ _ _ _ _ _ _ _ _ _ _ _ _ _ _ _ _ _ _ _ => none
  | i + 1 => fun k1 t26 t27 x x2 x3 x4 x5 x6 x7 x8 x9 t2 t22 t23 t24 t25 t28 t29 t210 t211 b2_ b3_ b4_ b5_ b6_ b7_ b8_ b9_ b10_ b11_ => zqe7 c_slices_Clone_int_int (zqe8 i k1) k1 t26 t27 x x2 x3 x4 x5 x6 x7 x8 x9 t2 t22 t23 t24 t25 t28 t29 t210 t211 b2_ b3_ b4_ b5_ b6_ b7_ b8_ b9_ b10_ b11_
theorem zqe9 (hΓ : ΓOk Try.prog (incident_copied_X c_slices_Clone_api_StateChange_api_StateChange c_slices_Clone_api_Task_api_Task c_slices_Clone_api_Update_api_Update c_slices_Clone_int_int).Γ) (i : Nat) : PieceOk Try.prog 44 0 incident_copied_p1_code zqe5 zqe6 (incident_copied_p1_G (zqe8 c_slices_Clone_int_int i)) := by
  rw [show incident_copied_p1_code = .loop (loopBody incident_copied_p1_code) by kernel_rfl]
  exact piece_loop (X := (incident_copied_X c_slices_Clone_api_StateChange_api_StateChange c_slices_Clone_api_Task_api_Task c_slices_Clone_api_Update_api_Update c_slices_Clone_int_int)) (p := 1) (Λ := pick1 []) (G := fun i => @fun β d ks => incident_copied_p1_G (zqe8 c_slices_Clone_int_int i) d ks) mixed tab_ok hΓ rfl (by kernel_rfl) CutsOk_nil (fun _ _ => rfl) (fun i => @fun β d ks r h => Eq.trans (b := incident_copied_p1_G (zqe8 c_slices_Clone_int_int (i + 1)) d ks) (by kernel_rfl) h) i
def zqea (p1 : zqe4) {β : Type} (x : zq4) (k : (Int → Int → Int → Int → (List UInt8) → Int → Int → Int → Int → (List Int) → (List zq0) → (List zq2) → (List Int) → (List (Int × (Int × Int))) → Option β)) : Option β :=
  c_slices_Clone_int_int x.2.2.2.2.2.2.1 (fun (lrCloneintint : List Int) =>
  c_slices_Clone_api_Task_api_Task x.2.2.2.2.2.2.2.1 (fun (lrTask : List zq0) =>
  c_slices_Clone_api_Update_api_Update x.2.2.2.2.2.2.2.2.1 (fun (lrUpdate : List zq2) =>
  c_slices_Clone_int_int x.2.2.2.2.2.2.2.2.2.1 (fun (lrCloneintint2 : List Int) =>
  c_slices_Clone_api_StateChange_api_StateChange x.2.2.2.2.2.2.2.2.2.2.1 (fun (lrStateChange : List (Int × (Int × Int))) =>
  p1 (fun (x2 : Int) (x3 : Int) (x4 : Int) (x5 : Int) (x6 : List UInt8) (x7 : Int) (x8 : Int) (x9 : Int) (x10 : Int) (t2 : Int) (t22 : Int) (t23 : Int) (t24 : Int) (t25 : List UInt8) (t26 : Int) (t27 : Int) (t28 : Int) (t29 : Int) (b2_ : List Int) (b3_ : List zq0) (b4_ : List zq2) (b5_ : List Int) (b6_ : List (Int × (Int × Int))) (b7_ : List Int) (b8_ : List zq0) (b9_ : List zq2) (b10_ : List Int) (b11_ : List (Int × (Int × Int))) =>
  k x2 x3 x4 x5 x6 x7 x8 x9 x10 b2_ b3_ b4_ b5_ b6_) (List.length lrUpdate : Int) (0 : Int) x.1 x.2.1 x.2.2.1 x.2.2.2.1 x.2.2.2.2.1 x.2.2.2.2.2.1.1 x.2.2.2.2.2.1.2.1 x.2.2.2.2.2.1.2.2 x.2.2.2.2.2.2.2.2.2.2.2 (0 : Int) (0 : Int) (0 : Int) (0 : Int) ([] : List UInt8) (0 : Int) (0 : Int) (0 : Int) (0 : Int) lrCloneintint lrTask lrUpdate lrCloneintint2 lrStateChange ([] : List Int) ([] : List zq0) ([] : List zq2) ([] : List Int) ([] : List (Int × (Int × Int))))))))
theorem zqeb (hΓ : ΓOk Try.prog (incident_copied_X c_slices_Clone_api_StateChange_api_StateChange c_slices_Clone_api_Task_api_Task c_slices_Clone_api_Update_api_Update c_slices_Clone_int_int).Γ) (p1 : zqe4) (hp1 : PieceOk Try.prog 44 0 incident_copied_p1_code zqe5 zqe6 (incident_copied_p1_G p1)) : SpecOk Try.prog 31 (zqe2 (zqea c_slices_Clone_api_StateChange_api_StateChange c_slices_Clone_api_Task_api_Task c_slices_Clone_api_Update_api_Update c_slices_Clone_int_int p1)) :=
  spec_exec (X := (incident_copied_X c_slices_Clone_api_StateChange_api_StateChange c_slices_Clone_api_Task_api_Task c_slices_Clone_api_Update_api_Update c_slices_Clone_int_int)) (Λ := pick1 [(58, pieceCut zqe5 zqe6 (incident_copied_p1_G p1))]) (rs := [.cell 2 32]) (c := bodyOf Try.f31) mixed tab_ok hΓ Try.func31 (by kernel_rfl) (by kernel_rfl) (by kernel_rfl) (by kernel_rfl) (CutsOk_cons (q := 58) (c' := incident_copied_p1_code) (by kernel_rfl) rfl hp1 CutsOk_nil) (fun x k r h => Eq.trans (b := (zqe2 (zqea c_slices_Clone_api_StateChange_api_StateChange c_slices_Clone_api_Task_api_Task c_slices_Clone_api_Update_api_Update c_slices_Clone_int_int p1)).run x k) (by kernel_rfl) h)
end
theorem zqecΓ : ΓOk Try.prog (pick1 [(52, .spec (zq90 zq91)), (50, .spec (zq8s zq8t)), (51, .spec (zq8w zq8x)), (33, .spec (zq3w zq3x))]) := (ΓOk_cons zq92 (ΓOk_cons zq8u (ΓOk_cons zq8y (ΓOk_cons zq3y ΓOk_nil))))
def zqed (m : Nat) : zqe4 := zqe8 zq3x m
theorem zqee {β : Type} (i : Nat) (k1 t26 t27 x x2 x3 x4 x5 x6 x7 x8 x9 t2 t22 t23 t24 t25 t28 t29 t210 t211 b2_ b3_ b4_ b5_ b6_ b7_ b8_ b9_ b10_ b11_) : (zqed (i + 1) k1 t26 t27 x x2 x3 x4 x5 x6 x7 x8 x9 t2 t22 t23 t24 t25 t28 t29 t210 t211 b2_ b3_ b4_ b5_ b6_ b7_ b8_ b9_ b10_ b11_ : Option β) = zqe7 zq3x (zqed i k1) k1 t26 t27 x x2 x3 x4 x5 x6 x7 x8 x9 t2 t22 t23 t24 t25 t28 t29 t210 t211 b2_ b3_ b4_ b5_ b6_ b7_ b8_ b9_ b10_ b11_ := rfl
def zqef : zqe4 := zqed fuel
theorem zqeg : PieceOk Try.prog 44 0 incident_copied_p1_code zqe5 zqe6 (incident_copied_p1_G zqef) := zqe9 zq91 zq8t zq8x zq3x zqecΓ fuel
def zqeh : zqe1 := zqea zq91 zq8t zq8x zq3x zqef
theorem zqei : SpecOk Try.prog 31 (zqe2 zqeh) := zqeb zq91 zq8t zq8x zq3x zqecΓ zqef zqeg

/-- pagewatch/incident.joined -/
abbrev zqej := {β : Type} → (List Int) → (List Int) → ((List Int) → Option β) → Option β
def zqek (c : zqej) : Spec :=
  ⟨[(false, [.data (.slice (.int .i64))]), (false, [.data (.slice (.int .i64))])], [], [(false, [.rowh 0])], [.row 3 (.int .i64)], fun x k => c x.1.1.1 x.1.2.1.1 (fun r0 => k (((), ()), (r0, ())))⟩
section
variable (c_slices_Clone_int_int : zq3v)
@[reducible] def incident_joined_X : Ctx := ⟨look tab, pick1 [(33, .spec (zq3w c_slices_Clone_int_int)), (54, .rows zq99), (53, .rows zq95)], false, false, false, false, false⟩
def zqel {β : Type} (l : List Int) (more : List Int) (k : ((List Int) → Option β)) : Option β :=
  c_slices_Clone_int_int l (fun (lrCloneintint : List Int) =>
  cond (decide ((List.length lrCloneintint + List.length more) * 8 ≤ roomMax))
  (let l2 : List Int := (lrCloneintint ++ more);
  cond (decide (List.length l2 < 4611686018427387904))
  (let l3 : List Int := (sortInts l2);
  cond (decide (List.length l3 < 4611686018427387904))
  (let l4 : List Int := (Go.Lib.compact l3);
  k l4)
  none)
  none)
  none)
theorem zqem (hΓ : ΓOk Try.prog (incident_joined_X c_slices_Clone_int_int).Γ) : SpecOk Try.prog 32 (zqek (zqel c_slices_Clone_int_int)) :=
  spec_exec (X := (incident_joined_X c_slices_Clone_int_int)) (Λ := pick1 []) (rs := [.tmp 4]) (c := bodyOf Try.f32) mixed tab_ok hΓ Try.func32 (by kernel_rfl) (by kernel_rfl) (by kernel_rfl) (by kernel_rfl) CutsOk_nil (fun x k r h => Eq.trans (b := (zqek (zqel c_slices_Clone_int_int)).run x k) (by kernel_rfl) h)
end
theorem zqenΓ : ΓOk Try.prog (pick1 [(33, .spec (zq3w zq3x)), (54, .rows zq99), (53, .rows zq95)]) := (ΓOk_cons zq3y (ΓOk_row zq9a (ΓOk_row zq96 ΓOk_nil)))
def zqeo : zqej := zqel zq3x
theorem zqep : SpecOk Try.prog 32 (zqek zqeo) := zqem zq3x zqenΓ

/-- slices.Contains[[]int,int] -/
abbrev zqeq := {β : Type} → (List Int) → Int → (Bool → Option β) → Option β
def zqer (c : zqeq) : Spec :=
  ⟨[(false, [.data (.slice (.int .i64))]), (false, [.data (.int .i64)])], [], [(false, [.data .bool])], [], fun x k => c x.1.1.1 x.1.2.1.1 (fun r0 => k (((r0, ()), ()), ()))⟩
section
variable (c_slices_Index_int_int : zq9b)
@[reducible] def slices_Contains_int_int_X : Ctx := ⟨look tab, pick1 [(55, .spec (zq9c c_slices_Index_int_int))], false, false, false, false, false⟩
def zqes {β : Type} (s : List Int) (v : Int) (k : (Bool → Option β)) : Option β :=
  c_slices_Index_int_int s v (fun (rIndexintint : Int) =>
  let t : Bool := (decide ((0 : Int) ≤ rIndexintint));
  k t)
theorem zqet (hΓ : ΓOk Try.prog (slices_Contains_int_int_X c_slices_Index_int_int).Γ) : SpecOk Try.prog 35 (zqer (zqes c_slices_Index_int_int)) :=
  spec_exec (X := (slices_Contains_int_int_X c_slices_Index_int_int)) (Λ := pick1 []) (rs := [.tmp 4]) (c := bodyOf Try.f35) mixed tab_ok hΓ Try.func35 (by kernel_rfl) (by kernel_rfl) (by kernel_rfl) (by kernel_rfl) CutsOk_nil (fun x k r h => Eq.trans (b := (zqer (zqes c_slices_Index_int_int)).run x k) (by kernel_rfl) h)
end
theorem zqeuΓ : ΓOk Try.prog (pick1 [(55, .spec (zq9c zq9s))]) := (ΓOk_cons zq9t ΓOk_nil)
def zqev : zqeq := zqes zq9s
theorem zqew : SpecOk Try.prog 35 (zqer zqev) := zqet zq9s zqeuΓ

/-- pagewatch/incident.Check -/
abbrev zqex := {β : Type} → zq4 → (Bool → Option β) → Option β
def zqey (c : zqex) : Spec :=
  ⟨[(true, [.data zq5])], [], [(false, [.data .bool])], [], fun x k => c x.1.1.1 (fun r0 => k (((r0, ()), ()), ()))⟩
noncomputable def incident_Check_p1_code : Code := codeAt 58 (bodyOf Try.f41)
noncomputable def incident_Check_p2_code : Code := codeAt 63 (bodyOf Try.f41)
abbrev zqez (β : Type) := Bool → Option β
abbrev zqf0 (β : Type) := Int → Int → Int → Int → (List UInt8) → Int → Int → Int → (List Int) → (List zq0) → (List zq2) → (List Int) → (List (Int × (Int × Int))) → Int → Option β
abbrev zqf1 := {β : Type} → zqez β → zqf0 β → Int → Int → Int → Int → Int → Int → Int → Int → (List UInt8) → Int → Int → Int → (List Int) → (List zq0) → (List zq2) → (List Int) → (List (Int × (Int × Int))) → Int → Option β
def zqf2 : View := ⟨0, [1, 29, 30], [(false, [.ptr 0 0]), (true, [.data (.int .i64), .data (.int .i64), .data (.int .i64)]), (false, [.data (.int .i64)])], [.cells 32 [.data (.int .i64), .data (.int .i64), .data (.int .i64), .data (.int .i64), .data .str, .data (.int .i64), .data (.int .i64), .data (.int .i64), .data (.slice (.int .i64)), .data (.slice zq1), .data (.slice zq3), .data (.slice (.int .i64)), .data (.slice (.prod (.int .i64) (.prod (.int .i64) (.int .i64)))), .data (.int .i64)]]⟩
def zqf3 : List (AExit × View) := [(.ret, ⟨0, [2], [(false, [.data .bool])], []⟩), (.exit 0, ⟨0, [1], [(false, [.ptr 0 0])], [.cells 32 [.data (.int .i64), .data (.int .i64), .data (.int .i64), .data (.int .i64), .data .str, .data (.int .i64), .data (.int .i64), .data (.int .i64), .data (.slice (.int .i64)), .data (.slice zq1), .data (.slice zq3), .data (.slice (.int .i64)), .data (.slice (.prod (.int .i64) (.prod (.int .i64) (.int .i64)))), .data (.int .i64)]]⟩)]
@[reducible] def incident_Check_p1_G (p : zqf1) {β : Type} (d : zqf2.den) (ks : Outs.K β zqf3) : Option β :=
  p (fun a0 => ks.1 (((a0, ()), ()), ())) (fun a0 a1 a2 a3 a4 a5 a6 a7 a8 a9 a10 a11 a12 a13 => ks.2.1 (((), ()), ((a0, a1, a2, a3, a4, a5, a6, a7, a8, a9, a10, a11, a12, a13, ()), ()))) d.1.2.1.1 d.1.2.1.2.1 d.1.2.1.2.2.1 d.1.2.2.1.1 d.2.1.1 d.2.1.2.1 d.2.1.2.2.1 d.2.1.2.2.2.1 d.2.1.2.2.2.2.1 d.2.1.2.2.2.2.2.1 d.2.1.2.2.2.2.2.2.1 d.2.1.2.2.2.2.2.2.2.1 d.2.1.2.2.2.2.2.2.2.2.1 d.2.1.2.2.2.2.2.2.2.2.2.1 d.2.1.2.2.2.2.2.2.2.2.2.2.1 d.2.1.2.2.2.2.2.2.2.2.2.2.2.1 d.2.1.2.2.2.2.2.2.2.2.2.2.2.2.1 d.2.1.2.2.2.2.2.2.2.2.2.2.2.2.2.1
abbrev zqf4 (β : Type) := Bool → Option β
abbrev zqf5 := {β : Type} → zqf4 β → Int → Int → Int → Int → (List UInt8) → Int → Int → Int → (List Int) → (List zq0) → (List zq2) → (List Int) → (List (Int × (Int × Int))) → Int → Option β
def zqf6 : View := ⟨0, [1], [(false, [.ptr 0 0])], [.cells 32 [.data (.int .i64), .data (.int .i64), .data (.int .i64), .data (.int .i64), .data .str, .data (.int .i64), .data (.int .i64), .data (.int .i64), .data (.slice (.int .i64)), .data (.slice zq1), .data (.slice zq3), .data (.slice (.int .i64)), .data (.slice (.prod (.int .i64) (.prod (.int .i64) (.int .i64)))), .data (.int .i64)]]⟩
def zqf7 : List (AExit × View) := [(.ret, ⟨0, [2], [(false, [.data .bool])], []⟩)]
@[reducible] def incident_Check_p2_G (p : zqf5) {β : Type} (d : zqf6.den) (ks : Outs.K β zqf7) : Option β :=
  p (fun a0 => ks.1 (((a0, ()), ()), ())) d.2.1.1 d.2.1.2.1 d.2.1.2.2.1 d.2.1.2.2.2.1 d.2.1.2.2.2.2.1 d.2.1.2.2.2.2.2.1 d.2.1.2.2.2.2.2.2.1 d.2.1.2.2.2.2.2.2.2.1 d.2.1.2.2.2.2.2.2.2.2.1 d.2.1.2.2.2.2.2.2.2.2.2.1 d.2.1.2.2.2.2.2.2.2.2.2.2.1 d.2.1.2.2.2.2.2.2.2.2.2.2.2.1 d.2.1.2.2.2.2.2.2.2.2.2.2.2.2.1 d.2.1.2.2.2.2.2.2.2.2.2.2.2.2.2.1
section
variable (c_incident_Text : zq3c) (c_incident_changes : zqbt) (c_incident_in : zq2c) (c_incident_number : zq9u) (c_incident_persons : zqak) (c_incident_set : zqa1) (c_incident_somebody : zq6h) (c_incident_tasks : zqar) (c_incident_updates : zqba)
@[reducible] def incident_Check_X : Ctx := ⟨look tab, pick1 [(30, .spec (zq3d c_incident_Text)), (61, .spec (zqbu c_incident_changes)), (28, .spec (zq2d c_incident_in)), (56, .spec (zq9v c_incident_number)), (58, .spec (zqal c_incident_persons)), (57, .spec (zqa2 c_incident_set)), (42, .spec (zq6i c_incident_somebody)), (59, .spec (zqas c_incident_tasks)), (60, .spec (zqbb c_incident_updates))], false, false, false, false, false⟩
def zqf8 {β : Type} (rec : Int → Int → Int → Int → Int → Int → Int → Int → (List UInt8) → Int → Int → Int → (List Int) → (List zq0) → (List zq2) → (List Int) → (List (Int × (Int × Int))) → Int → Option β) (k1 : zqez β) (k2 : zqf0 β) (t29 : Int) (t292 : Int) (t293 : Int) (t30 : Int) (x : Int) (x2 : Int) (x3 : Int) (x4 : Int) (x5 : List UInt8) (x6 : Int) (x7 : Int) (x8 : Int) (x9 : List Int) (x10 : List zq0) (x11 : List zq2) (x12 : List Int) (x13 : List (Int × (Int × Int))) (x14 : Int) : Option β :=
  cond (decide (t30 < (3 : Int)))
  (cond (decide (0 ≤ t30) && decide (t30 < (List.length ([t29, t292, t293] : List Int) : Int)))
  (let e : Int := List.getD ([t29, t292, t293] : List Int) (Int.toNat t30) (0 : Int);
  c_incident_somebody e (fun (rsomebody : Bool) =>
  cond (!rsomebody)
  (k1 false)
  (rec t29 t292 t293 (IntKind.i64.wrap (t30 + (1 : Int))) x x2 x3 x4 x5 x6 x7 x8 x9 x10 x11 x12 x13 x14)))
  none)
  (k2 x x2 x3 x4 x5 x6 x7 x8 x9 x10 x11 x12 x13 x14)
def zqf9 {β : Type} : Nat → zqez β → zqf0 β → Int → Int → Int → Int → Int → Int → Int → Int → (List UInt8) → Int → Int → Int → (List Int) → (List zq0) → (List zq2) → (List Int) → (List (Int × (Int × Int))) → Int → Option β
  | 0 => fun _ _ _ _ _ _ _ _ _ _ _ _ _ _ _ _ _ _ _ _ => none
  | i + 1 => fun k1 k2 t29 t292 t293 t30 x x2 x3 x4 x5 x6 x7 x8 x9 x10 x11 x12 x13 x14 => zqf8 c_incident_somebody (zqf9 i k1 k2) k1 k2 t29 t292 t293 t30 x x2 x3 x4 x5 x6 x7 x8 x9 x10 x11 x12 x13 x14
theorem zqfa (hΓ : ΓOk Try.prog (incident_Check_X c_incident_Text c_incident_changes c_incident_in c_incident_number c_incident_persons c_incident_set c_incident_somebody c_incident_tasks c_incident_updates).Γ) (i : Nat) : PieceOk Try.prog 89 0 incident_Check_p1_code zqf2 zqf3 (incident_Check_p1_G (zqf9 c_incident_somebody i)) := by
  rw [show incident_Check_p1_code = .loop (loopBody incident_Check_p1_code) by kernel_rfl]
  exact piece_loop (X := (incident_Check_X c_incident_Text c_incident_changes c_incident_in c_incident_number c_incident_persons c_incident_set c_incident_somebody c_incident_tasks c_incident_updates)) (p := 1) (Λ := pick1 []) (G := fun i => @fun β d ks => incident_Check_p1_G (zqf9 c_incident_somebody i) d ks) mixed tab_ok hΓ rfl (by kernel_rfl) CutsOk_nil (fun _ _ => rfl) (fun i => @fun β d ks r h => Eq.trans (b := incident_Check_p1_G (zqf9 c_incident_somebody (i + 1)) d ks) (by kernel_rfl) h) i
def zqfb {β : Type} (k1 : zqf4 β) (x : Int) (x2 : Int) (x3 : Int) (x4 : Int) (x5 : List UInt8) (x6 : Int) (x7 : Int) (x8 : Int) (x9 : List Int) (x10 : List zq0) (x11 : List zq2) (x12 : List Int) (x13 : List (Int × (Int × Int))) (x14 : Int) : Option β :=
  c_incident_tasks (x, (x2, (x3, (x4, (x5, ((x6, (x7, x8)), (x9, (x10, (x11, (x12, (x13, x14))))))))))) (fun (rtasks : Bool) =>
  cond rtasks
  (c_incident_updates (x, (x2, (x3, (x4, (x5, ((x6, (x7, x8)), (x9, (x10, (x11, (x12, (x13, x14))))))))))) (fun (rupdates : Bool) =>
  cond rupdates
  (c_incident_changes (x, (x2, (x3, (x4, (x5, ((x6, (x7, x8)), (x9, (x10, (x11, (x12, (x13, x14))))))))))) (fun (rchanges : Bool) =>
  k1 rchanges))
  (k1 false)))
  (k1 false))
def zqfc {β : Type} (k1 : zqf4 β) (x : Int) (x2 : Int) (x3 : Int) (x4 : Int) (x5 : List UInt8) (x6 : Int) (x7 : Int) (x8 : Int) (x9 : List Int) (x10 : List zq0) (x11 : List zq2) (x12 : List Int) (x13 : List (Int × (Int × Int))) (x14 : Int) : Option β := zqfb c_incident_changes c_incident_tasks c_incident_updates k1 x x2 x3 x4 x5 x6 x7 x8 x9 x10 x11 x12 x13 x14
theorem zqfd (hΓ : ΓOk Try.prog (incident_Check_X c_incident_Text c_incident_changes c_incident_in c_incident_number c_incident_persons c_incident_set c_incident_somebody c_incident_tasks c_incident_updates).Γ) : PieceOk Try.prog 89 0 incident_Check_p2_code zqf6 zqf7 (incident_Check_p2_G (zqfc c_incident_changes c_incident_tasks c_incident_updates)) :=
  piece_exec (X := (incident_Check_X c_incident_Text c_incident_changes c_incident_in c_incident_number c_incident_persons c_incident_set c_incident_somebody c_incident_tasks c_incident_updates)) (p := 63) (Λ := pick1 []) mixed tab_ok hΓ (by kernel_rfl) CutsOk_nil (fun d ks r h => Eq.trans (b := incident_Check_p2_G (zqfc c_incident_changes c_incident_tasks c_incident_updates) d ks) (by kernel_rfl) h)
def zqfe (p1 : zqf1) (p2 : zqf5) {β : Type} (x : zq4) (k : (Bool → Option β)) : Option β :=
  c_incident_number x.1 (fun (rnumber : Bool) =>
  cond (!rnumber)
  (k false)
  (c_incident_in x.2.2.1 (1 : Int) (5 : Int) (fun (rin : Bool) =>
  cond (!rin)
  (k false)
  (c_incident_in x.2.2.2.1 (0 : Int) (8589934592 : Int) (fun (rin2 : Bool) =>
  cond (!rin2)
  (k false)
  (c_incident_Text x.2.2.2.2.1 (fun (rText : Bool) =>
  cond (!rText)
  (k false)
  (p1 (fun (t2 : Bool) =>
  k t2) (fun (x2 : Int) (x3 : Int) (x4 : Int) (x5 : Int) (x6 : List UInt8) (x7 : Int) (x8 : Int) (x9 : Int) (x10 : List Int) (x11 : List zq0) (x12 : List zq2) (x13 : List Int) (x14 : List (Int × (Int × Int))) (x15 : Int) =>
  c_incident_set x10 (1 : Int) (999999 : Int) (fun (rset : Bool) =>
  cond (!rset)
  (k false)
  (cond (decide ((64 : Int) < (List.length x10 : Int)))
  (k false)
  (c_incident_persons x13 (fun (rpersons : Bool) =>
  cond (!rpersons)
  (k false)
  (let merged : Bool := (decide (x3 = (4 : Int)));
  cond merged
  (c_incident_number x15 (fun (rnumber2 : Bool) =>
  cond (!rnumber2)
  (k false)
  (cond (decide (x15 = x2))
  (k false)
  (cond (!merged)
  (cond (!decide (x15 = (0 : Int)))
  (k false)
  (p2 (fun (t2 : Bool) =>
  k t2) x2 x3 x4 x5 x6 x7 x8 x9 x10 x11 x12 x13 x14 x15))
  (p2 (fun (t2 : Bool) =>
  k t2) x2 x3 x4 x5 x6 x7 x8 x9 x10 x11 x12 x13 x14 x15)))))
  (cond (!merged)
  (cond (!decide (x15 = (0 : Int)))
  (k false)
  (p2 (fun (t2 : Bool) =>
  k t2) x2 x3 x4 x5 x6 x7 x8 x9 x10 x11 x12 x13 x14 x15))
  (p2 (fun (t2 : Bool) =>
  k t2) x2 x3 x4 x5 x6 x7 x8 x9 x10 x11 x12 x13 x14 x15)))))))) x.2.2.2.2.2.1.1 x.2.2.2.2.2.1.2.1 x.2.2.2.2.2.1.2.2 (0 : Int) x.1 x.2.1 x.2.2.1 x.2.2.2.1 x.2.2.2.2.1 x.2.2.2.2.2.1.1 x.2.2.2.2.2.1.2.1 x.2.2.2.2.2.1.2.2 x.2.2.2.2.2.2.1 x.2.2.2.2.2.2.2.1 x.2.2.2.2.2.2.2.2.1 x.2.2.2.2.2.2.2.2.2.1 x.2.2.2.2.2.2.2.2.2.2.1 x.2.2.2.2.2.2.2.2.2.2.2))))))))
theorem zqff (hΓ : ΓOk Try.prog (incident_Check_X c_incident_Text c_incident_changes c_incident_in c_incident_number c_incident_persons c_incident_set c_incident_somebody c_incident_tasks c_incident_updates).Γ) (p1 : zqf1) (p2 : zqf5) (hp1 : PieceOk Try.prog 89 0 incident_Check_p1_code zqf2 zqf3 (incident_Check_p1_G p1)) (hp2 : PieceOk Try.prog 89 0 incident_Check_p2_code zqf6 zqf7 (incident_Check_p2_G p2)) : SpecOk Try.prog 41 (zqey (zqfe c_incident_Text c_incident_in c_incident_number c_incident_persons c_incident_set p1 p2)) :=
  spec_exec (X := (incident_Check_X c_incident_Text c_incident_changes c_incident_in c_incident_number c_incident_persons c_incident_set c_incident_somebody c_incident_tasks c_incident_updates)) (Λ := pick1 [(58, pieceCut zqf2 zqf3 (incident_Check_p1_G p1)), (63, pieceCut zqf6 zqf7 (incident_Check_p2_G p2))]) (rs := [.tmp 2]) (c := bodyOf Try.f41) mixed tab_ok hΓ Try.func41 (by kernel_rfl) (by kernel_rfl) (by kernel_rfl) (by kernel_rfl) (CutsOk_cons (q := 58) (c' := incident_Check_p1_code) (by kernel_rfl) rfl hp1 (CutsOk_cons (q := 63) (c' := incident_Check_p2_code) (by kernel_rfl) rfl hp2 CutsOk_nil)) (fun x k r h => Eq.trans (b := (zqey (zqfe c_incident_Text c_incident_in c_incident_number c_incident_persons c_incident_set p1 p2)).run x k) (by kernel_rfl) h)
end
theorem zqfgΓ : ΓOk Try.prog (pick1 [(30, .spec (zq3d zq3t)), (61, .spec (zqbu zqca)), (28, .spec (zq2d zq2h)), (56, .spec (zq9v zq9z)), (58, .spec (zqal zqap)), (57, .spec (zqa2 zqai)), (42, .spec (zq6i zq6m)), (59, .spec (zqas zqb8)), (60, .spec (zqbb zqbr))]) := (ΓOk_cons zq3u (ΓOk_cons zqcb (ΓOk_cons zq2i (ΓOk_cons zqa0 (ΓOk_cons zqaq (ΓOk_cons zqaj (ΓOk_cons zq6n (ΓOk_cons zqb9 (ΓOk_cons zqbs ΓOk_nil)))))))))
def zqfh (m : Nat) : zqf1 := zqf9 zq6m m
theorem zqfi {β : Type} (i : Nat) (k1 k2 t29 t292 t293 t30 x x2 x3 x4 x5 x6 x7 x8 x9 x10 x11 x12 x13 x14) : (zqfh (i + 1) k1 k2 t29 t292 t293 t30 x x2 x3 x4 x5 x6 x7 x8 x9 x10 x11 x12 x13 x14 : Option β) = zqf8 zq6m (zqfh i k1 k2) k1 k2 t29 t292 t293 t30 x x2 x3 x4 x5 x6 x7 x8 x9 x10 x11 x12 x13 x14 := rfl
def zqfj : zqf1 := zqfh fuel
theorem zqfk : PieceOk Try.prog 89 0 incident_Check_p1_code zqf2 zqf3 (incident_Check_p1_G zqfj) := zqfa zq3t zqca zq2h zq9z zqap zqai zq6m zqb8 zqbr zqfgΓ fuel
def zqfl : zqf5 := zqfc zqca zqb8 zqbr
theorem zqfm : PieceOk Try.prog 89 0 incident_Check_p2_code zqf6 zqf7 (incident_Check_p2_G zqfl) := zqfd zq3t zqca zq2h zq9z zqap zqai zq6m zqb8 zqbr zqfgΓ
def zqfn : zqex := zqfe zq3t zq2h zq9z zqap zqai zqfj zqfl
theorem zqfo : SpecOk Try.prog 41 (zqey zqfn) := zqff zq3t zqca zq2h zq9z zqap zqai zq6m zqb8 zqbr zqfgΓ zqfj zqfl zqfk zqfm

/-- pagewatch/incident.can -/
abbrev zqfp := {β : Type} → zq4 → Int → (Bool → Option β) → Option β
def zqfq (c : zqfp) : Spec :=
  ⟨[(true, [.data zq5]), (false, [.data (.int .i64)])], [], [(false, [.data .bool])], [], fun x k => c x.1.1.1 x.1.2.1.1 (fun r0 => k (((r0, ()), ()), ()))⟩
section
variable (c_incident_possible : zqcc) (c_slices_Contains_int_int : zqeq)
@[reducible] def incident_can_X : Ctx := ⟨look tab, pick1 [(62, .spec (zqcd c_incident_possible)), (35, .spec (zqer c_slices_Contains_int_int))], false, false, false, false, false⟩
def zqfr {β : Type} (x : zq4) (state : Int) (k : (Bool → Option β)) : Option β :=
  c_incident_possible  (fun (rpossible : (List Int × (List Int × (List Int × (List Int × List Int))))) =>
  cond (decide (0 ≤ x.2.1) && decide (x.2.1 < (List.length ([rpossible.1, rpossible.2.1, rpossible.2.2.1, rpossible.2.2.2.1, rpossible.2.2.2.2] : List (List Int)) : Int)))
  (let e : List Int := List.getD ([rpossible.1, rpossible.2.1, rpossible.2.2.1, rpossible.2.2.2.1, rpossible.2.2.2.2] : List (List Int)) (Int.toNat x.2.1) ([] : List Int);
  c_slices_Contains_int_int e state (fun (rContainsintint : Bool) =>
  k rContainsintint))
  none)
theorem zqfs (hΓ : ΓOk Try.prog (incident_can_X c_incident_possible c_slices_Contains_int_int).Γ) : SpecOk Try.prog 43 (zqfq (zqfr c_incident_possible c_slices_Contains_int_int)) :=
  spec_exec (X := (incident_can_X c_incident_possible c_slices_Contains_int_int)) (Λ := pick1 []) (rs := [.tmp 4]) (c := bodyOf Try.f43) mixed tab_ok hΓ Try.func43 (by kernel_rfl) (by kernel_rfl) (by kernel_rfl) (by kernel_rfl) CutsOk_nil (fun x k r h => Eq.trans (b := (zqfq (zqfr c_incident_possible c_slices_Contains_int_int)).run x k) (by kernel_rfl) h)
end
theorem zqftΓ : ΓOk Try.prog (pick1 [(62, .spec (zqcd zqch)), (35, .spec (zqer zqev))]) := (ΓOk_cons zqci (ΓOk_cons zqew ΓOk_nil))
def zqfu : zqfp := zqfr zqch zqev
theorem zqfv : SpecOk Try.prog 43 (zqfq zqfu) := zqfs zqch zqev zqftΓ

/-- pagewatch/pagewatchref37.ready -/
abbrev zqfw := {β : Type} → zq4 → (Int → Option β) → Option β
def zqfx (c : zqfw) : Spec :=
  ⟨[(true, [.data zq5])], [], [(false, [.data (.int .i64)])], [], fun x k => c x.1.1.1 (fun r0 => k (((r0, ()), ()), ()))⟩
section
variable (c_ref37_Check : zqcj)
@[reducible] def ref37_ready_X : Ctx := ⟨look tab, pick1 [(13, .spec (zqck c_ref37_Check))], false, false, false, false, false⟩
def zqfy {β : Type} (x : zq4) (k : (Int → Option β)) : Option β :=
  c_ref37_Check x (fun (rCheck : Bool) =>
  cond (!rCheck)
  (k (8 : Int))
  (cond (decide (x.2.1 = (3 : Int)))
  (k (9 : Int))
  (let t : Bool := (decide (x.2.1 = (4 : Int)));
  cond t
  (k (9 : Int))
  (k (0 : Int)))))
theorem zqfz (hΓ : ΓOk Try.prog (ref37_ready_X c_ref37_Check).Γ) : SpecOk Try.prog 44 (zqfx (zqfy c_ref37_Check)) :=
  spec_exec (X := (ref37_ready_X c_ref37_Check)) (Λ := pick1 []) (rs := [.tmp 2]) (c := bodyOf Try.f44) mixed tab_ok hΓ Try.func44 (by kernel_rfl) (by kernel_rfl) (by kernel_rfl) (by kernel_rfl) CutsOk_nil (fun x k r h => Eq.trans (b := (zqfx (zqfy c_ref37_Check)).run x k) (by kernel_rfl) h)
end
theorem zqg0Γ : ΓOk Try.prog (pick1 [(13, .spec (zqck zqdc))]) := (ΓOk_cons zqdd ΓOk_nil)
def zqg1 : zqfw := zqfy zqdc
theorem zqg2 : SpecOk Try.prog 44 (zqfx zqg1) := zqfz zqdc zqg0Γ

/-- pagewatch/incident.Open -/
abbrev zqg3 := {β : Type} → Int → Int → Int → (List UInt8) → Int → (zq4 → Int → Option β) → Option β
def zqg4 (c : zqg3) : Spec :=
  ⟨[(false, [.data (.int .i64)]), (false, [.data (.int .i64)]), (false, [.data (.int .i64)]), (false, [.data .str]), (false, [.data (.int .i64)])], [], [(true, [.data zq5]), (false, [.data (.int .i64)])], [], fun x k => c x.1.1.1 x.1.2.1.1 x.1.2.2.1.1 x.1.2.2.2.1.1 x.1.2.2.2.2.1.1 (fun r0 r1 => k (((r0, ()), (r1, ()), ()), ()))⟩
noncomputable def incident_Open_p1_code : Code := codeAt 15 (bodyOf Try.f14)
abbrev zqg5 (β : Type) := Int → Int → Int → Int → Int → (List UInt8) → Int → Int → Int → Int → (List Int) → (List zq0) → (List zq2) → (List Int) → (List (Int × (Int × Int))) → Option β
abbrev zqg6 := {β : Type} → zqg5 β → Int → Int → Int → Int → (List UInt8) → Int → Int → Int → Int → Int → Int → Int → Int → (List UInt8) → Int → Int → Int → Int → (List Int) → (List Int) → (List zq0) → (List zq2) → (List Int) → (List (Int × (Int × Int))) → (List zq0) → (List zq2) → (List Int) → (List (Int × (Int × Int))) → Option β
def zqg7 : View := ⟨0, [10, 12], [(false, [.ptr 0 0]), (false, [.ptr 1 0])], [.cells 32 [.data (.int .i64), .data (.int .i64), .data (.int .i64), .data (.int .i64), .data .str, .data (.int .i64), .data (.int .i64), .data (.int .i64), .rowh 3, .rowh 4, .rowh 5, .rowh 6, .rowh 7, .data (.int .i64)], .cells 32 [.data (.int .i64), .data (.int .i64), .data (.int .i64), .data (.int .i64), .data .str, .data (.int .i64), .data (.int .i64), .data (.int .i64), .rowh 2, .rowh 8, .rowh 9, .rowh 10, .rowh 11, .data (.int .i64)], .row 3 (.int .i64), .row 3 (.int .i64), .row 69 zq1, .row 42 zq3, .row 3 (.int .i64), .row 64 (.prod (.int .i64) (.prod (.int .i64) (.int .i64))), .row 69 zq1, .row 42 zq3, .row 3 (.int .i64), .row 64 (.prod (.int .i64) (.prod (.int .i64) (.int .i64)))]⟩
def zqg8 : List (AExit × View) := [(.ret, ⟨0, [10, 11], [(false, [.ptr 0 0]), (false, [.data (.int .i64)])], [.cells 32 [.data (.int .i64), .data (.int .i64), .data (.int .i64), .data (.int .i64), .data .str, .data (.int .i64), .data (.int .i64), .data (.int .i64), .rowh 1, .rowh 2, .rowh 3, .rowh 4, .rowh 5, .data (.int .i64)], .row 3 (.int .i64), .row 69 zq1, .row 42 zq3, .row 3 (.int .i64), .row 64 (.prod (.int .i64) (.prod (.int .i64) (.int .i64)))]⟩)]
@[reducible] def incident_Open_p1_G (p : zqg6) {β : Type} (d : zqg7.den) (ks : Outs.K β zqg8) : Option β :=
  p (fun a0 a1 a2 a3 a4 a5 a6 a7 a8 a9 a10 a11 a12 a13 a14 => ks.1 (((), (a0, ()), ()), ((a1, a2, a3, a4, a5, a6, a7, a8, a9, ()), a10, a11, a12, a13, a14, ()))) d.2.1.1 d.2.1.2.1 d.2.1.2.2.1 d.2.1.2.2.2.1 d.2.1.2.2.2.2.1 d.2.1.2.2.2.2.2.1 d.2.1.2.2.2.2.2.2.1 d.2.1.2.2.2.2.2.2.2.1 d.2.1.2.2.2.2.2.2.2.2.1 d.2.2.1.1 d.2.2.1.2.1 d.2.2.1.2.2.1 d.2.2.1.2.2.2.1 d.2.2.1.2.2.2.2.1 d.2.2.1.2.2.2.2.2.1 d.2.2.1.2.2.2.2.2.2.1 d.2.2.1.2.2.2.2.2.2.2.1 d.2.2.1.2.2.2.2.2.2.2.2.1 d.2.2.2.1 d.2.2.2.2.1 d.2.2.2.2.2.1 d.2.2.2.2.2.2.1 d.2.2.2.2.2.2.2.1 d.2.2.2.2.2.2.2.2.1 d.2.2.2.2.2.2.2.2.2.1 d.2.2.2.2.2.2.2.2.2.2.1 d.2.2.2.2.2.2.2.2.2.2.2.1 d.2.2.2.2.2.2.2.2.2.2.2.2.1
section
variable (c_incident_Check : zqex)
@[reducible] def incident_Open_X : Ctx := ⟨look tab, pick1 [(41, .spec (zqey c_incident_Check))], false, false, false, false, false⟩
def zqg9 {β : Type} (k1 : zqg5 β) (t10 : Int) (t102 : Int) (t103 : Int) (t104 : Int) (t105 : List UInt8) (t106 : Int) (t107 : Int) (t108 : Int) (t109 : Int) (x : Int) (x2 : Int) (x3 : Int) (x4 : Int) (x5 : List UInt8) (x6 : Int) (x7 : Int) (x8 : Int) (x9 : Int) (b2_ : List Int) (b3_ : List Int) (b4_ : List zq0) (b5_ : List zq2) (b6_ : List Int) (b7_ : List (Int × (Int × Int))) (b8_ : List zq0) (b9_ : List zq2) (b10_ : List Int) (b11_ : List (Int × (Int × Int))) : Option β :=
  c_incident_Check (x, (x2, (x3, (x4, (x5, ((x6, (x7, x8)), (b2_, (b8_, (b9_, (b10_, (b11_, x9))))))))))) (fun (rCheck : Bool) =>
  cond (!rCheck)
  (k1 (8 : Int) (0 : Int) (0 : Int) (0 : Int) (0 : Int) ([] : List UInt8) (0 : Int) (0 : Int) (0 : Int) (0 : Int) ([] : List Int) ([] : List zq0) ([] : List zq2) ([] : List Int) ([] : List (Int × (Int × Int))))
  (k1 (0 : Int) x x2 x3 x4 x5 x6 x7 x8 x9 b2_ b8_ b9_ b10_ b11_))
def zqga {β : Type} (k1 : zqg5 β) (t10 : Int) (t102 : Int) (t103 : Int) (t104 : Int) (t105 : List UInt8) (t106 : Int) (t107 : Int) (t108 : Int) (t109 : Int) (x : Int) (x2 : Int) (x3 : Int) (x4 : Int) (x5 : List UInt8) (x6 : Int) (x7 : Int) (x8 : Int) (x9 : Int) (b2_ : List Int) (b3_ : List Int) (b4_ : List zq0) (b5_ : List zq2) (b6_ : List Int) (b7_ : List (Int × (Int × Int))) (b8_ : List zq0) (b9_ : List zq2) (b10_ : List Int) (b11_ : List (Int × (Int × Int))) : Option β := zqg9 c_incident_Check k1 t10 t102 t103 t104 t105 t106 t107 t108 t109 x x2 x3 x4 x5 x6 x7 x8 x9 b2_ b3_ b4_ b5_ b6_ b7_ b8_ b9_ b10_ b11_
theorem zqgb (hΓ : ΓOk Try.prog (incident_Open_X c_incident_Check).Γ) : PieceOk Try.prog 29 0 incident_Open_p1_code zqg7 zqg8 (incident_Open_p1_G (zqga c_incident_Check)) :=
  piece_exec (X := (incident_Open_X c_incident_Check)) (p := 15) (Λ := pick1 []) mixed tab_ok hΓ (by kernel_rfl) CutsOk_nil (fun d ks r h => Eq.trans (b := incident_Open_p1_G (zqga c_incident_Check) d ks) (by kernel_rfl) h)
def zqgc (p1 : zqg6) {β : Type} (id : Int) (at_ : Int) (severity : Int) (title : List UInt8) (page : Int) (k : (zq4 → Int → Option β)) : Option β :=
  cond (!decide (page = (0 : Int)))
  (let l : List Int := ([page] : List Int);
  p1 (fun (t11 : Int) (t10 : Int) (t102 : Int) (t103 : Int) (t104 : Int) (t105 : List UInt8) (t106 : Int) (t107 : Int) (t108 : Int) (t109 : Int) (b1_ : List Int) (b2_ : List zq0) (b3_ : List zq2) (b4_ : List Int) (b5_ : List (Int × (Int × Int))) =>
  k (t10, (t102, (t103, (t104, (t105, ((t106, (t107, t108)), (b1_, (b2_, (b3_, (b4_, (b5_, t109))))))))))) t11) (0 : Int) (0 : Int) (0 : Int) (0 : Int) ([] : List UInt8) (0 : Int) (0 : Int) (0 : Int) (0 : Int) id (0 : Int) severity at_ title (-1 : Int) (-1 : Int) (-1 : Int) (0 : Int) l ([] : List Int) ([] : List zq0) ([] : List zq2) ([] : List Int) ([] : List (Int × (Int × Int))) ([] : List zq0) ([] : List zq2) ([] : List Int) ([] : List (Int × (Int × Int))))
  (p1 (fun (t11 : Int) (t10 : Int) (t102 : Int) (t103 : Int) (t104 : Int) (t105 : List UInt8) (t106 : Int) (t107 : Int) (t108 : Int) (t109 : Int) (b1_ : List Int) (b2_ : List zq0) (b3_ : List zq2) (b4_ : List Int) (b5_ : List (Int × (Int × Int))) =>
  k (t10, (t102, (t103, (t104, (t105, ((t106, (t107, t108)), (b1_, (b2_, (b3_, (b4_, (b5_, t109))))))))))) t11) (0 : Int) (0 : Int) (0 : Int) (0 : Int) ([] : List UInt8) (0 : Int) (0 : Int) (0 : Int) (0 : Int) id (0 : Int) severity at_ title (-1 : Int) (-1 : Int) (-1 : Int) (0 : Int) ([] : List Int) ([] : List Int) ([] : List zq0) ([] : List zq2) ([] : List Int) ([] : List (Int × (Int × Int))) ([] : List zq0) ([] : List zq2) ([] : List Int) ([] : List (Int × (Int × Int))))
theorem zqgd (hΓ : ΓOk Try.prog (incident_Open_X c_incident_Check).Γ) (p1 : zqg6) (hp1 : PieceOk Try.prog 29 0 incident_Open_p1_code zqg7 zqg8 (incident_Open_p1_G p1)) : SpecOk Try.prog 14 (zqg4 (zqgc p1)) :=
  spec_exec (X := (incident_Open_X c_incident_Check)) (Λ := pick1 [(15, pieceCut zqg7 zqg8 (incident_Open_p1_G p1))]) (rs := [.cell 10 32, .tmp 11]) (c := bodyOf Try.f14) mixed tab_ok hΓ Try.func14 (by kernel_rfl) (by kernel_rfl) (by kernel_rfl) (by kernel_rfl) (CutsOk_cons (q := 15) (c' := incident_Open_p1_code) (by kernel_rfl) rfl hp1 CutsOk_nil) (fun x k r h => Eq.trans (b := (zqg4 (zqgc p1)).run x k) (by kernel_rfl) h)
end
theorem zqgeΓ : ΓOk Try.prog (pick1 [(41, .spec (zqey zqfn))]) := (ΓOk_cons zqfo ΓOk_nil)
def zqgf : zqg6 := zqga zqfn
theorem zqgg : PieceOk Try.prog 29 0 incident_Open_p1_code zqg7 zqg8 (incident_Open_p1_G zqgf) := zqgb zqfn zqgeΓ
def zqgh : zqg3 := zqgc zqgf
theorem zqgi : SpecOk Try.prog 14 (zqg4 zqgh) := zqgd zqfn zqgeΓ zqgf zqgg

/-- pagewatch/incident.At -/
abbrev zqgj := {β : Type} → zq4 → Int → (Int → Option β) → Option β
def zqgk (c : zqgj) : Spec :=
  ⟨[(true, [.data zq5]), (false, [.data (.int .i64)])], [], [(false, [.data (.int .i64)])], [], fun x k => c x.1.1.1 x.1.2.1.1 (fun r0 => k (((r0, ()), ()), ()))⟩
noncomputable def incident_At_p1_code : Code := codeAt 122 (bodyOf Try.f16)
abbrev zqgl (β : Type) := Int → Option β
abbrev zqgm := {β : Type} → zqgl β → Int → Int → (List (Int × (Int × Int))) → Int → Int → Option β
def zqgn : View := ⟨0, [1, 5, 18, 19, 20], [(false, [.data (.int .i64)]), (false, [.data (.int .i64)]), (false, [.data (.slice (.prod (.int .i64) (.prod (.int .i64) (.int .i64))))]), (false, [.data (.int .i64)]), (false, [.data (.int .i64)])], []⟩
def zqgo : List (AExit × View) := [(.exit 0, ⟨0, [5], [(false, [.data (.int .i64)])], []⟩)]
@[reducible] def incident_At_p1_G (p : zqgm) {β : Type} (d : zqgn.den) (ks : Outs.K β zqgo) : Option β :=
  p (fun a0 => ks.1 (((a0, ()), ()), ())) d.1.1.1 d.1.2.1.1 d.1.2.2.1.1 d.1.2.2.2.1.1 d.1.2.2.2.2.1.1
section
variable (c_incident_Check : zqex)
@[reducible] def incident_At_X : Ctx := ⟨look tab, pick1 [(41, .spec (zqey c_incident_Check))], false, false, false, false, false⟩
def zqgp {β : Type} (rec : Int → Int → (List (Int × (Int × Int))) → Int → Int → Option β) (k1 : zqgl β) (at_ : Int) (state : Int) (t18 : List (Int × (Int × Int))) (t19 : Int) (t20 : Int) : Option β :=
  cond (decide (t20 < t19))
  (cond (decide (0 ≤ t20) && decide (t20 < (List.length t18 : Int)))
  (let e : (Int × (Int × Int)) := List.getD t18 (Int.toNat t20) ((0 : Int), ((0 : Int), (0 : Int)));
  cond (decide (e.1 ≤ at_))
  (rec at_ e.2.1 t18 t19 (IntKind.i64.wrap (t20 + (1 : Int))))
  (rec at_ state t18 t19 (IntKind.i64.wrap (t20 + (1 : Int)))))
  none)
  (k1 state)
def zqgq {β : Type} : Nat → zqgl β → Int → Int → (List (Int × (Int × Int))) → Int → Int → Option β
  | 0 => fun _ _ _ _ _ _ => none
  | i + 1 => fun k1 at_ state t18 t19 t20 => zqgp (zqgq i k1) k1 at_ state t18 t19 t20
theorem zqgr (hΓ : ΓOk Try.prog (incident_At_X c_incident_Check).Γ) (i : Nat) : PieceOk Try.prog 32 0 incident_At_p1_code zqgn zqgo (incident_At_p1_G (zqgq i)) := by
  rw [show incident_At_p1_code = .loop (loopBody incident_At_p1_code) by kernel_rfl]
  exact piece_loop (X := (incident_At_X c_incident_Check)) (p := 1) (Λ := pick1 []) (G := fun i => @fun β d ks => incident_At_p1_G (zqgq i) d ks) mixed tab_ok hΓ rfl (by kernel_rfl) CutsOk_nil (fun _ _ => rfl) (fun i => @fun β d ks r h => Eq.trans (b := incident_At_p1_G (zqgq (i + 1)) d ks) (by kernel_rfl) h) i
def zqgs (p1 : zqgm) {β : Type} (x : zq4) (at_ : Int) (k : (Int → Option β)) : Option β :=
  c_incident_Check x (fun (rCheck : Bool) =>
  cond (!rCheck)
  (k (-1 : Int))
  (cond (decide (at_ < x.2.2.2.1))
  (k (-1 : Int))
  (p1 (fun (state : Int) =>
  k state) at_ (0 : Int) x.2.2.2.2.2.2.2.2.2.2.1 (List.length x.2.2.2.2.2.2.2.2.2.2.1 : Int) (0 : Int))))
theorem zqgt (hΓ : ΓOk Try.prog (incident_At_X c_incident_Check).Γ) (p1 : zqgm) (hp1 : PieceOk Try.prog 32 0 incident_At_p1_code zqgn zqgo (incident_At_p1_G p1)) : SpecOk Try.prog 16 (zqgk (zqgs c_incident_Check p1)) :=
  spec_exec (X := (incident_At_X c_incident_Check)) (Λ := pick1 [(122, pieceCut zqgn zqgo (incident_At_p1_G p1))]) (rs := [.tmp 4]) (c := bodyOf Try.f16) mixed tab_ok hΓ Try.func16 (by kernel_rfl) (by kernel_rfl) (by kernel_rfl) (by kernel_rfl) (CutsOk_cons (q := 122) (c' := incident_At_p1_code) (by kernel_rfl) rfl hp1 CutsOk_nil) (fun x k r h => Eq.trans (b := (zqgk (zqgs c_incident_Check p1)).run x k) (by kernel_rfl) h)
end
theorem zqguΓ : ΓOk Try.prog (pick1 [(41, .spec (zqey zqfn))]) := (ΓOk_cons zqfo ΓOk_nil)
def zqgv (m : Nat) : zqgm := zqgq m
theorem zqgw {β : Type} (i : Nat) (k1 at_ state t18 t19 t20) : (zqgv (i + 1) k1 at_ state t18 t19 t20 : Option β) = zqgp (zqgv i k1) k1 at_ state t18 t19 t20 := rfl
def zqgx : zqgm := zqgv fuel
theorem zqgy : PieceOk Try.prog 32 0 incident_At_p1_code zqgn zqgo (incident_At_p1_G zqgx) := zqgr zqfn zqguΓ fuel
def zqgz : zqgj := zqgs zqfn zqgx
theorem zqh0 : SpecOk Try.prog 16 (zqgk zqgz) := zqgt zqfn zqguΓ zqgx zqgy

/-- pagewatch/pagewatchref37.Assign -/
abbrev zqh1 := {β : Type} → zq4 → Int → Int → (zq4 → Int → Option β) → Option β
def zqh2 (c : zqh1) : Spec :=
  ⟨[(true, [.data zq5]), (false, [.data (.int .i64)]), (false, [.data (.int .i64)])], [], [(true, [.data zq5]), (false, [.data (.int .i64)])], [], fun x k => c x.1.1.1 x.1.2.1.1 x.1.2.2.1.1 (fun r0 r1 => k (((r0, ()), (r1, ()), ()), ()))⟩
section
variable (c_ref25_In : zq46) (c_ref37_Copy : zq6o) (c_ref37_person : zq53) (c_ref37_ready : zqfw)
@[reducible] def ref37_Assign_X : Ctx := ⟨look tab, pick1 [(36, .spec (zq47 c_ref25_In)), (45, .spec (zq6p c_ref37_Copy)), (39, .spec (zq54 c_ref37_person)), (44, .spec (zqfx c_ref37_ready))], false, false, false, false, false⟩
def zqh3 {β : Type} (x : zq4) (role : Int) (who : Int) (k : (zq4 → Int → Option β)) : Option β :=
  c_ref37_ready x (fun (rready : Int) =>
  cond (!decide (rready = (0 : Int)))
  (k ((0 : Int), ((0 : Int), ((0 : Int), ((0 : Int), (([] : List UInt8), (((0 : Int), ((0 : Int), (0 : Int))), (([] : List Int), (([] : List zq0), (([] : List zq2), (([] : List Int), (([] : List (Int × (Int × Int))), (0 : Int)))))))))))) rready)
  (c_ref25_In role (0 : Int) (2 : Int) (fun (rIn : Bool) =>
  cond (!rIn)
  (k ((0 : Int), ((0 : Int), ((0 : Int), ((0 : Int), (([] : List UInt8), (((0 : Int), ((0 : Int), (0 : Int))), (([] : List Int), (([] : List zq0), (([] : List zq2), (([] : List Int), (([] : List (Int × (Int × Int))), (0 : Int)))))))))))) (1 : Int))
  (c_ref37_person who true (fun (rperson : Bool) =>
  cond (!rperson)
  (k ((0 : Int), ((0 : Int), ((0 : Int), ((0 : Int), (([] : List UInt8), (((0 : Int), ((0 : Int), (0 : Int))), (([] : List Int), (([] : List zq0), (([] : List zq2), (([] : List Int), (([] : List (Int × (Int × Int))), (0 : Int)))))))))))) (1 : Int))
  (c_ref37_Copy x (fun (rCopy : Int) (rCopy2 : Int) (rCopy3 : Int) (rCopy4 : Int) (rCopy5 : List UInt8) (rCopy6 : Int) (rCopy7 : Int) (rCopy8 : Int) (rCopy9 : Int) (lrCopy : List Int) (lrCopy2 : List zq0) (lrCopy3 : List zq2) (lrCopy4 : List Int) (lrCopy5 : List (Int × (Int × Int))) =>
  cond (decide (role = (0 : Int)))
  (k (rCopy, (rCopy2, (rCopy3, (rCopy4, (rCopy5, ((who, (rCopy7, rCopy8)), (lrCopy, (lrCopy2, (lrCopy3, (lrCopy4, (lrCopy5, rCopy9))))))))))) (0 : Int))
  (cond (decide (role = (1 : Int)))
  (k (rCopy, (rCopy2, (rCopy3, (rCopy4, (rCopy5, ((rCopy6, (who, rCopy8)), (lrCopy, (lrCopy2, (lrCopy3, (lrCopy4, (lrCopy5, rCopy9))))))))))) (0 : Int))
  (cond (decide (role = (2 : Int)))
  (k (rCopy, (rCopy2, (rCopy3, (rCopy4, (rCopy5, ((rCopy6, (rCopy7, who)), (lrCopy, (lrCopy2, (lrCopy3, (lrCopy4, (lrCopy5, rCopy9))))))))))) (0 : Int))
  (none))))))))))
theorem zqh4 (hΓ : ΓOk Try.prog (ref37_Assign_X c_ref25_In c_ref37_Copy c_ref37_person c_ref37_ready).Γ) : SpecOk Try.prog 20 (zqh2 (zqh3 c_ref25_In c_ref37_Copy c_ref37_person c_ref37_ready)) :=
  spec_exec (X := (ref37_Assign_X c_ref25_In c_ref37_Copy c_ref37_person c_ref37_ready)) (Λ := pick1 []) (rs := [.cell 6 32, .tmp 7]) (c := bodyOf Try.f20) mixed tab_ok hΓ Try.func20 (by kernel_rfl) (by kernel_rfl) (by kernel_rfl) (by kernel_rfl) CutsOk_nil (fun x k r h => Eq.trans (b := (zqh2 (zqh3 c_ref25_In c_ref37_Copy c_ref37_person c_ref37_ready)).run x k) (by kernel_rfl) h)
end
theorem zqh5Γ : ΓOk Try.prog (pick1 [(36, .spec (zq47 zq4b)), (45, .spec (zq6p zq74)), (39, .spec (zq54 zq58)), (44, .spec (zqfx zqg1))]) := (ΓOk_cons zq4c (ΓOk_cons zq75 (ΓOk_cons zq59 (ΓOk_cons zqg2 ΓOk_nil))))
def zqh6 : zqh1 := zqh3 zq4b zq74 zq58 zqg1
theorem zqh7 : SpecOk Try.prog 20 (zqh2 zqh6) := zqh4 zq4b zq74 zq58 zqg1 zqh5Γ

/-- pagewatch/pagewatchref37.Move -/
abbrev zqh8 := {β : Type} → zq4 → Int → Int → Int → (zq4 → Int → Option β) → Option β
def zqh9 (c : zqh8) : Spec :=
  ⟨[(true, [.data zq5]), (false, [.data (.int .i64)]), (false, [.data (.int .i64)]), (false, [.data (.int .i64)])], [], [(true, [.data zq5]), (false, [.data (.int .i64)])], [], fun x k => c x.1.1.1 x.1.2.1.1 x.1.2.2.1.1 x.1.2.2.2.1.1 (fun r0 r1 => k (((r0, ()), (r1, ()), ()), ()))⟩
noncomputable def ref37_Move_p1_code : Code := codeAt 231 (bodyOf Try.f21)
noncomputable def ref37_Move_p2_code : Code := codeAt 57 (bodyOf Try.f21)
abbrev zqha (β : Type) := Int → Int → Int → Int → Int → (List UInt8) → Int → Int → Int → Int → (List Int) → (List zq0) → (List zq2) → (List Int) → (List (Int × (Int × Int))) → Option β
abbrev zqhb (β : Type) := Int → Int → Int → Int → Int → Int → Int → (List UInt8) → Int → Int → Int → (List Int) → (List zq0) → (List zq2) → (List Int) → (List (Int × (Int × Int))) → Int → Int → Int → Int → Int → (List UInt8) → Int → Int → Int → Int → (List Int) → (List zq0) → (List zq2) → (List Int) → (List (Int × (Int × Int))) → Option β
abbrev zqhc := {β : Type} → zqha β → zqhb β → Int → Int → Int → Bool → Int → Int → Int → Int → (List UInt8) → Int → Int → Int → (List Int) → (List zq0) → (List zq2) → (List Int) → (List (Int × (Int × Int))) → Int → Int → Int → Int → Int → (List UInt8) → Int → Int → Int → Int → (List Int) → (List zq0) → (List zq2) → (List Int) → (List (Int × (Int × Int))) → Option β
def zqhd : View := ⟨0, [1, 2, 3, 4, 8, 29], [(false, [.data (.int .i64)]), (false, [.data (.int .i64)]), (false, [.data (.int .i64)]), (false, [.ptr 0 0]), (false, [.ptr 1 0]), (false, [.data .bool])], [.cells 32 [.data (.int .i64), .data (.int .i64), .data (.int .i64), .data (.int .i64), .data .str, .data (.int .i64), .data (.int .i64), .data (.int .i64), .data (.slice (.int .i64)), .data (.slice zq1), .data (.slice zq3), .data (.slice (.int .i64)), .data (.slice (.prod (.int .i64) (.prod (.int .i64) (.int .i64)))), .data (.int .i64)], .cells 32 [.data (.int .i64), .data (.int .i64), .data (.int .i64), .data (.int .i64), .data .str, .data (.int .i64), .data (.int .i64), .data (.int .i64), .rowh 2, .rowh 3, .rowh 4, .rowh 5, .rowh 6, .data (.int .i64)], .row 3 (.int .i64), .row 69 zq1, .row 42 zq3, .row 3 (.int .i64), .row 64 (.prod (.int .i64) (.prod (.int .i64) (.int .i64)))]⟩
def zqhe : List (AExit × View) := [(.ret, ⟨0, [8, 9], [(false, [.ptr 0 0]), (false, [.data (.int .i64)])], [.cells 32 [.data (.int .i64), .data (.int .i64), .data (.int .i64), .data (.int .i64), .data .str, .data (.int .i64), .data (.int .i64), .data (.int .i64), .rowh 1, .rowh 2, .rowh 3, .rowh 4, .rowh 5, .data (.int .i64)], .row 3 (.int .i64), .row 69 zq1, .row 42 zq3, .row 3 (.int .i64), .row 64 (.prod (.int .i64) (.prod (.int .i64) (.int .i64)))]⟩), (.normal, ⟨0, [1, 2, 3, 4, 8], [(false, [.data (.int .i64)]), (false, [.data (.int .i64)]), (false, [.data (.int .i64)]), (false, [.ptr 0 0]), (false, [.ptr 1 0])], [.cells 32 [.data (.int .i64), .data (.int .i64), .data (.int .i64), .data (.int .i64), .data .str, .data (.int .i64), .data (.int .i64), .data (.int .i64), .data (.slice (.int .i64)), .data (.slice zq1), .data (.slice zq3), .data (.slice (.int .i64)), .data (.slice (.prod (.int .i64) (.prod (.int .i64) (.int .i64)))), .data (.int .i64)], .cells 32 [.data (.int .i64), .data (.int .i64), .data (.int .i64), .data (.int .i64), .data .str, .data (.int .i64), .data (.int .i64), .data (.int .i64), .rowh 2, .rowh 3, .rowh 4, .rowh 5, .rowh 6, .data (.int .i64)], .row 3 (.int .i64), .row 69 zq1, .row 42 zq3, .row 3 (.int .i64), .row 64 (.prod (.int .i64) (.prod (.int .i64) (.int .i64)))]⟩)]
@[reducible] def ref37_Move_p1_G (p : zqhc) {β : Type} (d : zqhd.den) (ks : Outs.K β zqhe) : Option β :=
  p (fun a0 a1 a2 a3 a4 a5 a6 a7 a8 a9 a10 a11 a12 a13 a14 => ks.1 (((), (a0, ()), ()), ((a1, a2, a3, a4, a5, a6, a7, a8, a9, ()), a10, a11, a12, a13, a14, ()))) (fun a0 a1 a2 a3 a4 a5 a6 a7 a8 a9 a10 a11 a12 a13 a14 a15 a16 a17 a18 a19 a20 a21 a22 a23 a24 a25 a26 a27 a28 a29 a30 => ks.2.1 (((a0, ()), (a1, ()), (a2, ()), (), (), ()), ((a3, a4, a5, a6, a7, a8, a9, a10, a11, a12, a13, a14, a15, a16, ()), (a17, a18, a19, a20, a21, a22, a23, a24, a25, ()), a26, a27, a28, a29, a30, ()))) d.1.1.1 d.1.2.1.1 d.1.2.2.1.1 d.1.2.2.2.2.2.1.1 d.2.1.1 d.2.1.2.1 d.2.1.2.2.1 d.2.1.2.2.2.1 d.2.1.2.2.2.2.1 d.2.1.2.2.2.2.2.1 d.2.1.2.2.2.2.2.2.1 d.2.1.2.2.2.2.2.2.2.1 d.2.1.2.2.2.2.2.2.2.2.1 d.2.1.2.2.2.2.2.2.2.2.2.1 d.2.1.2.2.2.2.2.2.2.2.2.2.1 d.2.1.2.2.2.2.2.2.2.2.2.2.2.1 d.2.1.2.2.2.2.2.2.2.2.2.2.2.2.1 d.2.1.2.2.2.2.2.2.2.2.2.2.2.2.2.1 d.2.2.1.1 d.2.2.1.2.1 d.2.2.1.2.2.1 d.2.2.1.2.2.2.1 d.2.2.1.2.2.2.2.1 d.2.2.1.2.2.2.2.2.1 d.2.2.1.2.2.2.2.2.2.1 d.2.2.1.2.2.2.2.2.2.2.1 d.2.2.1.2.2.2.2.2.2.2.2.1 d.2.2.2.1 d.2.2.2.2.1 d.2.2.2.2.2.1 d.2.2.2.2.2.2.1 d.2.2.2.2.2.2.2.1
abbrev zqhf (β : Type) := Int → Int → Int → Int → Int → (List UInt8) → Int → Int → Int → Int → (List Int) → (List zq0) → (List zq2) → (List Int) → (List (Int × (Int × Int))) → Option β
abbrev zqhg (β : Type) := Int → Int → Int → Int → Int → Int → Int → (List UInt8) → Int → Int → Int → (List Int) → (List zq0) → (List zq2) → (List Int) → (List (Int × (Int × Int))) → Int → Int → Int → Int → Int → (List UInt8) → Int → Int → Int → Int → (List Int) → (List zq0) → (List zq2) → (List Int) → (List (Int × (Int × Int))) → Option β
abbrev zqhh := {β : Type} → zqhf β → zqhg β → Int → Int → Int → Bool → Int → Int → Int → Int → (List UInt8) → Int → Int → Int → (List Int) → (List zq0) → (List zq2) → (List Int) → (List (Int × (Int × Int))) → Int → Int → Int → Int → Int → (List UInt8) → Int → Int → Int → Int → (List Int) → (List zq0) → (List zq2) → (List Int) → (List (Int × (Int × Int))) → Option β
def zqhi : View := ⟨0, [1, 2, 3, 4, 8, 17], [(false, [.data (.int .i64)]), (false, [.data (.int .i64)]), (false, [.data (.int .i64)]), (false, [.ptr 0 0]), (false, [.ptr 1 0]), (false, [.data .bool])], [.cells 32 [.data (.int .i64), .data (.int .i64), .data (.int .i64), .data (.int .i64), .data .str, .data (.int .i64), .data (.int .i64), .data (.int .i64), .data (.slice (.int .i64)), .data (.slice zq1), .data (.slice zq3), .data (.slice (.int .i64)), .data (.slice (.prod (.int .i64) (.prod (.int .i64) (.int .i64)))), .data (.int .i64)], .cells 32 [.data (.int .i64), .data (.int .i64), .data (.int .i64), .data (.int .i64), .data .str, .data (.int .i64), .data (.int .i64), .data (.int .i64), .rowh 2, .rowh 3, .rowh 4, .rowh 5, .rowh 6, .data (.int .i64)], .row 3 (.int .i64), .row 69 zq1, .row 42 zq3, .row 3 (.int .i64), .row 64 (.prod (.int .i64) (.prod (.int .i64) (.int .i64)))]⟩
def zqhj : List (AExit × View) := [(.ret, ⟨0, [8, 9], [(false, [.ptr 0 0]), (false, [.data (.int .i64)])], [.cells 32 [.data (.int .i64), .data (.int .i64), .data (.int .i64), .data (.int .i64), .data .str, .data (.int .i64), .data (.int .i64), .data (.int .i64), .rowh 1, .rowh 2, .rowh 3, .rowh 4, .rowh 5, .data (.int .i64)], .row 3 (.int .i64), .row 69 zq1, .row 42 zq3, .row 3 (.int .i64), .row 64 (.prod (.int .i64) (.prod (.int .i64) (.int .i64)))]⟩), (.normal, ⟨0, [1, 2, 3, 4, 8], [(false, [.data (.int .i64)]), (false, [.data (.int .i64)]), (false, [.data (.int .i64)]), (false, [.ptr 0 0]), (false, [.ptr 1 0])], [.cells 32 [.data (.int .i64), .data (.int .i64), .data (.int .i64), .data (.int .i64), .data .str, .data (.int .i64), .data (.int .i64), .data (.int .i64), .data (.slice (.int .i64)), .data (.slice zq1), .data (.slice zq3), .data (.slice (.int .i64)), .data (.slice (.prod (.int .i64) (.prod (.int .i64) (.int .i64)))), .data (.int .i64)], .cells 32 [.data (.int .i64), .data (.int .i64), .data (.int .i64), .data (.int .i64), .data .str, .data (.int .i64), .data (.int .i64), .data (.int .i64), .rowh 2, .rowh 3, .rowh 4, .rowh 5, .rowh 6, .data (.int .i64)], .row 3 (.int .i64), .row 69 zq1, .row 42 zq3, .row 3 (.int .i64), .row 64 (.prod (.int .i64) (.prod (.int .i64) (.int .i64)))]⟩)]
@[reducible] def ref37_Move_p2_G (p : zqhh) {β : Type} (d : zqhi.den) (ks : Outs.K β zqhj) : Option β :=
  p (fun a0 a1 a2 a3 a4 a5 a6 a7 a8 a9 a10 a11 a12 a13 a14 => ks.1 (((), (a0, ()), ()), ((a1, a2, a3, a4, a5, a6, a7, a8, a9, ()), a10, a11, a12, a13, a14, ()))) (fun a0 a1 a2 a3 a4 a5 a6 a7 a8 a9 a10 a11 a12 a13 a14 a15 a16 a17 a18 a19 a20 a21 a22 a23 a24 a25 a26 a27 a28 a29 a30 => ks.2.1 (((a0, ()), (a1, ()), (a2, ()), (), (), ()), ((a3, a4, a5, a6, a7, a8, a9, a10, a11, a12, a13, a14, a15, a16, ()), (a17, a18, a19, a20, a21, a22, a23, a24, a25, ()), a26, a27, a28, a29, a30, ()))) d.1.1.1 d.1.2.1.1 d.1.2.2.1.1 d.1.2.2.2.2.2.1.1 d.2.1.1 d.2.1.2.1 d.2.1.2.2.1 d.2.1.2.2.2.1 d.2.1.2.2.2.2.1 d.2.1.2.2.2.2.2.1 d.2.1.2.2.2.2.2.2.1 d.2.1.2.2.2.2.2.2.2.1 d.2.1.2.2.2.2.2.2.2.2.1 d.2.1.2.2.2.2.2.2.2.2.2.1 d.2.1.2.2.2.2.2.2.2.2.2.2.1 d.2.1.2.2.2.2.2.2.2.2.2.2.2.1 d.2.1.2.2.2.2.2.2.2.2.2.2.2.2.1 d.2.1.2.2.2.2.2.2.2.2.2.2.2.2.2.1 d.2.2.1.1 d.2.2.1.2.1 d.2.2.1.2.2.1 d.2.2.1.2.2.2.1 d.2.2.1.2.2.2.2.1 d.2.2.1.2.2.2.2.2.1 d.2.2.1.2.2.2.2.2.2.1 d.2.2.1.2.2.2.2.2.2.2.1 d.2.2.1.2.2.2.2.2.2.2.2.1 d.2.2.2.1 d.2.2.2.2.1 d.2.2.2.2.2.1 d.2.2.2.2.2.2.1 d.2.2.2.2.2.2.2.1
section
variable (c_ref25_In : zq46) (c_ref37_Possible : zq7m) (c_ref37_last : zq76) (c_ref37_move : zq7t) (c_ref37_person : zq53) (c_ref37_ready : zqfw)
@[reducible] def ref37_Move_X : Ctx := ⟨look tab, pick1 [(36, .spec (zq47 c_ref25_In)), (47, .spec (zq7n c_ref37_Possible)), (46, .spec (zq77 c_ref37_last)), (48, .spec (zq7u c_ref37_move)), (39, .spec (zq54 c_ref37_person)), (44, .spec (zqfx c_ref37_ready))], false, false, false, false, false⟩
def zqhk {β : Type} (k1 : zqha β) (k2 : zqhb β) (at_ : Int) (to_ : Int) (who : Int) (t29 : Bool) (x : Int) (x2 : Int) (x3 : Int) (x4 : Int) (x5 : List UInt8) (x6 : Int) (x7 : Int) (x8 : Int) (x9 : List Int) (x10 : List zq0) (x11 : List zq2) (x12 : List Int) (x13 : List (Int × (Int × Int))) (x14 : Int) (t8 : Int) (t82 : Int) (t83 : Int) (t84 : Int) (t85 : List UInt8) (t86 : Int) (t87 : Int) (t88 : Int) (t89 : Int) (b2_ : List Int) (b3_ : List zq0) (b4_ : List zq2) (b5_ : List Int) (b6_ : List (Int × (Int × Int))) : Option β :=
  cond t29
  (k1 (9 : Int) (0 : Int) (0 : Int) (0 : Int) (0 : Int) ([] : List UInt8) (0 : Int) (0 : Int) (0 : Int) (0 : Int) ([] : List Int) ([] : List zq0) ([] : List zq2) ([] : List Int) ([] : List (Int × (Int × Int))))
  (let t : Bool := (decide ((32 : Int) ≤ (List.length x13 : Int)));
  cond t
  (k1 (5 : Int) (0 : Int) (0 : Int) (0 : Int) (0 : Int) ([] : List UInt8) (0 : Int) (0 : Int) (0 : Int) (0 : Int) ([] : List Int) ([] : List zq0) ([] : List zq2) ([] : List Int) ([] : List (Int × (Int × Int))))
  (k2 at_ to_ who x x2 x3 x4 x5 x6 x7 x8 x9 x10 x11 x12 x13 x14 t8 t82 t83 t84 t85 t86 t87 t88 t89 b2_ b3_ b4_ b5_ b6_))
def zqhl {β : Type} (k1 : zqha β) (k2 : zqhb β) (at_ : Int) (to_ : Int) (who : Int) (t29 : Bool) (x : Int) (x2 : Int) (x3 : Int) (x4 : Int) (x5 : List UInt8) (x6 : Int) (x7 : Int) (x8 : Int) (x9 : List Int) (x10 : List zq0) (x11 : List zq2) (x12 : List Int) (x13 : List (Int × (Int × Int))) (x14 : Int) (t8 : Int) (t82 : Int) (t83 : Int) (t84 : Int) (t85 : List UInt8) (t86 : Int) (t87 : Int) (t88 : Int) (t89 : Int) (b2_ : List Int) (b3_ : List zq0) (b4_ : List zq2) (b5_ : List Int) (b6_ : List (Int × (Int × Int))) : Option β := zqhk k1 k2 at_ to_ who t29 x x2 x3 x4 x5 x6 x7 x8 x9 x10 x11 x12 x13 x14 t8 t82 t83 t84 t85 t86 t87 t88 t89 b2_ b3_ b4_ b5_ b6_
theorem zqhm (hΓ : ΓOk Try.prog (ref37_Move_X c_ref25_In c_ref37_Possible c_ref37_last c_ref37_move c_ref37_person c_ref37_ready).Γ) : PieceOk Try.prog 51 0 ref37_Move_p1_code zqhd zqhe (ref37_Move_p1_G (zqhl)) :=
  piece_exec (X := (ref37_Move_X c_ref25_In c_ref37_Possible c_ref37_last c_ref37_move c_ref37_person c_ref37_ready)) (p := 231) (Λ := pick1 []) mixed tab_ok hΓ (by kernel_rfl) CutsOk_nil (fun d ks r h => Eq.trans (b := ref37_Move_p1_G (zqhl) d ks) (by kernel_rfl) h)
def zqhn (p1 : zqhc) {β : Type} (k1 : zqhf β) (k2 : zqhg β) (at_ : Int) (to_ : Int) (who : Int) (t17 : Bool) (x : Int) (x2 : Int) (x3 : Int) (x4 : Int) (x5 : List UInt8) (x6 : Int) (x7 : Int) (x8 : Int) (x9 : List Int) (x10 : List zq0) (x11 : List zq2) (x12 : List Int) (x13 : List (Int × (Int × Int))) (x14 : Int) (t8 : Int) (t82 : Int) (t83 : Int) (t84 : Int) (t85 : List UInt8) (t86 : Int) (t87 : Int) (t88 : Int) (t89 : Int) (b2_ : List Int) (b3_ : List zq0) (b4_ : List zq2) (b5_ : List Int) (b6_ : List (Int × (Int × Int))) : Option β :=
  cond t17
  (k1 (1 : Int) (0 : Int) (0 : Int) (0 : Int) (0 : Int) ([] : List UInt8) (0 : Int) (0 : Int) (0 : Int) (0 : Int) ([] : List Int) ([] : List zq0) ([] : List zq2) ([] : List Int) ([] : List (Int × (Int × Int))))
  (cond (decide (to_ = (4 : Int)))
  (p1 (fun (t9 : Int) (t810 : Int) (t811 : Int) (t812 : Int) (t813 : Int) (t814 : List UInt8) (t815 : Int) (t816 : Int) (t817 : Int) (t818 : Int) (b1_ : List Int) (b2_2 : List zq0) (b3_2 : List zq2) (b4_2 : List Int) (b5_2 : List (Int × (Int × Int))) =>
  k1 t9 t810 t811 t812 t813 t814 t815 t816 t817 t818 b1_ b2_2 b3_2 b4_2 b5_2) (fun (at_2 : Int) (to_2 : Int) (who2 : Int) (x15 : Int) (x16 : Int) (x17 : Int) (x18 : Int) (x19 : List UInt8) (x20 : Int) (x21 : Int) (x22 : Int) (x23 : List Int) (x24 : List zq0) (x25 : List zq2) (x26 : List Int) (x27 : List (Int × (Int × Int))) (x28 : Int) (t810 : Int) (t811 : Int) (t812 : Int) (t813 : Int) (t814 : List UInt8) (t815 : Int) (t816 : Int) (t817 : Int) (t818 : Int) (b2_2 : List Int) (b3_2 : List zq0) (b4_2 : List zq2) (b5_2 : List Int) (b6_2 : List (Int × (Int × Int))) =>
  k2 at_2 to_2 who2 x15 x16 x17 x18 x19 x20 x21 x22 x23 x24 x25 x26 x27 x28 t810 t811 t812 t813 t814 t815 t816 t817 t818 b2_2 b3_2 b4_2 b5_2 b6_2) at_ to_ who true x x2 x3 x4 x5 x6 x7 x8 x9 x10 x11 x12 x13 x14 t8 t82 t83 t84 t85 t86 t87 t88 t89 b2_ b3_ b4_ b5_ b6_)
  (c_ref37_Possible x2 to_ (fun (rPossible : Bool) =>
  p1 (fun (t9 : Int) (t810 : Int) (t811 : Int) (t812 : Int) (t813 : Int) (t814 : List UInt8) (t815 : Int) (t816 : Int) (t817 : Int) (t818 : Int) (b1_ : List Int) (b2_2 : List zq0) (b3_2 : List zq2) (b4_2 : List Int) (b5_2 : List (Int × (Int × Int))) =>
  k1 t9 t810 t811 t812 t813 t814 t815 t816 t817 t818 b1_ b2_2 b3_2 b4_2 b5_2) (fun (at_2 : Int) (to_2 : Int) (who2 : Int) (x15 : Int) (x16 : Int) (x17 : Int) (x18 : Int) (x19 : List UInt8) (x20 : Int) (x21 : Int) (x22 : Int) (x23 : List Int) (x24 : List zq0) (x25 : List zq2) (x26 : List Int) (x27 : List (Int × (Int × Int))) (x28 : Int) (t810 : Int) (t811 : Int) (t812 : Int) (t813 : Int) (t814 : List UInt8) (t815 : Int) (t816 : Int) (t817 : Int) (t818 : Int) (b2_2 : List Int) (b3_2 : List zq0) (b4_2 : List zq2) (b5_2 : List Int) (b6_2 : List (Int × (Int × Int))) =>
  k2 at_2 to_2 who2 x15 x16 x17 x18 x19 x20 x21 x22 x23 x24 x25 x26 x27 x28 t810 t811 t812 t813 t814 t815 t816 t817 t818 b2_2 b3_2 b4_2 b5_2 b6_2) at_ to_ who (!rPossible) x x2 x3 x4 x5 x6 x7 x8 x9 x10 x11 x12 x13 x14 t8 t82 t83 t84 t85 t86 t87 t88 t89 b2_ b3_ b4_ b5_ b6_)))
def zqho (p1 : zqhc) {β : Type} (k1 : zqhf β) (k2 : zqhg β) (at_ : Int) (to_ : Int) (who : Int) (t17 : Bool) (x : Int) (x2 : Int) (x3 : Int) (x4 : Int) (x5 : List UInt8) (x6 : Int) (x7 : Int) (x8 : Int) (x9 : List Int) (x10 : List zq0) (x11 : List zq2) (x12 : List Int) (x13 : List (Int × (Int × Int))) (x14 : Int) (t8 : Int) (t82 : Int) (t83 : Int) (t84 : Int) (t85 : List UInt8) (t86 : Int) (t87 : Int) (t88 : Int) (t89 : Int) (b2_ : List Int) (b3_ : List zq0) (b4_ : List zq2) (b5_ : List Int) (b6_ : List (Int × (Int × Int))) : Option β := zqhn c_ref37_Possible p1 k1 k2 at_ to_ who t17 x x2 x3 x4 x5 x6 x7 x8 x9 x10 x11 x12 x13 x14 t8 t82 t83 t84 t85 t86 t87 t88 t89 b2_ b3_ b4_ b5_ b6_
theorem zqhp (hΓ : ΓOk Try.prog (ref37_Move_X c_ref25_In c_ref37_Possible c_ref37_last c_ref37_move c_ref37_person c_ref37_ready).Γ) (p1 : zqhc) (hp1 : PieceOk Try.prog 51 0 ref37_Move_p1_code zqhd zqhe (ref37_Move_p1_G p1)) : PieceOk Try.prog 51 0 ref37_Move_p2_code zqhi zqhj (ref37_Move_p2_G (zqho c_ref37_Possible p1)) :=
  piece_exec (X := (ref37_Move_X c_ref25_In c_ref37_Possible c_ref37_last c_ref37_move c_ref37_person c_ref37_ready)) (p := 57) (Λ := pick1 [(231, pieceCut zqhd zqhe (ref37_Move_p1_G p1))]) mixed tab_ok hΓ (by kernel_rfl) (CutsOk_cons (q := 231) (c' := ref37_Move_p1_code) (by kernel_rfl) rfl hp1 CutsOk_nil) (fun d ks r h => Eq.trans (b := ref37_Move_p2_G (zqho c_ref37_Possible p1) d ks) (by kernel_rfl) h)
def zqhq (p2 : zqhh) {β : Type} (x : zq4) (at_ : Int) (to_ : Int) (who : Int) (k : (zq4 → Int → Option β)) : Option β :=
  c_ref37_ready x (fun (rready : Int) =>
  cond (!decide (rready = (0 : Int)))
  (k ((0 : Int), ((0 : Int), ((0 : Int), ((0 : Int), (([] : List UInt8), (((0 : Int), ((0 : Int), (0 : Int))), (([] : List Int), (([] : List zq0), (([] : List zq2), (([] : List Int), (([] : List (Int × (Int × Int))), (0 : Int)))))))))))) rready)
  (c_ref37_last x (fun (rlast : Int) =>
  c_ref25_In at_ rlast (8589934592 : Int) (fun (rIn : Bool) =>
  cond (!rIn)
  (p2 (fun (t9 : Int) (t8 : Int) (t82 : Int) (t83 : Int) (t84 : Int) (t85 : List UInt8) (t86 : Int) (t87 : Int) (t88 : Int) (t89 : Int) (b1_ : List Int) (b2_ : List zq0) (b3_ : List zq2) (b4_ : List Int) (b5_ : List (Int × (Int × Int))) =>
  k (t8, (t82, (t83, (t84, (t85, ((t86, (t87, t88)), (b1_, (b2_, (b3_, (b4_, (b5_, t89))))))))))) t9) (fun (at_2 : Int) (to_2 : Int) (who2 : Int) (x2 : Int) (x3 : Int) (x4 : Int) (x5 : Int) (x6 : List UInt8) (x7 : Int) (x8 : Int) (x9 : Int) (x10 : List Int) (x11 : List zq0) (x12 : List zq2) (x13 : List Int) (x14 : List (Int × (Int × Int))) (x15 : Int) (t8 : Int) (t82 : Int) (t83 : Int) (t84 : Int) (t85 : List UInt8) (t86 : Int) (t87 : Int) (t88 : Int) (t89 : Int) (b2_ : List Int) (b3_ : List zq0) (b4_ : List zq2) (b5_ : List Int) (b6_ : List (Int × (Int × Int))) =>
  c_ref37_move (x2, (x3, (x4, (x5, (x6, ((x7, (x8, x9)), (x10, (x11, (x12, (x13, (x14, x15))))))))))) at_2 to_2 who2 (fun (rmove : zq4) =>
  k rmove (0 : Int))) at_ to_ who true x.1 x.2.1 x.2.2.1 x.2.2.2.1 x.2.2.2.2.1 x.2.2.2.2.2.1.1 x.2.2.2.2.2.1.2.1 x.2.2.2.2.2.1.2.2 x.2.2.2.2.2.2.1 x.2.2.2.2.2.2.2.1 x.2.2.2.2.2.2.2.2.1 x.2.2.2.2.2.2.2.2.2.1 x.2.2.2.2.2.2.2.2.2.2.1 x.2.2.2.2.2.2.2.2.2.2.2 (0 : Int) (0 : Int) (0 : Int) (0 : Int) ([] : List UInt8) (0 : Int) (0 : Int) (0 : Int) (0 : Int) ([] : List Int) ([] : List zq0) ([] : List zq2) ([] : List Int) ([] : List (Int × (Int × Int))))
  (c_ref37_person who true (fun (rperson : Bool) =>
  p2 (fun (t9 : Int) (t8 : Int) (t82 : Int) (t83 : Int) (t84 : Int) (t85 : List UInt8) (t86 : Int) (t87 : Int) (t88 : Int) (t89 : Int) (b1_ : List Int) (b2_ : List zq0) (b3_ : List zq2) (b4_ : List Int) (b5_ : List (Int × (Int × Int))) =>
  k (t8, (t82, (t83, (t84, (t85, ((t86, (t87, t88)), (b1_, (b2_, (b3_, (b4_, (b5_, t89))))))))))) t9) (fun (at_2 : Int) (to_2 : Int) (who2 : Int) (x2 : Int) (x3 : Int) (x4 : Int) (x5 : Int) (x6 : List UInt8) (x7 : Int) (x8 : Int) (x9 : Int) (x10 : List Int) (x11 : List zq0) (x12 : List zq2) (x13 : List Int) (x14 : List (Int × (Int × Int))) (x15 : Int) (t8 : Int) (t82 : Int) (t83 : Int) (t84 : Int) (t85 : List UInt8) (t86 : Int) (t87 : Int) (t88 : Int) (t89 : Int) (b2_ : List Int) (b3_ : List zq0) (b4_ : List zq2) (b5_ : List Int) (b6_ : List (Int × (Int × Int))) =>
  c_ref37_move (x2, (x3, (x4, (x5, (x6, ((x7, (x8, x9)), (x10, (x11, (x12, (x13, (x14, x15))))))))))) at_2 to_2 who2 (fun (rmove : zq4) =>
  k rmove (0 : Int))) at_ to_ who (!rperson) x.1 x.2.1 x.2.2.1 x.2.2.2.1 x.2.2.2.2.1 x.2.2.2.2.2.1.1 x.2.2.2.2.2.1.2.1 x.2.2.2.2.2.1.2.2 x.2.2.2.2.2.2.1 x.2.2.2.2.2.2.2.1 x.2.2.2.2.2.2.2.2.1 x.2.2.2.2.2.2.2.2.2.1 x.2.2.2.2.2.2.2.2.2.2.1 x.2.2.2.2.2.2.2.2.2.2.2 (0 : Int) (0 : Int) (0 : Int) (0 : Int) ([] : List UInt8) (0 : Int) (0 : Int) (0 : Int) (0 : Int) ([] : List Int) ([] : List zq0) ([] : List zq2) ([] : List Int) ([] : List (Int × (Int × Int)))))))))
theorem zqhr (hΓ : ΓOk Try.prog (ref37_Move_X c_ref25_In c_ref37_Possible c_ref37_last c_ref37_move c_ref37_person c_ref37_ready).Γ) (p2 : zqhh) (hp2 : PieceOk Try.prog 51 0 ref37_Move_p2_code zqhi zqhj (ref37_Move_p2_G p2)) : SpecOk Try.prog 21 (zqh9 (zqhq c_ref25_In c_ref37_last c_ref37_move c_ref37_person c_ref37_ready p2)) :=
  spec_exec (X := (ref37_Move_X c_ref25_In c_ref37_Possible c_ref37_last c_ref37_move c_ref37_person c_ref37_ready)) (Λ := pick1 [(57, pieceCut zqhi zqhj (ref37_Move_p2_G p2))]) (rs := [.cell 8 32, .tmp 9]) (c := bodyOf Try.f21) mixed tab_ok hΓ Try.func21 (by kernel_rfl) (by kernel_rfl) (by kernel_rfl) (by kernel_rfl) (CutsOk_cons (q := 57) (c' := ref37_Move_p2_code) (by kernel_rfl) rfl hp2 CutsOk_nil) (fun x k r h => Eq.trans (b := (zqh9 (zqhq c_ref25_In c_ref37_last c_ref37_move c_ref37_person c_ref37_ready p2)).run x k) (by kernel_rfl) h)
end
theorem zqhsΓ : ΓOk Try.prog (pick1 [(36, .spec (zq47 zq4b)), (47, .spec (zq7n zq7r)), (46, .spec (zq77 zq7k)), (48, .spec (zq7u zq7y)), (39, .spec (zq54 zq58)), (44, .spec (zqfx zqg1))]) := (ΓOk_cons zq4c (ΓOk_cons zq7s (ΓOk_cons zq7l (ΓOk_cons zq7z (ΓOk_cons zq59 (ΓOk_cons zqg2 ΓOk_nil))))))
def zqht : zqhc := zqhl
theorem zqhu : PieceOk Try.prog 51 0 ref37_Move_p1_code zqhd zqhe (ref37_Move_p1_G zqht) := zqhm zq4b zq7r zq7k zq7y zq58 zqg1 zqhsΓ
def zqhv : zqhh := zqho zq7r zqht
theorem zqhw : PieceOk Try.prog 51 0 ref37_Move_p2_code zqhi zqhj (ref37_Move_p2_G zqhv) := zqhp zq4b zq7r zq7k zq7y zq58 zqg1 zqhsΓ zqht zqhu
def zqhx : zqh8 := zqhq zq4b zq7k zq7y zq58 zqg1 zqhv
theorem zqhy : SpecOk Try.prog 21 (zqh9 zqhx) := zqhr zq4b zq7r zq7k zq7y zq58 zqg1 zqhsΓ zqhv zqhw
end
end Go.Lift
