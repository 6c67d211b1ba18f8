import Derived.Test.YtamnjokpncjbfaaLiftY
import Derived.Test.YtamnjokpncjbfaaFn0
import Derived.Test.YtamnjokpncjbfaaProg
namespace Go.Lift
open Go.Proofs
noncomputable section
set_option maxRecDepth 100000
set_option linter.unusedVariables false

/-- pagewatch/pagewatchlaw40.sane -/
abbrev T_law40_sane := {β : Type} → (Bool → Option β) → Option β
def law40_sane_S (c : T_law40_sane) : Spec :=
  ⟨[], [], [(false, [.data .bool])], [], fun x k => c  (fun r0 => k (((r0, ()), ()), ()))⟩
section
variable (c_law40_two : T_law40_two) (c_order_Compare : T_order_Compare) (c_order_Open : T_order_Open)
@[reducible] def law40_sane_X : Ctx := ⟨look tab, pick1 [(58, .spec (law40_two_S c_law40_two)), (40, .spec (order_Compare_S c_order_Compare)), (41, .spec (order_Open_S c_order_Open))], false⟩
def law40_sane_s {β : Type} (k : (Bool → Option β)) : Option β :=
  c_law40_two  (fun (rtwo : api_Record) =>
  c_order_Compare rtwo (0 : Int) (1 : Int) (fun (rCompare : Int) (rCompare2 : Bool) =>
  c_order_Open rtwo (fun (lrOpen : List (Int × Int)) =>
  let l : List (Int × (Int × Int)) := ([((0 : Int), ((1 : Int), (1 : Int)))] : List (Int × (Int × Int)));
  c_order_Compare (rtwo.1, (rtwo.2.1, (rtwo.2.2.1, l))) (0 : Int) (1 : Int) (fun (rCompare3 : Int) (rCompare4 : Bool) =>
  cond rCompare2
  (cond (decide (rCompare = (0 : Int)))
  (cond (decide ((List.length lrOpen : Int) = (1 : Int)))
  (cond rCompare4
  (cond (decide (rCompare3 = (-1 : Int)))
  (c_order_Open (rtwo.1, (rtwo.2.1, (rtwo.2.2.1, l))) (fun (lrOpen2 : List (Int × Int)) =>
  let t : Bool := (decide ((List.length lrOpen2 : Int) = (0 : Int)));
  k t))
  (k false))
  (k false))
  (k false))
  (k false))
  (k false)))))
theorem law40_sane_ok' (hΓ : ΓOk Try.prog (law40_sane_X c_law40_two c_order_Compare c_order_Open).Γ) : SpecOk Try.prog 39 (law40_sane_S (law40_sane_s c_law40_two c_order_Compare c_order_Open)) :=
  spec_exec (X := (law40_sane_X c_law40_two c_order_Compare c_order_Open)) (Λ := pick1 []) (rs := [.tmp 0]) (c := bodyOf Try.f39) mixed tab_ok hΓ Try.func39 (by kernel_rfl) (by kernel_rfl) (by kernel_rfl) (by kernel_rfl) CutsOk_nil (fun x k r h => Eq.trans (b := (law40_sane_S (law40_sane_s c_law40_two c_order_Compare c_order_Open)).run x k) (by kernel_rfl) h)
end
theorem law40_sane_Γ : ΓOk Try.prog (pick1 [(58, .spec (law40_two_S law40_two)), (40, .spec (order_Compare_S order_Compare)), (41, .spec (order_Open_S order_Open))]) := (ΓOk_cons law40_two_ok (ΓOk_cons order_Compare_ok (ΓOk_cons order_Open_ok ΓOk_nil)))
def law40_sane : T_law40_sane := law40_sane_s law40_two order_Compare order_Open
theorem law40_sane_ok : SpecOk Try.prog 39 (law40_sane_S law40_sane) := law40_sane_ok' law40_two order_Compare order_Open law40_sane_Γ

/-- slices.IndexFunc[[]int,int] -/
abbrev T_slices_IndexFunc_int_int_vorder_Fits_f1 := {β : Type} → (List Int) → (Int → Option β) → Option β
def slices_IndexFunc_int_int_vorder_Fits_f1_S (c : T_slices_IndexFunc_int_int_vorder_Fits_f1) : Spec :=
  ⟨[(false, [.data (.slice (.int .i64))]), (false, [.fn 66 []])], [], [(false, [.data (.int .i64)])], [], fun x k => c x.1.1.1 (fun r0 => k (((r0, ()), ()), ()))⟩
noncomputable def slices_IndexFunc_int_int_vorder_Fits_f1_p1_code : Code := codeAt 26 (bodyOf Try.f74)
abbrev slices_IndexFunc_int_int_vorder_Fits_f1_p1_K1 (β : Type) := Int → Option β
abbrev slices_IndexFunc_int_int_vorder_Fits_f1_p1_K2 (β : Type) := Unit → Option β
abbrev slices_IndexFunc_int_int_vorder_Fits_f1_p1_T := {β : Type} → slices_IndexFunc_int_int_vorder_Fits_f1_p1_K1 β → slices_IndexFunc_int_int_vorder_Fits_f1_p1_K2 β → (List Int) → Int → Int → Option β
def slices_IndexFunc_int_int_vorder_Fits_f1_p1_v : View := ⟨0, [0, 1, 7, 8], [(false, [.data (.slice (.int .i64))]), (false, [.fn 66 []]), (false, [.data (.int .i64)]), (false, [.data (.int .i64)])], []⟩
def slices_IndexFunc_int_int_vorder_Fits_f1_p1_o : List (AExit × View) := [(.ret, ⟨0, [4], [(false, [.data (.int .i64)])], []⟩), (.exit 0, ⟨0, [], [], []⟩)]
@[reducible] def slices_IndexFunc_int_int_vorder_Fits_f1_p1_G (p : slices_IndexFunc_int_int_vorder_Fits_f1_p1_T) {β : Type} (d : slices_IndexFunc_int_int_vorder_Fits_f1_p1_v.den) (ks : Outs.K β slices_IndexFunc_int_int_vorder_Fits_f1_p1_o) : Option β :=
  p (fun a0 => ks.1 (((a0, ()), ()), ())) (fun _ => ks.2.1 ((), ())) d.1.1.1 d.1.2.2.1.1 d.1.2.2.2.1.1
section
variable (c_order_Fits_f1 : T_order_Fits_f1)
@[reducible] def slices_IndexFunc_int_int_vorder_Fits_f1_X : Ctx := ⟨look tab, pick1 [(66, .spec (order_Fits_f1_S c_order_Fits_f1))], false⟩
def slices_IndexFunc_int_int_vorder_Fits_f1_p1_s {β : Type} (rec : (List Int) → Int → Int → Option β) (k1 : slices_IndexFunc_int_int_vorder_Fits_f1_p1_K1 β) (k2 : slices_IndexFunc_int_int_vorder_Fits_f1_p1_K2 β) (s : List Int) (t7 : Int) (t8 : Int) : Option β :=
  cond (decide (t8 < t7))
  (cond (decide (0 ≤ t8) && decide (t8 < (List.length s : Int)))
  (let e : Int := List.getD s (Int.toNat t8) (0 : Int);
  c_order_Fits_f1 e (fun (rFits1 : Bool) =>
  cond rFits1
  (k1 t8)
  (rec s t7 (IntKind.i64.wrap (t8 + (1 : Int))))))
  none)
  (k2 ())
def slices_IndexFunc_int_int_vorder_Fits_f1_p1_l {β : Type} : Nat → slices_IndexFunc_int_int_vorder_Fits_f1_p1_K1 β → slices_IndexFunc_int_int_vorder_Fits_f1_p1_K2 β → (List Int) → Int → Int → Option β
  | 0 => fun _ _ _ _ _ => none
  | i + 1 => fun k1 k2 s t7 t8 => slices_IndexFunc_int_int_vorder_Fits_f1_p1_s c_order_Fits_f1 (slices_IndexFunc_int_int_vorder_Fits_f1_p1_l i k1 k2) k1 k2 s t7 t8
theorem slices_IndexFunc_int_int_vorder_Fits_f1_p1_ok' (hΓ : ΓOk Try.prog (slices_IndexFunc_int_int_vorder_Fits_f1_X c_order_Fits_f1).Γ) (i : Nat) : PieceOk Try.prog 19 0 slices_IndexFunc_int_int_vorder_Fits_f1_p1_code slices_IndexFunc_int_int_vorder_Fits_f1_p1_v slices_IndexFunc_int_int_vorder_Fits_f1_p1_o (slices_IndexFunc_int_int_vorder_Fits_f1_p1_G (slices_IndexFunc_int_int_vorder_Fits_f1_p1_l c_order_Fits_f1 i)) := by
  rw [show slices_IndexFunc_int_int_vorder_Fits_f1_p1_code = .loop (loopBody slices_IndexFunc_int_int_vorder_Fits_f1_p1_code) by kernel_rfl]
  exact piece_loop (X := (slices_IndexFunc_int_int_vorder_Fits_f1_X c_order_Fits_f1)) (p := 1) (Λ := pick1 []) (G := fun i => @fun β d ks => slices_IndexFunc_int_int_vorder_Fits_f1_p1_G (slices_IndexFunc_int_int_vorder_Fits_f1_p1_l c_order_Fits_f1 i) d ks) mixed tab_ok hΓ rfl (by kernel_rfl) CutsOk_nil (fun _ _ => rfl) (fun i => @fun β d ks r h => Eq.trans (b := slices_IndexFunc_int_int_vorder_Fits_f1_p1_G (slices_IndexFunc_int_int_vorder_Fits_f1_p1_l c_order_Fits_f1 (i + 1)) d ks) (by kernel_rfl) h) i
def slices_IndexFunc_int_int_vorder_Fits_f1_s (p1 : slices_IndexFunc_int_int_vorder_Fits_f1_p1_T) {β : Type} (s : List Int) (k : (Int → Option β)) : Option β :=
  p1 (fun (t4 : Int) =>
  k t4) (fun (_ : Unit) =>
  k (-1 : Int)) s (List.length s : Int) (0 : Int)
theorem slices_IndexFunc_int_int_vorder_Fits_f1_ok' (hΓ : ΓOk Try.prog (slices_IndexFunc_int_int_vorder_Fits_f1_X c_order_Fits_f1).Γ) (p1 : slices_IndexFunc_int_int_vorder_Fits_f1_p1_T) (hp1 : PieceOk Try.prog 19 0 slices_IndexFunc_int_int_vorder_Fits_f1_p1_code slices_IndexFunc_int_int_vorder_Fits_f1_p1_v slices_IndexFunc_int_int_vorder_Fits_f1_p1_o (slices_IndexFunc_int_int_vorder_Fits_f1_p1_G p1)) : SpecOk Try.prog 74 (slices_IndexFunc_int_int_vorder_Fits_f1_S (slices_IndexFunc_int_int_vorder_Fits_f1_s p1)) :=
  spec_exec (X := (slices_IndexFunc_int_int_vorder_Fits_f1_X c_order_Fits_f1)) (Λ := pick1 [(26, pieceCut slices_IndexFunc_int_int_vorder_Fits_f1_p1_v slices_IndexFunc_int_int_vorder_Fits_f1_p1_o (slices_IndexFunc_int_int_vorder_Fits_f1_p1_G p1))]) (rs := [.tmp 4]) (c := bodyOf Try.f74) mixed tab_ok hΓ Try.func74 (by kernel_rfl) (by kernel_rfl) (by kernel_rfl) (by kernel_rfl) (CutsOk_cons (q := 26) (c' := slices_IndexFunc_int_int_vorder_Fits_f1_p1_code) (by kernel_rfl) rfl hp1 CutsOk_nil) (fun x k r h => Eq.trans (b := (slices_IndexFunc_int_int_vorder_Fits_f1_S (slices_IndexFunc_int_int_vorder_Fits_f1_s p1)).run x k) (by kernel_rfl) h)
end
theorem slices_IndexFunc_int_int_vorder_Fits_f1_Γ : ΓOk Try.prog (pick1 [(66, .spec (order_Fits_f1_S order_Fits_f1))]) := (ΓOk_cons order_Fits_f1_ok ΓOk_nil)
def slices_IndexFunc_int_int_vorder_Fits_f1_p1_n (m : Nat) : slices_IndexFunc_int_int_vorder_Fits_f1_p1_T := slices_IndexFunc_int_int_vorder_Fits_f1_p1_l order_Fits_f1 m
theorem slices_IndexFunc_int_int_vorder_Fits_f1_p1_step {β : Type} (i : Nat) (k1 k2 s t7 t8) : (slices_IndexFunc_int_int_vorder_Fits_f1_p1_n (i + 1) k1 k2 s t7 t8 : Option β) = slices_IndexFunc_int_int_vorder_Fits_f1_p1_s order_Fits_f1 (slices_IndexFunc_int_int_vorder_Fits_f1_p1_n i k1 k2) k1 k2 s t7 t8 := rfl
def slices_IndexFunc_int_int_vorder_Fits_f1_p1 : slices_IndexFunc_int_int_vorder_Fits_f1_p1_T := slices_IndexFunc_int_int_vorder_Fits_f1_p1_n fuel
theorem slices_IndexFunc_int_int_vorder_Fits_f1_p1_ok : PieceOk Try.prog 19 0 slices_IndexFunc_int_int_vorder_Fits_f1_p1_code slices_IndexFunc_int_int_vorder_Fits_f1_p1_v slices_IndexFunc_int_int_vorder_Fits_f1_p1_o (slices_IndexFunc_int_int_vorder_Fits_f1_p1_G slices_IndexFunc_int_int_vorder_Fits_f1_p1) := slices_IndexFunc_int_int_vorder_Fits_f1_p1_ok' order_Fits_f1 slices_IndexFunc_int_int_vorder_Fits_f1_Γ fuel
def slices_IndexFunc_int_int_vorder_Fits_f1 : T_slices_IndexFunc_int_int_vorder_Fits_f1 := slices_IndexFunc_int_int_vorder_Fits_f1_s slices_IndexFunc_int_int_vorder_Fits_f1_p1
theorem slices_IndexFunc_int_int_vorder_Fits_f1_ok : SpecOk Try.prog 74 (slices_IndexFunc_int_int_vorder_Fits_f1_S slices_IndexFunc_int_int_vorder_Fits_f1) := slices_IndexFunc_int_int_vorder_Fits_f1_ok' order_Fits_f1 slices_IndexFunc_int_int_vorder_Fits_f1_Γ slices_IndexFunc_int_int_vorder_Fits_f1_p1 slices_IndexFunc_int_int_vorder_Fits_f1_p1_ok

/-- slices.IndexFunc[[]int,int] -/
abbrev T_slices_IndexFunc_int_int_vorder_Allows_f1 := {β : Type} → (List Int) → (List (List Int)) → Int → (Int → (List (List Int)) → Int → Option β) → Option β
def slices_IndexFunc_int_int_vorder_Allows_f1_S (c : T_slices_IndexFunc_int_int_vorder_Allows_f1) : Spec :=
  ⟨[(false, [.data (.slice (.int .i64))]), (false, [.fn 71 [0, 1]])], [.cells 86 [.data (.slice (.slice (.int .i64)))], .cells 3 [.data (.int .i64)]], [(false, [.data (.int .i64)])], [.cells 86 [.data (.slice (.slice (.int .i64)))], .cells 3 [.data (.int .i64)]], fun x k => c x.1.1.1 x.2.1.1 x.2.2.1.1 (fun r0 r1 r2 => k (((r0, ()), ()), ((r1, ()), (r2, ()), ())))⟩
noncomputable def slices_IndexFunc_int_int_vorder_Allows_f1_p1_code : Code := codeAt 26 (bodyOf Try.f74)
abbrev slices_IndexFunc_int_int_vorder_Allows_f1_p1_K1 (β : Type) := Int → (List (List Int)) → Int → Option β
abbrev slices_IndexFunc_int_int_vorder_Allows_f1_p1_K2 (β : Type) := (List (List Int)) → Int → Option β
abbrev slices_IndexFunc_int_int_vorder_Allows_f1_p1_T := {β : Type} → slices_IndexFunc_int_int_vorder_Allows_f1_p1_K1 β → slices_IndexFunc_int_int_vorder_Allows_f1_p1_K2 β → (List Int) → Int → Int → (List (List Int)) → Int → Option β
def slices_IndexFunc_int_int_vorder_Allows_f1_p1_v : View := ⟨2, [0, 1, 7, 8], [(false, [.data (.slice (.int .i64))]), (false, [.fn 71 [0, 1]]), (false, [.data (.int .i64)]), (false, [.data (.int .i64)])], [.cells 86 [.data (.slice (.slice (.int .i64)))], .cells 3 [.data (.int .i64)]]⟩
def slices_IndexFunc_int_int_vorder_Allows_f1_p1_o : List (AExit × View) := [(.ret, ⟨2, [4], [(false, [.data (.int .i64)])], [.cells 86 [.data (.slice (.slice (.int .i64)))], .cells 3 [.data (.int .i64)]]⟩), (.exit 0, ⟨2, [], [], [.cells 86 [.data (.slice (.slice (.int .i64)))], .cells 3 [.data (.int .i64)]]⟩)]
@[reducible] def slices_IndexFunc_int_int_vorder_Allows_f1_p1_G (p : slices_IndexFunc_int_int_vorder_Allows_f1_p1_T) {β : Type} (d : slices_IndexFunc_int_int_vorder_Allows_f1_p1_v.den) (ks : Outs.K β slices_IndexFunc_int_int_vorder_Allows_f1_p1_o) : Option β :=
  p (fun a0 a1 a2 => ks.1 (((a0, ()), ()), ((a1, ()), (a2, ()), ()))) (fun a0 a1 => ks.2.1 ((), ((a0, ()), (a1, ()), ()))) d.1.1.1 d.1.2.2.1.1 d.1.2.2.2.1.1 d.2.1.1 d.2.2.1.1
section
variable (c_order_Allows_f1 : T_order_Allows_f1)
@[reducible] def slices_IndexFunc_int_int_vorder_Allows_f1_X : Ctx := ⟨look tab, pick1 [(71, .spec (order_Allows_f1_S c_order_Allows_f1))], false⟩
def slices_IndexFunc_int_int_vorder_Allows_f1_p1_s {β : Type} (rec : (List Int) → Int → Int → (List (List Int)) → Int → Option β) (k1 : slices_IndexFunc_int_int_vorder_Allows_f1_p1_K1 β) (k2 : slices_IndexFunc_int_int_vorder_Allows_f1_p1_K2 β) (s : List Int) (t7 : Int) (t8 : Int) (b0_ : List (List Int)) (b1_ : Int) : Option β :=
  cond (decide (t8 < t7))
  (cond (decide (0 ≤ t8) && decide (t8 < (List.length s : Int)))
  (let e : Int := List.getD s (Int.toNat t8) (0 : Int);
  c_order_Allows_f1 e b0_ b1_ (fun (rAllows1 : Bool) (mrAllows1 : List (List Int)) (mrAllows12 : Int) =>
  cond rAllows1
  (k1 t8 mrAllows1 mrAllows12)
  (rec s t7 (IntKind.i64.wrap (t8 + (1 : Int))) mrAllows1 mrAllows12)))
  none)
  (k2 b0_ b1_)
def slices_IndexFunc_int_int_vorder_Allows_f1_p1_l {β : Type} : Nat → slices_IndexFunc_int_int_vorder_Allows_f1_p1_K1 β → slices_IndexFunc_int_int_vorder_Allows_f1_p1_K2 β → (List Int) → Int → Int → (List (List Int)) → Int → Option β
  | 0 => fun _ _ _ _ _ _ _ => none
  | i + 1 => fun k1 k2 s t7 t8 b0_ b1_ => slices_IndexFunc_int_int_vorder_Allows_f1_p1_s c_order_Allows_f1 (slices_IndexFunc_int_int_vorder_Allows_f1_p1_l i k1 k2) k1 k2 s t7 t8 b0_ b1_
theorem slices_IndexFunc_int_int_vorder_Allows_f1_p1_ok' (hΓ : ΓOk Try.prog (slices_IndexFunc_int_int_vorder_Allows_f1_X c_order_Allows_f1).Γ) (i : Nat) : PieceOk Try.prog 19 2 slices_IndexFunc_int_int_vorder_Allows_f1_p1_code slices_IndexFunc_int_int_vorder_Allows_f1_p1_v slices_IndexFunc_int_int_vorder_Allows_f1_p1_o (slices_IndexFunc_int_int_vorder_Allows_f1_p1_G (slices_IndexFunc_int_int_vorder_Allows_f1_p1_l c_order_Allows_f1 i)) := by
  rw [show slices_IndexFunc_int_int_vorder_Allows_f1_p1_code = .loop (loopBody slices_IndexFunc_int_int_vorder_Allows_f1_p1_code) by kernel_rfl]
  exact piece_loop (X := (slices_IndexFunc_int_int_vorder_Allows_f1_X c_order_Allows_f1)) (p := 1) (Λ := pick1 []) (G := fun i => @fun β d ks => slices_IndexFunc_int_int_vorder_Allows_f1_p1_G (slices_IndexFunc_int_int_vorder_Allows_f1_p1_l c_order_Allows_f1 i) d ks) mixed tab_ok hΓ rfl (by kernel_rfl) CutsOk_nil (fun _ _ => rfl) (fun i => @fun β d ks r h => Eq.trans (b := slices_IndexFunc_int_int_vorder_Allows_f1_p1_G (slices_IndexFunc_int_int_vorder_Allows_f1_p1_l c_order_Allows_f1 (i + 1)) d ks) (by kernel_rfl) h) i
def slices_IndexFunc_int_int_vorder_Allows_f1_s (p1 : slices_IndexFunc_int_int_vorder_Allows_f1_p1_T) {β : Type} (s : List Int) (b0_ : List (List Int)) (b1_ : Int) (k : (Int → (List (List Int)) → Int → Option β)) : Option β :=
  p1 (fun (t4 : Int) (b0_2 : List (List Int)) (b1_2 : Int) =>
  k t4 b0_2 b1_2) (fun (b0_2 : List (List Int)) (b1_2 : Int) =>
  k (-1 : Int) b0_2 b1_2) s (List.length s : Int) (0 : Int) b0_ b1_
theorem slices_IndexFunc_int_int_vorder_Allows_f1_ok' (hΓ : ΓOk Try.prog (slices_IndexFunc_int_int_vorder_Allows_f1_X c_order_Allows_f1).Γ) (p1 : slices_IndexFunc_int_int_vorder_Allows_f1_p1_T) (hp1 : PieceOk Try.prog 19 2 slices_IndexFunc_int_int_vorder_Allows_f1_p1_code slices_IndexFunc_int_int_vorder_Allows_f1_p1_v slices_IndexFunc_int_int_vorder_Allows_f1_p1_o (slices_IndexFunc_int_int_vorder_Allows_f1_p1_G p1)) : SpecOk Try.prog 74 (slices_IndexFunc_int_int_vorder_Allows_f1_S (slices_IndexFunc_int_int_vorder_Allows_f1_s p1)) :=
  spec_exec (X := (slices_IndexFunc_int_int_vorder_Allows_f1_X c_order_Allows_f1)) (Λ := pick1 [(26, pieceCut slices_IndexFunc_int_int_vorder_Allows_f1_p1_v slices_IndexFunc_int_int_vorder_Allows_f1_p1_o (slices_IndexFunc_int_int_vorder_Allows_f1_p1_G p1))]) (rs := [.tmp 4]) (c := bodyOf Try.f74) mixed tab_ok hΓ Try.func74 (by kernel_rfl) (by kernel_rfl) (by kernel_rfl) (by kernel_rfl) (CutsOk_cons (q := 26) (c' := slices_IndexFunc_int_int_vorder_Allows_f1_p1_code) (by kernel_rfl) rfl hp1 CutsOk_nil) (fun x k r h => Eq.trans (b := (slices_IndexFunc_int_int_vorder_Allows_f1_S (slices_IndexFunc_int_int_vorder_Allows_f1_s p1)).run x k) (by kernel_rfl) h)
end
theorem slices_IndexFunc_int_int_vorder_Allows_f1_Γ : ΓOk Try.prog (pick1 [(71, .spec (order_Allows_f1_S order_Allows_f1))]) := (ΓOk_cons order_Allows_f1_ok ΓOk_nil)
def slices_IndexFunc_int_int_vorder_Allows_f1_p1_n (m : Nat) : slices_IndexFunc_int_int_vorder_Allows_f1_p1_T := slices_IndexFunc_int_int_vorder_Allows_f1_p1_l order_Allows_f1 m
theorem slices_IndexFunc_int_int_vorder_Allows_f1_p1_step {β : Type} (i : Nat) (k1 k2 s t7 t8 b0_ b1_) : (slices_IndexFunc_int_int_vorder_Allows_f1_p1_n (i + 1) k1 k2 s t7 t8 b0_ b1_ : Option β) = slices_IndexFunc_int_int_vorder_Allows_f1_p1_s order_Allows_f1 (slices_IndexFunc_int_int_vorder_Allows_f1_p1_n i k1 k2) k1 k2 s t7 t8 b0_ b1_ := rfl
def slices_IndexFunc_int_int_vorder_Allows_f1_p1 : slices_IndexFunc_int_int_vorder_Allows_f1_p1_T := slices_IndexFunc_int_int_vorder_Allows_f1_p1_n fuel
theorem slices_IndexFunc_int_int_vorder_Allows_f1_p1_ok : PieceOk Try.prog 19 2 slices_IndexFunc_int_int_vorder_Allows_f1_p1_code slices_IndexFunc_int_int_vorder_Allows_f1_p1_v slices_IndexFunc_int_int_vorder_Allows_f1_p1_o (slices_IndexFunc_int_int_vorder_Allows_f1_p1_G slices_IndexFunc_int_int_vorder_Allows_f1_p1) := slices_IndexFunc_int_int_vorder_Allows_f1_p1_ok' order_Allows_f1 slices_IndexFunc_int_int_vorder_Allows_f1_Γ fuel
def slices_IndexFunc_int_int_vorder_Allows_f1 : T_slices_IndexFunc_int_int_vorder_Allows_f1 := slices_IndexFunc_int_int_vorder_Allows_f1_s slices_IndexFunc_int_int_vorder_Allows_f1_p1
theorem slices_IndexFunc_int_int_vorder_Allows_f1_ok : SpecOk Try.prog 74 (slices_IndexFunc_int_int_vorder_Allows_f1_S slices_IndexFunc_int_int_vorder_Allows_f1) := slices_IndexFunc_int_int_vorder_Allows_f1_ok' order_Allows_f1 slices_IndexFunc_int_int_vorder_Allows_f1_Γ slices_IndexFunc_int_int_vorder_Allows_f1_p1 slices_IndexFunc_int_int_vorder_Allows_f1_p1_ok

/-- slices.ContainsFunc[[]int,int] -/
abbrev T_slices_ContainsFunc_int_int_vorder_Fits_f1 := {β : Type} → (List Int) → (Bool → Option β) → Option β
def slices_ContainsFunc_int_int_vorder_Fits_f1_S (c : T_slices_ContainsFunc_int_int_vorder_Fits_f1) : Spec :=
  ⟨[(false, [.data (.slice (.int .i64))]), (false, [.fn 66 []])], [], [(false, [.data .bool])], [], fun x k => c x.1.1.1 (fun r0 => k (((r0, ()), ()), ()))⟩
section
variable (c_slices_IndexFunc_int_int_vorder_Fits_f1 : T_slices_IndexFunc_int_int_vorder_Fits_f1)
@[reducible] def slices_ContainsFunc_int_int_vorder_Fits_f1_X : Ctx := ⟨look tab, pick1 [(74, .spec (slices_IndexFunc_int_int_vorder_Fits_f1_S c_slices_IndexFunc_int_int_vorder_Fits_f1))], false⟩
def slices_ContainsFunc_int_int_vorder_Fits_f1_s {β : Type} (s : List Int) (k : (Bool → Option β)) : Option β :=
  c_slices_IndexFunc_int_int_vorder_Fits_f1 s (fun (rIndexFuncintint : Int) =>
  let t : Bool := (decide ((0 : Int) ≤ rIndexFuncintint));
  k t)
theorem slices_ContainsFunc_int_int_vorder_Fits_f1_ok' (hΓ : ΓOk Try.prog (slices_ContainsFunc_int_int_vorder_Fits_f1_X c_slices_IndexFunc_int_int_vorder_Fits_f1).Γ) : SpecOk Try.prog 65 (slices_ContainsFunc_int_int_vorder_Fits_f1_S (slices_ContainsFunc_int_int_vorder_Fits_f1_s c_slices_IndexFunc_int_int_vorder_Fits_f1)) :=
  spec_exec (X := (slices_ContainsFunc_int_int_vorder_Fits_f1_X c_slices_IndexFunc_int_int_vorder_Fits_f1)) (Λ := pick1 []) (rs := [.tmp 4]) (c := bodyOf Try.f65) mixed tab_ok hΓ Try.func65 (by kernel_rfl) (by kernel_rfl) (by kernel_rfl) (by kernel_rfl) CutsOk_nil (fun x k r h => Eq.trans (b := (slices_ContainsFunc_int_int_vorder_Fits_f1_S (slices_ContainsFunc_int_int_vorder_Fits_f1_s c_slices_IndexFunc_int_int_vorder_Fits_f1)).run x k) (by kernel_rfl) h)
end
theorem slices_ContainsFunc_int_int_vorder_Fits_f1_Γ : ΓOk Try.prog (pick1 [(74, .spec (slices_IndexFunc_int_int_vorder_Fits_f1_S slices_IndexFunc_int_int_vorder_Fits_f1))]) := (ΓOk_cons slices_IndexFunc_int_int_vorder_Fits_f1_ok ΓOk_nil)
def slices_ContainsFunc_int_int_vorder_Fits_f1 : T_slices_ContainsFunc_int_int_vorder_Fits_f1 := slices_ContainsFunc_int_int_vorder_Fits_f1_s slices_IndexFunc_int_int_vorder_Fits_f1
theorem slices_ContainsFunc_int_int_vorder_Fits_f1_ok : SpecOk Try.prog 65 (slices_ContainsFunc_int_int_vorder_Fits_f1_S slices_ContainsFunc_int_int_vorder_Fits_f1) := slices_ContainsFunc_int_int_vorder_Fits_f1_ok' slices_IndexFunc_int_int_vorder_Fits_f1 slices_ContainsFunc_int_int_vorder_Fits_f1_Γ

/-- slices.ContainsFunc[[]int,int] -/
abbrev T_slices_ContainsFunc_int_int_vorder_Allows_f1 := {β : Type} → (List Int) → (List (List Int)) → Int → (Bool → (List (List Int)) → Int → Option β) → Option β
def slices_ContainsFunc_int_int_vorder_Allows_f1_S (c : T_slices_ContainsFunc_int_int_vorder_Allows_f1) : Spec :=
  ⟨[(false, [.data (.slice (.int .i64))]), (false, [.fn 71 [0, 1]])], [.cells 86 [.data (.slice (.slice (.int .i64)))], .cells 3 [.data (.int .i64)]], [(false, [.data .bool])], [.cells 86 [.data (.slice (.slice (.int .i64)))], .cells 3 [.data (.int .i64)]], fun x k => c x.1.1.1 x.2.1.1 x.2.2.1.1 (fun r0 r1 r2 => k (((r0, ()), ()), ((r1, ()), (r2, ()), ())))⟩
section
variable (c_slices_IndexFunc_int_int_vorder_Allows_f1 : T_slices_IndexFunc_int_int_vorder_Allows_f1)
@[reducible] def slices_ContainsFunc_int_int_vorder_Allows_f1_X : Ctx := ⟨look tab, pick1 [(74, .spec (slices_IndexFunc_int_int_vorder_Allows_f1_S c_slices_IndexFunc_int_int_vorder_Allows_f1))], false⟩
def slices_ContainsFunc_int_int_vorder_Allows_f1_s {β : Type} (s : List Int) (b0_ : List (List Int)) (b1_ : Int) (k : (Bool → (List (List Int)) → Int → Option β)) : Option β :=
  c_slices_IndexFunc_int_int_vorder_Allows_f1 s b0_ b1_ (fun (rIndexFuncintint : Int) (mrIndexFuncintint : List (List Int)) (mrIndexFuncintint2 : Int) =>
  let t : Bool := (decide ((0 : Int) ≤ rIndexFuncintint));
  k t mrIndexFuncintint mrIndexFuncintint2)
theorem slices_ContainsFunc_int_int_vorder_Allows_f1_ok' (hΓ : ΓOk Try.prog (slices_ContainsFunc_int_int_vorder_Allows_f1_X c_slices_IndexFunc_int_int_vorder_Allows_f1).Γ) : SpecOk Try.prog 65 (slices_ContainsFunc_int_int_vorder_Allows_f1_S (slices_ContainsFunc_int_int_vorder_Allows_f1_s c_slices_IndexFunc_int_int_vorder_Allows_f1)) :=
  spec_exec (X := (slices_ContainsFunc_int_int_vorder_Allows_f1_X c_slices_IndexFunc_int_int_vorder_Allows_f1)) (Λ := pick1 []) (rs := [.tmp 4]) (c := bodyOf Try.f65) mixed tab_ok hΓ Try.func65 (by kernel_rfl) (by kernel_rfl) (by kernel_rfl) (by kernel_rfl) CutsOk_nil (fun x k r h => Eq.trans (b := (slices_ContainsFunc_int_int_vorder_Allows_f1_S (slices_ContainsFunc_int_int_vorder_Allows_f1_s c_slices_IndexFunc_int_int_vorder_Allows_f1)).run x k) (by kernel_rfl) h)
end
theorem slices_ContainsFunc_int_int_vorder_Allows_f1_Γ : ΓOk Try.prog (pick1 [(74, .spec (slices_IndexFunc_int_int_vorder_Allows_f1_S slices_IndexFunc_int_int_vorder_Allows_f1))]) := (ΓOk_cons slices_IndexFunc_int_int_vorder_Allows_f1_ok ΓOk_nil)
def slices_ContainsFunc_int_int_vorder_Allows_f1 : T_slices_ContainsFunc_int_int_vorder_Allows_f1 := slices_ContainsFunc_int_int_vorder_Allows_f1_s slices_IndexFunc_int_int_vorder_Allows_f1
theorem slices_ContainsFunc_int_int_vorder_Allows_f1_ok : SpecOk Try.prog 65 (slices_ContainsFunc_int_int_vorder_Allows_f1_S slices_ContainsFunc_int_int_vorder_Allows_f1) := slices_ContainsFunc_int_int_vorder_Allows_f1_ok' slices_IndexFunc_int_int_vorder_Allows_f1 slices_ContainsFunc_int_int_vorder_Allows_f1_Γ

/-- pagewatch/order.Allows -/
abbrev T_order_Allows := {β : Type} → api_Record → (List Int) → (Bool → Option β) → Option β
def order_Allows_S (c : T_order_Allows) : Spec :=
  ⟨[(true, [.data y_api_Record]), (false, [.data (.slice (.int .i64))])], [], [(false, [.data .bool])], [], fun x k => c x.1.1.1 x.1.2.1.1 (fun r0 => k (((r0, ()), ()), ()))⟩
noncomputable def order_Allows_p1_code : Code := codeAt 122 (bodyOf Try.f48)
abbrev order_Allows_p1_K1 (β : Type) := Bool → Option β
abbrev order_Allows_p1_K2 (β : Type) := Unit → Option β
abbrev order_Allows_p1_T := {β : Type} → order_Allows_p1_K1 β → order_Allows_p1_K2 β → (List Int) → (List Int) → Int → Int → (List (List Int)) → Option β
def order_Allows_p1_v : View := ⟨0, [1, 5, 24, 25, 26], [(false, [.data (.slice (.int .i64))]), (false, [.ptr 0 0]), (false, [.data (.slice (.int .i64))]), (false, [.data (.int .i64)]), (false, [.data (.int .i64)])], [.cells 86 [.data (.slice (.slice (.int .i64)))]]⟩
def order_Allows_p1_o : List (AExit × View) := [(.ret, ⟨0, [4], [(false, [.data .bool])], []⟩), (.exit 0, ⟨0, [], [], []⟩)]
@[reducible] def order_Allows_p1_G (p : order_Allows_p1_T) {β : Type} (d : order_Allows_p1_v.den) (ks : Outs.K β order_Allows_p1_o) : Option β :=
  p (fun a0 => ks.1 (((a0, ()), ()), ())) (fun _ => ks.2.1 ((), ())) d.1.1.1 d.1.2.2.1.1 d.1.2.2.2.1.1 d.1.2.2.2.2.1.1 d.2.1.1
section
variable (c_order_closed : T_order_closed) (c_order_in : T_order_in) (c_slices_ContainsFunc_int_int_vorder_Allows_f1 : T_slices_ContainsFunc_int_int_vorder_Allows_f1) (c_slices_Contains_int_int : T_slices_Contains_int_int)
@[reducible] def order_Allows_X : Ctx := ⟨look tab, pick1 [(61, .spec (order_closed_S c_order_closed)), (67, .spec (order_in_S c_order_in)), (65, .spec (slices_ContainsFunc_int_int_vorder_Allows_f1_S c_slices_ContainsFunc_int_int_vorder_Allows_f1)), (70, .spec (slices_Contains_int_int_S c_slices_Contains_int_int))], false⟩
def order_Allows_p1_s {β : Type} (rec : (List Int) → (List Int) → Int → Int → (List (List Int)) → Option β) (k1 : order_Allows_p1_K1 β) (k2 : order_Allows_p1_K2 β) (l : List Int) (t24 : List Int) (t25 : Int) (t26 : Int) (m : List (List Int)) : Option β :=
  cond (decide (t26 < t25))
  (cond (decide (0 ≤ t26) && decide (t26 < (List.length t24 : Int)))
  (let e : Int := List.getD t24 (Int.toNat t26) (0 : Int);
  c_order_in e (0 : Int) (IntKind.i64.wrap ((List.length l : Int) - (1 : Int))) (fun (rin : Bool) =>
  cond (!rin)
  (k1 false)
  (cond (decide (0 ≤ (0 : Int)) && (decide ((0 : Int) ≤ t26) && decide (t26 ≤ (List.length l : Int))))
  (c_slices_Contains_int_int (List.drop (Int.toNat (0 : Int)) (List.take (Int.toNat t26) l)) e (fun (rContainsintint : Bool) =>
  cond rContainsintint
  (k1 false)
  (cond (decide (0 ≤ (0 : Int)) && (decide ((0 : Int) ≤ t26) && decide (t26 ≤ (List.length l : Int))))
  (c_slices_ContainsFunc_int_int_vorder_Allows_f1 (List.drop (Int.toNat (0 : Int)) (List.take (Int.toNat t26) l)) m e (fun (rContainsFuncintint : Bool) (mrContainsFuncintint : List (List Int)) (mrContainsFuncintint2 : Int) =>
  cond rContainsFuncintint
  (k1 false)
  (rec l t24 t25 (IntKind.i64.wrap (t26 + (1 : Int))) mrContainsFuncintint)))
  none)))
  none)))
  none)
  (k2 ())
def order_Allows_p1_l {β : Type} : Nat → order_Allows_p1_K1 β → order_Allows_p1_K2 β → (List Int) → (List Int) → Int → Int → (List (List Int)) → Option β
  | 0 => fun _ _ _ _ _ _ _ => none
  | i + 1 => fun k1 k2 l t24 t25 t26 m => order_Allows_p1_s c_order_in c_slices_ContainsFunc_int_int_vorder_Allows_f1 c_slices_Contains_int_int (order_Allows_p1_l i k1 k2) k1 k2 l t24 t25 t26 m
theorem order_Allows_p1_ok' (hΓ : ΓOk Try.prog (order_Allows_X c_order_closed c_order_in c_slices_ContainsFunc_int_int_vorder_Allows_f1 c_slices_Contains_int_int).Γ) (i : Nat) : PieceOk Try.prog 52 0 order_Allows_p1_code order_Allows_p1_v order_Allows_p1_o (order_Allows_p1_G (order_Allows_p1_l c_order_in c_slices_ContainsFunc_int_int_vorder_Allows_f1 c_slices_Contains_int_int i)) := by
  rw [show order_Allows_p1_code = .loop (loopBody order_Allows_p1_code) by kernel_rfl]
  exact piece_loop (X := (order_Allows_X c_order_closed c_order_in c_slices_ContainsFunc_int_int_vorder_Allows_f1 c_slices_Contains_int_int)) (p := 1) (Λ := pick1 []) (G := fun i => @fun β d ks => order_Allows_p1_G (order_Allows_p1_l c_order_in c_slices_ContainsFunc_int_int_vorder_Allows_f1 c_slices_Contains_int_int i) d ks) mixed tab_ok hΓ rfl (by kernel_rfl) CutsOk_nil (fun _ _ => rfl) (fun i => @fun β d ks r h => Eq.trans (b := order_Allows_p1_G (order_Allows_p1_l c_order_in c_slices_ContainsFunc_int_int_vorder_Allows_f1 c_slices_Contains_int_int (i + 1)) d ks) (by kernel_rfl) h) i
def order_Allows_s (p1 : order_Allows_p1_T) {β : Type} (r_ : api_Record) (l : List Int) (k : (Bool → Option β)) : Option β :=
  c_order_closed r_ (fun (rclosed : List (List Int)) (rclosed2 : Bool) =>
  cond (!rclosed2)
  (k false)
  (cond (!decide ((List.length l : Int) = (List.length r_.2.2.1 : Int)))
  (k false)
  (p1 (fun (t4 : Bool) =>
  k t4) (fun (_ : Unit) =>
  k true) l l (List.length l : Int) (0 : Int) rclosed)))
theorem order_Allows_ok' (hΓ : ΓOk Try.prog (order_Allows_X c_order_closed c_order_in c_slices_ContainsFunc_int_int_vorder_Allows_f1 c_slices_Contains_int_int).Γ) (p1 : order_Allows_p1_T) (hp1 : PieceOk Try.prog 52 0 order_Allows_p1_code order_Allows_p1_v order_Allows_p1_o (order_Allows_p1_G p1)) : SpecOk Try.prog 48 (order_Allows_S (order_Allows_s c_order_closed p1)) :=
  spec_exec (X := (order_Allows_X c_order_closed c_order_in c_slices_ContainsFunc_int_int_vorder_Allows_f1 c_slices_Contains_int_int)) (Λ := pick1 [(122, pieceCut order_Allows_p1_v order_Allows_p1_o (order_Allows_p1_G p1))]) (rs := [.tmp 4]) (c := bodyOf Try.f48) mixed tab_ok hΓ Try.func48 (by kernel_rfl) (by kernel_rfl) (by kernel_rfl) (by kernel_rfl) (CutsOk_cons (q := 122) (c' := order_Allows_p1_code) (by kernel_rfl) rfl hp1 CutsOk_nil) (fun x k r h => Eq.trans (b := (order_Allows_S (order_Allows_s c_order_closed p1)).run x k) (by kernel_rfl) h)
end
theorem order_Allows_Γ : ΓOk Try.prog (pick1 [(61, .spec (order_closed_S order_closed)), (67, .spec (order_in_S order_in)), (65, .spec (slices_ContainsFunc_int_int_vorder_Allows_f1_S slices_ContainsFunc_int_int_vorder_Allows_f1)), (70, .spec (slices_Contains_int_int_S slices_Contains_int_int))]) := (ΓOk_cons order_closed_ok (ΓOk_cons order_in_ok (ΓOk_cons slices_ContainsFunc_int_int_vorder_Allows_f1_ok (ΓOk_cons slices_Contains_int_int_ok ΓOk_nil))))
def order_Allows_p1_n (m : Nat) : order_Allows_p1_T := order_Allows_p1_l order_in slices_ContainsFunc_int_int_vorder_Allows_f1 slices_Contains_int_int m
theorem order_Allows_p1_step {β : Type} (i : Nat) (k1 k2 l t24 t25 t26 m) : (order_Allows_p1_n (i + 1) k1 k2 l t24 t25 t26 m : Option β) = order_Allows_p1_s order_in slices_ContainsFunc_int_int_vorder_Allows_f1 slices_Contains_int_int (order_Allows_p1_n i k1 k2) k1 k2 l t24 t25 t26 m := rfl
def order_Allows_p1 : order_Allows_p1_T := order_Allows_p1_n fuel
theorem order_Allows_p1_ok : PieceOk Try.prog 52 0 order_Allows_p1_code order_Allows_p1_v order_Allows_p1_o (order_Allows_p1_G order_Allows_p1) := order_Allows_p1_ok' order_closed order_in slices_ContainsFunc_int_int_vorder_Allows_f1 slices_Contains_int_int order_Allows_Γ fuel
def order_Allows : T_order_Allows := order_Allows_s order_closed order_Allows_p1
theorem order_Allows_ok : SpecOk Try.prog 48 (order_Allows_S order_Allows) := order_Allows_ok' order_closed order_in slices_ContainsFunc_int_int_vorder_Allows_f1 slices_Contains_int_int order_Allows_Γ order_Allows_p1 order_Allows_p1_ok

/-- slices.IndexFunc[[]pagewatch/api.Diff,pagewatch/api.Diff] -/
abbrev T_slices_IndexFunc_api_Diff_api_Diff_vconstraint_Fits_f2 := {β : Type} → (List (Int × (Int × Int))) → (List Int) → (Int → (List Int) → Option β) → Option β
def slices_IndexFunc_api_Diff_api_Diff_vconstraint_Fits_f2_S (c : T_slices_IndexFunc_api_Diff_api_Diff_vconstraint_Fits_f2) : Spec :=
  ⟨[(false, [.data (.slice (.prod (.int .i64) (.prod (.int .i64) (.int .i64))))]), (false, [.fn 79 [0]])], [.cells 27 [.data (.slice (.int .i64))]], [(false, [.data (.int .i64)])], [.cells 27 [.data (.slice (.int .i64))]], fun x k => c x.1.1.1 x.2.1.1 (fun r0 r1 => k (((r0, ()), ()), ((r1, ()), ())))⟩
noncomputable def slices_IndexFunc_api_Diff_api_Diff_vconstraint_Fits_f2_p1_code : Code := codeAt 26 (bodyOf Try.f83)
abbrev slices_IndexFunc_api_Diff_api_Diff_vconstraint_Fits_f2_p1_K1 (β : Type) := Int → (List Int) → Option β
abbrev slices_IndexFunc_api_Diff_api_Diff_vconstraint_Fits_f2_p1_K2 (β : Type) := (List Int) → Option β
abbrev slices_IndexFunc_api_Diff_api_Diff_vconstraint_Fits_f2_p1_T := {β : Type} → slices_IndexFunc_api_Diff_api_Diff_vconstraint_Fits_f2_p1_K1 β → slices_IndexFunc_api_Diff_api_Diff_vconstraint_Fits_f2_p1_K2 β → (List (Int × (Int × Int))) → Int → Int → (List Int) → Option β
def slices_IndexFunc_api_Diff_api_Diff_vconstraint_Fits_f2_p1_v : View := ⟨1, [0, 1, 7, 8], [(false, [.data (.slice (.prod (.int .i64) (.prod (.int .i64) (.int .i64))))]), (false, [.fn 79 [0]]), (false, [.data (.int .i64)]), (false, [.data (.int .i64)])], [.cells 27 [.data (.slice (.int .i64))]]⟩
def slices_IndexFunc_api_Diff_api_Diff_vconstraint_Fits_f2_p1_o : List (AExit × View) := [(.ret, ⟨1, [4], [(false, [.data (.int .i64)])], [.cells 27 [.data (.slice (.int .i64))]]⟩), (.exit 0, ⟨1, [], [], [.cells 27 [.data (.slice (.int .i64))]]⟩)]
@[reducible] def slices_IndexFunc_api_Diff_api_Diff_vconstraint_Fits_f2_p1_G (p : slices_IndexFunc_api_Diff_api_Diff_vconstraint_Fits_f2_p1_T) {β : Type} (d : slices_IndexFunc_api_Diff_api_Diff_vconstraint_Fits_f2_p1_v.den) (ks : Outs.K β slices_IndexFunc_api_Diff_api_Diff_vconstraint_Fits_f2_p1_o) : Option β :=
  p (fun a0 a1 => ks.1 (((a0, ()), ()), ((a1, ()), ()))) (fun a0 => ks.2.1 ((), ((a0, ()), ()))) d.1.1.1 d.1.2.2.1.1 d.1.2.2.2.1.1 d.2.1.1
section
variable (c_constraint_Fits_f2 : T_constraint_Fits_f2)
@[reducible] def slices_IndexFunc_api_Diff_api_Diff_vconstraint_Fits_f2_X : Ctx := ⟨look tab, pick1 [(79, .spec (constraint_Fits_f2_S c_constraint_Fits_f2))], false⟩
def slices_IndexFunc_api_Diff_api_Diff_vconstraint_Fits_f2_p1_s {β : Type} (rec : (List (Int × (Int × Int))) → Int → Int → (List Int) → Option β) (k1 : slices_IndexFunc_api_Diff_api_Diff_vconstraint_Fits_f2_p1_K1 β) (k2 : slices_IndexFunc_api_Diff_api_Diff_vconstraint_Fits_f2_p1_K2 β) (s : List (Int × (Int × Int))) (t7 : Int) (t8 : Int) (b0_ : List Int) : Option β :=
  cond (decide (t8 < t7))
  (cond (decide (0 ≤ t8) && decide (t8 < (List.length s : Int)))
  (let e : (Int × (Int × Int)) := List.getD s (Int.toNat t8) ((0 : Int), ((0 : Int), (0 : Int)));
  c_constraint_Fits_f2 e b0_ (fun (rFits2 : Bool) (mrFits2 : List Int) =>
  cond rFits2
  (k1 t8 mrFits2)
  (rec s t7 (IntKind.i64.wrap (t8 + (1 : Int))) mrFits2)))
  none)
  (k2 b0_)
def slices_IndexFunc_api_Diff_api_Diff_vconstraint_Fits_f2_p1_l {β : Type} : Nat → slices_IndexFunc_api_Diff_api_Diff_vconstraint_Fits_f2_p1_K1 β → slices_IndexFunc_api_Diff_api_Diff_vconstraint_Fits_f2_p1_K2 β → (List (Int × (Int × Int))) → Int → Int → (List Int) → Option β
  | 0 => fun _ _ _ _ _ _ => none
  | i + 1 => fun k1 k2 s t7 t8 b0_ => slices_IndexFunc_api_Diff_api_Diff_vconstraint_Fits_f2_p1_s c_constraint_Fits_f2 (slices_IndexFunc_api_Diff_api_Diff_vconstraint_Fits_f2_p1_l i k1 k2) k1 k2 s t7 t8 b0_
theorem slices_IndexFunc_api_Diff_api_Diff_vconstraint_Fits_f2_p1_ok' (hΓ : ΓOk Try.prog (slices_IndexFunc_api_Diff_api_Diff_vconstraint_Fits_f2_X c_constraint_Fits_f2).Γ) (i : Nat) : PieceOk Try.prog 19 1 slices_IndexFunc_api_Diff_api_Diff_vconstraint_Fits_f2_p1_code slices_IndexFunc_api_Diff_api_Diff_vconstraint_Fits_f2_p1_v slices_IndexFunc_api_Diff_api_Diff_vconstraint_Fits_f2_p1_o (slices_IndexFunc_api_Diff_api_Diff_vconstraint_Fits_f2_p1_G (slices_IndexFunc_api_Diff_api_Diff_vconstraint_Fits_f2_p1_l c_constraint_Fits_f2 i)) := by
  rw [show slices_IndexFunc_api_Diff_api_Diff_vconstraint_Fits_f2_p1_code = .loop (loopBody slices_IndexFunc_api_Diff_api_Diff_vconstraint_Fits_f2_p1_code) by kernel_rfl]
  exact piece_loop (X := (slices_IndexFunc_api_Diff_api_Diff_vconstraint_Fits_f2_X c_constraint_Fits_f2)) (p := 1) (Λ := pick1 []) (G := fun i => @fun β d ks => slices_IndexFunc_api_Diff_api_Diff_vconstraint_Fits_f2_p1_G (slices_IndexFunc_api_Diff_api_Diff_vconstraint_Fits_f2_p1_l c_constraint_Fits_f2 i) d ks) mixed tab_ok hΓ rfl (by kernel_rfl) CutsOk_nil (fun _ _ => rfl) (fun i => @fun β d ks r h => Eq.trans (b := slices_IndexFunc_api_Diff_api_Diff_vconstraint_Fits_f2_p1_G (slices_IndexFunc_api_Diff_api_Diff_vconstraint_Fits_f2_p1_l c_constraint_Fits_f2 (i + 1)) d ks) (by kernel_rfl) h) i
def slices_IndexFunc_api_Diff_api_Diff_vconstraint_Fits_f2_s (p1 : slices_IndexFunc_api_Diff_api_Diff_vconstraint_Fits_f2_p1_T) {β : Type} (s : List (Int × (Int × Int))) (b0_ : List Int) (k : (Int → (List Int) → Option β)) : Option β :=
  p1 (fun (t4 : Int) (b0_2 : List Int) =>
  k t4 b0_2) (fun (b0_2 : List Int) =>
  k (-1 : Int) b0_2) s (List.length s : Int) (0 : Int) b0_
theorem slices_IndexFunc_api_Diff_api_Diff_vconstraint_Fits_f2_ok' (hΓ : ΓOk Try.prog (slices_IndexFunc_api_Diff_api_Diff_vconstraint_Fits_f2_X c_constraint_Fits_f2).Γ) (p1 : slices_IndexFunc_api_Diff_api_Diff_vconstraint_Fits_f2_p1_T) (hp1 : PieceOk Try.prog 19 1 slices_IndexFunc_api_Diff_api_Diff_vconstraint_Fits_f2_p1_code slices_IndexFunc_api_Diff_api_Diff_vconstraint_Fits_f2_p1_v slices_IndexFunc_api_Diff_api_Diff_vconstraint_Fits_f2_p1_o (slices_IndexFunc_api_Diff_api_Diff_vconstraint_Fits_f2_p1_G p1)) : SpecOk Try.prog 83 (slices_IndexFunc_api_Diff_api_Diff_vconstraint_Fits_f2_S (slices_IndexFunc_api_Diff_api_Diff_vconstraint_Fits_f2_s p1)) :=
  spec_exec (X := (slices_IndexFunc_api_Diff_api_Diff_vconstraint_Fits_f2_X c_constraint_Fits_f2)) (Λ := pick1 [(26, pieceCut slices_IndexFunc_api_Diff_api_Diff_vconstraint_Fits_f2_p1_v slices_IndexFunc_api_Diff_api_Diff_vconstraint_Fits_f2_p1_o (slices_IndexFunc_api_Diff_api_Diff_vconstraint_Fits_f2_p1_G p1))]) (rs := [.tmp 4]) (c := bodyOf Try.f83) mixed tab_ok hΓ Try.func83 (by kernel_rfl) (by kernel_rfl) (by kernel_rfl) (by kernel_rfl) (CutsOk_cons (q := 26) (c' := slices_IndexFunc_api_Diff_api_Diff_vconstraint_Fits_f2_p1_code) (by kernel_rfl) rfl hp1 CutsOk_nil) (fun x k r h => Eq.trans (b := (slices_IndexFunc_api_Diff_api_Diff_vconstraint_Fits_f2_S (slices_IndexFunc_api_Diff_api_Diff_vconstraint_Fits_f2_s p1)).run x k) (by kernel_rfl) h)
end
theorem slices_IndexFunc_api_Diff_api_Diff_vconstraint_Fits_f2_Γ : ΓOk Try.prog (pick1 [(79, .spec (constraint_Fits_f2_S constraint_Fits_f2))]) := (ΓOk_cons constraint_Fits_f2_ok ΓOk_nil)
def slices_IndexFunc_api_Diff_api_Diff_vconstraint_Fits_f2_p1_n (m : Nat) : slices_IndexFunc_api_Diff_api_Diff_vconstraint_Fits_f2_p1_T := slices_IndexFunc_api_Diff_api_Diff_vconstraint_Fits_f2_p1_l constraint_Fits_f2 m
theorem slices_IndexFunc_api_Diff_api_Diff_vconstraint_Fits_f2_p1_step {β : Type} (i : Nat) (k1 k2 s t7 t8 b0_) : (slices_IndexFunc_api_Diff_api_Diff_vconstraint_Fits_f2_p1_n (i + 1) k1 k2 s t7 t8 b0_ : Option β) = slices_IndexFunc_api_Diff_api_Diff_vconstraint_Fits_f2_p1_s constraint_Fits_f2 (slices_IndexFunc_api_Diff_api_Diff_vconstraint_Fits_f2_p1_n i k1 k2) k1 k2 s t7 t8 b0_ := rfl
def slices_IndexFunc_api_Diff_api_Diff_vconstraint_Fits_f2_p1 : slices_IndexFunc_api_Diff_api_Diff_vconstraint_Fits_f2_p1_T := slices_IndexFunc_api_Diff_api_Diff_vconstraint_Fits_f2_p1_n fuel
theorem slices_IndexFunc_api_Diff_api_Diff_vconstraint_Fits_f2_p1_ok : PieceOk Try.prog 19 1 slices_IndexFunc_api_Diff_api_Diff_vconstraint_Fits_f2_p1_code slices_IndexFunc_api_Diff_api_Diff_vconstraint_Fits_f2_p1_v slices_IndexFunc_api_Diff_api_Diff_vconstraint_Fits_f2_p1_o (slices_IndexFunc_api_Diff_api_Diff_vconstraint_Fits_f2_p1_G slices_IndexFunc_api_Diff_api_Diff_vconstraint_Fits_f2_p1) := slices_IndexFunc_api_Diff_api_Diff_vconstraint_Fits_f2_p1_ok' constraint_Fits_f2 slices_IndexFunc_api_Diff_api_Diff_vconstraint_Fits_f2_Γ fuel
def slices_IndexFunc_api_Diff_api_Diff_vconstraint_Fits_f2 : T_slices_IndexFunc_api_Diff_api_Diff_vconstraint_Fits_f2 := slices_IndexFunc_api_Diff_api_Diff_vconstraint_Fits_f2_s slices_IndexFunc_api_Diff_api_Diff_vconstraint_Fits_f2_p1
theorem slices_IndexFunc_api_Diff_api_Diff_vconstraint_Fits_f2_ok : SpecOk Try.prog 83 (slices_IndexFunc_api_Diff_api_Diff_vconstraint_Fits_f2_S slices_IndexFunc_api_Diff_api_Diff_vconstraint_Fits_f2) := slices_IndexFunc_api_Diff_api_Diff_vconstraint_Fits_f2_ok' constraint_Fits_f2 slices_IndexFunc_api_Diff_api_Diff_vconstraint_Fits_f2_Γ slices_IndexFunc_api_Diff_api_Diff_vconstraint_Fits_f2_p1 slices_IndexFunc_api_Diff_api_Diff_vconstraint_Fits_f2_p1_ok

/-- slices.ContainsFunc[[]pagewatch/api.Diff,pagewatch/api.Diff] -/
abbrev T_slices_ContainsFunc_api_Diff_api_Diff_vconstraint_Fits_f2 := {β : Type} → (List (Int × (Int × Int))) → (List Int) → (Bool → (List Int) → Option β) → Option β
def slices_ContainsFunc_api_Diff_api_Diff_vconstraint_Fits_f2_S (c : T_slices_ContainsFunc_api_Diff_api_Diff_vconstraint_Fits_f2) : Spec :=
  ⟨[(false, [.data (.slice (.prod (.int .i64) (.prod (.int .i64) (.int .i64))))]), (false, [.fn 79 [0]])], [.cells 27 [.data (.slice (.int .i64))]], [(false, [.data .bool])], [.cells 27 [.data (.slice (.int .i64))]], fun x k => c x.1.1.1 x.2.1.1 (fun r0 r1 => k (((r0, ()), ()), ((r1, ()), ())))⟩
section
variable (c_slices_IndexFunc_api_Diff_api_Diff_vconstraint_Fits_f2 : T_slices_IndexFunc_api_Diff_api_Diff_vconstraint_Fits_f2)
@[reducible] def slices_ContainsFunc_api_Diff_api_Diff_vconstraint_Fits_f2_X : Ctx := ⟨look tab, pick1 [(83, .spec (slices_IndexFunc_api_Diff_api_Diff_vconstraint_Fits_f2_S c_slices_IndexFunc_api_Diff_api_Diff_vconstraint_Fits_f2))], false⟩
def slices_ContainsFunc_api_Diff_api_Diff_vconstraint_Fits_f2_s {β : Type} (s : List (Int × (Int × Int))) (b0_ : List Int) (k : (Bool → (List Int) → Option β)) : Option β :=
  c_slices_IndexFunc_api_Diff_api_Diff_vconstraint_Fits_f2 s b0_ (fun (rDiff : Int) (mrDiff : List Int) =>
  let t : Bool := (decide ((0 : Int) ≤ rDiff));
  k t mrDiff)
theorem slices_ContainsFunc_api_Diff_api_Diff_vconstraint_Fits_f2_ok' (hΓ : ΓOk Try.prog (slices_ContainsFunc_api_Diff_api_Diff_vconstraint_Fits_f2_X c_slices_IndexFunc_api_Diff_api_Diff_vconstraint_Fits_f2).Γ) : SpecOk Try.prog 78 (slices_ContainsFunc_api_Diff_api_Diff_vconstraint_Fits_f2_S (slices_ContainsFunc_api_Diff_api_Diff_vconstraint_Fits_f2_s c_slices_IndexFunc_api_Diff_api_Diff_vconstraint_Fits_f2)) :=
  spec_exec (X := (slices_ContainsFunc_api_Diff_api_Diff_vconstraint_Fits_f2_X c_slices_IndexFunc_api_Diff_api_Diff_vconstraint_Fits_f2)) (Λ := pick1 []) (rs := [.tmp 4]) (c := bodyOf Try.f78) mixed tab_ok hΓ Try.func78 (by kernel_rfl) (by kernel_rfl) (by kernel_rfl) (by kernel_rfl) CutsOk_nil (fun x k r h => Eq.trans (b := (slices_ContainsFunc_api_Diff_api_Diff_vconstraint_Fits_f2_S (slices_ContainsFunc_api_Diff_api_Diff_vconstraint_Fits_f2_s c_slices_IndexFunc_api_Diff_api_Diff_vconstraint_Fits_f2)).run x k) (by kernel_rfl) h)
end
theorem slices_ContainsFunc_api_Diff_api_Diff_vconstraint_Fits_f2_Γ : ΓOk Try.prog (pick1 [(83, .spec (slices_IndexFunc_api_Diff_api_Diff_vconstraint_Fits_f2_S slices_IndexFunc_api_Diff_api_Diff_vconstraint_Fits_f2))]) := (ΓOk_cons slices_IndexFunc_api_Diff_api_Diff_vconstraint_Fits_f2_ok ΓOk_nil)
def slices_ContainsFunc_api_Diff_api_Diff_vconstraint_Fits_f2 : T_slices_ContainsFunc_api_Diff_api_Diff_vconstraint_Fits_f2 := slices_ContainsFunc_api_Diff_api_Diff_vconstraint_Fits_f2_s slices_IndexFunc_api_Diff_api_Diff_vconstraint_Fits_f2
theorem slices_ContainsFunc_api_Diff_api_Diff_vconstraint_Fits_f2_ok : SpecOk Try.prog 78 (slices_ContainsFunc_api_Diff_api_Diff_vconstraint_Fits_f2_S slices_ContainsFunc_api_Diff_api_Diff_vconstraint_Fits_f2) := slices_ContainsFunc_api_Diff_api_Diff_vconstraint_Fits_f2_ok' slices_IndexFunc_api_Diff_api_Diff_vconstraint_Fits_f2 slices_ContainsFunc_api_Diff_api_Diff_vconstraint_Fits_f2_Γ

/-- pagewatch/constraint.Fits -/
abbrev T_constraint_Fits := {β : Type} → Int → (List (Int × (Int × Int))) → (List Int) → (Bool → Option β) → Option β
def constraint_Fits_S (c : T_constraint_Fits) : Spec :=
  ⟨[(false, [.data (.int .i64)]), (false, [.data (.slice (.prod (.int .i64) (.prod (.int .i64) (.int .i64))))]), (false, [.data (.slice (.int .i64))])], [], [(false, [.data .bool])], [], fun x k => c x.1.1.1 x.1.2.1.1 x.1.2.2.1.1 (fun r0 => k (((r0, ()), ()), ()))⟩
section
variable (c_constraint_Valid : T_constraint_Valid) (c_slices_ContainsFunc_api_Diff_api_Diff_vconstraint_Fits_f2 : T_slices_ContainsFunc_api_Diff_api_Diff_vconstraint_Fits_f2) (c_slices_ContainsFunc_int_int_vconstraint_Fits_f1 : T_slices_ContainsFunc_int_int_vconstraint_Fits_f1)
@[reducible] def constraint_Fits_X : Ctx := ⟨look tab, pick1 [(75, .spec (constraint_Valid_S c_constraint_Valid)), (78, .spec (slices_ContainsFunc_api_Diff_api_Diff_vconstraint_Fits_f2_S c_slices_ContainsFunc_api_Diff_api_Diff_vconstraint_Fits_f2)), (65, .spec (slices_ContainsFunc_int_int_vconstraint_Fits_f1_S c_slices_ContainsFunc_int_int_vconstraint_Fits_f1))], false⟩
def constraint_Fits_s {β : Type} (n : Int) (l : List (Int × (Int × Int))) (x : List Int) (k : (Bool → Option β)) : Option β :=
  c_constraint_Valid n l (fun (rValid : Bool) =>
  cond (!rValid)
  (k false)
  (cond (!decide ((List.length x : Int) = n))
  (k false)
  (c_slices_ContainsFunc_int_int_vconstraint_Fits_f1 x (fun (rContainsFuncintint : Bool) =>
  cond rContainsFuncintint
  (k false)
  (c_slices_ContainsFunc_api_Diff_api_Diff_vconstraint_Fits_f2 l x (fun (rDiff : Bool) (mrDiff : List Int) =>
  k (!rDiff)))))))
theorem constraint_Fits_ok' (hΓ : ΓOk Try.prog (constraint_Fits_X c_constraint_Valid c_slices_ContainsFunc_api_Diff_api_Diff_vconstraint_Fits_f2 c_slices_ContainsFunc_int_int_vconstraint_Fits_f1).Γ) : SpecOk Try.prog 68 (constraint_Fits_S (constraint_Fits_s c_constraint_Valid c_slices_ContainsFunc_api_Diff_api_Diff_vconstraint_Fits_f2 c_slices_ContainsFunc_int_int_vconstraint_Fits_f1)) :=
  spec_exec (X := (constraint_Fits_X c_constraint_Valid c_slices_ContainsFunc_api_Diff_api_Diff_vconstraint_Fits_f2 c_slices_ContainsFunc_int_int_vconstraint_Fits_f1)) (Λ := pick1 []) (rs := [.tmp 6]) (c := bodyOf Try.f68) mixed tab_ok hΓ Try.func68 (by kernel_rfl) (by kernel_rfl) (by kernel_rfl) (by kernel_rfl) CutsOk_nil (fun x k r h => Eq.trans (b := (constraint_Fits_S (constraint_Fits_s c_constraint_Valid c_slices_ContainsFunc_api_Diff_api_Diff_vconstraint_Fits_f2 c_slices_ContainsFunc_int_int_vconstraint_Fits_f1)).run x k) (by kernel_rfl) h)
end
theorem constraint_Fits_Γ : ΓOk Try.prog (pick1 [(75, .spec (constraint_Valid_S constraint_Valid)), (78, .spec (slices_ContainsFunc_api_Diff_api_Diff_vconstraint_Fits_f2_S slices_ContainsFunc_api_Diff_api_Diff_vconstraint_Fits_f2)), (65, .spec (slices_ContainsFunc_int_int_vconstraint_Fits_f1_S slices_ContainsFunc_int_int_vconstraint_Fits_f1))]) := (ΓOk_cons constraint_Valid_ok (ΓOk_cons slices_ContainsFunc_api_Diff_api_Diff_vconstraint_Fits_f2_ok (ΓOk_cons slices_ContainsFunc_int_int_vconstraint_Fits_f1_ok ΓOk_nil)))
def constraint_Fits : T_constraint_Fits := constraint_Fits_s constraint_Valid slices_ContainsFunc_api_Diff_api_Diff_vconstraint_Fits_f2 slices_ContainsFunc_int_int_vconstraint_Fits_f1
theorem constraint_Fits_ok : SpecOk Try.prog 68 (constraint_Fits_S constraint_Fits) := constraint_Fits_ok' constraint_Valid slices_ContainsFunc_api_Diff_api_Diff_vconstraint_Fits_f2 slices_ContainsFunc_int_int_vconstraint_Fits_f1 constraint_Fits_Γ

/-- pagewatch/order.Fits -/
abbrev T_order_Fits := {β : Type} → api_Record → (List Int) → (Bool → Option β) → Option β
def order_Fits_S (c : T_order_Fits) : Spec :=
  ⟨[(true, [.data y_api_Record]), (false, [.data (.slice (.int .i64))])], [], [(false, [.data .bool])], [], fun x k => c x.1.1.1 x.1.2.1.1 (fun r0 => k (((r0, ()), ()), ()))⟩
section
variable (c_constraint_Fits : T_constraint_Fits) (c_order_Consistent : T_order_Consistent) (c_order_Constraints : T_order_Constraints) (c_slices_ContainsFunc_int_int_vorder_Fits_f1 : T_slices_ContainsFunc_int_int_vorder_Fits_f1)
@[reducible] def order_Fits_X : Ctx := ⟨look tab, pick1 [(68, .spec (constraint_Fits_S c_constraint_Fits)), (42, .spec (order_Consistent_S c_order_Consistent)), (64, .spec (order_Constraints_S c_order_Constraints)), (65, .spec (slices_ContainsFunc_int_int_vorder_Fits_f1_S c_slices_ContainsFunc_int_int_vorder_Fits_f1))], false⟩
def order_Fits_s {β : Type} (r_ : api_Record) (times : List Int) (k : (Bool → Option β)) : Option β :=
  c_order_Constraints r_ (fun (rConstraints : Bool) (lrConstraints : List (Int × (Int × Int))) =>
  c_order_Consistent r_ (fun (rConsistent : Bool) =>
  cond (!rConsistent)
  (k false)
  (cond (!decide ((List.length times : Int) = (List.length r_.2.2.1 : Int)))
  (k false)
  (c_slices_ContainsFunc_int_int_vorder_Fits_f1 times (fun (rContainsFuncintint : Bool) =>
  cond rContainsFuncintint
  (k false)
  (let l : List Int := ([(0 : Int)] : List Int);
  cond (decide ((List.length l + List.length times) * 8 ≤ roomMax))
  (let l2 : List Int := (l ++ times);
  c_constraint_Fits (IntKind.i64.wrap ((List.length times : Int) + (1 : Int))) lrConstraints l2 (fun (rFits : Bool) =>
  k rFits))
  none))))))
theorem order_Fits_ok' (hΓ : ΓOk Try.prog (order_Fits_X c_constraint_Fits c_order_Consistent c_order_Constraints c_slices_ContainsFunc_int_int_vorder_Fits_f1).Γ) : SpecOk Try.prog 44 (order_Fits_S (order_Fits_s c_constraint_Fits c_order_Consistent c_order_Constraints c_slices_ContainsFunc_int_int_vorder_Fits_f1)) :=
  spec_exec (X := (order_Fits_X c_constraint_Fits c_order_Consistent c_order_Constraints c_slices_ContainsFunc_int_int_vorder_Fits_f1)) (Λ := pick1 []) (rs := [.tmp 4]) (c := bodyOf Try.f44) mixed tab_ok hΓ Try.func44 (by kernel_rfl) (by kernel_rfl) (by kernel_rfl) (by kernel_rfl) CutsOk_nil (fun x k r h => Eq.trans (b := (order_Fits_S (order_Fits_s c_constraint_Fits c_order_Consistent c_order_Constraints c_slices_ContainsFunc_int_int_vorder_Fits_f1)).run x k) (by kernel_rfl) h)
end
theorem order_Fits_Γ : ΓOk Try.prog (pick1 [(68, .spec (constraint_Fits_S constraint_Fits)), (42, .spec (order_Consistent_S order_Consistent)), (64, .spec (order_Constraints_S order_Constraints)), (65, .spec (slices_ContainsFunc_int_int_vorder_Fits_f1_S slices_ContainsFunc_int_int_vorder_Fits_f1))]) := (ΓOk_cons constraint_Fits_ok (ΓOk_cons order_Consistent_ok (ΓOk_cons order_Constraints_ok (ΓOk_cons slices_ContainsFunc_int_int_vorder_Fits_f1_ok ΓOk_nil))))
def order_Fits : T_order_Fits := order_Fits_s constraint_Fits order_Consistent order_Constraints slices_ContainsFunc_int_int_vorder_Fits_f1
theorem order_Fits_ok : SpecOk Try.prog 44 (order_Fits_S order_Fits) := order_Fits_ok' constraint_Fits order_Consistent order_Constraints slices_ContainsFunc_int_int_vorder_Fits_f1 order_Fits_Γ
end
end Go.Lift
