import Derived.Test.YtmghopaimcoloaaLiftZ
import Derived.Test.YtmghopaimcoloaaProg
namespace Go.Lift
open Go.Proofs
noncomputable section
set_option maxRecDepth 100000
set_option linter.unusedVariables false

abbrev api_Task := (List UInt8 × (Int × (Int × Int)))
abbrev y_api_Task : Ty := (.prod .str (.prod (.int .i64) (.prod (.int .i64) (.int .i64))))
abbrev api_Update := (Int × (Int × (List UInt8 × List Int)))
abbrev y_api_Update : Ty := (.prod (.int .i64) (.prod (.int .i64) (.prod .str (.slice (.int .i64)))))
abbrev api_Review := (Int × ((Int × Int) × ((Int × Int) × ((Int × Int) × (Int × (Int × Int))))))
abbrev y_api_Review : Ty := (.prod (.int .i64) (.prod (.prod (.int .i64) (.int .i64)) (.prod (.prod (.int .i64) (.int .i64)) (.prod (.prod (.int .i64) (.int .i64)) (.prod (.int .i64) (.prod (.int .i64) (.int .i64)))))))
abbrev api_Incident := (Int × (Int × (Int × (Int × (List UInt8 × ((Int × (Int × Int)) × (List Int × (List api_Task × (List api_Update × (List Int × (List (Int × (Int × Int)) × Int)))))))))))
abbrev y_api_Incident : Ty := (.prod (.int .i64) (.prod (.int .i64) (.prod (.int .i64) (.prod (.int .i64) (.prod .str (.prod (.prod (.int .i64) (.prod (.int .i64) (.int .i64))) (.prod (.slice (.int .i64)) (.prod (.slice y_api_Task) (.prod (.slice y_api_Update) (.prod (.slice (.int .i64)) (.prod (.slice (.prod (.int .i64) (.prod (.int .i64) (.int .i64)))) (.int .i64))))))))))))

def tab : List (Nat × TI) := [
  (3, ⟨false, 1, 8, [.int .i64 (0 : Int)], [], none, none, (some (.int .i64)), (some .i64), false, false, none, none⟩),
  (5, ⟨false, 1, 1, [.int .u8 (0 : Int)], [], none, none, (some (.int .u8)), (some .u8), false, false, none, none⟩),
  (22, ⟨false, 1, 24, [.nils], [], (some 3), none, (some (.slice (.int .i64))), none, false, false, none, none⟩),
  (44, ⟨false, 1, 24, [.nils], [], (some 48), none, (some (.slice (.prod (.int .i64) (.int .i64)))), none, false, false, none, none⟩),
  (48, ⟨true, 2, 16, [.int .i64 (0 : Int), .int .i64 (0 : Int)], [(0, 1, false), (1, 1, false)], none, none, (some (.prod (.int .i64) (.int .i64))), none, false, false, (some [.i, .i]), none⟩),
  (53, ⟨true, 2, 16, [.int .i64 (0 : Int), .int .i64 (0 : Int)], [(0, 1, false), (1, 1, false)], none, none, (some (.prod (.int .i64) (.int .i64))), none, false, false, (some [.i, .i]), none⟩),
  (86, ⟨true, 2, 32, [.nils, .int .i64 (0 : Int)], [(0, 1, false), (1, 1, false)], none, none, (some (.prod (.slice (.int .i64)) (.int .i64))), none, false, false, none, none⟩),
  (96, ⟨true, 2, 48, [.nils, .nils], [(0, 1, false), (1, 1, false)], none, none, (some (.prod (.slice (.int .i64)) (.slice (.int .i64)))), none, false, false, none, none⟩),
  (98, ⟨true, 2, 48, [.nils, .nils], [(0, 2, true)], none, none, (some (.prod (.slice (.int .i64)) (.slice (.int .i64)))), none, false, false, none, none⟩)]

theorem tab_ok : TOk Try.prog (look tab) := TOk_of (by kernel_rfl)
theorem mixed : Try.prog.follows .mixedOrders = true := by kernel_rfl

/-- pagewatch/pagewatchmade.Light -/
abbrev T_made_Light := {β : Type} → (List Int) → (Bool → Option β) → Option β
def made_Light_S (c : T_made_Light) : Spec :=
  ⟨[(false, [.data (.slice (.int .i64))])], [], [(false, [.data .bool])], [], fun x k => c x.1.1.1 (fun r0 => k (((r0, ()), ()), ()))⟩
section
@[reducible] def made_Light_X : Ctx := ⟨look tab, pick1 [], false⟩
def made_Light_s {β : Type} (l : List Int) (k : (Bool → Option β)) : Option β :=
  let t : Bool := (decide ((List.length l : Int) ≤ (500 : Int)));
  k t
theorem made_Light_ok' (hΓ : ΓOk Try.prog made_Light_X.Γ) : SpecOk Try.prog 10 (made_Light_S (made_Light_s)) :=
  spec_exec (X := made_Light_X) (Λ := pick1 []) (rs := [.tmp 2]) (c := bodyOf Try.f10) mixed tab_ok hΓ Try.func10 (by kernel_rfl) (by kernel_rfl) (by kernel_rfl) (by kernel_rfl) CutsOk_nil (fun x k r h => Eq.trans (b := (made_Light_S (made_Light_s)).run x k) (by kernel_rfl) h)
end
theorem made_Light_Γ : ΓOk Try.prog (pick1 []) := ΓOk_nil
def made_Light : T_made_Light := made_Light_s
theorem made_Light_ok : SpecOk Try.prog 10 (made_Light_S made_Light) := made_Light_ok' made_Light_Γ

/-- pagewatch/pagewatchmade.Roll -/
abbrev T_made_Roll := {β : Type} → (List Int) → ((List Int × Int) → Option β) → Option β
def made_Roll_S (c : T_made_Roll) : Spec :=
  ⟨[(false, [.data (.slice (.int .i64))])], [], [(false, [.ptr 0 0])], [.cells 86 [.data (.prod (.slice (.int .i64)) (.int .i64))]], fun x k => c x.1.1.1 (fun r0 => k (((), ()), ((r0, ()), ())))⟩
section
@[reducible] def made_Roll_X : Ctx := ⟨look tab, pick1 [], false⟩
def made_Roll_s {β : Type} (l : List Int) (k : ((List Int × Int) → Option β)) : Option β :=
  k (l, (0 : Int))
theorem made_Roll_ok' (hΓ : ΓOk Try.prog made_Roll_X.Γ) : SpecOk Try.prog 12 (made_Roll_S (made_Roll_s)) :=
  spec_exec (X := made_Roll_X) (Λ := pick1 []) (rs := [.tmp 2]) (c := bodyOf Try.f12) mixed tab_ok hΓ Try.func12 (by kernel_rfl) (by kernel_rfl) (by kernel_rfl) (by kernel_rfl) CutsOk_nil (fun x k r h => Eq.trans (b := (made_Roll_S (made_Roll_s)).run x k) (by kernel_rfl) h)
end
theorem made_Roll_Γ : ΓOk Try.prog (pick1 []) := ΓOk_nil
def made_Roll : T_made_Roll := made_Roll_s
theorem made_Roll_ok : SpecOk Try.prog 12 (made_Roll_S made_Roll) := made_Roll_ok' made_Roll_Γ

/-- (*pagewatch/pagewatchmade.Dice).Next -/
abbrev T_made_Dice_Next := {β : Type} → Int → (List Int × Int) → (Int → (List Int × Int) → Option β) → Option β
def made_Dice_Next_S (c : T_made_Dice_Next) : Spec :=
  ⟨[(false, [.ptr 0 0]), (false, [.data (.int .i64)])], [.cells 86 [.data (.prod (.slice (.int .i64)) (.int .i64))]], [(false, [.data (.int .i64)])], [.cells 86 [.data (.prod (.slice (.int .i64)) (.int .i64))]], fun x k => c x.1.2.1.1 x.2.1.1 (fun r0 r1 => k (((r0, ()), ()), ((r1, ()), ())))⟩
section
@[reducible] def made_Dice_Next_X : Ctx := ⟨look tab, pick1 [], false⟩
def made_Dice_Next_s {β : Type} (n : Int) (d : (List Int × Int)) (k : (Int → (List Int × Int) → Option β)) : Option β :=
  cond (decide ((List.length d.1 : Int) ≤ d.2))
  (k (0 : Int) d)
  (cond (decide (n < (1 : Int)))
  (k (0 : Int) d)
  (cond (decide (0 ≤ d.2) && decide (d.2 < (List.length d.1 : Int)))
  (let e : Int := List.getD d.1 (Int.toNat d.2) (0 : Int);
  cond (!decide (n = 0))
  (cond (decide ((Int.tmod e n) < (0 : Int)))
  (let x : Int := (IntKind.i64.wrap ((Int.tmod e n) + n));
  k x (d.1, (IntKind.i64.wrap (d.2 + (1 : Int)))))
  (k (Int.tmod e n) (d.1, (IntKind.i64.wrap (d.2 + (1 : Int))))))
  none)
  none))
theorem made_Dice_Next_ok' (hΓ : ΓOk Try.prog made_Dice_Next_X.Γ) : SpecOk Try.prog 14 (made_Dice_Next_S (made_Dice_Next_s)) :=
  spec_exec (X := made_Dice_Next_X) (Λ := pick1 []) (rs := [.tmp 4]) (c := bodyOf Try.f14) mixed tab_ok hΓ Try.func14 (by kernel_rfl) (by kernel_rfl) (by kernel_rfl) (by kernel_rfl) CutsOk_nil (fun x k r h => Eq.trans (b := (made_Dice_Next_S (made_Dice_Next_s)).run x k) (by kernel_rfl) h)
end
theorem made_Dice_Next_Γ : ΓOk Try.prog (pick1 []) := ΓOk_nil
def made_Dice_Next : T_made_Dice_Next := made_Dice_Next_s
theorem made_Dice_Next_ok : SpecOk Try.prog 14 (made_Dice_Next_S made_Dice_Next) := made_Dice_Next_ok' made_Dice_Next_Γ

/-- pagewatch/pagewatchlaw42.ranges -/
abbrev T_law42_ranges := {β : Type} → (List Int × Int) → ((List Int × Int) → (List (Int × Int)) → (List Int) → Option β) → Option β
def law42_ranges_S (c : T_law42_ranges) : Spec :=
  ⟨[(false, [.ptr 0 0])], [.cells 86 [.data (.prod (.slice (.int .i64)) (.int .i64))]], [(false, [.rowh 1]), (false, [.rowh 2])], [.cells 86 [.data (.prod (.slice (.int .i64)) (.int .i64))], .row 48 (.prod (.int .i64) (.int .i64)), .row 3 (.int .i64)], fun x k => c x.2.1.1 (fun r0 r1 r2 => k (((), (), ()), ((r0, ()), r1, r2, ())))⟩
noncomputable def law42_ranges_p1_code : Code := codeAt 122 (bodyOf Try.f19)
abbrev law42_ranges_p1_K1 (β : Type) := (List Int) → Int → (List (Int × Int)) → (List Int) → Option β
abbrev law42_ranges_p1_T := {β : Type} → law42_ranges_p1_K1 β → Int → (List Int) → Int → (List (Int × Int)) → (List Int) → Option β
def law42_ranges_p1_v : View := ⟨1, [0, 4, 5, 6], [(false, [.ptr 0 0]), (false, [.rowh 1]), (false, [.rowh 2]), (false, [.data (.int .i64)])], [.cells 86 [.data (.slice (.int .i64)), .data (.int .i64)], .row 48 (.prod (.int .i64) (.int .i64)), .row 3 (.int .i64)]⟩
def law42_ranges_p1_o : List (AExit × View) := [(.exit 0, ⟨1, [4, 5], [(false, [.rowh 1]), (false, [.rowh 2])], [.cells 86 [.data (.slice (.int .i64)), .data (.int .i64)], .row 48 (.prod (.int .i64) (.int .i64)), .row 3 (.int .i64)]⟩)]
@[reducible] def law42_ranges_p1_G (p : law42_ranges_p1_T) {β : Type} (d : law42_ranges_p1_v.den) (ks : Outs.K β law42_ranges_p1_o) : Option β :=
  p (fun a0 a1 a2 a3 => ks.1 (((), (), ()), ((a0, a1, ()), a2, a3, ()))) d.1.2.2.2.1.1 d.2.1.1 d.2.1.2.1 d.2.2.1 d.2.2.2.1
section
variable (c_made_Dice_Next : T_made_Dice_Next)
@[reducible] def law42_ranges_X : Ctx := ⟨look tab, pick1 [(14, .spec (made_Dice_Next_S c_made_Dice_Next))], false⟩
def law42_ranges_p1_s {β : Type} (rec : Int → (List Int) → Int → (List (Int × Int)) → (List Int) → Option β) (k1 : law42_ranges_p1_K1 β) (i_ : Int) (d : List Int) (d2 : Int) (l : List (Int × Int)) (x : List Int) : Option β :=
  cond (decide ((0 : Int) < i_))
  (c_made_Dice_Next (200 : Int) (d, d2) (fun (rNext : Int) (mrNext : (List Int × Int)) =>
  c_made_Dice_Next (20 : Int) mrNext (fun (rNext2 : Int) (mrNext2 : (List Int × Int)) =>
  c_made_Dice_Next (20 : Int) mrNext2 (fun (rNext3 : Int) (mrNext3 : (List Int × Int)) =>
  let l2 : List (Int × Int) := ([((if (0 : Int) > (IntKind.i64.wrap (rNext - rNext2)) then (0 : Int) else (IntKind.i64.wrap (rNext - rNext2))), (IntKind.i64.wrap (rNext + rNext3)))] : List (Int × Int));
  cond (decide ((List.length l + List.length l2) * 16 ≤ roomMax))
  (let l3 : List (Int × Int) := (l ++ l2);
  let l4 : List Int := ([rNext] : List Int);
  cond (decide ((List.length x + List.length l4) * 8 ≤ roomMax))
  (let l5 : List Int := (x ++ l4);
  let i_2 : Int := (IntKind.i64.wrap (i_ - (1 : Int)));
  rec i_2 mrNext3.1 mrNext3.2 l3 l5)
  none)
  none))))
  (k1 d d2 l x)
def law42_ranges_p1_l {β : Type} : Nat → law42_ranges_p1_K1 β → Int → (List Int) → Int → (List (Int × Int)) → (List Int) → Option β
  | 0 => fun _ _ _ _ _ _ => none
  | i + 1 => fun k1 i_ d d2 l x => law42_ranges_p1_s c_made_Dice_Next (law42_ranges_p1_l i k1) k1 i_ d d2 l x
theorem law42_ranges_p1_ok' (hΓ : ΓOk Try.prog (law42_ranges_X c_made_Dice_Next).Γ) (i : Nat) : PieceOk Try.prog 36 1 law42_ranges_p1_code law42_ranges_p1_v law42_ranges_p1_o (law42_ranges_p1_G (law42_ranges_p1_l c_made_Dice_Next i)) := by
  rw [show law42_ranges_p1_code = .loop (loopBody law42_ranges_p1_code) by kernel_rfl]
  exact piece_loop (X := (law42_ranges_X c_made_Dice_Next)) (p := 1) (Λ := pick1 []) (G := fun i => @fun β d ks => law42_ranges_p1_G (law42_ranges_p1_l c_made_Dice_Next i) d ks) mixed tab_ok hΓ rfl (by kernel_rfl) CutsOk_nil (fun _ _ => rfl) (fun i => @fun β d ks r h => Eq.trans (b := law42_ranges_p1_G (law42_ranges_p1_l c_made_Dice_Next (i + 1)) d ks) (by kernel_rfl) h) i
def law42_ranges_s (p1 : law42_ranges_p1_T) {β : Type} (d : (List Int × Int)) (k : ((List Int × Int) → (List (Int × Int)) → (List Int) → Option β)) : Option β :=
  c_made_Dice_Next (7 : Int) d (fun (rNext : Int) (mrNext : (List Int × Int)) =>
  let i_ : Int := (IntKind.i64.wrap ((1 : Int) + rNext));
  p1 (fun (b0_ : List Int) (b0_2 : Int) (l : List (Int × Int)) (x : List Int) =>
  k (b0_, b0_2) l x) i_ mrNext.1 mrNext.2 ([] : List (Int × Int)) ([] : List Int))
theorem law42_ranges_ok' (hΓ : ΓOk Try.prog (law42_ranges_X c_made_Dice_Next).Γ) (p1 : law42_ranges_p1_T) (hp1 : PieceOk Try.prog 36 1 law42_ranges_p1_code law42_ranges_p1_v law42_ranges_p1_o (law42_ranges_p1_G p1)) : SpecOk Try.prog 19 (law42_ranges_S (law42_ranges_s c_made_Dice_Next p1)) :=
  spec_exec (X := (law42_ranges_X c_made_Dice_Next)) (Λ := pick1 [(122, pieceCut law42_ranges_p1_v law42_ranges_p1_o (law42_ranges_p1_G p1))]) (rs := [.tmp 2, .tmp 3]) (c := bodyOf Try.f19) mixed tab_ok hΓ Try.func19 (by kernel_rfl) (by kernel_rfl) (by kernel_rfl) (by kernel_rfl) (CutsOk_cons (q := 122) (c' := law42_ranges_p1_code) (by kernel_rfl) rfl hp1 CutsOk_nil) (fun x k r h => Eq.trans (b := (law42_ranges_S (law42_ranges_s c_made_Dice_Next p1)).run x k) (by kernel_rfl) h)
end
theorem law42_ranges_Γ : ΓOk Try.prog (pick1 [(14, .spec (made_Dice_Next_S made_Dice_Next))]) := (ΓOk_cons made_Dice_Next_ok ΓOk_nil)
def law42_ranges_p1_n (m : Nat) : law42_ranges_p1_T := law42_ranges_p1_l made_Dice_Next m
theorem law42_ranges_p1_step {β : Type} (i : Nat) (k1 i_ d d2 l x) : (law42_ranges_p1_n (i + 1) k1 i_ d d2 l x : Option β) = law42_ranges_p1_s made_Dice_Next (law42_ranges_p1_n i k1) k1 i_ d d2 l x := rfl
def law42_ranges_p1 : law42_ranges_p1_T := law42_ranges_p1_n fuel
theorem law42_ranges_p1_ok : PieceOk Try.prog 36 1 law42_ranges_p1_code law42_ranges_p1_v law42_ranges_p1_o (law42_ranges_p1_G law42_ranges_p1) := law42_ranges_p1_ok' made_Dice_Next law42_ranges_Γ fuel
def law42_ranges : T_law42_ranges := law42_ranges_s made_Dice_Next law42_ranges_p1
theorem law42_ranges_ok : SpecOk Try.prog 19 (law42_ranges_S law42_ranges) := law42_ranges_ok' made_Dice_Next law42_ranges_Γ law42_ranges_p1 law42_ranges_p1_ok

/-- pagewatch/review.sum -/
abbrev T_review_sum := {β : Type} → (List (Int × Int)) → ((Int × Int) → Option β) → Option β
def review_sum_S (c : T_review_sum) : Spec :=
  ⟨[(false, [.data (.slice (.prod (.int .i64) (.int .i64)))])], [], [(true, [.data (.prod (.int .i64) (.int .i64))])], [], fun x k => c x.1.1.1 (fun r0 => k (((r0, ()), ()), ()))⟩
noncomputable def review_sum_p1_code : Code := codeAt 58 (bodyOf Try.f51)
abbrev review_sum_p1_K1 (β : Type) := Int → Int → Int → Int → Option β
abbrev review_sum_p1_T := {β : Type} → review_sum_p1_K1 β → (List (Int × Int)) → Int → Int → Int → Int → Int → Int → Option β
def review_sum_p1_v : View := ⟨0, [2, 3, 6, 7, 8], [(false, [.ptr 0 0]), (false, [.ptr 1 0]), (false, [.data (.slice (.prod (.int .i64) (.int .i64)))]), (false, [.data (.int .i64)]), (false, [.data (.int .i64)])], [.cells 48 [.data (.int .i64), .data (.int .i64)], .cells 48 [.data (.int .i64), .data (.int .i64)]]⟩
def review_sum_p1_o : List (AExit × View) := [(.exit 0, ⟨0, [2, 3], [(false, [.ptr 0 0]), (false, [.ptr 1 0])], [.cells 48 [.data (.int .i64), .data (.int .i64)], .cells 48 [.data (.int .i64), .data (.int .i64)]]⟩)]
@[reducible] def review_sum_p1_G (p : review_sum_p1_T) {β : Type} (d : review_sum_p1_v.den) (ks : Outs.K β review_sum_p1_o) : Option β :=
  p (fun a0 a1 a2 a3 => ks.1 (((), (), ()), ((a0, a1, ()), (a2, a3, ()), ()))) d.1.2.2.1.1 d.1.2.2.2.1.1 d.1.2.2.2.2.1.1 d.2.1.1 d.2.1.2.1 d.2.2.1.1 d.2.2.1.2.1
section
@[reducible] def review_sum_X : Ctx := ⟨look tab, pick1 [], false⟩
def review_sum_p1_s {β : Type} (rec : (List (Int × Int)) → Int → Int → Int → Int → Int → Int → Option β) (k1 : review_sum_p1_K1 β) (t6 : List (Int × Int)) (t7 : Int) (t8 : Int) (t2 : Int) (t22 : Int) (out : Int) (out2 : Int) : Option β :=
  cond (decide (t8 < t7))
  (cond (decide (0 ≤ t8) && decide (t8 < (List.length t6 : Int)))
  (let e : (Int × Int) := List.getD t6 (Int.toNat t8) ((0 : Int), (0 : Int));
  rec t6 t7 (IntKind.i64.wrap (t8 + (1 : Int))) t2 t22 (IntKind.i64.wrap (out + e.1)) (IntKind.i64.wrap (out2 + e.2)))
  none)
  (k1 t2 t22 out out2)
def review_sum_p1_l {β : Type} : Nat → review_sum_p1_K1 β → (List (Int × Int)) → Int → Int → Int → Int → Int → Int → Option β
  | 0 => fun _ _ _ _ _ _ _ _ => none
  | i + 1 => fun k1 t6 t7 t8 t2 t22 out out2 => review_sum_p1_s (review_sum_p1_l i k1) k1 t6 t7 t8 t2 t22 out out2
theorem review_sum_p1_ok' (hΓ : ΓOk Try.prog review_sum_X.Γ) (i : Nat) : PieceOk Try.prog 26 0 review_sum_p1_code review_sum_p1_v review_sum_p1_o (review_sum_p1_G (review_sum_p1_l i)) := by
  rw [show review_sum_p1_code = .loop (loopBody review_sum_p1_code) by kernel_rfl]
  exact piece_loop (X := review_sum_X) (p := 1) (Λ := pick1 []) (G := fun i => @fun β d ks => review_sum_p1_G (review_sum_p1_l i) d ks) mixed tab_ok hΓ rfl (by kernel_rfl) CutsOk_nil (fun _ _ => rfl) (fun i => @fun β d ks r h => Eq.trans (b := review_sum_p1_G (review_sum_p1_l (i + 1)) d ks) (by kernel_rfl) h) i
def review_sum_s (p1 : review_sum_p1_T) {β : Type} (l : List (Int × Int)) (k : ((Int × Int) → Option β)) : Option β :=
  p1 (fun (t2 : Int) (t22 : Int) (out : Int) (out2 : Int) =>
  k (out, out2)) l (List.length l : Int) (0 : Int) (0 : Int) (0 : Int) (0 : Int) (0 : Int)
theorem review_sum_ok' (hΓ : ΓOk Try.prog review_sum_X.Γ) (p1 : review_sum_p1_T) (hp1 : PieceOk Try.prog 26 0 review_sum_p1_code review_sum_p1_v review_sum_p1_o (review_sum_p1_G p1)) : SpecOk Try.prog 51 (review_sum_S (review_sum_s p1)) :=
  spec_exec (X := review_sum_X) (Λ := pick1 [(58, pieceCut review_sum_p1_v review_sum_p1_o (review_sum_p1_G p1))]) (rs := [.cell 2 48]) (c := bodyOf Try.f51) mixed tab_ok hΓ Try.func51 (by kernel_rfl) (by kernel_rfl) (by kernel_rfl) (by kernel_rfl) (CutsOk_cons (q := 58) (c' := review_sum_p1_code) (by kernel_rfl) rfl hp1 CutsOk_nil) (fun x k r h => Eq.trans (b := (review_sum_S (review_sum_s p1)).run x k) (by kernel_rfl) h)
end
theorem review_sum_Γ : ΓOk Try.prog (pick1 []) := ΓOk_nil
def review_sum_p1_n (m : Nat) : review_sum_p1_T := review_sum_p1_l m
theorem review_sum_p1_step {β : Type} (i : Nat) (k1 t6 t7 t8 t2 t22 out out2) : (review_sum_p1_n (i + 1) k1 t6 t7 t8 t2 t22 out out2 : Option β) = review_sum_p1_s (review_sum_p1_n i k1) k1 t6 t7 t8 t2 t22 out out2 := rfl
def review_sum_p1 : review_sum_p1_T := review_sum_p1_n fuel
theorem review_sum_p1_ok : PieceOk Try.prog 26 0 review_sum_p1_code review_sum_p1_v review_sum_p1_o (review_sum_p1_G review_sum_p1) := review_sum_p1_ok' review_sum_Γ fuel
def review_sum : T_review_sum := review_sum_s review_sum_p1
theorem review_sum_ok : SpecOk Try.prog 51 (review_sum_S review_sum) := review_sum_ok' review_sum_Γ review_sum_p1 review_sum_p1_ok

/-- pagewatch/review.in -/
abbrev T_review_in := {β : Type} → Int → Int → Int → (Bool → Option β) → Option β
def review_in_S (c : T_review_in) : Spec :=
  ⟨[(false, [.data (.int .i64)]), (false, [.data (.int .i64)]), (false, [.data (.int .i64)])], [], [(false, [.data .bool])], [], fun x k => c x.1.1.1 x.1.2.1.1 x.1.2.2.1.1 (fun r0 => k (((r0, ()), ()), ()))⟩
section
@[reducible] def review_in_X : Ctx := ⟨look tab, pick1 [], false⟩
def review_in_s {β : Type} (n : Int) (low : Int) (high : Int) (k : (Bool → Option β)) : Option β :=
  cond (decide (low ≤ n))
  (k (decide (n ≤ high)))
  (k false)
theorem review_in_ok' (hΓ : ΓOk Try.prog review_in_X.Γ) : SpecOk Try.prog 52 (review_in_S (review_in_s)) :=
  spec_exec (X := review_in_X) (Λ := pick1 []) (rs := [.tmp 6]) (c := bodyOf Try.f52) mixed tab_ok hΓ Try.func52 (by kernel_rfl) (by kernel_rfl) (by kernel_rfl) (by kernel_rfl) CutsOk_nil (fun x k r h => Eq.trans (b := (review_in_S (review_in_s)).run x k) (by kernel_rfl) h)
end
theorem review_in_Γ : ΓOk Try.prog (pick1 []) := ΓOk_nil
def review_in : T_review_in := review_in_s
theorem review_in_ok : SpecOk Try.prog 52 (review_in_S review_in) := review_in_ok' review_in_Γ

/-- pagewatch/pagewatchref02.in -/
abbrev T_ref02_in := {β : Type} → Int → (Bool → Option β) → Option β
def ref02_in_S (c : T_ref02_in) : Spec :=
  ⟨[(false, [.data (.int .i64)])], [], [(false, [.data .bool])], [], fun x k => c x.1.1.1 (fun r0 => k (((r0, ()), ()), ()))⟩
section
@[reducible] def ref02_in_X : Ctx := ⟨look tab, pick1 [], false⟩
def ref02_in_s {β : Type} (n : Int) (k : (Bool → Option β)) : Option β :=
  cond (decide ((-4611686018427387904 : Int) ≤ n))
  (let t : Bool := (decide (n ≤ (4611686018427387904 : Int)));
  k t)
  (k false)
theorem ref02_in_ok' (hΓ : ΓOk Try.prog ref02_in_X.Γ) : SpecOk Try.prog 55 (ref02_in_S (ref02_in_s)) :=
  spec_exec (X := ref02_in_X) (Λ := pick1 []) (rs := [.tmp 2]) (c := bodyOf Try.f55) mixed tab_ok hΓ Try.func55 (by kernel_rfl) (by kernel_rfl) (by kernel_rfl) (by kernel_rfl) CutsOk_nil (fun x k r h => Eq.trans (b := (ref02_in_S (ref02_in_s)).run x k) (by kernel_rfl) h)
end
theorem ref02_in_Γ : ΓOk Try.prog (pick1 []) := ΓOk_nil
def ref02_in : T_ref02_in := ref02_in_s
theorem ref02_in_ok : SpecOk Try.prog 55 (ref02_in_S ref02_in) := ref02_in_ok' ref02_in_Γ

/-- pagewatch/pagewatchref02.gcd -/
abbrev T_ref02_gcd := {β : Type} → Int → Int → (Int → Option β) → Option β
def ref02_gcd_S (c : T_ref02_gcd) : Spec :=
  ⟨[(false, [.data (.int .i64)]), (false, [.data (.int .i64)])], [], [(false, [.data (.int .i64)])], [], fun x k => c x.1.1.1 x.1.2.1.1 (fun r0 => k (((r0, ()), ()), ()))⟩
noncomputable def ref02_gcd_p1_code : Code := codeAt 12 (bodyOf Try.f56)
abbrev ref02_gcd_p1_K1 (β : Type) := Int → Option β
abbrev ref02_gcd_p1_T := {β : Type} → ref02_gcd_p1_K1 β → Int → Int → Option β
def ref02_gcd_p1_v : View := ⟨0, [0, 1], [(false, [.data (.int .i64)]), (false, [.data (.int .i64)])], []⟩
def ref02_gcd_p1_o : List (AExit × View) := [(.exit 0, ⟨0, [0], [(false, [.data (.int .i64)])], []⟩)]
@[reducible] def ref02_gcd_p1_G (p : ref02_gcd_p1_T) {β : Type} (d : ref02_gcd_p1_v.den) (ks : Outs.K β ref02_gcd_p1_o) : Option β :=
  p (fun a0 => ks.1 (((a0, ()), ()), ())) d.1.1.1 d.1.2.1.1
section
@[reducible] def ref02_gcd_X : Ctx := ⟨look tab, pick1 [], false⟩
def ref02_gcd_p1_s {β : Type} (rec : Int → Int → Option β) (k1 : ref02_gcd_p1_K1 β) (a : Int) (b : Int) : Option β :=
  cond (!decide (b = (0 : Int)))
  (cond (!decide (b = 0))
  (rec b (Int.tmod a b))
  none)
  (k1 a)
def ref02_gcd_p1_l {β : Type} : Nat → ref02_gcd_p1_K1 β → Int → Int → Option β
  | 0 => fun _ _ _ => none
  | i + 1 => fun k1 a b => ref02_gcd_p1_s (ref02_gcd_p1_l i k1) k1 a b
theorem ref02_gcd_p1_ok' (hΓ : ΓOk Try.prog ref02_gcd_X.Γ) (i : Nat) : PieceOk Try.prog 12 0 ref02_gcd_p1_code ref02_gcd_p1_v ref02_gcd_p1_o (ref02_gcd_p1_G (ref02_gcd_p1_l i)) := by
  rw [show ref02_gcd_p1_code = .loop (loopBody ref02_gcd_p1_code) by kernel_rfl]
  exact piece_loop (X := ref02_gcd_X) (p := 1) (Λ := pick1 []) (G := fun i => @fun β d ks => ref02_gcd_p1_G (ref02_gcd_p1_l i) d ks) mixed tab_ok hΓ rfl (by kernel_rfl) CutsOk_nil (fun _ _ => rfl) (fun i => @fun β d ks r h => Eq.trans (b := ref02_gcd_p1_G (ref02_gcd_p1_l (i + 1)) d ks) (by kernel_rfl) h) i
def ref02_gcd_s (p1 : ref02_gcd_p1_T) {β : Type} (a : Int) (b : Int) (k : (Int → Option β)) : Option β :=
  p1 (fun (a2 : Int) =>
  k a2) a b
theorem ref02_gcd_ok' (hΓ : ΓOk Try.prog ref02_gcd_X.Γ) (p1 : ref02_gcd_p1_T) (hp1 : PieceOk Try.prog 12 0 ref02_gcd_p1_code ref02_gcd_p1_v ref02_gcd_p1_o (ref02_gcd_p1_G p1)) : SpecOk Try.prog 56 (ref02_gcd_S (ref02_gcd_s p1)) :=
  spec_exec (X := ref02_gcd_X) (Λ := pick1 [(12, pieceCut ref02_gcd_p1_v ref02_gcd_p1_o (ref02_gcd_p1_G p1))]) (rs := [.tmp 4]) (c := bodyOf Try.f56) mixed tab_ok hΓ Try.func56 (by kernel_rfl) (by kernel_rfl) (by kernel_rfl) (by kernel_rfl) (CutsOk_cons (q := 12) (c' := ref02_gcd_p1_code) (by kernel_rfl) rfl hp1 CutsOk_nil) (fun x k r h => Eq.trans (b := (ref02_gcd_S (ref02_gcd_s p1)).run x k) (by kernel_rfl) h)
end
theorem ref02_gcd_Γ : ΓOk Try.prog (pick1 []) := ΓOk_nil
def ref02_gcd_p1_n (m : Nat) : ref02_gcd_p1_T := ref02_gcd_p1_l m
theorem ref02_gcd_p1_step {β : Type} (i : Nat) (k1 a b) : (ref02_gcd_p1_n (i + 1) k1 a b : Option β) = ref02_gcd_p1_s (ref02_gcd_p1_n i k1) k1 a b := rfl
def ref02_gcd_p1 : ref02_gcd_p1_T := ref02_gcd_p1_n fuel
theorem ref02_gcd_p1_ok : PieceOk Try.prog 12 0 ref02_gcd_p1_code ref02_gcd_p1_v ref02_gcd_p1_o (ref02_gcd_p1_G ref02_gcd_p1) := ref02_gcd_p1_ok' ref02_gcd_Γ fuel
def ref02_gcd : T_ref02_gcd := ref02_gcd_s ref02_gcd_p1
theorem ref02_gcd_ok : SpecOk Try.prog 56 (ref02_gcd_S ref02_gcd) := ref02_gcd_ok' ref02_gcd_Γ ref02_gcd_p1 ref02_gcd_p1_ok

/-- pagewatch/pagewatchref02.size -/
abbrev T_ref02_size := {β : Type} → Int → (Int → Option β) → Option β
def ref02_size_S (c : T_ref02_size) : Spec :=
  ⟨[(false, [.data (.int .i64)])], [], [(false, [.data (.int .i64)])], [], fun x k => c x.1.1.1 (fun r0 => k (((r0, ()), ()), ()))⟩
section
@[reducible] def ref02_size_X : Ctx := ⟨look tab, pick1 [], false⟩
def ref02_size_s {β : Type} (n : Int) (k : (Int → Option β)) : Option β :=
  cond (decide (n < (0 : Int)))
  (let t : Int := (IntKind.i64.wrap (0 - n));
  k t)
  (k n)
theorem ref02_size_ok' (hΓ : ΓOk Try.prog ref02_size_X.Γ) : SpecOk Try.prog 57 (ref02_size_S (ref02_size_s)) :=
  spec_exec (X := ref02_size_X) (Λ := pick1 []) (rs := [.tmp 2]) (c := bodyOf Try.f57) mixed tab_ok hΓ Try.func57 (by kernel_rfl) (by kernel_rfl) (by kernel_rfl) (by kernel_rfl) CutsOk_nil (fun x k r h => Eq.trans (b := (ref02_size_S (ref02_size_s)).run x k) (by kernel_rfl) h)
end
theorem ref02_size_Γ : ΓOk Try.prog (pick1 []) := ΓOk_nil
def ref02_size : T_ref02_size := ref02_size_s
theorem ref02_size_ok : SpecOk Try.prog 57 (ref02_size_S ref02_size) := ref02_size_ok' ref02_size_Γ

/-- pagewatch/pagewatchref02.Valid -/
abbrev T_ref02_Valid := {β : Type} → (Int × Int) → (Bool → Option β) → Option β
def ref02_Valid_S (c : T_ref02_Valid) : Spec :=
  ⟨[(true, [.data (.prod (.int .i64) (.int .i64))])], [], [(false, [.data .bool])], [], fun x k => c x.1.1.1 (fun r0 => k (((r0, ()), ()), ()))⟩
section
variable (c_ref02_gcd : T_ref02_gcd) (c_ref02_in : T_ref02_in) (c_ref02_size : T_ref02_size)
@[reducible] def ref02_Valid_X : Ctx := ⟨look tab, pick1 [(56, .spec (ref02_gcd_S c_ref02_gcd)), (55, .spec (ref02_in_S c_ref02_in)), (57, .spec (ref02_size_S c_ref02_size))], false⟩
def ref02_Valid_s {β : Type} (r_ : (Int × Int)) (k : (Bool → Option β)) : Option β :=
  c_ref02_in r_.1 (fun (rin : Bool) =>
  cond rin
  (cond (decide ((1 : Int) ≤ r_.2))
  (cond (decide (r_.2 ≤ (4611686018427387904 : Int)))
  (c_ref02_size r_.1 (fun (rsize : Int) =>
  c_ref02_gcd rsize r_.2 (fun (rgcd : Int) =>
  let t : Bool := (decide (rgcd = (1 : Int)));
  k t)))
  (k false))
  (k false))
  (k false))
theorem ref02_Valid_ok' (hΓ : ΓOk Try.prog (ref02_Valid_X c_ref02_gcd c_ref02_in c_ref02_size).Γ) : SpecOk Try.prog 58 (ref02_Valid_S (ref02_Valid_s c_ref02_gcd c_ref02_in c_ref02_size)) :=
  spec_exec (X := (ref02_Valid_X c_ref02_gcd c_ref02_in c_ref02_size)) (Λ := pick1 []) (rs := [.tmp 2]) (c := bodyOf Try.f58) mixed tab_ok hΓ Try.func58 (by kernel_rfl) (by kernel_rfl) (by kernel_rfl) (by kernel_rfl) CutsOk_nil (fun x k r h => Eq.trans (b := (ref02_Valid_S (ref02_Valid_s c_ref02_gcd c_ref02_in c_ref02_size)).run x k) (by kernel_rfl) h)
end
theorem ref02_Valid_Γ : ΓOk Try.prog (pick1 [(56, .spec (ref02_gcd_S ref02_gcd)), (55, .spec (ref02_in_S ref02_in)), (57, .spec (ref02_size_S ref02_size))]) := (ΓOk_cons ref02_gcd_ok (ΓOk_cons ref02_in_ok (ΓOk_cons ref02_size_ok ΓOk_nil)))
def ref02_Valid : T_ref02_Valid := ref02_Valid_s ref02_gcd ref02_in ref02_size
theorem ref02_Valid_ok : SpecOk Try.prog 58 (ref02_Valid_S ref02_Valid) := ref02_Valid_ok' ref02_gcd ref02_in ref02_size ref02_Valid_Γ

/-- pagewatch/pagewatchref02.less -/
abbrev T_ref02_less := {β : Type} → Int → Int → Int → Int → (Bool → Option β) → Option β
def ref02_less_S (c : T_ref02_less) : Spec :=
  ⟨[(false, [.data (.int .i64)]), (false, [.data (.int .i64)]), (false, [.data (.int .i64)]), (false, [.data (.int .i64)])], [], [(false, [.data .bool])], [], fun x k => c x.1.1.1 x.1.2.1.1 x.1.2.2.1.1 x.1.2.2.2.1.1 (fun r0 => k (((r0, ()), ()), ()))⟩
section
variable (c_ref02_less : T_ref02_less)
@[reducible] def ref02_less_X : Ctx := ⟨look tab, pick1 [(59, .spec (ref02_less_S c_ref02_less))], false⟩
def ref02_less_s {β : Type} (a : Int) (b : Int) (c : Int) (d : Int) (k : (Bool → Option β)) : Option β :=
  cond (!decide (b = 0))
  (cond (!decide (d = 0))
  (cond (!decide ((IntKind.i64.wrap (Int.tdiv a b)) = (IntKind.i64.wrap (Int.tdiv c d))))
  (cond (!decide (b = 0))
  (cond (!decide (d = 0))
  (let t : Bool := (decide ((IntKind.i64.wrap (Int.tdiv a b)) < (IntKind.i64.wrap (Int.tdiv c d))));
  k t)
  none)
  none)
  (cond (!decide (b = 0))
  (cond (!decide (d = 0))
  (let t : Bool := (decide ((Int.tmod c d) = (0 : Int)));
  cond t
  (k false)
  (let t2 : Bool := (decide ((Int.tmod a b) = (0 : Int)));
  cond t2
  (k true)
  (c_ref02_less d (Int.tmod c d) b (Int.tmod a b) (fun (rless : Bool) =>
  k rless))))
  none)
  none))
  none)
  none
theorem ref02_less_ok' (hΓ : ΓOk Try.prog (ref02_less_X c_ref02_less).Γ) : SpecOk Try.prog 59 (ref02_less_S (ref02_less_s c_ref02_less)) :=
  spec_exec (X := (ref02_less_X c_ref02_less)) (Λ := pick1 []) (rs := [.tmp 8]) (c := bodyOf Try.f59) mixed tab_ok hΓ Try.func59 (by kernel_rfl) (by kernel_rfl) (by kernel_rfl) (by kernel_rfl) CutsOk_nil (fun x k r h => Eq.trans (b := (ref02_less_S (ref02_less_s c_ref02_less)).run x k) (by kernel_rfl) h)
end
theorem ref02_less_Γ (me : T_ref02_less) (hme : SpecOk Try.prog 59 (ref02_less_S me)) : ΓOk Try.prog (pick1 [(59, .spec (ref02_less_S me))]) := (ΓOk_cons hme ΓOk_nil)
def ref02_less_n : Nat → T_ref02_less
  | 0 => fun _ _ _ _ _ => none
  | i + 1 => ref02_less_s (ref02_less_n i)
theorem ref02_less_nok : ∀ i, SpecOk Try.prog 59 (ref02_less_S (ref02_less_n i))
  | 0 => SpecOk.never ⟨_, Try.func59, by kernel_rfl, by kernel_rfl⟩ (fun _ _ => rfl)
  | i + 1 =>
    have hme := ref02_less_nok i
    have me_ok := hme
    ref02_less_ok' (ref02_less_n i) (ref02_less_Γ (ref02_less_n i) hme)
theorem ref02_less_succ {β : Type} (i : Nat) (a b c d k) : (ref02_less_n (i + 1) a b c d k : Option β) = ref02_less_s (ref02_less_n i) a b c d k := rfl
def ref02_less : T_ref02_less := ref02_less_n fuel
theorem ref02_less_ok : SpecOk Try.prog 59 (ref02_less_S ref02_less) := ref02_less_nok fuel

/-- (*pagewatch/pagewatchmade.Dice).One -/
abbrev T_made_Dice_One := {β : Type} → (List Int) → (List Int × Int) → (Int → (List Int × Int) → Option β) → Option β
def made_Dice_One_S (c : T_made_Dice_One) : Spec :=
  ⟨[(false, [.ptr 0 0]), (false, [.data (.slice (.int .i64))])], [.cells 86 [.data (.prod (.slice (.int .i64)) (.int .i64))]], [(false, [.data (.int .i64)])], [.cells 86 [.data (.prod (.slice (.int .i64)) (.int .i64))]], fun x k => c x.1.2.1.1 x.2.1.1 (fun r0 r1 => k (((r0, ()), ()), ((r1, ()), ())))⟩
section
variable (c_made_Dice_Next : T_made_Dice_Next)
@[reducible] def made_Dice_One_X : Ctx := ⟨look tab, pick1 [(14, .spec (made_Dice_Next_S c_made_Dice_Next))], false⟩
def made_Dice_One_s {β : Type} (l : List Int) (d : (List Int × Int)) (k : (Int → (List Int × Int) → Option β)) : Option β :=
  c_made_Dice_Next (List.length l : Int) d (fun (rNext : Int) (mrNext : (List Int × Int)) =>
  cond (decide (0 ≤ rNext) && decide (rNext < (List.length l : Int)))
  (let e : Int := List.getD l (Int.toNat rNext) (0 : Int);
  k e mrNext)
  none)
theorem made_Dice_One_ok' (hΓ : ΓOk Try.prog (made_Dice_One_X c_made_Dice_Next).Γ) : SpecOk Try.prog 66 (made_Dice_One_S (made_Dice_One_s c_made_Dice_Next)) :=
  spec_exec (X := (made_Dice_One_X c_made_Dice_Next)) (Λ := pick1 []) (rs := [.tmp 4]) (c := bodyOf Try.f66) mixed tab_ok hΓ Try.func66 (by kernel_rfl) (by kernel_rfl) (by kernel_rfl) (by kernel_rfl) CutsOk_nil (fun x k r h => Eq.trans (b := (made_Dice_One_S (made_Dice_One_s c_made_Dice_Next)).run x k) (by kernel_rfl) h)
end
theorem made_Dice_One_Γ : ΓOk Try.prog (pick1 [(14, .spec (made_Dice_Next_S made_Dice_Next))]) := (ΓOk_cons made_Dice_Next_ok ΓOk_nil)
def made_Dice_One : T_made_Dice_One := made_Dice_One_s made_Dice_Next
theorem made_Dice_One_ok : SpecOk Try.prog 66 (made_Dice_One_S made_Dice_One) := made_Dice_One_ok' made_Dice_Next made_Dice_One_Γ

/-- pagewatch/review.check$1 -/
abbrev T_review_check_f1 := {β : Type} → (Int × Int) → (Bool → Option β) → Option β
def review_check_f1_S (c : T_review_check_f1) : Spec :=
  ⟨[(true, [.data (.prod (.int .i64) (.int .i64))])], [], [(false, [.data .bool])], [], fun x k => c x.1.1.1 (fun r0 => k (((r0, ()), ()), ()))⟩
section
variable (c_review_in : T_review_in)
@[reducible] def review_check_f1_X : Ctx := ⟨look tab, pick1 [(52, .spec (review_in_S c_review_in))], false⟩
def review_check_f1_s {β : Type} (r_ : (Int × Int)) (k : (Bool → Option β)) : Option β :=
  c_review_in r_.1 (0 : Int) r_.2 (fun (rin : Bool) =>
  cond (!rin)
  (k true)
  (let t : Bool := (decide ((1099511627776 : Int) < r_.2));
  k t))
theorem review_check_f1_ok' (hΓ : ΓOk Try.prog (review_check_f1_X c_review_in).Γ) : SpecOk Try.prog 91 (review_check_f1_S (review_check_f1_s c_review_in)) :=
  spec_exec (X := (review_check_f1_X c_review_in)) (Λ := pick1 []) (rs := [.tmp 2]) (c := bodyOf Try.f91) mixed tab_ok hΓ Try.func91 (by kernel_rfl) (by kernel_rfl) (by kernel_rfl) (by kernel_rfl) CutsOk_nil (fun x k r h => Eq.trans (b := (review_check_f1_S (review_check_f1_s c_review_in)).run x k) (by kernel_rfl) h)
end
theorem review_check_f1_Γ : ΓOk Try.prog (pick1 [(52, .spec (review_in_S review_in))]) := (ΓOk_cons review_in_ok ΓOk_nil)
def review_check_f1 : T_review_check_f1 := review_check_f1_s review_in
theorem review_check_f1_ok : SpecOk Try.prog 91 (review_check_f1_S review_check_f1) := review_check_f1_ok' review_in review_check_f1_Γ

/-- pagewatch/review.split -/
abbrev T_review_split := {β : Type} → (List (Int × Int)) → ((List Int) → (List Int) → Option β) → Option β
def review_split_S (c : T_review_split) : Spec :=
  ⟨[(false, [.data (.slice (.prod (.int .i64) (.int .i64)))])], [], [(true, [.rowh 0, .rowh 1])], [.row 3 (.int .i64), .row 3 (.int .i64)], fun x k => c x.1.1.1 (fun r0 r1 => k (((), ()), (r0, r1, ())))⟩
noncomputable def review_split_p1_code : Code := codeAt 58 (bodyOf Try.f92)
abbrev review_split_p1_K1 (β : Type) := (List Int) → (List Int) → (List Int) → (List Int) → Option β
abbrev review_split_p1_T := {β : Type} → review_split_p1_K1 β → (List (Int × Int)) → Int → Int → (List Int) → (List Int) → (List Int) → (List Int) → Option β
def review_split_p1_v : View := ⟨0, [2, 3, 6, 7, 8], [(false, [.ptr 0 0]), (false, [.ptr 1 0]), (false, [.data (.slice (.prod (.int .i64) (.int .i64)))]), (false, [.data (.int .i64)]), (false, [.data (.int .i64)])], [.cells 96 [.rowh 2, .rowh 3], .cells 96 [.rowh 4, .rowh 5], .row 3 (.int .i64), .row 3 (.int .i64), .row 3 (.int .i64), .row 3 (.int .i64)]⟩
def review_split_p1_o : List (AExit × View) := [(.exit 0, ⟨0, [2, 3], [(false, [.ptr 0 0]), (false, [.ptr 1 0])], [.cells 96 [.rowh 2, .rowh 3], .cells 96 [.rowh 4, .rowh 5], .row 3 (.int .i64), .row 3 (.int .i64), .row 3 (.int .i64), .row 3 (.int .i64)]⟩)]
@[reducible] def review_split_p1_G (p : review_split_p1_T) {β : Type} (d : review_split_p1_v.den) (ks : Outs.K β review_split_p1_o) : Option β :=
  p (fun a0 a1 a2 a3 => ks.1 (((), (), ()), ((), (), a0, a1, a2, a3, ()))) d.1.2.2.1.1 d.1.2.2.2.1.1 d.1.2.2.2.2.1.1 d.2.2.2.1 d.2.2.2.2.1 d.2.2.2.2.2.1 d.2.2.2.2.2.2.1
section
@[reducible] def review_split_X : Ctx := ⟨look tab, pick1 [], false⟩
def review_split_p1_s {β : Type} (rec : (List (Int × Int)) → Int → Int → (List Int) → (List Int) → (List Int) → (List Int) → Option β) (k1 : review_split_p1_K1 β) (t6 : List (Int × Int)) (t7 : Int) (t8 : Int) (b2_ : List Int) (b3_ : List Int) (b4_ : List Int) (b5_ : List Int) : Option β :=
  cond (decide (t8 < t7))
  (cond (decide (0 ≤ t8) && decide (t8 < (List.length t6 : Int)))
  (let e : (Int × Int) := List.getD t6 (Int.toNat t8) ((0 : Int), (0 : Int));
  let l : List Int := ([e.1] : List Int);
  cond (decide ((List.length b4_ + List.length l) * 8 ≤ roomMax))
  (let l2 : List Int := (b4_ ++ l);
  let l3 : List Int := ([e.2] : List Int);
  cond (decide ((List.length b5_ + List.length l3) * 8 ≤ roomMax))
  (let l4 : List Int := (b5_ ++ l3);
  rec t6 t7 (IntKind.i64.wrap (t8 + (1 : Int))) b2_ b3_ l2 l4)
  none)
  none)
  none)
  (k1 b2_ b3_ b4_ b5_)
def review_split_p1_l {β : Type} : Nat → review_split_p1_K1 β → (List (Int × Int)) → Int → Int → (List Int) → (List Int) → (List Int) → (List Int) → Option β
  | 0 => fun _ _ _ _ _ _ _ _ => none
  | i + 1 => fun k1 t6 t7 t8 b2_ b3_ b4_ b5_ => review_split_p1_s (review_split_p1_l i k1) k1 t6 t7 t8 b2_ b3_ b4_ b5_
theorem review_split_p1_ok' (hΓ : ΓOk Try.prog review_split_X.Γ) (i : Nat) : PieceOk Try.prog 28 0 review_split_p1_code review_split_p1_v review_split_p1_o (review_split_p1_G (review_split_p1_l i)) := by
  rw [show review_split_p1_code = .loop (loopBody review_split_p1_code) by kernel_rfl]
  exact piece_loop (X := review_split_X) (p := 1) (Λ := pick1 []) (G := fun i => @fun β d ks => review_split_p1_G (review_split_p1_l i) d ks) mixed tab_ok hΓ rfl (by kernel_rfl) CutsOk_nil (fun _ _ => rfl) (fun i => @fun β d ks r h => Eq.trans (b := review_split_p1_G (review_split_p1_l (i + 1)) d ks) (by kernel_rfl) h) i
def review_split_s (p1 : review_split_p1_T) {β : Type} (l : List (Int × Int)) (k : ((List Int) → (List Int) → Option β)) : Option β :=
  p1 (fun (b2_ : List Int) (b3_ : List Int) (b4_ : List Int) (b5_ : List Int) =>
  k b4_ b5_) l (List.length l : Int) (0 : Int) ([] : List Int) ([] : List Int) ([] : List Int) ([] : List Int)
theorem review_split_ok' (hΓ : ΓOk Try.prog review_split_X.Γ) (p1 : review_split_p1_T) (hp1 : PieceOk Try.prog 28 0 review_split_p1_code review_split_p1_v review_split_p1_o (review_split_p1_G p1)) : SpecOk Try.prog 92 (review_split_S (review_split_s p1)) :=
  spec_exec (X := review_split_X) (Λ := pick1 [(58, pieceCut review_split_p1_v review_split_p1_o (review_split_p1_G p1))]) (rs := [.cell 2 96]) (c := bodyOf Try.f92) mixed tab_ok hΓ Try.func92 (by kernel_rfl) (by kernel_rfl) (by kernel_rfl) (by kernel_rfl) (CutsOk_cons (q := 58) (c' := review_split_p1_code) (by kernel_rfl) rfl hp1 CutsOk_nil) (fun x k r h => Eq.trans (b := (review_split_S (review_split_s p1)).run x k) (by kernel_rfl) h)
end
theorem review_split_Γ : ΓOk Try.prog (pick1 []) := ΓOk_nil
def review_split_p1_n (m : Nat) : review_split_p1_T := review_split_p1_l m
theorem review_split_p1_step {β : Type} (i : Nat) (k1 t6 t7 t8 b2_ b3_ b4_ b5_) : (review_split_p1_n (i + 1) k1 t6 t7 t8 b2_ b3_ b4_ b5_ : Option β) = review_split_p1_s (review_split_p1_n i k1) k1 t6 t7 t8 b2_ b3_ b4_ b5_ := rfl
def review_split_p1 : review_split_p1_T := review_split_p1_n fuel
theorem review_split_p1_ok : PieceOk Try.prog 28 0 review_split_p1_code review_split_p1_v review_split_p1_o (review_split_p1_G review_split_p1) := review_split_p1_ok' review_split_Γ fuel
def review_split : T_review_split := review_split_s review_split_p1
theorem review_split_ok : SpecOk Try.prog 92 (review_split_S review_split) := review_split_ok' review_split_Γ review_split_p1 review_split_p1_ok

/-- slices.Sort[[]int,int] -/
def lays_Sort_int_ren : Shelf.Ren :=
      { 
      f := fun x =>
        match x with
        | 189 => 93
        | 125 => 103
        | 257 => 102
        | 128 => 113
        | 129 => 114
        | 294 => 104
        | 295 => 105
        | 296 => 106
        | 297 => 107
        | 298 => 108
        | 299 => 109
        | 216 => 110
        | 300 => 111
        | 301 => 112
        | 328 => 115
        | 329 => 116
        | 330 => 117
        | 331 => 118
        | 332 => 119
        | 215 => 120
        | 343 => 121
        | n => n,
      t := fun x =>
        match x with
        | 28 => 22
        | 3 => 3
        | 46 => 129
        | 0 => 0
        | 51 => 137
        | 53 => 139
        | 4 => 4
        | 183 => 132
        | 182 => 131
        | 131 => 42
        | 5 => 5
        | 9 => 9
        | 218 => 140
        | 222 => 144
        | 228 => 146
        | 229 => 63
        | n => n,
      g := fun x => x }
theorem lays_Sort_int : Go.Proofs.Lays.n189 Try.prog lays_Sort_int_ren :=
  { mixed := by kernel_rfl,
    f125 := Eq.trans Try.func103 (congrArg some (by kernel_rfl)),
    f128 := Eq.trans Try.func113 (congrArg some (by kernel_rfl)),
    f129 := Eq.trans Try.func114 (congrArg some (by kernel_rfl)),
    f189 := Eq.trans Try.func93 (congrArg some (by kernel_rfl)),
    f215 := Eq.trans Try.func120 (congrArg some (by kernel_rfl)),
    f216 := Eq.trans Try.func110 (congrArg some (by kernel_rfl)),
    f257 := Eq.trans Try.func102 (congrArg some (by kernel_rfl)),
    f294 := Eq.trans Try.func104 (congrArg some (by kernel_rfl)),
    f295 := Eq.trans Try.func105 (congrArg some (by kernel_rfl)),
    f296 := Eq.trans Try.func106 (congrArg some (by kernel_rfl)),
    f297 := Eq.trans Try.func107 (congrArg some (by kernel_rfl)),
    f298 := Eq.trans Try.func108 (congrArg some (by kernel_rfl)),
    f299 := Eq.trans Try.func109 (congrArg some (by kernel_rfl)),
    f300 := Eq.trans Try.func111 (congrArg some (by kernel_rfl)),
    f301 := Eq.trans Try.func112 (congrArg some (by kernel_rfl)),
    f328 := Eq.trans Try.func115 (congrArg some (by kernel_rfl)),
    f329 := Eq.trans Try.func116 (congrArg some (by kernel_rfl)),
    f330 := Eq.trans Try.func117 (congrArg some (by kernel_rfl)),
    f331 := Eq.trans Try.func118 (congrArg some (by kernel_rfl)),
    f332 := Eq.trans Try.func119 (congrArg some (by kernel_rfl)),
    f343 := Eq.trans Try.func121 (congrArg some (by kernel_rfl)),
    t0 := Try.underlying0,
    a0 := Try.isAgg0,
    z0 := Try.sizeOf0,
    v0 := Try.zeroValue0,
    t3 := Try.underlying3,
    a3 := Try.isAgg3,
    z3 := Try.sizeOf3,
    v3 := Try.zeroValue3,
    t4 := Try.underlying4,
    a4 := Try.isAgg4,
    z4 := Try.sizeOf4,
    v4 := Try.zeroValue4,
    t5 := Try.underlying5,
    a5 := Try.isAgg5,
    z5 := Try.sizeOf5,
    v5 := Try.zeroValue5,
    t9 := Try.underlying9,
    a9 := Try.isAgg9,
    z9 := Try.sizeOf9,
    v9 := Try.zeroValue9,
    t28 := Try.underlying22,
    a28 := Try.isAgg22,
    z28 := Try.sizeOf22,
    v28 := Try.zeroValue22,
    t46 := Try.underlying129,
    a46 := Try.isAgg129,
    z46 := Try.sizeOf129,
    v46 := Try.zeroValue129,
    t51 := Try.underlying137,
    a51 := Try.isAgg137,
    z51 := Try.sizeOf137,
    v51 := Try.zeroValue137,
    t53 := Try.underlying139,
    a53 := Try.isAgg139,
    z53 := Try.sizeOf139,
    v53 := Try.zeroValue139,
    t131 := Try.underlying42,
    a131 := Try.isAgg42,
    z131 := Try.sizeOf42,
    v131 := Try.zeroValue42,
    t182 := Try.underlying131,
    a182 := Try.isAgg131,
    z182 := Try.sizeOf131,
    v182 := Try.zeroValue131,
    t183 := Try.underlying132,
    a183 := Try.isAgg132,
    z183 := Try.sizeOf132,
    v183 := Try.zeroValue132,
    t218 := Try.underlying140,
    a218 := Try.isAgg140,
    z218 := Try.sizeOf140,
    v218 := Try.zeroValue140,
    t222 := Try.underlying144,
    a222 := Try.isAgg144,
    z222 := Try.sizeOf144,
    v222 := Try.zeroValue144,
    t228 := Try.underlying146,
    a228 := Try.isAgg146,
    z228 := Try.sizeOf146,
    v228 := Try.zeroValue146,
    t229 := Try.underlying63,
    a229 := Try.isAgg63,
    z229 := Try.sizeOf63,
    v229 := Try.zeroValue63 }
def slices_Sort_int_int_F : RowF := sortF 3
theorem slices_Sort_int_int_rowok : RowOk Try.prog 93 slices_Sort_int_int_F :=
  sort_rowok lays_Sort_int rfl ⟨_, Try.func93, by kernel_rfl, by kernel_rfl⟩

/-- pagewatch/ratio.within -/
abbrev T_ratio_within := {β : Type} → Int → (Bool → Option β) → Option β
def ratio_within_S (c : T_ratio_within) : Spec :=
  ⟨[(false, [.data (.int .i64)])], [], [(false, [.data .bool])], [], fun x k => c x.1.1.1 (fun r0 => k (((r0, ()), ()), ()))⟩
section
@[reducible] def ratio_within_X : Ctx := ⟨look tab, pick1 [], false⟩
def ratio_within_s {β : Type} (n : Int) (k : (Bool → Option β)) : Option β :=
  cond (decide ((-4611686018427387904 : Int) ≤ n))
  (let t : Bool := (decide (n ≤ (4611686018427387904 : Int)));
  k t)
  (k false)
theorem ratio_within_ok' (hΓ : ΓOk Try.prog ratio_within_X.Γ) : SpecOk Try.prog 94 (ratio_within_S (ratio_within_s)) :=
  spec_exec (X := ratio_within_X) (Λ := pick1 []) (rs := [.tmp 2]) (c := bodyOf Try.f94) mixed tab_ok hΓ Try.func94 (by kernel_rfl) (by kernel_rfl) (by kernel_rfl) (by kernel_rfl) CutsOk_nil (fun x k r h => Eq.trans (b := (ratio_within_S (ratio_within_s)).run x k) (by kernel_rfl) h)
end
theorem ratio_within_Γ : ΓOk Try.prog (pick1 []) := ΓOk_nil
def ratio_within : T_ratio_within := ratio_within_s
theorem ratio_within_ok : SpecOk Try.prog 94 (ratio_within_S ratio_within) := ratio_within_ok' ratio_within_Γ

/-- pagewatch/ratio.gcd -/
abbrev T_ratio_gcd := {β : Type} → Int → Int → (Int → Option β) → Option β
def ratio_gcd_S (c : T_ratio_gcd) : Spec :=
  ⟨[(false, [.data (.int .i64)]), (false, [.data (.int .i64)])], [], [(false, [.data (.int .i64)])], [], fun x k => c x.1.1.1 x.1.2.1.1 (fun r0 => k (((r0, ()), ()), ()))⟩
noncomputable def ratio_gcd_p1_code : Code := codeAt 12 (bodyOf Try.f95)
abbrev ratio_gcd_p1_K1 (β : Type) := Int → Option β
abbrev ratio_gcd_p1_T := {β : Type} → ratio_gcd_p1_K1 β → Int → Int → Option β
def ratio_gcd_p1_v : View := ⟨0, [0, 1], [(false, [.data (.int .i64)]), (false, [.data (.int .i64)])], []⟩
def ratio_gcd_p1_o : List (AExit × View) := [(.exit 0, ⟨0, [0], [(false, [.data (.int .i64)])], []⟩)]
@[reducible] def ratio_gcd_p1_G (p : ratio_gcd_p1_T) {β : Type} (d : ratio_gcd_p1_v.den) (ks : Outs.K β ratio_gcd_p1_o) : Option β :=
  p (fun a0 => ks.1 (((a0, ()), ()), ())) d.1.1.1 d.1.2.1.1
section
@[reducible] def ratio_gcd_X : Ctx := ⟨look tab, pick1 [], false⟩
def ratio_gcd_p1_s {β : Type} (rec : Int → Int → Option β) (k1 : ratio_gcd_p1_K1 β) (a : Int) (b : Int) : Option β :=
  cond (!decide (b = (0 : Int)))
  (cond (!decide (b = 0))
  (rec b (Int.tmod a b))
  none)
  (k1 a)
def ratio_gcd_p1_l {β : Type} : Nat → ratio_gcd_p1_K1 β → Int → Int → Option β
  | 0 => fun _ _ _ => none
  | i + 1 => fun k1 a b => ratio_gcd_p1_s (ratio_gcd_p1_l i k1) k1 a b
theorem ratio_gcd_p1_ok' (hΓ : ΓOk Try.prog ratio_gcd_X.Γ) (i : Nat) : PieceOk Try.prog 12 0 ratio_gcd_p1_code ratio_gcd_p1_v ratio_gcd_p1_o (ratio_gcd_p1_G (ratio_gcd_p1_l i)) := by
  rw [show ratio_gcd_p1_code = .loop (loopBody ratio_gcd_p1_code) by kernel_rfl]
  exact piece_loop (X := ratio_gcd_X) (p := 1) (Λ := pick1 []) (G := fun i => @fun β d ks => ratio_gcd_p1_G (ratio_gcd_p1_l i) d ks) mixed tab_ok hΓ rfl (by kernel_rfl) CutsOk_nil (fun _ _ => rfl) (fun i => @fun β d ks r h => Eq.trans (b := ratio_gcd_p1_G (ratio_gcd_p1_l (i + 1)) d ks) (by kernel_rfl) h) i
def ratio_gcd_s (p1 : ratio_gcd_p1_T) {β : Type} (a : Int) (b : Int) (k : (Int → Option β)) : Option β :=
  p1 (fun (a2 : Int) =>
  k a2) a b
theorem ratio_gcd_ok' (hΓ : ΓOk Try.prog ratio_gcd_X.Γ) (p1 : ratio_gcd_p1_T) (hp1 : PieceOk Try.prog 12 0 ratio_gcd_p1_code ratio_gcd_p1_v ratio_gcd_p1_o (ratio_gcd_p1_G p1)) : SpecOk Try.prog 95 (ratio_gcd_S (ratio_gcd_s p1)) :=
  spec_exec (X := ratio_gcd_X) (Λ := pick1 [(12, pieceCut ratio_gcd_p1_v ratio_gcd_p1_o (ratio_gcd_p1_G p1))]) (rs := [.tmp 4]) (c := bodyOf Try.f95) mixed tab_ok hΓ Try.func95 (by kernel_rfl) (by kernel_rfl) (by kernel_rfl) (by kernel_rfl) (CutsOk_cons (q := 12) (c' := ratio_gcd_p1_code) (by kernel_rfl) rfl hp1 CutsOk_nil) (fun x k r h => Eq.trans (b := (ratio_gcd_S (ratio_gcd_s p1)).run x k) (by kernel_rfl) h)
end
theorem ratio_gcd_Γ : ΓOk Try.prog (pick1 []) := ΓOk_nil
def ratio_gcd_p1_n (m : Nat) : ratio_gcd_p1_T := ratio_gcd_p1_l m
theorem ratio_gcd_p1_step {β : Type} (i : Nat) (k1 a b) : (ratio_gcd_p1_n (i + 1) k1 a b : Option β) = ratio_gcd_p1_s (ratio_gcd_p1_n i k1) k1 a b := rfl
def ratio_gcd_p1 : ratio_gcd_p1_T := ratio_gcd_p1_n fuel
theorem ratio_gcd_p1_ok : PieceOk Try.prog 12 0 ratio_gcd_p1_code ratio_gcd_p1_v ratio_gcd_p1_o (ratio_gcd_p1_G ratio_gcd_p1) := ratio_gcd_p1_ok' ratio_gcd_Γ fuel
def ratio_gcd : T_ratio_gcd := ratio_gcd_s ratio_gcd_p1
theorem ratio_gcd_ok : SpecOk Try.prog 95 (ratio_gcd_S ratio_gcd) := ratio_gcd_ok' ratio_gcd_Γ ratio_gcd_p1 ratio_gcd_p1_ok

/-- pagewatch/ratio.size -/
abbrev T_ratio_size := {β : Type} → Int → (Int → Option β) → Option β
def ratio_size_S (c : T_ratio_size) : Spec :=
  ⟨[(false, [.data (.int .i64)])], [], [(false, [.data (.int .i64)])], [], fun x k => c x.1.1.1 (fun r0 => k (((r0, ()), ()), ()))⟩
section
@[reducible] def ratio_size_X : Ctx := ⟨look tab, pick1 [], false⟩
def ratio_size_s {β : Type} (n : Int) (k : (Int → Option β)) : Option β :=
  cond (decide (n < (0 : Int)))
  (let t : Int := (IntKind.i64.wrap (0 - n));
  k t)
  (k n)
theorem ratio_size_ok' (hΓ : ΓOk Try.prog ratio_size_X.Γ) : SpecOk Try.prog 96 (ratio_size_S (ratio_size_s)) :=
  spec_exec (X := ratio_size_X) (Λ := pick1 []) (rs := [.tmp 2]) (c := bodyOf Try.f96) mixed tab_ok hΓ Try.func96 (by kernel_rfl) (by kernel_rfl) (by kernel_rfl) (by kernel_rfl) CutsOk_nil (fun x k r h => Eq.trans (b := (ratio_size_S (ratio_size_s)).run x k) (by kernel_rfl) h)
end
theorem ratio_size_Γ : ΓOk Try.prog (pick1 []) := ΓOk_nil
def ratio_size : T_ratio_size := ratio_size_s
theorem ratio_size_ok : SpecOk Try.prog 96 (ratio_size_S ratio_size) := ratio_size_ok' ratio_size_Γ

/-- pagewatch/pagewatchref02.New -/
abbrev T_ref02_New := {β : Type} → Int → Int → ((Int × Int) → Int → Option β) → Option β
def ref02_New_S (c : T_ref02_New) : Spec :=
  ⟨[(false, [.data (.int .i64)]), (false, [.data (.int .i64)])], [], [(true, [.data (.prod (.int .i64) (.int .i64))]), (false, [.data (.int .i64)])], [], fun x k => c x.1.1.1 x.1.2.1.1 (fun r0 r1 => k (((r0, ()), (r1, ()), ()), ()))⟩
section
variable (c_ref02_gcd : T_ref02_gcd) (c_ref02_in : T_ref02_in) (c_ref02_size : T_ref02_size)
@[reducible] def ref02_New_X : Ctx := ⟨look tab, pick1 [(56, .spec (ref02_gcd_S c_ref02_gcd)), (55, .spec (ref02_in_S c_ref02_in)), (57, .spec (ref02_size_S c_ref02_size))], false⟩
def ref02_New_s {β : Type} (num : Int) (den : Int) (k : ((Int × Int) → Int → Option β)) : Option β :=
  c_ref02_in num (fun (rin : Bool) =>
  cond (!rin)
  (k ((0 : Int), (0 : Int)) (1 : Int))
  (cond (decide (den < (1 : Int)))
  (k ((0 : Int), (0 : Int)) (1 : Int))
  (cond (decide ((4611686018427387904 : Int) < den))
  (k ((0 : Int), (0 : Int)) (1 : Int))
  (c_ref02_size num (fun (rsize : Int) =>
  c_ref02_gcd rsize den (fun (rgcd : Int) =>
  cond (!decide (rgcd = 0))
  (cond (!decide (rgcd = 0))
  (k ((IntKind.i64.wrap (Int.tdiv num rgcd)), (IntKind.i64.wrap (Int.tdiv den rgcd))) (0 : Int))
  none)
  none))))))
theorem ref02_New_ok' (hΓ : ΓOk Try.prog (ref02_New_X c_ref02_gcd c_ref02_in c_ref02_size).Γ) : SpecOk Try.prog 23 (ref02_New_S (ref02_New_s c_ref02_gcd c_ref02_in c_ref02_size)) :=
  spec_exec (X := (ref02_New_X c_ref02_gcd c_ref02_in c_ref02_size)) (Λ := pick1 []) (rs := [.cell 4 53, .tmp 5]) (c := bodyOf Try.f23) mixed tab_ok hΓ Try.func23 (by kernel_rfl) (by kernel_rfl) (by kernel_rfl) (by kernel_rfl) CutsOk_nil (fun x k r h => Eq.trans (b := (ref02_New_S (ref02_New_s c_ref02_gcd c_ref02_in c_ref02_size)).run x k) (by kernel_rfl) h)
end
theorem ref02_New_Γ : ΓOk Try.prog (pick1 [(56, .spec (ref02_gcd_S ref02_gcd)), (55, .spec (ref02_in_S ref02_in)), (57, .spec (ref02_size_S ref02_size))]) := (ΓOk_cons ref02_gcd_ok (ΓOk_cons ref02_in_ok (ΓOk_cons ref02_size_ok ΓOk_nil)))
def ref02_New : T_ref02_New := ref02_New_s ref02_gcd ref02_in ref02_size
theorem ref02_New_ok : SpecOk Try.prog 23 (ref02_New_S ref02_New) := ref02_New_ok' ref02_gcd ref02_in ref02_size ref02_New_Γ

/-- pagewatch/pagewatchref02.Less -/
abbrev T_ref02_Less := {β : Type} → (Int × Int) → (Int × Int) → (Bool → Option β) → Option β
def ref02_Less_S (c : T_ref02_Less) : Spec :=
  ⟨[(true, [.data (.prod (.int .i64) (.int .i64))]), (true, [.data (.prod (.int .i64) (.int .i64))])], [], [(false, [.data .bool])], [], fun x k => c x.1.1.1 x.1.2.1.1 (fun r0 => k (((r0, ()), ()), ()))⟩
noncomputable def ref02_Less_p1_code : Code := codeAt 7 (bodyOf Try.f24)
noncomputable def ref02_Less_p2_code : Code := codeAt 103 (bodyOf Try.f24)
noncomputable def ref02_Less_p3_code : Code := codeAt 25 (bodyOf Try.f24)
abbrev ref02_Less_p1_K1 (β : Type) := Bool → Option β
abbrev ref02_Less_p1_T := {β : Type} → ref02_Less_p1_K1 β → Int → Int → Int → Int → Option β
def ref02_Less_p1_v : View := ⟨0, [2, 3], [(false, [.ptr 0 0]), (false, [.ptr 1 0])], [.cells 53 [.data (.int .i64), .data (.int .i64)], .cells 53 [.data (.int .i64), .data (.int .i64)]]⟩
def ref02_Less_p1_o : List (AExit × View) := [(.ret, ⟨0, [4], [(false, [.data .bool])], []⟩)]
@[reducible] def ref02_Less_p1_G (p : ref02_Less_p1_T) {β : Type} (d : ref02_Less_p1_v.den) (ks : Outs.K β ref02_Less_p1_o) : Option β :=
  p (fun a0 => ks.1 (((a0, ()), ()), ())) d.2.1.1 d.2.1.2.1 d.2.2.1.1 d.2.2.1.2.1
abbrev ref02_Less_p2_K1 (β : Type) := Bool → Option β
abbrev ref02_Less_p2_K2 (β : Type) := Int → Int → Int → Int → Option β
abbrev ref02_Less_p2_T := {β : Type} → ref02_Less_p2_K1 β → ref02_Less_p2_K2 β → Bool → Int → Int → Int → Int → Option β
def ref02_Less_p2_v : View := ⟨0, [2, 3, 14], [(false, [.ptr 0 0]), (false, [.ptr 1 0]), (false, [.data .bool])], [.cells 53 [.data (.int .i64), .data (.int .i64)], .cells 53 [.data (.int .i64), .data (.int .i64)]]⟩
def ref02_Less_p2_o : List (AExit × View) := [(.ret, ⟨0, [4], [(false, [.data .bool])], []⟩), (.normal, ⟨0, [2, 3], [(false, [.ptr 0 0]), (false, [.ptr 1 0])], [.cells 53 [.data (.int .i64), .data (.int .i64)], .cells 53 [.data (.int .i64), .data (.int .i64)]]⟩)]
@[reducible] def ref02_Less_p2_G (p : ref02_Less_p2_T) {β : Type} (d : ref02_Less_p2_v.den) (ks : Outs.K β ref02_Less_p2_o) : Option β :=
  p (fun a0 => ks.1 (((a0, ()), ()), ())) (fun a0 a1 a2 a3 => ks.2.1 (((), (), ()), ((a0, a1, ()), (a2, a3, ()), ()))) d.1.2.2.1.1 d.2.1.1 d.2.1.2.1 d.2.2.1.1 d.2.2.1.2.1
abbrev ref02_Less_p3_K1 (β : Type) := Bool → Option β
abbrev ref02_Less_p3_K2 (β : Type) := Int → Int → Int → Int → Option β
abbrev ref02_Less_p3_T := {β : Type} → ref02_Less_p3_K1 β → ref02_Less_p3_K2 β → Bool → Int → Int → Int → Int → Option β
def ref02_Less_p3_v : View := ⟨0, [2, 3, 5], [(false, [.ptr 0 0]), (false, [.ptr 1 0]), (false, [.data .bool])], [.cells 53 [.data (.int .i64), .data (.int .i64)], .cells 53 [.data (.int .i64), .data (.int .i64)]]⟩
def ref02_Less_p3_o : List (AExit × View) := [(.ret, ⟨0, [4], [(false, [.data .bool])], []⟩), (.normal, ⟨0, [2, 3], [(false, [.ptr 0 0]), (false, [.ptr 1 0])], [.cells 53 [.data (.int .i64), .data (.int .i64)], .cells 53 [.data (.int .i64), .data (.int .i64)]]⟩)]
@[reducible] def ref02_Less_p3_G (p : ref02_Less_p3_T) {β : Type} (d : ref02_Less_p3_v.den) (ks : Outs.K β ref02_Less_p3_o) : Option β :=
  p (fun a0 => ks.1 (((a0, ()), ()), ())) (fun a0 a1 a2 a3 => ks.2.1 (((), (), ()), ((a0, a1, ()), (a2, a3, ()), ()))) d.1.2.2.1.1 d.2.1.1 d.2.1.2.1 d.2.2.1.1 d.2.2.1.2.1
section
variable (c_ref02_Valid : T_ref02_Valid) (c_ref02_less : T_ref02_less)
@[reducible] def ref02_Less_X : Ctx := ⟨look tab, pick1 [(58, .spec (ref02_Valid_S c_ref02_Valid)), (59, .spec (ref02_less_S c_ref02_less))], false⟩
def ref02_Less_p1_s {β : Type} (k1 : ref02_Less_p1_K1 β) (a : Int) (a2 : Int) (b : Int) (b2 : Int) : Option β :=
  c_ref02_less a a2 b b2 (fun (rless : Bool) =>
  k1 rless)
def ref02_Less_p1_u {β : Type} (k1 : ref02_Less_p1_K1 β) (a : Int) (a2 : Int) (b : Int) (b2 : Int) : Option β := ref02_Less_p1_s c_ref02_less k1 a a2 b b2
theorem ref02_Less_p1_ok' (hΓ : ΓOk Try.prog (ref02_Less_X c_ref02_Valid c_ref02_less).Γ) : PieceOk Try.prog 57 0 ref02_Less_p1_code ref02_Less_p1_v ref02_Less_p1_o (ref02_Less_p1_G (ref02_Less_p1_u c_ref02_less)) :=
  piece_exec (X := (ref02_Less_X c_ref02_Valid c_ref02_less)) (p := 7) (Λ := pick1 []) mixed tab_ok hΓ (by kernel_rfl) CutsOk_nil (fun d ks r h => Eq.trans (b := ref02_Less_p1_G (ref02_Less_p1_u c_ref02_less) d ks) (by kernel_rfl) h)
def ref02_Less_p2_s {β : Type} (k1 : ref02_Less_p2_K1 β) (k2 : ref02_Less_p2_K2 β) (t14 : Bool) (a : Int) (a2 : Int) (b : Int) (b2 : Int) : Option β :=
  cond t14
  (c_ref02_less (IntKind.i64.wrap (0 - b)) b2 (IntKind.i64.wrap (0 - a)) a2 (fun (rless : Bool) =>
  k1 rless))
  (cond (decide (a < (0 : Int)))
  (k1 (decide (a < b)))
  (cond (decide (b < (0 : Int)))
  (k1 (decide (a < b)))
  (k2 a a2 b b2)))
def ref02_Less_p2_u {β : Type} (k1 : ref02_Less_p2_K1 β) (k2 : ref02_Less_p2_K2 β) (t14 : Bool) (a : Int) (a2 : Int) (b : Int) (b2 : Int) : Option β := ref02_Less_p2_s c_ref02_less k1 k2 t14 a a2 b b2
theorem ref02_Less_p2_ok' (hΓ : ΓOk Try.prog (ref02_Less_X c_ref02_Valid c_ref02_less).Γ) : PieceOk Try.prog 57 0 ref02_Less_p2_code ref02_Less_p2_v ref02_Less_p2_o (ref02_Less_p2_G (ref02_Less_p2_u c_ref02_less)) :=
  piece_exec (X := (ref02_Less_X c_ref02_Valid c_ref02_less)) (p := 103) (Λ := pick1 []) mixed tab_ok hΓ (by kernel_rfl) CutsOk_nil (fun d ks r h => Eq.trans (b := ref02_Less_p2_G (ref02_Less_p2_u c_ref02_less) d ks) (by kernel_rfl) h)
def ref02_Less_p3_s (p2 : ref02_Less_p2_T) {β : Type} (k1 : ref02_Less_p3_K1 β) (k2 : ref02_Less_p3_K2 β) (t5 : Bool) (a : Int) (a2 : Int) (b : Int) (b2 : Int) : Option β :=
  cond t5
  (k1 false)
  (cond (decide (a < (0 : Int)))
  (p2 (fun (t4 : Bool) =>
  k1 t4) (fun (a3 : Int) (a4 : Int) (b3 : Int) (b4 : Int) =>
  k2 a3 a4 b3 b4) (decide (b < (0 : Int))) a a2 b b2)
  (p2 (fun (t4 : Bool) =>
  k1 t4) (fun (a3 : Int) (a4 : Int) (b3 : Int) (b4 : Int) =>
  k2 a3 a4 b3 b4) false a a2 b b2))
def ref02_Less_p3_u (p2 : ref02_Less_p2_T) {β : Type} (k1 : ref02_Less_p3_K1 β) (k2 : ref02_Less_p3_K2 β) (t5 : Bool) (a : Int) (a2 : Int) (b : Int) (b2 : Int) : Option β := ref02_Less_p3_s p2 k1 k2 t5 a a2 b b2
theorem ref02_Less_p3_ok' (hΓ : ΓOk Try.prog (ref02_Less_X c_ref02_Valid c_ref02_less).Γ) (p2 : ref02_Less_p2_T) (hp2 : PieceOk Try.prog 57 0 ref02_Less_p2_code ref02_Less_p2_v ref02_Less_p2_o (ref02_Less_p2_G p2)) : PieceOk Try.prog 57 0 ref02_Less_p3_code ref02_Less_p3_v ref02_Less_p3_o (ref02_Less_p3_G (ref02_Less_p3_u p2)) :=
  piece_exec (X := (ref02_Less_X c_ref02_Valid c_ref02_less)) (p := 25) (Λ := pick1 [(103, pieceCut ref02_Less_p2_v ref02_Less_p2_o (ref02_Less_p2_G p2))]) mixed tab_ok hΓ (by kernel_rfl) (CutsOk_cons (q := 103) (c' := ref02_Less_p2_code) (by kernel_rfl) rfl hp2 CutsOk_nil) (fun d ks r h => Eq.trans (b := ref02_Less_p3_G (ref02_Less_p3_u p2) d ks) (by kernel_rfl) h)
def ref02_Less_s (p1 : ref02_Less_p1_T) (p3 : ref02_Less_p3_T) {β : Type} (a : (Int × Int)) (b : (Int × Int)) (k : (Bool → Option β)) : Option β :=
  c_ref02_Valid a (fun (rValid : Bool) =>
  cond (!rValid)
  (p3 (fun (t4 : Bool) =>
  k t4) (fun (a2 : Int) (a3 : Int) (b2 : Int) (b3 : Int) =>
  p1 (fun (t4 : Bool) =>
  k t4) a2 a3 b2 b3) true a.1 a.2 b.1 b.2)
  (c_ref02_Valid b (fun (rValid2 : Bool) =>
  p3 (fun (t4 : Bool) =>
  k t4) (fun (a2 : Int) (a3 : Int) (b2 : Int) (b3 : Int) =>
  p1 (fun (t4 : Bool) =>
  k t4) a2 a3 b2 b3) (!rValid2) a.1 a.2 b.1 b.2)))
theorem ref02_Less_ok' (hΓ : ΓOk Try.prog (ref02_Less_X c_ref02_Valid c_ref02_less).Γ) (p1 : ref02_Less_p1_T) (p3 : ref02_Less_p3_T) (hp1 : PieceOk Try.prog 57 0 ref02_Less_p1_code ref02_Less_p1_v ref02_Less_p1_o (ref02_Less_p1_G p1)) (hp3 : PieceOk Try.prog 57 0 ref02_Less_p3_code ref02_Less_p3_v ref02_Less_p3_o (ref02_Less_p3_G p3)) : SpecOk Try.prog 24 (ref02_Less_S (ref02_Less_s c_ref02_Valid p1 p3)) :=
  spec_exec (X := (ref02_Less_X c_ref02_Valid c_ref02_less)) (Λ := pick1 [(7, pieceCut ref02_Less_p1_v ref02_Less_p1_o (ref02_Less_p1_G p1)), (25, pieceCut ref02_Less_p3_v ref02_Less_p3_o (ref02_Less_p3_G p3))]) (rs := [.tmp 4]) (c := bodyOf Try.f24) mixed tab_ok hΓ Try.func24 (by kernel_rfl) (by kernel_rfl) (by kernel_rfl) (by kernel_rfl) (CutsOk_cons (q := 7) (c' := ref02_Less_p1_code) (by kernel_rfl) rfl hp1 (CutsOk_cons (q := 25) (c' := ref02_Less_p3_code) (by kernel_rfl) rfl hp3 CutsOk_nil)) (fun x k r h => Eq.trans (b := (ref02_Less_S (ref02_Less_s c_ref02_Valid p1 p3)).run x k) (by kernel_rfl) h)
end
theorem ref02_Less_Γ : ΓOk Try.prog (pick1 [(58, .spec (ref02_Valid_S ref02_Valid)), (59, .spec (ref02_less_S ref02_less))]) := (ΓOk_cons ref02_Valid_ok (ΓOk_cons ref02_less_ok ΓOk_nil))
def ref02_Less_p1 : ref02_Less_p1_T := ref02_Less_p1_u ref02_less
theorem ref02_Less_p1_ok : PieceOk Try.prog 57 0 ref02_Less_p1_code ref02_Less_p1_v ref02_Less_p1_o (ref02_Less_p1_G ref02_Less_p1) := ref02_Less_p1_ok' ref02_Valid ref02_less ref02_Less_Γ
def ref02_Less_p2 : ref02_Less_p2_T := ref02_Less_p2_u ref02_less
theorem ref02_Less_p2_ok : PieceOk Try.prog 57 0 ref02_Less_p2_code ref02_Less_p2_v ref02_Less_p2_o (ref02_Less_p2_G ref02_Less_p2) := ref02_Less_p2_ok' ref02_Valid ref02_less ref02_Less_Γ
def ref02_Less_p3 : ref02_Less_p3_T := ref02_Less_p3_u ref02_Less_p2
theorem ref02_Less_p3_ok : PieceOk Try.prog 57 0 ref02_Less_p3_code ref02_Less_p3_v ref02_Less_p3_o (ref02_Less_p3_G ref02_Less_p3) := ref02_Less_p3_ok' ref02_Valid ref02_less ref02_Less_Γ ref02_Less_p2 ref02_Less_p2_ok
def ref02_Less : T_ref02_Less := ref02_Less_s ref02_Valid ref02_Less_p1 ref02_Less_p3
theorem ref02_Less_ok : SpecOk Try.prog 24 (ref02_Less_S ref02_Less) := ref02_Less_ok' ref02_Valid ref02_less ref02_Less_Γ ref02_Less_p1 ref02_Less_p3 ref02_Less_p1_ok ref02_Less_p3_ok

/-- pagewatch/review.sort -/
abbrev T_review_sort := {β : Type} → (List (Int × Int)) → ((List Int × List Int) → Option β) → Option β
def review_sort_S (c : T_review_sort) : Spec :=
  ⟨[(false, [.data (.slice (.prod (.int .i64) (.int .i64)))])], [], [(true, [.data (.prod (.slice (.int .i64)) (.slice (.int .i64)))])], [], fun x k => c x.1.1.1 (fun r0 => k (((r0, ()), ()), ()))⟩
section
variable (c_review_split : T_review_split)
@[reducible] def review_sort_X : Ctx := ⟨look tab, pick1 [(92, .spec (review_split_S c_review_split)), (93, .rows slices_Sort_int_int_F)], false⟩
def review_sort_s {β : Type} (l : List (Int × Int)) (k : ((List Int × List Int) → Option β)) : Option β :=
  c_review_split l (fun (lrsplit : List Int) (lrsplit2 : List Int) =>
  cond (decide (List.length lrsplit < 4611686018427387904))
  (let l2 : List Int := (sortInts lrsplit);
  cond (decide (List.length lrsplit2 < 4611686018427387904))
  (let l3 : List Int := (sortInts lrsplit2);
  k (l2, l3))
  none)
  none)
theorem review_sort_ok' (hΓ : ΓOk Try.prog (review_sort_X c_review_split).Γ) : SpecOk Try.prog 53 (review_sort_S (review_sort_s c_review_split)) :=
  spec_exec (X := (review_sort_X c_review_split)) (Λ := pick1 []) (rs := [.cell 2 98]) (c := bodyOf Try.f53) mixed tab_ok hΓ Try.func53 (by kernel_rfl) (by kernel_rfl) (by kernel_rfl) (by kernel_rfl) CutsOk_nil (fun x k r h => Eq.trans (b := (review_sort_S (review_sort_s c_review_split)).run x k) (by kernel_rfl) h)
end
theorem review_sort_Γ : ΓOk Try.prog (pick1 [(92, .spec (review_split_S review_split)), (93, .rows slices_Sort_int_int_F)]) := (ΓOk_cons review_split_ok (ΓOk_row slices_Sort_int_int_rowok ΓOk_nil))
def review_sort : T_review_sort := review_sort_s review_split
theorem review_sort_ok : SpecOk Try.prog 53 (review_sort_S review_sort) := review_sort_ok' review_split review_sort_Γ

/-- pagewatch/ratio.New -/
abbrev T_ratio_New := {β : Type} → Int → Int → ((Int × Int) → Int → Option β) → Option β
def ratio_New_S (c : T_ratio_New) : Spec :=
  ⟨[(false, [.data (.int .i64)]), (false, [.data (.int .i64)])], [], [(true, [.data (.prod (.int .i64) (.int .i64))]), (false, [.data (.int .i64)])], [], fun x k => c x.1.1.1 x.1.2.1.1 (fun r0 r1 => k (((r0, ()), (r1, ()), ()), ()))⟩
section
variable (c_ratio_gcd : T_ratio_gcd) (c_ratio_size : T_ratio_size) (c_ratio_within : T_ratio_within)
@[reducible] def ratio_New_X : Ctx := ⟨look tab, pick1 [(95, .spec (ratio_gcd_S c_ratio_gcd)), (96, .spec (ratio_size_S c_ratio_size)), (94, .spec (ratio_within_S c_ratio_within))], false⟩
def ratio_New_s {β : Type} (num : Int) (den : Int) (k : ((Int × Int) → Int → Option β)) : Option β :=
  cond (decide (den < (1 : Int)))
  (k ((0 : Int), (0 : Int)) (1 : Int))
  (cond (decide ((4611686018427387904 : Int) < den))
  (k ((0 : Int), (0 : Int)) (1 : Int))
  (c_ratio_within num (fun (rwithin : Bool) =>
  cond (!rwithin)
  (k ((0 : Int), (0 : Int)) (1 : Int))
  (c_ratio_size num (fun (rsize : Int) =>
  c_ratio_gcd rsize den (fun (rgcd : Int) =>
  cond (!decide (rgcd = 0))
  (cond (!decide (rgcd = 0))
  (k ((IntKind.i64.wrap (Int.tdiv num rgcd)), (IntKind.i64.wrap (Int.tdiv den rgcd))) (0 : Int))
  none)
  none))))))
theorem ratio_New_ok' (hΓ : ΓOk Try.prog (ratio_New_X c_ratio_gcd c_ratio_size c_ratio_within).Γ) : SpecOk Try.prog 54 (ratio_New_S (ratio_New_s c_ratio_gcd c_ratio_size c_ratio_within)) :=
  spec_exec (X := (ratio_New_X c_ratio_gcd c_ratio_size c_ratio_within)) (Λ := pick1 []) (rs := [.cell 4 53, .tmp 5]) (c := bodyOf Try.f54) mixed tab_ok hΓ Try.func54 (by kernel_rfl) (by kernel_rfl) (by kernel_rfl) (by kernel_rfl) CutsOk_nil (fun x k r h => Eq.trans (b := (ratio_New_S (ratio_New_s c_ratio_gcd c_ratio_size c_ratio_within)).run x k) (by kernel_rfl) h)
end
theorem ratio_New_Γ : ΓOk Try.prog (pick1 [(95, .spec (ratio_gcd_S ratio_gcd)), (96, .spec (ratio_size_S ratio_size)), (94, .spec (ratio_within_S ratio_within))]) := (ΓOk_cons ratio_gcd_ok (ΓOk_cons ratio_size_ok (ΓOk_cons ratio_within_ok ΓOk_nil)))
def ratio_New : T_ratio_New := ratio_New_s ratio_gcd ratio_size ratio_within
theorem ratio_New_ok : SpecOk Try.prog 54 (ratio_New_S ratio_New) := ratio_New_ok' ratio_gcd ratio_size ratio_within ratio_New_Γ

/-- slices.IndexFunc[[]pagewatch/api.Range,pagewatch/api.Range] -/
abbrev T_slices_IndexFunc_api_Range_api_Range_vreview_check_f1 := {β : Type} → (List (Int × Int)) → (Int → Option β) → Option β
def slices_IndexFunc_api_Range_api_Range_vreview_check_f1_S (c : T_slices_IndexFunc_api_Range_api_Range_vreview_check_f1) : Spec :=
  ⟨[(false, [.data (.slice (.prod (.int .i64) (.int .i64)))]), (false, [.fn 91 []])], [], [(false, [.data (.int .i64)])], [], fun x k => c x.1.1.1 (fun r0 => k (((r0, ()), ()), ()))⟩
noncomputable def slices_IndexFunc_api_Range_api_Range_vreview_check_f1_p1_code : Code := codeAt 26 (bodyOf Try.f101)
abbrev slices_IndexFunc_api_Range_api_Range_vreview_check_f1_p1_K1 (β : Type) := Int → Option β
abbrev slices_IndexFunc_api_Range_api_Range_vreview_check_f1_p1_K2 (β : Type) := Unit → Option β
abbrev slices_IndexFunc_api_Range_api_Range_vreview_check_f1_p1_T := {β : Type} → slices_IndexFunc_api_Range_api_Range_vreview_check_f1_p1_K1 β → slices_IndexFunc_api_Range_api_Range_vreview_check_f1_p1_K2 β → (List (Int × Int)) → Int → Int → Option β
def slices_IndexFunc_api_Range_api_Range_vreview_check_f1_p1_v : View := ⟨0, [0, 1, 7, 8], [(false, [.data (.slice (.prod (.int .i64) (.int .i64)))]), (false, [.fn 91 []]), (false, [.data (.int .i64)]), (false, [.data (.int .i64)])], []⟩
def slices_IndexFunc_api_Range_api_Range_vreview_check_f1_p1_o : List (AExit × View) := [(.ret, ⟨0, [4], [(false, [.data (.int .i64)])], []⟩), (.exit 0, ⟨0, [], [], []⟩)]
@[reducible] def slices_IndexFunc_api_Range_api_Range_vreview_check_f1_p1_G (p : slices_IndexFunc_api_Range_api_Range_vreview_check_f1_p1_T) {β : Type} (d : slices_IndexFunc_api_Range_api_Range_vreview_check_f1_p1_v.den) (ks : Outs.K β slices_IndexFunc_api_Range_api_Range_vreview_check_f1_p1_o) : Option β :=
  p (fun a0 => ks.1 (((a0, ()), ()), ())) (fun _ => ks.2.1 ((), ())) d.1.1.1 d.1.2.2.1.1 d.1.2.2.2.1.1
section
variable (c_review_check_f1 : T_review_check_f1)
@[reducible] def slices_IndexFunc_api_Range_api_Range_vreview_check_f1_X : Ctx := ⟨look tab, pick1 [(91, .spec (review_check_f1_S c_review_check_f1))], false⟩
def slices_IndexFunc_api_Range_api_Range_vreview_check_f1_p1_s {β : Type} (rec : (List (Int × Int)) → Int → Int → Option β) (k1 : slices_IndexFunc_api_Range_api_Range_vreview_check_f1_p1_K1 β) (k2 : slices_IndexFunc_api_Range_api_Range_vreview_check_f1_p1_K2 β) (s : List (Int × Int)) (t7 : Int) (t8 : Int) : Option β :=
  cond (decide (t8 < t7))
  (cond (decide (0 ≤ t8) && decide (t8 < (List.length s : Int)))
  (let e : (Int × Int) := List.getD s (Int.toNat t8) ((0 : Int), (0 : Int));
  c_review_check_f1 e (fun (rcheck1 : Bool) =>
  cond rcheck1
  (k1 t8)
  (rec s t7 (IntKind.i64.wrap (t8 + (1 : Int))))))
  none)
  (k2 ())
def slices_IndexFunc_api_Range_api_Range_vreview_check_f1_p1_l {β : Type} : Nat → slices_IndexFunc_api_Range_api_Range_vreview_check_f1_p1_K1 β → slices_IndexFunc_api_Range_api_Range_vreview_check_f1_p1_K2 β → (List (Int × Int)) → Int → Int → Option β
  | 0 => fun _ _ _ _ _ => none
  | i + 1 => fun k1 k2 s t7 t8 => slices_IndexFunc_api_Range_api_Range_vreview_check_f1_p1_s c_review_check_f1 (slices_IndexFunc_api_Range_api_Range_vreview_check_f1_p1_l i k1 k2) k1 k2 s t7 t8
theorem slices_IndexFunc_api_Range_api_Range_vreview_check_f1_p1_ok' (hΓ : ΓOk Try.prog (slices_IndexFunc_api_Range_api_Range_vreview_check_f1_X c_review_check_f1).Γ) (i : Nat) : PieceOk Try.prog 19 0 slices_IndexFunc_api_Range_api_Range_vreview_check_f1_p1_code slices_IndexFunc_api_Range_api_Range_vreview_check_f1_p1_v slices_IndexFunc_api_Range_api_Range_vreview_check_f1_p1_o (slices_IndexFunc_api_Range_api_Range_vreview_check_f1_p1_G (slices_IndexFunc_api_Range_api_Range_vreview_check_f1_p1_l c_review_check_f1 i)) := by
  rw [show slices_IndexFunc_api_Range_api_Range_vreview_check_f1_p1_code = .loop (loopBody slices_IndexFunc_api_Range_api_Range_vreview_check_f1_p1_code) by kernel_rfl]
  exact piece_loop (X := (slices_IndexFunc_api_Range_api_Range_vreview_check_f1_X c_review_check_f1)) (p := 1) (Λ := pick1 []) (G := fun i => @fun β d ks => slices_IndexFunc_api_Range_api_Range_vreview_check_f1_p1_G (slices_IndexFunc_api_Range_api_Range_vreview_check_f1_p1_l c_review_check_f1 i) d ks) mixed tab_ok hΓ rfl (by kernel_rfl) CutsOk_nil (fun _ _ => rfl) (fun i => @fun β d ks r h => Eq.trans (b := slices_IndexFunc_api_Range_api_Range_vreview_check_f1_p1_G (slices_IndexFunc_api_Range_api_Range_vreview_check_f1_p1_l c_review_check_f1 (i + 1)) d ks) (by kernel_rfl) h) i
def slices_IndexFunc_api_Range_api_Range_vreview_check_f1_s (p1 : slices_IndexFunc_api_Range_api_Range_vreview_check_f1_p1_T) {β : Type} (s : List (Int × Int)) (k : (Int → Option β)) : Option β :=
  p1 (fun (t4 : Int) =>
  k t4) (fun (_ : Unit) =>
  k (-1 : Int)) s (List.length s : Int) (0 : Int)
theorem slices_IndexFunc_api_Range_api_Range_vreview_check_f1_ok' (hΓ : ΓOk Try.prog (slices_IndexFunc_api_Range_api_Range_vreview_check_f1_X c_review_check_f1).Γ) (p1 : slices_IndexFunc_api_Range_api_Range_vreview_check_f1_p1_T) (hp1 : PieceOk Try.prog 19 0 slices_IndexFunc_api_Range_api_Range_vreview_check_f1_p1_code slices_IndexFunc_api_Range_api_Range_vreview_check_f1_p1_v slices_IndexFunc_api_Range_api_Range_vreview_check_f1_p1_o (slices_IndexFunc_api_Range_api_Range_vreview_check_f1_p1_G p1)) : SpecOk Try.prog 101 (slices_IndexFunc_api_Range_api_Range_vreview_check_f1_S (slices_IndexFunc_api_Range_api_Range_vreview_check_f1_s p1)) :=
  spec_exec (X := (slices_IndexFunc_api_Range_api_Range_vreview_check_f1_X c_review_check_f1)) (Λ := pick1 [(26, pieceCut slices_IndexFunc_api_Range_api_Range_vreview_check_f1_p1_v slices_IndexFunc_api_Range_api_Range_vreview_check_f1_p1_o (slices_IndexFunc_api_Range_api_Range_vreview_check_f1_p1_G p1))]) (rs := [.tmp 4]) (c := bodyOf Try.f101) mixed tab_ok hΓ Try.func101 (by kernel_rfl) (by kernel_rfl) (by kernel_rfl) (by kernel_rfl) (CutsOk_cons (q := 26) (c' := slices_IndexFunc_api_Range_api_Range_vreview_check_f1_p1_code) (by kernel_rfl) rfl hp1 CutsOk_nil) (fun x k r h => Eq.trans (b := (slices_IndexFunc_api_Range_api_Range_vreview_check_f1_S (slices_IndexFunc_api_Range_api_Range_vreview_check_f1_s p1)).run x k) (by kernel_rfl) h)
end
theorem slices_IndexFunc_api_Range_api_Range_vreview_check_f1_Γ : ΓOk Try.prog (pick1 [(91, .spec (review_check_f1_S review_check_f1))]) := (ΓOk_cons review_check_f1_ok ΓOk_nil)
def slices_IndexFunc_api_Range_api_Range_vreview_check_f1_p1_n (m : Nat) : slices_IndexFunc_api_Range_api_Range_vreview_check_f1_p1_T := slices_IndexFunc_api_Range_api_Range_vreview_check_f1_p1_l review_check_f1 m
theorem slices_IndexFunc_api_Range_api_Range_vreview_check_f1_p1_step {β : Type} (i : Nat) (k1 k2 s t7 t8) : (slices_IndexFunc_api_Range_api_Range_vreview_check_f1_p1_n (i + 1) k1 k2 s t7 t8 : Option β) = slices_IndexFunc_api_Range_api_Range_vreview_check_f1_p1_s review_check_f1 (slices_IndexFunc_api_Range_api_Range_vreview_check_f1_p1_n i k1 k2) k1 k2 s t7 t8 := rfl
def slices_IndexFunc_api_Range_api_Range_vreview_check_f1_p1 : slices_IndexFunc_api_Range_api_Range_vreview_check_f1_p1_T := slices_IndexFunc_api_Range_api_Range_vreview_check_f1_p1_n fuel
theorem slices_IndexFunc_api_Range_api_Range_vreview_check_f1_p1_ok : PieceOk Try.prog 19 0 slices_IndexFunc_api_Range_api_Range_vreview_check_f1_p1_code slices_IndexFunc_api_Range_api_Range_vreview_check_f1_p1_v slices_IndexFunc_api_Range_api_Range_vreview_check_f1_p1_o (slices_IndexFunc_api_Range_api_Range_vreview_check_f1_p1_G slices_IndexFunc_api_Range_api_Range_vreview_check_f1_p1) := slices_IndexFunc_api_Range_api_Range_vreview_check_f1_p1_ok' review_check_f1 slices_IndexFunc_api_Range_api_Range_vreview_check_f1_Γ fuel
def slices_IndexFunc_api_Range_api_Range_vreview_check_f1 : T_slices_IndexFunc_api_Range_api_Range_vreview_check_f1 := slices_IndexFunc_api_Range_api_Range_vreview_check_f1_s slices_IndexFunc_api_Range_api_Range_vreview_check_f1_p1
theorem slices_IndexFunc_api_Range_api_Range_vreview_check_f1_ok : SpecOk Try.prog 101 (slices_IndexFunc_api_Range_api_Range_vreview_check_f1_S slices_IndexFunc_api_Range_api_Range_vreview_check_f1) := slices_IndexFunc_api_Range_api_Range_vreview_check_f1_ok' review_check_f1 slices_IndexFunc_api_Range_api_Range_vreview_check_f1_Γ slices_IndexFunc_api_Range_api_Range_vreview_check_f1_p1 slices_IndexFunc_api_Range_api_Range_vreview_check_f1_p1_ok

/-- slices.ContainsFunc[[]pagewatch/api.Range,pagewatch/api.Range] -/
abbrev T_slices_ContainsFunc_api_Range_api_Range_vreview_check_f1 := {β : Type} → (List (Int × Int)) → (Bool → Option β) → Option β
def slices_ContainsFunc_api_Range_api_Range_vreview_check_f1_S (c : T_slices_ContainsFunc_api_Range_api_Range_vreview_check_f1) : Spec :=
  ⟨[(false, [.data (.slice (.prod (.int .i64) (.int .i64)))]), (false, [.fn 91 []])], [], [(false, [.data .bool])], [], fun x k => c x.1.1.1 (fun r0 => k (((r0, ()), ()), ()))⟩
section
variable (c_slices_IndexFunc_api_Range_api_Range_vreview_check_f1 : T_slices_IndexFunc_api_Range_api_Range_vreview_check_f1)
@[reducible] def slices_ContainsFunc_api_Range_api_Range_vreview_check_f1_X : Ctx := ⟨look tab, pick1 [(101, .spec (slices_IndexFunc_api_Range_api_Range_vreview_check_f1_S c_slices_IndexFunc_api_Range_api_Range_vreview_check_f1))], false⟩
def slices_ContainsFunc_api_Range_api_Range_vreview_check_f1_s {β : Type} (s : List (Int × Int)) (k : (Bool → Option β)) : Option β :=
  c_slices_IndexFunc_api_Range_api_Range_vreview_check_f1 s (fun (rRange : Int) =>
  let t : Bool := (decide ((0 : Int) ≤ rRange));
  k t)
theorem slices_ContainsFunc_api_Range_api_Range_vreview_check_f1_ok' (hΓ : ΓOk Try.prog (slices_ContainsFunc_api_Range_api_Range_vreview_check_f1_X c_slices_IndexFunc_api_Range_api_Range_vreview_check_f1).Γ) : SpecOk Try.prog 90 (slices_ContainsFunc_api_Range_api_Range_vreview_check_f1_S (slices_ContainsFunc_api_Range_api_Range_vreview_check_f1_s c_slices_IndexFunc_api_Range_api_Range_vreview_check_f1)) :=
  spec_exec (X := (slices_ContainsFunc_api_Range_api_Range_vreview_check_f1_X c_slices_IndexFunc_api_Range_api_Range_vreview_check_f1)) (Λ := pick1 []) (rs := [.tmp 4]) (c := bodyOf Try.f90) mixed tab_ok hΓ Try.func90 (by kernel_rfl) (by kernel_rfl) (by kernel_rfl) (by kernel_rfl) CutsOk_nil (fun x k r h => Eq.trans (b := (slices_ContainsFunc_api_Range_api_Range_vreview_check_f1_S (slices_ContainsFunc_api_Range_api_Range_vreview_check_f1_s c_slices_IndexFunc_api_Range_api_Range_vreview_check_f1)).run x k) (by kernel_rfl) h)
end
theorem slices_ContainsFunc_api_Range_api_Range_vreview_check_f1_Γ : ΓOk Try.prog (pick1 [(101, .spec (slices_IndexFunc_api_Range_api_Range_vreview_check_f1_S slices_IndexFunc_api_Range_api_Range_vreview_check_f1))]) := (ΓOk_cons slices_IndexFunc_api_Range_api_Range_vreview_check_f1_ok ΓOk_nil)
def slices_ContainsFunc_api_Range_api_Range_vreview_check_f1 : T_slices_ContainsFunc_api_Range_api_Range_vreview_check_f1 := slices_ContainsFunc_api_Range_api_Range_vreview_check_f1_s slices_IndexFunc_api_Range_api_Range_vreview_check_f1
theorem slices_ContainsFunc_api_Range_api_Range_vreview_check_f1_ok : SpecOk Try.prog 90 (slices_ContainsFunc_api_Range_api_Range_vreview_check_f1_S slices_ContainsFunc_api_Range_api_Range_vreview_check_f1) := slices_ContainsFunc_api_Range_api_Range_vreview_check_f1_ok' slices_IndexFunc_api_Range_api_Range_vreview_check_f1 slices_ContainsFunc_api_Range_api_Range_vreview_check_f1_Γ

/-- pagewatch/review.check -/
abbrev T_review_check := {β : Type} → (List (Int × Int)) → (Int → Option β) → Option β
def review_check_S (c : T_review_check) : Spec :=
  ⟨[(false, [.data (.slice (.prod (.int .i64) (.int .i64)))])], [], [(false, [.data (.int .i64)])], [], fun x k => c x.1.1.1 (fun r0 => k (((r0, ()), ()), ()))⟩
section
variable (c_slices_ContainsFunc_api_Range_api_Range_vreview_check_f1 : T_slices_ContainsFunc_api_Range_api_Range_vreview_check_f1)
@[reducible] def review_check_X : Ctx := ⟨look tab, pick1 [(90, .spec (slices_ContainsFunc_api_Range_api_Range_vreview_check_f1_S c_slices_ContainsFunc_api_Range_api_Range_vreview_check_f1))], false⟩
def review_check_s {β : Type} (l : List (Int × Int)) (k : (Int → Option β)) : Option β :=
  cond (decide ((256 : Int) < (List.length l : Int)))
  (k (5 : Int))
  (c_slices_ContainsFunc_api_Range_api_Range_vreview_check_f1 l (fun (rRange : Bool) =>
  cond rRange
  (k (8 : Int))
  (k (0 : Int))))
theorem review_check_ok' (hΓ : ΓOk Try.prog (review_check_X c_slices_ContainsFunc_api_Range_api_Range_vreview_check_f1).Γ) : SpecOk Try.prog 50 (review_check_S (review_check_s c_slices_ContainsFunc_api_Range_api_Range_vreview_check_f1)) :=
  spec_exec (X := (review_check_X c_slices_ContainsFunc_api_Range_api_Range_vreview_check_f1)) (Λ := pick1 []) (rs := [.tmp 2]) (c := bodyOf Try.f50) mixed tab_ok hΓ Try.func50 (by kernel_rfl) (by kernel_rfl) (by kernel_rfl) (by kernel_rfl) CutsOk_nil (fun x k r h => Eq.trans (b := (review_check_S (review_check_s c_slices_ContainsFunc_api_Range_api_Range_vreview_check_f1)).run x k) (by kernel_rfl) h)
end
theorem review_check_Γ : ΓOk Try.prog (pick1 [(90, .spec (slices_ContainsFunc_api_Range_api_Range_vreview_check_f1_S slices_ContainsFunc_api_Range_api_Range_vreview_check_f1))]) := (ΓOk_cons slices_ContainsFunc_api_Range_api_Range_vreview_check_f1_ok ΓOk_nil)
def review_check : T_review_check := review_check_s slices_ContainsFunc_api_Range_api_Range_vreview_check_f1
theorem review_check_ok : SpecOk Try.prog 50 (review_check_S review_check) := review_check_ok' slices_ContainsFunc_api_Range_api_Range_vreview_check_f1 review_check_Γ

/-- pagewatch/review.Sum -/
abbrev T_review_Sum := {β : Type} → (List (Int × Int)) → ((Int × Int) → Int → Option β) → Option β
def review_Sum_S (c : T_review_Sum) : Spec :=
  ⟨[(false, [.data (.slice (.prod (.int .i64) (.int .i64)))])], [], [(true, [.data (.prod (.int .i64) (.int .i64))]), (false, [.data (.int .i64)])], [], fun x k => c x.1.1.1 (fun r0 r1 => k (((r0, ()), (r1, ()), ()), ()))⟩
section
variable (c_review_check : T_review_check) (c_review_sum : T_review_sum)
@[reducible] def review_Sum_X : Ctx := ⟨look tab, pick1 [(50, .spec (review_check_S c_review_check)), (51, .spec (review_sum_S c_review_sum))], false⟩
def review_Sum_s {β : Type} (l : List (Int × Int)) (k : ((Int × Int) → Int → Option β)) : Option β :=
  c_review_check l (fun (rcheck : Int) =>
  cond (!decide (rcheck = (0 : Int)))
  (k ((0 : Int), (0 : Int)) rcheck)
  (c_review_sum l (fun (rsum : (Int × Int)) =>
  k rsum (0 : Int))))
theorem review_Sum_ok' (hΓ : ΓOk Try.prog (review_Sum_X c_review_check c_review_sum).Γ) : SpecOk Try.prog 20 (review_Sum_S (review_Sum_s c_review_check c_review_sum)) :=
  spec_exec (X := (review_Sum_X c_review_check c_review_sum)) (Λ := pick1 []) (rs := [.cell 2 48, .tmp 3]) (c := bodyOf Try.f20) mixed tab_ok hΓ Try.func20 (by kernel_rfl) (by kernel_rfl) (by kernel_rfl) (by kernel_rfl) CutsOk_nil (fun x k r h => Eq.trans (b := (review_Sum_S (review_Sum_s c_review_check c_review_sum)).run x k) (by kernel_rfl) h)
end
theorem review_Sum_Γ : ΓOk Try.prog (pick1 [(50, .spec (review_check_S review_check)), (51, .spec (review_sum_S review_sum))]) := (ΓOk_cons review_check_ok (ΓOk_cons review_sum_ok ΓOk_nil))
def review_Sum : T_review_Sum := review_Sum_s review_check review_sum
theorem review_Sum_ok : SpecOk Try.prog 20 (review_Sum_S review_Sum) := review_Sum_ok' review_check review_sum review_Sum_Γ

/-- pagewatch/review.Rank -/
abbrev T_review_Rank := {β : Type} → (List (Int × Int)) → Int → Int → ((Int × Int) → Int → Option β) → Option β
def review_Rank_S (c : T_review_Rank) : Spec :=
  ⟨[(false, [.data (.slice (.prod (.int .i64) (.int .i64)))]), (false, [.data (.int .i64)]), (false, [.data (.int .i64)])], [], [(true, [.data (.prod (.int .i64) (.int .i64))]), (false, [.data (.int .i64)])], [], fun x k => c x.1.1.1 x.1.2.1.1 x.1.2.2.1.1 (fun r0 r1 => k (((r0, ()), (r1, ()), ()), ()))⟩
section
variable (c_review_check : T_review_check) (c_review_in : T_review_in) (c_review_sort : T_review_sort)
@[reducible] def review_Rank_X : Ctx := ⟨look tab, pick1 [(50, .spec (review_check_S c_review_check)), (52, .spec (review_in_S c_review_in)), (53, .spec (review_sort_S c_review_sort))], false⟩
def review_Rank_s {β : Type} (l : List (Int × Int)) (num : Int) (den : Int) (k : ((Int × Int) → Int → Option β)) : Option β :=
  cond (decide ((List.length l : Int) = (0 : Int)))
  (k ((0 : Int), (0 : Int)) (7 : Int))
  (c_review_check l (fun (rcheck : Int) =>
  cond (!decide (rcheck = (0 : Int)))
  (k ((0 : Int), (0 : Int)) rcheck)
  (c_review_in den (1 : Int) (1000 : Int) (fun (rin : Bool) =>
  cond (!rin)
  (k ((0 : Int), (0 : Int)) (1 : Int))
  (c_review_in num (0 : Int) den (fun (rin2 : Bool) =>
  cond (!rin2)
  (k ((0 : Int), (0 : Int)) (1 : Int))
  (cond (!decide (den = 0))
  (let k_ : Int := (if (IntKind.i64.wrap (Int.tdiv (IntKind.i64.wrap ((IntKind.i64.wrap ((IntKind.i64.wrap (num * (List.length l : Int))) + den)) - (1 : Int))) den)) > (1 : Int) then (IntKind.i64.wrap (Int.tdiv (IntKind.i64.wrap ((IntKind.i64.wrap ((IntKind.i64.wrap (num * (List.length l : Int))) + den)) - (1 : Int))) den)) else (1 : Int));
  c_review_sort l (fun (rsort : (List Int × List Int)) =>
  cond (decide (0 ≤ (IntKind.i64.wrap (k_ - (1 : Int)))) && decide ((IntKind.i64.wrap (k_ - (1 : Int))) < (List.length rsort.1 : Int)))
  (let e : Int := List.getD rsort.1 (Int.toNat (IntKind.i64.wrap (k_ - (1 : Int)))) (0 : Int);
  cond (decide (0 ≤ (IntKind.i64.wrap (k_ - (1 : Int)))) && decide ((IntKind.i64.wrap (k_ - (1 : Int))) < (List.length rsort.2 : Int)))
  (let e2 : Int := List.getD rsort.2 (Int.toNat (IntKind.i64.wrap (k_ - (1 : Int)))) (0 : Int);
  k (e, e2) (0 : Int))
  none)
  none))
  none)))))))
theorem review_Rank_ok' (hΓ : ΓOk Try.prog (review_Rank_X c_review_check c_review_in c_review_sort).Γ) : SpecOk Try.prog 21 (review_Rank_S (review_Rank_s c_review_check c_review_in c_review_sort)) :=
  spec_exec (X := (review_Rank_X c_review_check c_review_in c_review_sort)) (Λ := pick1 []) (rs := [.cell 6 48, .tmp 7]) (c := bodyOf Try.f21) mixed tab_ok hΓ Try.func21 (by kernel_rfl) (by kernel_rfl) (by kernel_rfl) (by kernel_rfl) CutsOk_nil (fun x k r h => Eq.trans (b := (review_Rank_S (review_Rank_s c_review_check c_review_in c_review_sort)).run x k) (by kernel_rfl) h)
end
theorem review_Rank_Γ : ΓOk Try.prog (pick1 [(50, .spec (review_check_S review_check)), (52, .spec (review_in_S review_in)), (53, .spec (review_sort_S review_sort))]) := (ΓOk_cons review_check_ok (ΓOk_cons review_in_ok (ΓOk_cons review_sort_ok ΓOk_nil)))
def review_Rank : T_review_Rank := review_Rank_s review_check review_in review_sort
theorem review_Rank_ok : SpecOk Try.prog 21 (review_Rank_S review_Rank) := review_Rank_ok' review_check review_in review_sort review_Rank_Γ

/-- pagewatch/review.Mean -/
abbrev T_review_Mean := {β : Type} → (List (Int × Int)) → ((Int × Int) → (Int × Int) → Int → Option β) → Option β
def review_Mean_S (c : T_review_Mean) : Spec :=
  ⟨[(false, [.data (.slice (.prod (.int .i64) (.int .i64)))])], [], [(true, [.data (.prod (.int .i64) (.int .i64))]), (true, [.data (.prod (.int .i64) (.int .i64))]), (false, [.data (.int .i64)])], [], fun x k => c x.1.1.1 (fun r0 r1 r2 => k (((r0, ()), (r1, ()), (r2, ()), ()), ()))⟩
section
variable (c_ratio_New : T_ratio_New) (c_review_check : T_review_check) (c_review_sum : T_review_sum)
@[reducible] def review_Mean_X : Ctx := ⟨look tab, pick1 [(54, .spec (ratio_New_S c_ratio_New)), (50, .spec (review_check_S c_review_check)), (51, .spec (review_sum_S c_review_sum))], false⟩
def review_Mean_s {β : Type} (l : List (Int × Int)) (k : ((Int × Int) → (Int × Int) → Int → Option β)) : Option β :=
  cond (decide ((List.length l : Int) = (0 : Int)))
  (k ((0 : Int), (0 : Int)) ((0 : Int), (0 : Int)) (7 : Int))
  (c_review_check l (fun (rcheck : Int) =>
  cond (!decide (rcheck = (0 : Int)))
  (k ((0 : Int), (0 : Int)) ((0 : Int), (0 : Int)) rcheck)
  (c_review_sum l (fun (rsum : (Int × Int)) =>
  c_ratio_New rsum.1 (List.length l : Int) (fun (rNew : (Int × Int)) (rNew2 : Int) =>
  c_ratio_New rsum.2 (List.length l : Int) (fun (rNew3 : (Int × Int)) (rNew4 : Int) =>
  k rNew rNew3 (0 : Int)))))))
theorem review_Mean_ok' (hΓ : ΓOk Try.prog (review_Mean_X c_ratio_New c_review_check c_review_sum).Γ) : SpecOk Try.prog 22 (review_Mean_S (review_Mean_s c_ratio_New c_review_check c_review_sum)) :=
  spec_exec (X := (review_Mean_X c_ratio_New c_review_check c_review_sum)) (Λ := pick1 []) (rs := [.cell 2 53, .cell 3 53, .tmp 4]) (c := bodyOf Try.f22) mixed tab_ok hΓ Try.func22 (by kernel_rfl) (by kernel_rfl) (by kernel_rfl) (by kernel_rfl) CutsOk_nil (fun x k r h => Eq.trans (b := (review_Mean_S (review_Mean_s c_ratio_New c_review_check c_review_sum)).run x k) (by kernel_rfl) h)
end
theorem review_Mean_Γ : ΓOk Try.prog (pick1 [(54, .spec (ratio_New_S ratio_New)), (50, .spec (review_check_S review_check)), (51, .spec (review_sum_S review_sum))]) := (ΓOk_cons ratio_New_ok (ΓOk_cons review_check_ok (ΓOk_cons review_sum_ok ΓOk_nil)))
def review_Mean : T_review_Mean := review_Mean_s ratio_New review_check review_sum
theorem review_Mean_ok : SpecOk Try.prog 22 (review_Mean_S review_Mean) := review_Mean_ok' ratio_New review_check review_sum review_Mean_Γ

/-- pagewatch/pagewatchlaw42.sane -/
abbrev T_law42_sane := {β : Type} → (Bool → Option β) → Option β
def law42_sane_S (c : T_law42_sane) : Spec :=
  ⟨[], [], [(false, [.data .bool])], [], fun x k => c  (fun r0 => k (((r0, ()), ()), ()))⟩
section
variable (c_review_Mean : T_review_Mean) (c_review_Rank : T_review_Rank) (c_review_Sum : T_review_Sum)
@[reducible] def law42_sane_X : Ctx := ⟨look tab, pick1 [(22, .spec (review_Mean_S c_review_Mean)), (21, .spec (review_Rank_S c_review_Rank)), (20, .spec (review_Sum_S c_review_Sum))], false⟩
def law42_sane_s {β : Type} (k : (Bool → Option β)) : Option β :=
  let l : List (Int × Int) := ([((1 : Int), (3 : Int)), ((2 : Int), (2 : Int))] : List (Int × Int));
  c_review_Sum l (fun (rSum : (Int × Int)) (rSum2 : Int) =>
  c_review_Mean l (fun (rMean : (Int × Int)) (rMean2 : (Int × Int)) (rMean3 : Int) =>
  c_review_Rank l (1 : Int) (2 : Int) (fun (rRank : (Int × Int)) (rRank2 : Int) =>
  cond (decide (rSum2 = (0 : Int)))
  (cond (decide (rSum.1 = (3 : Int)) && (decide (rSum.2 = (5 : Int)) && true))
  (cond (decide (rMean3 = (0 : Int)))
  (cond (decide (rMean.1 = (3 : Int)) && (decide (rMean.2 = (2 : Int)) && true))
  (cond (decide (rMean2.1 = (5 : Int)) && (decide (rMean2.2 = (2 : Int)) && true))
  (cond (decide (rRank2 = (0 : Int)))
  (let t : Bool := (decide (rRank.1 = (1 : Int)) && (decide (rRank.2 = (2 : Int)) && true));
  k t)
  (k false))
  (k false))
  (k false))
  (k false))
  (k false))
  (k false))))
theorem law42_sane_ok' (hΓ : ΓOk Try.prog (law42_sane_X c_review_Mean c_review_Rank c_review_Sum).Γ) : SpecOk Try.prog 18 (law42_sane_S (law42_sane_s c_review_Mean c_review_Rank c_review_Sum)) :=
  spec_exec (X := (law42_sane_X c_review_Mean c_review_Rank c_review_Sum)) (Λ := pick1 []) (rs := [.tmp 0]) (c := bodyOf Try.f18) mixed tab_ok hΓ Try.func18 (by kernel_rfl) (by kernel_rfl) (by kernel_rfl) (by kernel_rfl) CutsOk_nil (fun x k r h => Eq.trans (b := (law42_sane_S (law42_sane_s c_review_Mean c_review_Rank c_review_Sum)).run x k) (by kernel_rfl) h)
end
theorem law42_sane_Γ : ΓOk Try.prog (pick1 [(22, .spec (review_Mean_S review_Mean)), (21, .spec (review_Rank_S review_Rank)), (20, .spec (review_Sum_S review_Sum))]) := (ΓOk_cons review_Mean_ok (ΓOk_cons review_Rank_ok (ΓOk_cons review_Sum_ok ΓOk_nil)))
def law42_sane : T_law42_sane := law42_sane_s review_Mean review_Rank review_Sum
theorem law42_sane_ok : SpecOk Try.prog 18 (law42_sane_S law42_sane) := law42_sane_ok' review_Mean review_Rank review_Sum law42_sane_Γ

/-- pagewatch/pagewatchlaw42.ReviewAdds -/
abbrev T_law42_ReviewAdds := {β : Type} → (List Int) → (Bool → Option β) → Option β
def law42_ReviewAdds_S (c : T_law42_ReviewAdds) : Spec :=
  ⟨[(false, [.data (.slice (.int .i64))])], [], [(false, [.data .bool])], [], fun x k => c x.1.1.1 (fun r0 => k (((r0, ()), ()), ()))⟩
noncomputable def law42_ReviewAdds_p1_code : Code := codeAt 65530 (bodyOf Try.f4)
abbrev law42_ReviewAdds_p1_K1 (β : Type) := (List (Int × Int)) → (List (Int × Int)) → Int → Int → Int → Int → Option β
abbrev law42_ReviewAdds_p1_T := {β : Type} → law42_ReviewAdds_p1_K1 β → Int → Int → (List (Int × Int)) → (List (Int × Int)) → Int → Int → Int → Int → Option β
def law42_ReviewAdds_p1_v : View := ⟨0, [8, 9, 16, 17, 98, 99, 100], [(false, [.rowh 0]), (false, [.rowh 1]), (false, [.ptr 2 0]), (false, [.ptr 3 0]), (false, [.rowh 0]), (false, [.data (.int .i64)]), (false, [.data (.int .i64)])], [.row 48 (.prod (.int .i64) (.int .i64)), .row 48 (.prod (.int .i64) (.int .i64)), .cells 48 [.data (.int .i64), .data (.int .i64)], .cells 48 [.data (.int .i64), .data (.int .i64)]]⟩
def law42_ReviewAdds_p1_o : List (AExit × View) := [(.exit 0, ⟨0, [8, 9, 16, 17], [(false, [.rowh 0]), (false, [.rowh 1]), (false, [.ptr 2 0]), (false, [.ptr 3 0])], [.row 48 (.prod (.int .i64) (.int .i64)), .row 48 (.prod (.int .i64) (.int .i64)), .cells 48 [.data (.int .i64), .data (.int .i64)], .cells 48 [.data (.int .i64), .data (.int .i64)]]⟩)]
@[reducible] def law42_ReviewAdds_p1_G (p : law42_ReviewAdds_p1_T) {β : Type} (d : law42_ReviewAdds_p1_v.den) (ks : Outs.K β law42_ReviewAdds_p1_o) : Option β :=
  p (fun a0 a1 a2 a3 a4 a5 => ks.1 (((), (), (), (), ()), (a0, a1, (a2, a3, ()), (a4, a5, ()), ()))) d.1.2.2.2.2.2.1.1 d.1.2.2.2.2.2.2.1.1 d.2.1 d.2.2.1 d.2.2.2.1.1 d.2.2.2.1.2.1 d.2.2.2.2.1.1 d.2.2.2.2.1.2.1
section
variable (c_law42_ranges : T_law42_ranges) (c_law42_sane : T_law42_sane) (c_made_Light : T_made_Light) (c_made_Roll : T_made_Roll) (c_review_Rank : T_review_Rank) (c_review_Sum : T_review_Sum)
@[reducible] def law42_ReviewAdds_X : Ctx := ⟨look tab, pick1 [(19, .spec (law42_ranges_S c_law42_ranges)), (18, .spec (law42_sane_S c_law42_sane)), (10, .spec (made_Light_S c_made_Light)), (12, .spec (made_Roll_S c_made_Roll)), (21, .spec (review_Rank_S c_review_Rank)), (20, .spec (review_Sum_S c_review_Sum))], false⟩
def law42_ReviewAdds_p1_s {β : Type} (rec : Int → Int → (List (Int × Int)) → (List (Int × Int)) → Int → Int → Int → Int → Option β) (k1 : law42_ReviewAdds_p1_K1 β) (t99 : Int) (t100 : Int) (all : List (Int × Int)) (back : List (Int × Int)) (least : Int) (least2 : Int) (most : Int) (most2 : Int) : Option β :=
  cond (decide (t100 < t99))
  (cond (decide (0 ≤ t100) && decide (t100 < (List.length all : Int)))
  (rec t99 (IntKind.i64.wrap (t100 + (1 : Int))) all back (if (List.getD all (Int.toNat t100) ((0 : Int), (0 : Int))).1 < least then (List.getD all (Int.toNat t100) ((0 : Int), (0 : Int))).1 else least) (if (List.getD all (Int.toNat t100) ((0 : Int), (0 : Int))).2 < least2 then (List.getD all (Int.toNat t100) ((0 : Int), (0 : Int))).2 else least2) (if (List.getD all (Int.toNat t100) ((0 : Int), (0 : Int))).1 > most then (List.getD all (Int.toNat t100) ((0 : Int), (0 : Int))).1 else most) (if (List.getD all (Int.toNat t100) ((0 : Int), (0 : Int))).2 > most2 then (List.getD all (Int.toNat t100) ((0 : Int), (0 : Int))).2 else most2))
  none)
  (k1 all back least least2 most most2)
def law42_ReviewAdds_p1_l {β : Type} : Nat → law42_ReviewAdds_p1_K1 β → Int → Int → (List (Int × Int)) → (List (Int × Int)) → Int → Int → Int → Int → Option β
  | 0 => fun _ _ _ _ _ _ _ _ _ => none
  | i + 1 => fun k1 t99 t100 all back least least2 most most2 => law42_ReviewAdds_p1_s (law42_ReviewAdds_p1_l i k1) k1 t99 t100 all back least least2 most most2
theorem law42_ReviewAdds_p1_ok' (hΓ : ΓOk Try.prog (law42_ReviewAdds_X c_law42_ranges c_law42_sane c_made_Light c_made_Roll c_review_Rank c_review_Sum).Γ) (i : Nat) : PieceOk Try.prog 179 0 law42_ReviewAdds_p1_code law42_ReviewAdds_p1_v law42_ReviewAdds_p1_o (law42_ReviewAdds_p1_G (law42_ReviewAdds_p1_l i)) := by
  rw [show law42_ReviewAdds_p1_code = .loop (loopBody law42_ReviewAdds_p1_code) by kernel_rfl]
  exact piece_loop (X := (law42_ReviewAdds_X c_law42_ranges c_law42_sane c_made_Light c_made_Roll c_review_Rank c_review_Sum)) (p := 1) (Λ := pick1 []) (G := fun i => @fun β d ks => law42_ReviewAdds_p1_G (law42_ReviewAdds_p1_l i) d ks) mixed tab_ok hΓ rfl (by kernel_rfl) CutsOk_nil (fun _ _ => rfl) (fun i => @fun β d ks r h => Eq.trans (b := law42_ReviewAdds_p1_G (law42_ReviewAdds_p1_l (i + 1)) d ks) (by kernel_rfl) h) i
def law42_ReviewAdds_s (p1 : law42_ReviewAdds_p1_T) {β : Type} (t : List Int) (k : (Bool → Option β)) : Option β :=
  c_made_Light t (fun (rLight : Bool) =>
  cond (!rLight)
  (c_law42_sane  (fun (rsane : Bool) =>
  k rsane))
  (c_made_Roll t (fun (mrRoll : (List Int × Int)) =>
  c_law42_ranges mrRoll (fun (mrranges : (List Int × Int)) (lrranges : List (Int × Int)) (lrranges2 : List Int) =>
  c_law42_ranges mrranges (fun (mrranges2 : (List Int × Int)) (lrranges3 : List (Int × Int)) (lrranges4 : List Int) =>
  cond (decide (List.length lrranges * 16 ≤ roomMax))
  (cond (decide ((List.length lrranges + List.length lrranges3) * 16 ≤ roomMax))
  (let l : List (Int × Int) := (lrranges ++ lrranges3);
  cond (decide (List.length lrranges3 * 16 ≤ roomMax))
  (cond (decide ((List.length lrranges3 + List.length lrranges) * 16 ≤ roomMax))
  (let l2 : List (Int × Int) := (lrranges3 ++ lrranges);
  c_review_Sum lrranges (fun (rSum : (Int × Int)) (rSum2 : Int) =>
  c_review_Sum lrranges3 (fun (rSum3 : (Int × Int)) (rSum4 : Int) =>
  c_review_Sum l (fun (rSum5 : (Int × Int)) (rSum6 : Int) =>
  cond (!decide (rSum2 = (0 : Int)))
  (k false)
  (cond (!decide (rSum4 = (0 : Int)))
  (k false)
  (cond (!decide (rSum6 = (0 : Int)))
  (k false)
  (cond (!(decide (rSum5.1 = (IntKind.i64.wrap (rSum.1 + rSum3.1))) && (decide (rSum5.2 = (IntKind.i64.wrap (rSum.2 + rSum3.2))) && true)))
  (k false)
  (cond (decide (0 ≤ (0 : Int)) && decide ((0 : Int) < (List.length l : Int)))
  (cond (decide (0 ≤ (0 : Int)) && decide ((0 : Int) < (List.length l : Int)))
  (p1 (fun (all : List (Int × Int)) (back : List (Int × Int)) (least : Int) (least2 : Int) (most : Int) (most2 : Int) =>
  c_review_Rank all (0 : Int) (1 : Int) (fun (rRank : (Int × Int)) (rRank2 : Int) =>
  c_review_Rank all (1 : Int) (1 : Int) (fun (rRank3 : (Int × Int)) (rRank4 : Int) =>
  c_review_Rank all (1 : Int) (2 : Int) (fun (rRank5 : (Int × Int)) (rRank6 : Int) =>
  c_review_Rank back (1 : Int) (2 : Int) (fun (rRank7 : (Int × Int)) (rRank8 : Int) =>
  cond (decide (rRank2 = (0 : Int)))
  (cond (decide (rRank4 = (0 : Int)))
  (cond (decide (rRank6 = (0 : Int)))
  (cond (decide (rRank8 = (0 : Int)))
  (cond (decide (rRank.1 = least) && (decide (rRank.2 = least2) && true))
  (cond (decide (rRank3.1 = most) && (decide (rRank3.2 = most2) && true))
  (cond (decide (rRank5.1 = rRank7.1) && (decide (rRank5.2 = rRank7.2) && true))
  (c_law42_sane  (fun (rsane : Bool) =>
  k rsane))
  (k false))
  (k false))
  (k false))
  (k false))
  (k false))
  (k false))
  (k false)))))) (List.length l : Int) (0 : Int) l l2 ((List.getD l (Int.toNat (0 : Int)) ((0 : Int), (0 : Int))).1) ((List.getD l (Int.toNat (0 : Int)) ((0 : Int), (0 : Int))).2) ((List.getD l (Int.toNat (0 : Int)) ((0 : Int), (0 : Int))).1) ((List.getD l (Int.toNat (0 : Int)) ((0 : Int), (0 : Int))).2))
  none)
  none))))))))
  none)
  none)
  none)
  none)))))
theorem law42_ReviewAdds_ok' (hΓ : ΓOk Try.prog (law42_ReviewAdds_X c_law42_ranges c_law42_sane c_made_Light c_made_Roll c_review_Rank c_review_Sum).Γ) (p1 : law42_ReviewAdds_p1_T) (hp1 : PieceOk Try.prog 179 0 law42_ReviewAdds_p1_code law42_ReviewAdds_p1_v law42_ReviewAdds_p1_o (law42_ReviewAdds_p1_G p1)) : SpecOk Try.prog 4 (law42_ReviewAdds_S (law42_ReviewAdds_s c_law42_ranges c_law42_sane c_made_Light c_made_Roll c_review_Rank c_review_Sum p1)) :=
  spec_exec (X := (law42_ReviewAdds_X c_law42_ranges c_law42_sane c_made_Light c_made_Roll c_review_Rank c_review_Sum)) (Λ := pick1 [(65530, pieceCut law42_ReviewAdds_p1_v law42_ReviewAdds_p1_o (law42_ReviewAdds_p1_G p1))]) (rs := [.tmp 2]) (c := bodyOf Try.f4) mixed tab_ok hΓ Try.func4 (by kernel_rfl) (by kernel_rfl) (by kernel_rfl) (by kernel_rfl) (CutsOk_cons (q := 65530) (c' := law42_ReviewAdds_p1_code) (by kernel_rfl) rfl hp1 CutsOk_nil) (fun x k r h => Eq.trans (b := (law42_ReviewAdds_S (law42_ReviewAdds_s c_law42_ranges c_law42_sane c_made_Light c_made_Roll c_review_Rank c_review_Sum p1)).run x k) (by kernel_rfl) h)
end
theorem law42_ReviewAdds_Γ : ΓOk Try.prog (pick1 [(19, .spec (law42_ranges_S law42_ranges)), (18, .spec (law42_sane_S law42_sane)), (10, .spec (made_Light_S made_Light)), (12, .spec (made_Roll_S made_Roll)), (21, .spec (review_Rank_S review_Rank)), (20, .spec (review_Sum_S review_Sum))]) := (ΓOk_cons law42_ranges_ok (ΓOk_cons law42_sane_ok (ΓOk_cons made_Light_ok (ΓOk_cons made_Roll_ok (ΓOk_cons review_Rank_ok (ΓOk_cons review_Sum_ok ΓOk_nil))))))
def law42_ReviewAdds_p1_n (m : Nat) : law42_ReviewAdds_p1_T := law42_ReviewAdds_p1_l m
theorem law42_ReviewAdds_p1_step {β : Type} (i : Nat) (k1 t99 t100 all back least least2 most most2) : (law42_ReviewAdds_p1_n (i + 1) k1 t99 t100 all back least least2 most most2 : Option β) = law42_ReviewAdds_p1_s (law42_ReviewAdds_p1_n i k1) k1 t99 t100 all back least least2 most most2 := rfl
def law42_ReviewAdds_p1 : law42_ReviewAdds_p1_T := law42_ReviewAdds_p1_n fuel
theorem law42_ReviewAdds_p1_ok : PieceOk Try.prog 179 0 law42_ReviewAdds_p1_code law42_ReviewAdds_p1_v law42_ReviewAdds_p1_o (law42_ReviewAdds_p1_G law42_ReviewAdds_p1) := law42_ReviewAdds_p1_ok' law42_ranges law42_sane made_Light made_Roll review_Rank review_Sum law42_ReviewAdds_Γ fuel
def law42_ReviewAdds : T_law42_ReviewAdds := law42_ReviewAdds_s law42_ranges law42_sane made_Light made_Roll review_Rank review_Sum law42_ReviewAdds_p1
theorem law42_ReviewAdds_ok : SpecOk Try.prog 4 (law42_ReviewAdds_S law42_ReviewAdds) := law42_ReviewAdds_ok' law42_ranges law42_sane made_Light made_Roll review_Rank review_Sum law42_ReviewAdds_Γ law42_ReviewAdds_p1 law42_ReviewAdds_p1_ok

/-- pagewatch/pagewatchlaw42.ReviewEncloses -/
abbrev T_law42_ReviewEncloses := {β : Type} → (List Int) → Int → Int → (Bool → Option β) → Option β
def law42_ReviewEncloses_S (c : T_law42_ReviewEncloses) : Spec :=
  ⟨[(false, [.data (.slice (.int .i64))]), (false, [.data (.int .u8)]), (false, [.data (.int .u8)])], [], [(false, [.data .bool])], [], fun x k => c x.1.1.1 x.1.2.1.1 x.1.2.2.1.1 (fun r0 => k (((r0, ()), ()), ()))⟩
noncomputable def law42_ReviewEncloses_p2_code : Code := codeAt 506 (bodyOf Try.f5)
noncomputable def law42_ReviewEncloses_p1_code : Code := codeAt 924 (loopBody law42_ReviewEncloses_p2_code)
abbrev law42_ReviewEncloses_p1_K1 (β : Type) := Int → Int → Int → Int → Int → Int → Int → (List (Int × Int)) → (List Int) → (List Int) → Option β
abbrev law42_ReviewEncloses_p1_T := {β : Type} → law42_ReviewEncloses_p1_K1 β → Int → Int → Int → Int → Int → Int → Int → (List (Int × Int)) → (List Int) → (List Int) → Option β
def law42_ReviewEncloses_p1_v : View := ⟨0, [1, 2, 7, 8, 9, 10, 12, 13, 38, 39, 40], [(false, [.data (.int .u8)]), (false, [.data (.int .u8)]), (false, [.rowh 0]), (false, [.rowh 1]), (false, [.data (.int .i64)]), (false, [.rowh 2]), (false, [.data (.int .i64)]), (false, [.data (.int .i64)]), (false, [.rowh 1]), (false, [.data (.int .i64)]), (false, [.data (.int .i64)])], [.row 48 (.prod (.int .i64) (.int .i64)), .row 3 (.int .i64), .row 3 (.int .i64)]⟩
def law42_ReviewEncloses_p1_o : List (AExit × View) := [(.exit 2, ⟨0, [1, 2, 7, 8, 9, 10, 12, 13, 38, 39, 40], [(false, [.data (.int .u8)]), (false, [.data (.int .u8)]), (false, [.rowh 0]), (false, [.rowh 1]), (false, [.data (.int .i64)]), (false, [.rowh 2]), (false, [.data (.int .i64)]), (false, [.data (.int .i64)]), (false, [.rowh 1]), (false, [.data (.int .i64)]), (false, [.data (.int .i64)])], [.row 48 (.prod (.int .i64) (.int .i64)), .row 3 (.int .i64), .row 3 (.int .i64)]⟩)]
@[reducible] def law42_ReviewEncloses_p1_G (p : law42_ReviewEncloses_p1_T) {β : Type} (d : law42_ReviewEncloses_p1_v.den) (ks : Outs.K β law42_ReviewEncloses_p1_o) : Option β :=
  p (fun a0 a1 a2 a3 a4 a5 a6 a7 a8 a9 => ks.1 (((a0, ()), (a1, ()), (), (), (a2, ()), (), (a3, ()), (a4, ()), (), (a5, ()), (a6, ()), ()), (a7, a8, a9, ()))) d.1.1.1 d.1.2.1.1 d.1.2.2.2.2.1.1 d.1.2.2.2.2.2.2.1.1 d.1.2.2.2.2.2.2.2.1.1 d.1.2.2.2.2.2.2.2.2.2.1.1 d.1.2.2.2.2.2.2.2.2.2.2.1.1 d.2.1 d.2.2.1 d.2.2.2.1
abbrev law42_ReviewEncloses_p2_K1 (β : Type) := Int → Int → Int → (List (Int × Int)) → (List Int) → (List Int) → Option β
abbrev law42_ReviewEncloses_p2_T := {β : Type} → law42_ReviewEncloses_p2_K1 β → Int → Int → Int → Int → Int → (List (Int × Int)) → (List Int) → (List Int) → Option β
def law42_ReviewEncloses_p2_v : View := ⟨0, [1, 2, 7, 8, 9, 10, 38, 39, 40], [(false, [.data (.int .u8)]), (false, [.data (.int .u8)]), (false, [.rowh 0]), (false, [.rowh 1]), (false, [.data (.int .i64)]), (false, [.rowh 2]), (false, [.rowh 1]), (false, [.data (.int .i64)]), (false, [.data (.int .i64)])], [.row 48 (.prod (.int .i64) (.int .i64)), .row 3 (.int .i64), .row 3 (.int .i64)]⟩
def law42_ReviewEncloses_p2_o : List (AExit × View) := [(.exit 0, ⟨0, [1, 2, 7, 8, 9, 10], [(false, [.data (.int .u8)]), (false, [.data (.int .u8)]), (false, [.rowh 0]), (false, [.rowh 1]), (false, [.data (.int .i64)]), (false, [.rowh 2])], [.row 48 (.prod (.int .i64) (.int .i64)), .row 3 (.int .i64), .row 3 (.int .i64)]⟩)]
@[reducible] def law42_ReviewEncloses_p2_G (p : law42_ReviewEncloses_p2_T) {β : Type} (d : law42_ReviewEncloses_p2_v.den) (ks : Outs.K β law42_ReviewEncloses_p2_o) : Option β :=
  p (fun a0 a1 a2 a3 a4 a5 => ks.1 (((a0, ()), (a1, ()), (), (), (a2, ()), (), ()), (a3, a4, a5, ()))) d.1.1.1 d.1.2.1.1 d.1.2.2.2.2.1.1 d.1.2.2.2.2.2.2.2.1.1 d.1.2.2.2.2.2.2.2.2.1.1 d.2.1 d.2.2.1 d.2.2.2.1
section
variable (c_law42_ranges : T_law42_ranges) (c_law42_sane : T_law42_sane) (c_made_Light : T_made_Light) (c_made_Roll : T_made_Roll) (c_ref02_Less : T_ref02_Less) (c_ref02_New : T_ref02_New) (c_review_Mean : T_review_Mean) (c_review_Rank : T_review_Rank) (c_review_Sum : T_review_Sum)
@[reducible] def law42_ReviewEncloses_X : Ctx := ⟨look tab, pick1 [(19, .spec (law42_ranges_S c_law42_ranges)), (18, .spec (law42_sane_S c_law42_sane)), (10, .spec (made_Light_S c_made_Light)), (12, .spec (made_Roll_S c_made_Roll)), (24, .spec (ref02_Less_S c_ref02_Less)), (23, .spec (ref02_New_S c_ref02_New)), (22, .spec (review_Mean_S c_review_Mean)), (21, .spec (review_Rank_S c_review_Rank)), (20, .spec (review_Sum_S c_review_Sum))], false⟩
def law42_ReviewEncloses_p1_s {β : Type} (rec : Int → Int → Int → Int → Int → Int → Int → (List (Int × Int)) → (List Int) → (List Int) → Option β) (k1 : law42_ReviewEncloses_p1_K1 β) (num : Int) (den : Int) (sum : Int) (n : Int) (k_ : Int) (t39 : Int) (t40 : Int) (l : List (Int × Int)) (x : List Int) (sorted : List Int) : Option β :=
  cond (decide ((0 : Int) < k_))
  (cond (decide (0 ≤ (IntKind.i64.wrap (k_ - (1 : Int)))) && decide ((IntKind.i64.wrap (k_ - (1 : Int))) < (List.length sorted : Int)))
  (cond (decide (n < (List.getD sorted (Int.toNat (IntKind.i64.wrap (k_ - (1 : Int)))) (0 : Int))))
  (let k_2 : Int := (IntKind.i64.wrap (k_ - (1 : Int)));
  rec num den sum n k_2 t39 t40 l x sorted)
  (k1 num den sum n k_ t39 t40 l x sorted))
  none)
  (k1 num den sum n k_ t39 t40 l x sorted)
def law42_ReviewEncloses_p1_l {β : Type} : Nat → law42_ReviewEncloses_p1_K1 β → Int → Int → Int → Int → Int → Int → Int → (List (Int × Int)) → (List Int) → (List Int) → Option β
  | 0 => fun _ _ _ _ _ _ _ _ _ _ _ => none
  | i + 1 => fun k1 num den sum n k_ t39 t40 l x sorted => law42_ReviewEncloses_p1_s (law42_ReviewEncloses_p1_l i k1) k1 num den sum n k_ t39 t40 l x sorted
theorem law42_ReviewEncloses_p1_ok' (hΓ : ΓOk Try.prog (law42_ReviewEncloses_X c_law42_ranges c_law42_sane c_made_Light c_made_Roll c_ref02_Less c_ref02_New c_review_Mean c_review_Rank c_review_Sum).Γ) (i : Nat) : PieceOk Try.prog 196 0 law42_ReviewEncloses_p1_code law42_ReviewEncloses_p1_v law42_ReviewEncloses_p1_o (law42_ReviewEncloses_p1_G (law42_ReviewEncloses_p1_l i)) := by
  rw [show law42_ReviewEncloses_p1_code = .loop (loopBody law42_ReviewEncloses_p1_code) by kernel_rfl]
  exact piece_loop (X := (law42_ReviewEncloses_X c_law42_ranges c_law42_sane c_made_Light c_made_Roll c_ref02_Less c_ref02_New c_review_Mean c_review_Rank c_review_Sum)) (p := 1) (Λ := pick1 []) (G := fun i => @fun β d ks => law42_ReviewEncloses_p1_G (law42_ReviewEncloses_p1_l i) d ks) mixed tab_ok hΓ rfl (by kernel_rfl) CutsOk_nil (fun _ _ => rfl) (fun i => @fun β d ks r h => Eq.trans (b := law42_ReviewEncloses_p1_G (law42_ReviewEncloses_p1_l (i + 1)) d ks) (by kernel_rfl) h) i
def law42_ReviewEncloses_p2_s (p1 : law42_ReviewEncloses_p1_T) {β : Type} (rec : Int → Int → Int → Int → Int → (List (Int × Int)) → (List Int) → (List Int) → Option β) (k1 : law42_ReviewEncloses_p2_K1 β) (num : Int) (den : Int) (sum : Int) (t39 : Int) (t40 : Int) (l : List (Int × Int)) (x : List Int) (sorted : List Int) : Option β :=
  cond (decide (t40 < t39))
  (cond (decide (0 ≤ t40) && decide (t40 < (List.length x : Int)))
  (let n : Int := (List.getD x (Int.toNat t40) (0 : Int));
  let sum2 : Int := (IntKind.i64.wrap (sum + n));
  p1 (fun (num2 : Int) (den2 : Int) (sum3 : Int) (n2 : Int) (k_ : Int) (t392 : Int) (t402 : Int) (l2 : List (Int × Int)) (x2 : List Int) (sorted2 : List Int) =>
  let l3 : List Int := ([(0 : Int)] : List Int);
  cond (decide ((List.length sorted2 + List.length l3) * 8 ≤ roomMax))
  (let l4 : List Int := (sorted2 ++ l3);
  cond (decide (0 ≤ (IntKind.i64.wrap (k_ + (1 : Int)))) && (decide ((IntKind.i64.wrap (k_ + (1 : Int))) ≤ (List.length l4 : Int)) && decide ((List.length l4 : Int) ≤ (List.length l4 : Int))))
  (cond (decide (0 ≤ k_) && (decide (k_ ≤ (List.length l4 : Int)) && decide ((List.length l4 : Int) ≤ (List.length l4 : Int))))
  (let l5 : List Int := (List.take (Int.toNat (IntKind.i64.wrap (k_ + (1 : Int)))) l4 ++ (List.take ((List.length l4) - (Int.toNat (IntKind.i64.wrap (k_ + (1 : Int))))) (List.drop (Int.toNat k_) (List.take (List.length l4) l4)) ++ List.drop ((Int.toNat (IntKind.i64.wrap (k_ + (1 : Int)))) + (Nat.min (List.length (List.drop (Int.toNat k_) (List.take (List.length l4) l4))) ((List.length l4) - (Int.toNat (IntKind.i64.wrap (k_ + (1 : Int))))))) l4));
  cond (decide (0 ≤ k_) && decide (k_ < (List.length l5 : Int)))
  (let l6 : List Int := (List.set l5 (Int.toNat k_) n2);
  rec num2 den2 sum3 t392 (IntKind.i64.wrap (t402 + (1 : Int))) l2 x2 l6)
  none)
  none)
  none)
  none) num den sum2 n (List.length sorted : Int) t39 t40 l x sorted)
  none)
  (k1 num den sum l x sorted)
def law42_ReviewEncloses_p2_l (p1 : law42_ReviewEncloses_p1_T) {β : Type} : Nat → law42_ReviewEncloses_p2_K1 β → Int → Int → Int → Int → Int → (List (Int × Int)) → (List Int) → (List Int) → Option β
  | 0 => fun _ _ _ _ _ _ _ _ _ => none
  | i + 1 => fun k1 num den sum t39 t40 l x sorted => law42_ReviewEncloses_p2_s p1 (law42_ReviewEncloses_p2_l p1 i k1) k1 num den sum t39 t40 l x sorted
theorem law42_ReviewEncloses_p2_ok' (hΓ : ΓOk Try.prog (law42_ReviewEncloses_X c_law42_ranges c_law42_sane c_made_Light c_made_Roll c_ref02_Less c_ref02_New c_review_Mean c_review_Rank c_review_Sum).Γ) (p1 : law42_ReviewEncloses_p1_T) (hp1 : PieceOk Try.prog 196 0 law42_ReviewEncloses_p1_code law42_ReviewEncloses_p1_v law42_ReviewEncloses_p1_o (law42_ReviewEncloses_p1_G p1)) (i : Nat) : PieceOk Try.prog 196 0 law42_ReviewEncloses_p2_code law42_ReviewEncloses_p2_v law42_ReviewEncloses_p2_o (law42_ReviewEncloses_p2_G (law42_ReviewEncloses_p2_l p1 i)) := by
  rw [show law42_ReviewEncloses_p2_code = .loop (loopBody law42_ReviewEncloses_p2_code) by kernel_rfl]
  exact piece_loop (X := (law42_ReviewEncloses_X c_law42_ranges c_law42_sane c_made_Light c_made_Roll c_ref02_Less c_ref02_New c_review_Mean c_review_Rank c_review_Sum)) (p := 1) (Λ := pick1 [(924, pieceCut law42_ReviewEncloses_p1_v law42_ReviewEncloses_p1_o (law42_ReviewEncloses_p1_G p1))]) (G := fun i => @fun β d ks => law42_ReviewEncloses_p2_G (law42_ReviewEncloses_p2_l p1 i) d ks) mixed tab_ok hΓ rfl (by kernel_rfl) (CutsOk_cons (q := 924) (c' := law42_ReviewEncloses_p1_code) (by kernel_rfl) rfl hp1 CutsOk_nil) (fun _ _ => rfl) (fun i => @fun β d ks r h => Eq.trans (b := law42_ReviewEncloses_p2_G (law42_ReviewEncloses_p2_l p1 (i + 1)) d ks) (by kernel_rfl) h) i
def law42_ReviewEncloses_s (p2 : law42_ReviewEncloses_p2_T) {β : Type} (t : List Int) (num : Int) (den : Int) (k : (Bool → Option β)) : Option β :=
  c_made_Light t (fun (rLight : Bool) =>
  cond (!rLight)
  (c_law42_sane  (fun (rsane : Bool) =>
  k rsane))
  (c_made_Roll t (fun (mrRoll : (List Int × Int)) =>
  c_law42_ranges mrRoll (fun (mrranges : (List Int × Int)) (lrranges : List (Int × Int)) (lrranges2 : List Int) =>
  p2 (fun (num2 : Int) (den2 : Int) (sum : Int) (l : List (Int × Int)) (x : List Int) (sorted : List Int) =>
  c_review_Sum l (fun (rSum : (Int × Int)) (rSum2 : Int) =>
  c_review_Mean l (fun (rMean : (Int × Int)) (rMean2 : (Int × Int)) (rMean3 : Int) =>
  c_ref02_New sum (List.length x : Int) (fun (rNew : (Int × Int)) (rNew2 : Int) =>
  cond (!decide ((20 : Int) = 0))
  (let q : Int := (IntKind.i64.wrap ((1 : Int) + (Int.tmod (IntKind.i64.wrap den2) (20 : Int))));
  cond (!decide ((IntKind.i64.wrap (q + (1 : Int))) = 0))
  (let p_ : Int := (Int.tmod (IntKind.i64.wrap num2) (IntKind.i64.wrap (q + (1 : Int))));
  c_review_Rank l p_ q (fun (rRank : (Int × Int)) (rRank2 : Int) =>
  cond (!decide (rSum2 = (0 : Int)))
  (k false)
  (cond (!decide (rMean3 = (0 : Int)))
  (k false)
  (cond (!decide (rRank2 = (0 : Int)))
  (k false)
  (cond (decide (sum < rSum.1))
  (k false)
  (cond (decide (rSum.2 < sum))
  (k false)
  (c_ref02_Less rNew rMean (fun (rLess : Bool) =>
  cond rLess
  (k false)
  (c_ref02_Less rMean2 rNew (fun (rLess2 : Bool) =>
  cond rLess2
  (k false)
  (cond (!decide (q = 0))
  (cond (decide (0 ≤ (IntKind.i64.wrap ((if (1 : Int) > (IntKind.i64.wrap (Int.tdiv (IntKind.i64.wrap ((IntKind.i64.wrap ((IntKind.i64.wrap (p_ * (List.length x : Int))) + q)) - (1 : Int))) q)) then (1 : Int) else (IntKind.i64.wrap (Int.tdiv (IntKind.i64.wrap ((IntKind.i64.wrap ((IntKind.i64.wrap (p_ * (List.length x : Int))) + q)) - (1 : Int))) q))) - (1 : Int)))) && decide ((IntKind.i64.wrap ((if (1 : Int) > (IntKind.i64.wrap (Int.tdiv (IntKind.i64.wrap ((IntKind.i64.wrap ((IntKind.i64.wrap (p_ * (List.length x : Int))) + q)) - (1 : Int))) q)) then (1 : Int) else (IntKind.i64.wrap (Int.tdiv (IntKind.i64.wrap ((IntKind.i64.wrap ((IntKind.i64.wrap (p_ * (List.length x : Int))) + q)) - (1 : Int))) q))) - (1 : Int))) < (List.length sorted : Int)))
  (let n : Int := (List.getD sorted (Int.toNat (IntKind.i64.wrap ((if (1 : Int) > (IntKind.i64.wrap (Int.tdiv (IntKind.i64.wrap ((IntKind.i64.wrap ((IntKind.i64.wrap (p_ * (List.length x : Int))) + q)) - (1 : Int))) q)) then (1 : Int) else (IntKind.i64.wrap (Int.tdiv (IntKind.i64.wrap ((IntKind.i64.wrap ((IntKind.i64.wrap (p_ * (List.length x : Int))) + q)) - (1 : Int))) q))) - (1 : Int)))) (0 : Int));
  c_review_Rank l q q (fun (rRank3 : (Int × Int)) (rRank4 : Int) =>
  cond (decide (rRank.1 ≤ n))
  (cond (decide (n ≤ rRank.2))
  (cond (decide (rRank4 = (0 : Int)))
  (cond (decide (rRank.1 ≤ rRank3.1))
  (cond (decide (rRank.2 ≤ rRank3.2))
  (c_law42_sane  (fun (rsane : Bool) =>
  k rsane))
  (k false))
  (k false))
  (k false))
  (k false))
  (k false)))
  none)
  none)))))))))))
  none)
  none)))) num den (0 : Int) (List.length lrranges2 : Int) (0 : Int) lrranges lrranges2 ([] : List Int)))))
theorem law42_ReviewEncloses_ok' (hΓ : ΓOk Try.prog (law42_ReviewEncloses_X c_law42_ranges c_law42_sane c_made_Light c_made_Roll c_ref02_Less c_ref02_New c_review_Mean c_review_Rank c_review_Sum).Γ) (p2 : law42_ReviewEncloses_p2_T) (hp2 : PieceOk Try.prog 196 0 law42_ReviewEncloses_p2_code law42_ReviewEncloses_p2_v law42_ReviewEncloses_p2_o (law42_ReviewEncloses_p2_G p2)) : SpecOk Try.prog 5 (law42_ReviewEncloses_S (law42_ReviewEncloses_s c_law42_ranges c_law42_sane c_made_Light c_made_Roll c_ref02_Less c_ref02_New c_review_Mean c_review_Rank c_review_Sum p2)) :=
  spec_exec (X := (law42_ReviewEncloses_X c_law42_ranges c_law42_sane c_made_Light c_made_Roll c_ref02_Less c_ref02_New c_review_Mean c_review_Rank c_review_Sum)) (Λ := pick1 [(506, pieceCut law42_ReviewEncloses_p2_v law42_ReviewEncloses_p2_o (law42_ReviewEncloses_p2_G p2))]) (rs := [.tmp 6]) (c := bodyOf Try.f5) mixed tab_ok hΓ Try.func5 (by kernel_rfl) (by kernel_rfl) (by kernel_rfl) (by kernel_rfl) (CutsOk_cons (q := 506) (c' := law42_ReviewEncloses_p2_code) (by kernel_rfl) rfl hp2 CutsOk_nil) (fun x k r h => Eq.trans (b := (law42_ReviewEncloses_S (law42_ReviewEncloses_s c_law42_ranges c_law42_sane c_made_Light c_made_Roll c_ref02_Less c_ref02_New c_review_Mean c_review_Rank c_review_Sum p2)).run x k) (by kernel_rfl) h)
end
theorem law42_ReviewEncloses_Γ : ΓOk Try.prog (pick1 [(19, .spec (law42_ranges_S law42_ranges)), (18, .spec (law42_sane_S law42_sane)), (10, .spec (made_Light_S made_Light)), (12, .spec (made_Roll_S made_Roll)), (24, .spec (ref02_Less_S ref02_Less)), (23, .spec (ref02_New_S ref02_New)), (22, .spec (review_Mean_S review_Mean)), (21, .spec (review_Rank_S review_Rank)), (20, .spec (review_Sum_S review_Sum))]) := (ΓOk_cons law42_ranges_ok (ΓOk_cons law42_sane_ok (ΓOk_cons made_Light_ok (ΓOk_cons made_Roll_ok (ΓOk_cons ref02_Less_ok (ΓOk_cons ref02_New_ok (ΓOk_cons review_Mean_ok (ΓOk_cons review_Rank_ok (ΓOk_cons review_Sum_ok ΓOk_nil)))))))))
def law42_ReviewEncloses_p1_n (m : Nat) : law42_ReviewEncloses_p1_T := law42_ReviewEncloses_p1_l m
theorem law42_ReviewEncloses_p1_step {β : Type} (i : Nat) (k1 num den sum n k_ t39 t40 l x sorted) : (law42_ReviewEncloses_p1_n (i + 1) k1 num den sum n k_ t39 t40 l x sorted : Option β) = law42_ReviewEncloses_p1_s (law42_ReviewEncloses_p1_n i k1) k1 num den sum n k_ t39 t40 l x sorted := rfl
def law42_ReviewEncloses_p1 : law42_ReviewEncloses_p1_T := law42_ReviewEncloses_p1_n fuel
theorem law42_ReviewEncloses_p1_ok : PieceOk Try.prog 196 0 law42_ReviewEncloses_p1_code law42_ReviewEncloses_p1_v law42_ReviewEncloses_p1_o (law42_ReviewEncloses_p1_G law42_ReviewEncloses_p1) := law42_ReviewEncloses_p1_ok' law42_ranges law42_sane made_Light made_Roll ref02_Less ref02_New review_Mean review_Rank review_Sum law42_ReviewEncloses_Γ fuel
def law42_ReviewEncloses_p2_n (m : Nat) : law42_ReviewEncloses_p2_T := law42_ReviewEncloses_p2_l law42_ReviewEncloses_p1 m
theorem law42_ReviewEncloses_p2_step {β : Type} (i : Nat) (k1 num den sum t39 t40 l x sorted) : (law42_ReviewEncloses_p2_n (i + 1) k1 num den sum t39 t40 l x sorted : Option β) = law42_ReviewEncloses_p2_s law42_ReviewEncloses_p1 (law42_ReviewEncloses_p2_n i k1) k1 num den sum t39 t40 l x sorted := rfl
def law42_ReviewEncloses_p2 : law42_ReviewEncloses_p2_T := law42_ReviewEncloses_p2_n fuel
theorem law42_ReviewEncloses_p2_ok : PieceOk Try.prog 196 0 law42_ReviewEncloses_p2_code law42_ReviewEncloses_p2_v law42_ReviewEncloses_p2_o (law42_ReviewEncloses_p2_G law42_ReviewEncloses_p2) := law42_ReviewEncloses_p2_ok' law42_ranges law42_sane made_Light made_Roll ref02_Less ref02_New review_Mean review_Rank review_Sum law42_ReviewEncloses_Γ law42_ReviewEncloses_p1 law42_ReviewEncloses_p1_ok fuel
def law42_ReviewEncloses : T_law42_ReviewEncloses := law42_ReviewEncloses_s law42_ranges law42_sane made_Light made_Roll ref02_Less ref02_New review_Mean review_Rank review_Sum law42_ReviewEncloses_p2
theorem law42_ReviewEncloses_ok : SpecOk Try.prog 5 (law42_ReviewEncloses_S law42_ReviewEncloses) := law42_ReviewEncloses_ok' law42_ranges law42_sane made_Light made_Roll ref02_Less ref02_New review_Mean review_Rank review_Sum law42_ReviewEncloses_Γ law42_ReviewEncloses_p2 law42_ReviewEncloses_p2_ok
end
end Go.Lift
