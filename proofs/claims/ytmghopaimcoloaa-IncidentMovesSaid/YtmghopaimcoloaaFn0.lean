import Derived.Test.YtmghopaimcoloaaLiftZ
import Derived.Test.YtmghopaimcoloaaProg
namespace Go.Lift
open Go.Proofs
noncomputable section
set_option maxRecDepth 100000
set_option linter.unusedVariables false

abbrev api_Task := (List UInt8 × (Int × (Int × Int)))
abbrev y_api_Task : Ty := (.prod .str (.prod (.int .i64) (.prod (.int .i64) (.int .i64))))
abbrev api_Update := (Int × (Int × (List UInt8 × List Int)))
abbrev y_api_Update : Ty := (.prod (.int .i64) (.prod (.int .i64) (.prod .str (.slice (.int .i64)))))
abbrev api_Review := (Int × ((Int × Int) × ((Int × Int) × ((Int × Int) × (Int × (Int × Int))))))
abbrev y_api_Review : Ty := (.prod (.int .i64) (.prod (.prod (.int .i64) (.int .i64)) (.prod (.prod (.int .i64) (.int .i64)) (.prod (.prod (.int .i64) (.int .i64)) (.prod (.int .i64) (.prod (.int .i64) (.int .i64)))))))
abbrev api_Incident := (Int × (Int × (Int × (Int × (List UInt8 × ((Int × (Int × Int)) × (List Int × (List api_Task × (List api_Update × (List Int × (List (Int × (Int × Int)) × Int)))))))))))
abbrev y_api_Incident : Ty := (.prod (.int .i64) (.prod (.int .i64) (.prod (.int .i64) (.prod (.int .i64) (.prod .str (.prod (.prod (.int .i64) (.prod (.int .i64) (.int .i64))) (.prod (.slice (.int .i64)) (.prod (.slice y_api_Task) (.prod (.slice y_api_Update) (.prod (.slice (.int .i64)) (.prod (.slice (.prod (.int .i64) (.prod (.int .i64) (.int .i64)))) (.int .i64))))))))))))

def tab : List (Nat × TI) := [
  (3, ⟨false, 1, 8, [.int .i64 (0 : Int)], [], none, none, (some (.int .i64)), (some .i64), false, false, none, none⟩),
  (4, ⟨false, 1, 1, [.bool false], [], none, none, (some .bool), none, true, false, none, none⟩),
  (5, ⟨false, 1, 1, [.int .u8 (0 : Int)], [], none, none, (some (.int .u8)), (some .u8), false, false, none, none⟩),
  (9, ⟨false, 1, 16, [.str ([] : List UInt8)], [], none, none, (some .str), none, false, true, none, none⟩),
  (22, ⟨false, 1, 24, [.nils], [], (some 3), none, (some (.slice (.int .i64))), none, false, false, none, none⟩),
  (27, ⟨true, 3, 24, [.int .i64 (0 : Int), .int .i64 (0 : Int), .int .i64 (0 : Int)], [], (some 3), (some 3), (some (.prod (.int .i64) (.prod (.int .i64) (.int .i64)))), none, false, false, (some [.i, .i, .i]), none⟩),
  (28, ⟨false, 1, 24, [.nils], [], (some 40), none, (some (.slice y_api_Task)), none, false, false, none, none⟩),
  (29, ⟨false, 1, 24, [.nils], [], (some 84), none, (some (.slice y_api_Update)), none, false, false, none, none⟩),
  (30, ⟨false, 1, 24, [.nils], [], (some 106), none, (some (.slice (.prod (.int .i64) (.prod (.int .i64) (.int .i64))))), none, false, false, none, none⟩),
  (32, ⟨true, 14, 200, [.int .i64 (0 : Int), .int .i64 (0 : Int), .int .i64 (0 : Int), .int .i64 (0 : Int), .str ([] : List UInt8), .int .i64 (0 : Int), .int .i64 (0 : Int), .int .i64 (0 : Int), .nils, .nils, .nils, .nils, .nils, .int .i64 (0 : Int)], [(0, 1, false), (1, 1, false), (2, 1, false), (3, 1, false), (4, 1, false), (5, 3, true), (8, 1, false), (9, 1, false), (10, 1, false), (11, 1, false), (12, 1, false), (13, 1, false)], none, none, (some y_api_Incident), none, false, false, none, none⟩),
  (40, ⟨true, 4, 40, [.str ([] : List UInt8), .int .i64 (0 : Int), .int .i64 (0 : Int), .int .i64 (0 : Int)], [(0, 1, false), (1, 1, false), (2, 1, false), (3, 1, false)], none, none, (some y_api_Task), none, false, false, (some [.s, .i, .i, .i]), none⟩),
  (84, ⟨true, 4, 56, [.int .i64 (0 : Int), .int .i64 (0 : Int), .str ([] : List UInt8), .nils], [(0, 1, false), (1, 1, false), (2, 1, false), (3, 1, false)], none, none, (some y_api_Update), none, false, false, none, none⟩),
  (86, ⟨true, 2, 32, [.nils, .int .i64 (0 : Int)], [(0, 1, false), (1, 1, false)], none, none, (some (.prod (.slice (.int .i64)) (.int .i64))), none, false, false, none, none⟩),
  (106, ⟨true, 3, 24, [.int .i64 (0 : Int), .int .i64 (0 : Int), .int .i64 (0 : Int)], [(0, 1, false), (1, 1, false), (2, 1, false)], none, none, (some (.prod (.int .i64) (.prod (.int .i64) (.int .i64)))), none, false, false, (some [.i, .i, .i]), none⟩),
  (121, ⟨true, 5, 120, [.nils, .nils, .nils, .nils, .nils], [], (some 22), (some 5), (some (.prod (.slice (.int .i64)) (.prod (.slice (.int .i64)) (.prod (.slice (.int .i64)) (.prod (.slice (.int .i64)) (.slice (.int .i64))))))), none, false, false, none, none⟩)]

theorem tab_ok : TOk Try.prog (look tab) := TOk_of (by kernel_rfl)
theorem mixed : Try.prog.follows .mixedOrders = true := by kernel_rfl

/-- pagewatch/pagewatchmade.Light -/
abbrev T_made_Light := {β : Type} → (List Int) → (Bool → Option β) → Option β
def made_Light_S (c : T_made_Light) : Spec :=
  ⟨[(false, [.data (.slice (.int .i64))])], [], [(false, [.data .bool])], [], fun x k => c x.1.1.1 (fun r0 => k (((r0, ()), ()), ()))⟩
section
@[reducible] def made_Light_X : Ctx := ⟨look tab, pick1 []⟩
def made_Light_s {β : Type} (l : List Int) (k : (Bool → Option β)) : Option β :=
  let t : Bool := (decide ((List.length l : Int) ≤ (500 : Int)));
  k t
theorem made_Light_ok' (hΓ : ΓOk Try.prog made_Light_X.Γ) : SpecOk Try.prog 10 (made_Light_S (made_Light_s)) :=
  spec_exec (X := made_Light_X) (Λ := pick1 []) (rs := [.tmp 2]) (c := bodyOf Try.f10) mixed tab_ok hΓ Try.func10 (by kernel_rfl) (by kernel_rfl) (by kernel_rfl) (by kernel_rfl) CutsOk_nil (fun x k r h => Eq.trans (b := (made_Light_S (made_Light_s)).run x k) (by kernel_rfl) h)
end
theorem made_Light_Γ : ΓOk Try.prog (pick1 []) := ΓOk_nil
def made_Light : T_made_Light := made_Light_s
theorem made_Light_ok : SpecOk Try.prog 10 (made_Light_S made_Light) := made_Light_ok' made_Light_Γ

/-- pagewatch/pagewatchmade.Roll -/
abbrev T_made_Roll := {β : Type} → (List Int) → ((List Int × Int) → Option β) → Option β
def made_Roll_S (c : T_made_Roll) : Spec :=
  ⟨[(false, [.data (.slice (.int .i64))])], [], [(false, [.ptr 0 0])], [.cells 86 [.data (.prod (.slice (.int .i64)) (.int .i64))]], fun x k => c x.1.1.1 (fun r0 => k (((), ()), ((r0, ()), ())))⟩
section
@[reducible] def made_Roll_X : Ctx := ⟨look tab, pick1 []⟩
def made_Roll_s {β : Type} (l : List Int) (k : ((List Int × Int) → Option β)) : Option β :=
  k (l, (0 : Int))
theorem made_Roll_ok' (hΓ : ΓOk Try.prog made_Roll_X.Γ) : SpecOk Try.prog 12 (made_Roll_S (made_Roll_s)) :=
  spec_exec (X := made_Roll_X) (Λ := pick1 []) (rs := [.tmp 2]) (c := bodyOf Try.f12) mixed tab_ok hΓ Try.func12 (by kernel_rfl) (by kernel_rfl) (by kernel_rfl) (by kernel_rfl) CutsOk_nil (fun x k r h => Eq.trans (b := (made_Roll_S (made_Roll_s)).run x k) (by kernel_rfl) h)
end
theorem made_Roll_Γ : ΓOk Try.prog (pick1 []) := ΓOk_nil
def made_Roll : T_made_Roll := made_Roll_s
theorem made_Roll_ok : SpecOk Try.prog 12 (made_Roll_S made_Roll) := made_Roll_ok' made_Roll_Γ

/-- (*pagewatch/pagewatchmade.Dice).Next -/
abbrev T_made_Dice_Next := {β : Type} → Int → (List Int × Int) → (Int → (List Int × Int) → Option β) → Option β
def made_Dice_Next_S (c : T_made_Dice_Next) : Spec :=
  ⟨[(false, [.ptr 0 0]), (false, [.data (.int .i64)])], [.cells 86 [.data (.prod (.slice (.int .i64)) (.int .i64))]], [(false, [.data (.int .i64)])], [.cells 86 [.data (.prod (.slice (.int .i64)) (.int .i64))]], fun x k => c x.1.2.1.1 x.2.1.1 (fun r0 r1 => k (((r0, ()), ()), ((r1, ()), ())))⟩
section
@[reducible] def made_Dice_Next_X : Ctx := ⟨look tab, pick1 []⟩
def made_Dice_Next_s {β : Type} (n : Int) (d : (List Int × Int)) (k : (Int → (List Int × Int) → Option β)) : Option β :=
  cond (decide ((List.length d.1 : Int) ≤ d.2))
  (k (0 : Int) d)
  (cond (decide (n < (1 : Int)))
  (k (0 : Int) d)
  (cond (decide (0 ≤ d.2) && decide (d.2 < (List.length d.1 : Int)))
  (let e : Int := List.getD d.1 (Int.toNat d.2) (0 : Int);
  cond (!decide (n = 0))
  (cond (decide ((Int.tmod e n) < (0 : Int)))
  (let x : Int := (IntKind.i64.wrap ((Int.tmod e n) + n));
  k x (d.1, (IntKind.i64.wrap (d.2 + (1 : Int)))))
  (k (Int.tmod e n) (d.1, (IntKind.i64.wrap (d.2 + (1 : Int))))))
  none)
  none))
theorem made_Dice_Next_ok' (hΓ : ΓOk Try.prog made_Dice_Next_X.Γ) : SpecOk Try.prog 14 (made_Dice_Next_S (made_Dice_Next_s)) :=
  spec_exec (X := made_Dice_Next_X) (Λ := pick1 []) (rs := [.tmp 4]) (c := bodyOf Try.f14) mixed tab_ok hΓ Try.func14 (by kernel_rfl) (by kernel_rfl) (by kernel_rfl) (by kernel_rfl) CutsOk_nil (fun x k r h => Eq.trans (b := (made_Dice_Next_S (made_Dice_Next_s)).run x k) (by kernel_rfl) h)
end
theorem made_Dice_Next_Γ : ΓOk Try.prog (pick1 []) := ΓOk_nil
def made_Dice_Next : T_made_Dice_Next := made_Dice_Next_s
theorem made_Dice_Next_ok : SpecOk Try.prog 14 (made_Dice_Next_S made_Dice_Next) := made_Dice_Next_ok' made_Dice_Next_Γ

/-- pagewatch/pagewatchref37.Possible -/
abbrev T_ref37_Possible := {β : Type} → Int → Int → (Bool → Option β) → Option β
def ref37_Possible_S (c : T_ref37_Possible) : Spec :=
  ⟨[(false, [.data (.int .i64)]), (false, [.data (.int .i64)])], [], [(false, [.data .bool])], [], fun x k => c x.1.1.1 x.1.2.1.1 (fun r0 => k (((r0, ()), ()), ()))⟩
section
@[reducible] def ref37_Possible_X : Ctx := ⟨look tab, pick1 []⟩
def ref37_Possible_s {β : Type} (from_ : Int) (to_ : Int) (k : (Bool → Option β)) : Option β :=
  let t : Bool := (decide (from_ = (0 : Int)));
  cond t
  (cond (decide (to_ = (1 : Int)))
  (k true)
  (cond (decide (to_ = (2 : Int)))
  (k true)
  (let t2 : Bool := (decide (to_ = (4 : Int)));
  k t2)))
  (let t2 : Bool := (decide (from_ = (1 : Int)));
  cond t2
  (cond (decide (to_ = (0 : Int)))
  (k true)
  (cond (decide (to_ = (2 : Int)))
  (k true)
  (let t3 : Bool := (decide (to_ = (4 : Int)));
  k t3)))
  (let t3 : Bool := (decide (from_ = (2 : Int)));
  cond t3
  (cond (decide (to_ = (0 : Int)))
  (k true)
  (let t4 : Bool := (decide (to_ = (3 : Int)));
  k t4))
  (k false)))
theorem ref37_Possible_ok' (hΓ : ΓOk Try.prog ref37_Possible_X.Γ) : SpecOk Try.prog 27 (ref37_Possible_S (ref37_Possible_s)) :=
  spec_exec (X := ref37_Possible_X) (Λ := pick1 []) (rs := [.tmp 4]) (c := bodyOf Try.f27) mixed tab_ok hΓ Try.func27 (by kernel_rfl) (by kernel_rfl) (by kernel_rfl) (by kernel_rfl) CutsOk_nil (fun x k r h => Eq.trans (b := (ref37_Possible_S (ref37_Possible_s)).run x k) (by kernel_rfl) h)
end
theorem ref37_Possible_Γ : ΓOk Try.prog (pick1 []) := ΓOk_nil
def ref37_Possible : T_ref37_Possible := ref37_Possible_s
theorem ref37_Possible_ok : SpecOk Try.prog 27 (ref37_Possible_S ref37_Possible) := ref37_Possible_ok' ref37_Possible_Γ

/-- pagewatch/pagewatchref25.Set -/
abbrev T_ref25_Set := {β : Type} → (List Int) → Int → (Bool → Option β) → Option β
def ref25_Set_S (c : T_ref25_Set) : Spec :=
  ⟨[(false, [.data (.slice (.int .i64))]), (false, [.data (.int .i64)])], [], [(false, [.data .bool])], [], fun x k => c x.1.1.1 x.1.2.1.1 (fun r0 => k (((r0, ()), ()), ()))⟩
noncomputable def ref25_Set_p1_code : Code := codeAt 26 (bodyOf Try.f37)
abbrev ref25_Set_p1_K1 (β : Type) := Bool → Option β
abbrev ref25_Set_p1_K2 (β : Type) := Unit → Option β
abbrev ref25_Set_p1_T := {β : Type} → ref25_Set_p1_K1 β → ref25_Set_p1_K2 β → (List Int) → Int → Int → Option β
def ref25_Set_p1_v : View := ⟨0, [0, 1, 5], [(false, [.data (.slice (.int .i64))]), (false, [.data (.int .i64)]), (false, [.data (.int .i64)])], []⟩
def ref25_Set_p1_o : List (AExit × View) := [(.ret, ⟨0, [4], [(false, [.data .bool])], []⟩), (.exit 0, ⟨0, [], [], []⟩)]
@[reducible] def ref25_Set_p1_G (p : ref25_Set_p1_T) {β : Type} (d : ref25_Set_p1_v.den) (ks : Outs.K β ref25_Set_p1_o) : Option β :=
  p (fun a0 => ks.1 (((a0, ()), ()), ())) (fun _ => ks.2.1 ((), ())) d.1.1.1 d.1.2.1.1 d.1.2.2.1.1
section
@[reducible] def ref25_Set_X : Ctx := ⟨look tab, pick1 []⟩
def ref25_Set_p1_s {β : Type} (rec : (List Int) → Int → Int → Option β) (k1 : ref25_Set_p1_K1 β) (k2 : ref25_Set_p1_K2 β) (l : List Int) (n : Int) (i_ : Int) : Option β :=
  cond (decide (i_ < (List.length l : Int)))
  (cond (decide (0 ≤ i_) && decide (i_ < (List.length l : Int)))
  (let e : Int := List.getD l (Int.toNat i_) (0 : Int);
  cond (decide (e < (0 : Int)))
  (k1 false)
  (cond (decide (0 ≤ i_) && decide (i_ < (List.length l : Int)))
  (let e2 : Int := List.getD l (Int.toNat i_) (0 : Int);
  cond (decide (n ≤ e2))
  (k1 false)
  (cond (decide ((0 : Int) < i_))
  (cond (decide (0 ≤ (IntKind.i64.wrap (i_ - (1 : Int)))) && decide ((IntKind.i64.wrap (i_ - (1 : Int))) < (List.length l : Int)))
  (let e3 : Int := List.getD l (Int.toNat (IntKind.i64.wrap (i_ - (1 : Int)))) (0 : Int);
  cond (decide (0 ≤ i_) && decide (i_ < (List.length l : Int)))
  (let e4 : Int := List.getD l (Int.toNat i_) (0 : Int);
  cond (decide (e4 ≤ e3))
  (k1 false)
  (let i_2 : Int := (IntKind.i64.wrap (i_ + (1 : Int)));
  rec l n i_2))
  none)
  none)
  (let i_2 : Int := (IntKind.i64.wrap (i_ + (1 : Int)));
  rec l n i_2)))
  none))
  none)
  (k2 ())
def ref25_Set_p1_l {β : Type} : Nat → ref25_Set_p1_K1 β → ref25_Set_p1_K2 β → (List Int) → Int → Int → Option β
  | 0 => fun _ _ _ _ _ => none
  | i + 1 => fun k1 k2 l n i_ => ref25_Set_p1_s (ref25_Set_p1_l i k1 k2) k1 k2 l n i_
theorem ref25_Set_p1_ok' (hΓ : ΓOk Try.prog ref25_Set_X.Γ) (i : Nat) : PieceOk Try.prog 41 0 ref25_Set_p1_code ref25_Set_p1_v ref25_Set_p1_o (ref25_Set_p1_G (ref25_Set_p1_l i)) := by
  rw [show ref25_Set_p1_code = .loop (loopBody ref25_Set_p1_code) by kernel_rfl]
  exact piece_loop (X := ref25_Set_X) (p := 1) (Λ := pick1 []) (G := fun i => @fun β d ks => ref25_Set_p1_G (ref25_Set_p1_l i) d ks) mixed tab_ok hΓ rfl (by kernel_rfl) CutsOk_nil (fun _ _ => rfl) (fun i => @fun β d ks r h => Eq.trans (b := ref25_Set_p1_G (ref25_Set_p1_l (i + 1)) d ks) (by kernel_rfl) h) i
def ref25_Set_s (p1 : ref25_Set_p1_T) {β : Type} (l : List Int) (n : Int) (k : (Bool → Option β)) : Option β :=
  p1 (fun (t4 : Bool) =>
  k t4) (fun (_ : Unit) =>
  k true) l n (0 : Int)
theorem ref25_Set_ok' (hΓ : ΓOk Try.prog ref25_Set_X.Γ) (p1 : ref25_Set_p1_T) (hp1 : PieceOk Try.prog 41 0 ref25_Set_p1_code ref25_Set_p1_v ref25_Set_p1_o (ref25_Set_p1_G p1)) : SpecOk Try.prog 37 (ref25_Set_S (ref25_Set_s p1)) :=
  spec_exec (X := ref25_Set_X) (Λ := pick1 [(26, pieceCut ref25_Set_p1_v ref25_Set_p1_o (ref25_Set_p1_G p1))]) (rs := [.tmp 4]) (c := bodyOf Try.f37) mixed tab_ok hΓ Try.func37 (by kernel_rfl) (by kernel_rfl) (by kernel_rfl) (by kernel_rfl) (CutsOk_cons (q := 26) (c' := ref25_Set_p1_code) (by kernel_rfl) rfl hp1 CutsOk_nil) (fun x k r h => Eq.trans (b := (ref25_Set_S (ref25_Set_s p1)).run x k) (by kernel_rfl) h)
end
theorem ref25_Set_Γ : ΓOk Try.prog (pick1 []) := ΓOk_nil
def ref25_Set_p1_n (m : Nat) : ref25_Set_p1_T := ref25_Set_p1_l m
theorem ref25_Set_p1_step {β : Type} (i : Nat) (k1 k2 l n i_) : (ref25_Set_p1_n (i + 1) k1 k2 l n i_ : Option β) = ref25_Set_p1_s (ref25_Set_p1_n i k1 k2) k1 k2 l n i_ := rfl
def ref25_Set_p1 : ref25_Set_p1_T := ref25_Set_p1_n fuel
theorem ref25_Set_p1_ok : PieceOk Try.prog 41 0 ref25_Set_p1_code ref25_Set_p1_v ref25_Set_p1_o (ref25_Set_p1_G ref25_Set_p1) := ref25_Set_p1_ok' ref25_Set_Γ fuel
def ref25_Set : T_ref25_Set := ref25_Set_s ref25_Set_p1
theorem ref25_Set_ok : SpecOk Try.prog 37 (ref25_Set_S ref25_Set) := ref25_Set_ok' ref25_Set_Γ ref25_Set_p1 ref25_Set_p1_ok

/-- pagewatch/incident.in -/
abbrev T_incident_in := {β : Type} → Int → Int → Int → (Bool → Option β) → Option β
def incident_in_S (c : T_incident_in) : Spec :=
  ⟨[(false, [.data (.int .i64)]), (false, [.data (.int .i64)]), (false, [.data (.int .i64)])], [], [(false, [.data .bool])], [], fun x k => c x.1.1.1 x.1.2.1.1 x.1.2.2.1.1 (fun r0 => k (((r0, ()), ()), ()))⟩
section
@[reducible] def incident_in_X : Ctx := ⟨look tab, pick1 []⟩
def incident_in_s {β : Type} (n : Int) (low : Int) (high : Int) (k : (Bool → Option β)) : Option β :=
  cond (decide (low ≤ n))
  (k (decide (n ≤ high)))
  (k false)
theorem incident_in_ok' (hΓ : ΓOk Try.prog incident_in_X.Γ) : SpecOk Try.prog 41 (incident_in_S (incident_in_s)) :=
  spec_exec (X := incident_in_X) (Λ := pick1 []) (rs := [.tmp 6]) (c := bodyOf Try.f41) mixed tab_ok hΓ Try.func41 (by kernel_rfl) (by kernel_rfl) (by kernel_rfl) (by kernel_rfl) CutsOk_nil (fun x k r h => Eq.trans (b := (incident_in_S (incident_in_s)).run x k) (by kernel_rfl) h)
end
theorem incident_in_Γ : ΓOk Try.prog (pick1 []) := ΓOk_nil
def incident_in : T_incident_in := incident_in_s
theorem incident_in_ok : SpecOk Try.prog 41 (incident_in_S incident_in) := incident_in_ok' incident_in_Γ

/-- pagewatch/incident.Text -/
abbrev T_incident_Text := {β : Type} → (List UInt8) → (Bool → Option β) → Option β
def incident_Text_S (c : T_incident_Text) : Spec :=
  ⟨[(false, [.data .str])], [], [(false, [.data .bool])], [], fun x k => c x.1.1.1 (fun r0 => k (((r0, ()), ()), ()))⟩
noncomputable def incident_Text_p1_code : Code := codeAt 26 (bodyOf Try.f43)
abbrev incident_Text_p1_K1 (β : Type) := Bool → Option β
abbrev incident_Text_p1_K2 (β : Type) := (List UInt8) → Option β
abbrev incident_Text_p1_T := {β : Type} → incident_Text_p1_K1 β → incident_Text_p1_K2 β → (List UInt8) → Int → Int → Option β
def incident_Text_p1_v : View := ⟨0, [0, 5, 6], [(false, [.data .str]), (false, [.data (.int .i64)]), (false, [.data (.int .i64)])], []⟩
def incident_Text_p1_o : List (AExit × View) := [(.ret, ⟨0, [2], [(false, [.data .bool])], []⟩), (.exit 0, ⟨0, [0], [(false, [.data .str])], []⟩)]
@[reducible] def incident_Text_p1_G (p : incident_Text_p1_T) {β : Type} (d : incident_Text_p1_v.den) (ks : Outs.K β incident_Text_p1_o) : Option β :=
  p (fun a0 => ks.1 (((a0, ()), ()), ())) (fun a0 => ks.2.1 (((a0, ()), ()), ())) d.1.1.1 d.1.2.1.1 d.1.2.2.1.1
section
variable (c_incident_in : T_incident_in)
@[reducible] def incident_Text_X : Ctx := ⟨look tab, pick1 [(41, .spec (incident_in_S c_incident_in))]⟩
def incident_Text_p1_s {β : Type} (rec : (List UInt8) → Int → Int → Option β) (k1 : incident_Text_p1_K1 β) (k2 : incident_Text_p1_K2 β) (s : List UInt8) (t5 : Int) (t6 : Int) : Option β :=
  cond (decide (t6 < t5))
  (cond (decide (0 ≤ t6) && decide (t6 < (List.length s : Int)))
  (c_incident_in (IntKind.i64.wrap ((List.getD s (Int.toNat t6) 0).toNat : Int)) (32 : Int) (126 : Int) (fun (rin : Bool) =>
  cond (!rin)
  (k1 false)
  (rec s t5 (IntKind.i64.wrap (t6 + (1 : Int))))))
  none)
  (k2 s)
def incident_Text_p1_l {β : Type} : Nat → incident_Text_p1_K1 β → incident_Text_p1_K2 β → (List UInt8) → Int → Int → Option β
  | 0 => fun _ _ _ _ _ => none
  | i + 1 => fun k1 k2 s t5 t6 => incident_Text_p1_s c_incident_in (incident_Text_p1_l i k1 k2) k1 k2 s t5 t6
theorem incident_Text_p1_ok' (hΓ : ΓOk Try.prog (incident_Text_X c_incident_in).Γ) (i : Nat) : PieceOk Try.prog 19 0 incident_Text_p1_code incident_Text_p1_v incident_Text_p1_o (incident_Text_p1_G (incident_Text_p1_l c_incident_in i)) := by
  rw [show incident_Text_p1_code = .loop (loopBody incident_Text_p1_code) by kernel_rfl]
  exact piece_loop (X := (incident_Text_X c_incident_in)) (p := 1) (Λ := pick1 []) (G := fun i => @fun β d ks => incident_Text_p1_G (incident_Text_p1_l c_incident_in i) d ks) mixed tab_ok hΓ rfl (by kernel_rfl) CutsOk_nil (fun _ _ => rfl) (fun i => @fun β d ks r h => Eq.trans (b := incident_Text_p1_G (incident_Text_p1_l c_incident_in (i + 1)) d ks) (by kernel_rfl) h) i
def incident_Text_s (p1 : incident_Text_p1_T) {β : Type} (s : List UInt8) (k : (Bool → Option β)) : Option β :=
  p1 (fun (t2 : Bool) =>
  k t2) (fun (s2 : List UInt8) =>
  c_incident_in (List.length s2 : Int) (1 : Int) (512 : Int) (fun (rin : Bool) =>
  k rin)) s (List.length s : Int) (0 : Int)
theorem incident_Text_ok' (hΓ : ΓOk Try.prog (incident_Text_X c_incident_in).Γ) (p1 : incident_Text_p1_T) (hp1 : PieceOk Try.prog 19 0 incident_Text_p1_code incident_Text_p1_v incident_Text_p1_o (incident_Text_p1_G p1)) : SpecOk Try.prog 43 (incident_Text_S (incident_Text_s c_incident_in p1)) :=
  spec_exec (X := (incident_Text_X c_incident_in)) (Λ := pick1 [(26, pieceCut incident_Text_p1_v incident_Text_p1_o (incident_Text_p1_G p1))]) (rs := [.tmp 2]) (c := bodyOf Try.f43) mixed tab_ok hΓ Try.func43 (by kernel_rfl) (by kernel_rfl) (by kernel_rfl) (by kernel_rfl) (CutsOk_cons (q := 26) (c' := incident_Text_p1_code) (by kernel_rfl) rfl hp1 CutsOk_nil) (fun x k r h => Eq.trans (b := (incident_Text_S (incident_Text_s c_incident_in p1)).run x k) (by kernel_rfl) h)
end
theorem incident_Text_Γ : ΓOk Try.prog (pick1 [(41, .spec (incident_in_S incident_in))]) := (ΓOk_cons incident_in_ok ΓOk_nil)
def incident_Text_p1_n (m : Nat) : incident_Text_p1_T := incident_Text_p1_l incident_in m
theorem incident_Text_p1_step {β : Type} (i : Nat) (k1 k2 s t5 t6) : (incident_Text_p1_n (i + 1) k1 k2 s t5 t6 : Option β) = incident_Text_p1_s incident_in (incident_Text_p1_n i k1 k2) k1 k2 s t5 t6 := rfl
def incident_Text_p1 : incident_Text_p1_T := incident_Text_p1_n fuel
theorem incident_Text_p1_ok : PieceOk Try.prog 19 0 incident_Text_p1_code incident_Text_p1_v incident_Text_p1_o (incident_Text_p1_G incident_Text_p1) := incident_Text_p1_ok' incident_in incident_Text_Γ fuel
def incident_Text : T_incident_Text := incident_Text_s incident_in incident_Text_p1
theorem incident_Text_ok : SpecOk Try.prog 43 (incident_Text_S incident_Text) := incident_Text_ok' incident_in incident_Text_Γ incident_Text_p1 incident_Text_p1_ok

/-- pagewatch/pagewatchref25.In -/
abbrev T_ref25_In := {β : Type} → Int → Int → Int → (Bool → Option β) → Option β
def ref25_In_S (c : T_ref25_In) : Spec :=
  ⟨[(false, [.data (.int .i64)]), (false, [.data (.int .i64)]), (false, [.data (.int .i64)])], [], [(false, [.data .bool])], [], fun x k => c x.1.1.1 x.1.2.1.1 x.1.2.2.1.1 (fun r0 => k (((r0, ()), ()), ()))⟩
section
@[reducible] def ref25_In_X : Ctx := ⟨look tab, pick1 []⟩
def ref25_In_s {β : Type} (n : Int) (lo : Int) (hi : Int) (k : (Bool → Option β)) : Option β :=
  cond (decide (lo ≤ n))
  (k (decide (n ≤ hi)))
  (k false)
theorem ref25_In_ok' (hΓ : ΓOk Try.prog ref25_In_X.Γ) : SpecOk Try.prog 45 (ref25_In_S (ref25_In_s)) :=
  spec_exec (X := ref25_In_X) (Λ := pick1 []) (rs := [.tmp 6]) (c := bodyOf Try.f45) mixed tab_ok hΓ Try.func45 (by kernel_rfl) (by kernel_rfl) (by kernel_rfl) (by kernel_rfl) CutsOk_nil (fun x k r h => Eq.trans (b := (ref25_In_S (ref25_In_s)).run x k) (by kernel_rfl) h)
end
theorem ref25_In_Γ : ΓOk Try.prog (pick1 []) := ΓOk_nil
def ref25_In : T_ref25_In := ref25_In_s
theorem ref25_In_ok : SpecOk Try.prog 45 (ref25_In_S ref25_In) := ref25_In_ok' ref25_In_Γ

/-- pagewatch/pagewatchref37.state -/
abbrev T_ref37_state := {β : Type} → Int → (Bool → Option β) → Option β
def ref37_state_S (c : T_ref37_state) : Spec :=
  ⟨[(false, [.data (.int .i64)])], [], [(false, [.data .bool])], [], fun x k => c x.1.1.1 (fun r0 => k (((r0, ()), ()), ()))⟩
section
variable (c_ref25_In : T_ref25_In)
@[reducible] def ref37_state_X : Ctx := ⟨look tab, pick1 [(45, .spec (ref25_In_S c_ref25_In))]⟩
def ref37_state_s {β : Type} (n : Int) (k : (Bool → Option β)) : Option β :=
  c_ref25_In n (0 : Int) (4 : Int) (fun (rIn : Bool) =>
  k rIn)
theorem ref37_state_ok' (hΓ : ΓOk Try.prog (ref37_state_X c_ref25_In).Γ) : SpecOk Try.prog 46 (ref37_state_S (ref37_state_s c_ref25_In)) :=
  spec_exec (X := (ref37_state_X c_ref25_In)) (Λ := pick1 []) (rs := [.tmp 2]) (c := bodyOf Try.f46) mixed tab_ok hΓ Try.func46 (by kernel_rfl) (by kernel_rfl) (by kernel_rfl) (by kernel_rfl) CutsOk_nil (fun x k r h => Eq.trans (b := (ref37_state_S (ref37_state_s c_ref25_In)).run x k) (by kernel_rfl) h)
end
theorem ref37_state_Γ : ΓOk Try.prog (pick1 [(45, .spec (ref25_In_S ref25_In))]) := (ΓOk_cons ref25_In_ok ΓOk_nil)
def ref37_state : T_ref37_state := ref37_state_s ref25_In
theorem ref37_state_ok : SpecOk Try.prog 46 (ref37_state_S ref37_state) := ref37_state_ok' ref25_In ref37_state_Γ

/-- pagewatch/pagewatchref37.Text -/
abbrev T_ref37_Text := {β : Type} → (List UInt8) → (Bool → Option β) → Option β
def ref37_Text_S (c : T_ref37_Text) : Spec :=
  ⟨[(false, [.data .str])], [], [(false, [.data .bool])], [], fun x k => c x.1.1.1 (fun r0 => k (((r0, ()), ()), ()))⟩
noncomputable def ref37_Text_p1_code : Code := codeAt 26 (bodyOf Try.f47)
abbrev ref37_Text_p1_K1 (β : Type) := Bool → Option β
abbrev ref37_Text_p1_K2 (β : Type) := (List UInt8) → Option β
abbrev ref37_Text_p1_T := {β : Type} → ref37_Text_p1_K1 β → ref37_Text_p1_K2 β → (List UInt8) → Int → Option β
def ref37_Text_p1_v : View := ⟨0, [0, 3], [(false, [.data .str]), (false, [.data (.int .i64)])], []⟩
def ref37_Text_p1_o : List (AExit × View) := [(.ret, ⟨0, [2], [(false, [.data .bool])], []⟩), (.exit 0, ⟨0, [0], [(false, [.data .str])], []⟩)]
@[reducible] def ref37_Text_p1_G (p : ref37_Text_p1_T) {β : Type} (d : ref37_Text_p1_v.den) (ks : Outs.K β ref37_Text_p1_o) : Option β :=
  p (fun a0 => ks.1 (((a0, ()), ()), ())) (fun a0 => ks.2.1 (((a0, ()), ()), ())) d.1.1.1 d.1.2.1.1
section
variable (c_ref25_In : T_ref25_In)
@[reducible] def ref37_Text_X : Ctx := ⟨look tab, pick1 [(45, .spec (ref25_In_S c_ref25_In))]⟩
def ref37_Text_p1_s {β : Type} (rec : (List UInt8) → Int → Option β) (k1 : ref37_Text_p1_K1 β) (k2 : ref37_Text_p1_K2 β) (s : List UInt8) (i_ : Int) : Option β :=
  cond (decide (i_ < (List.length s : Int)))
  (cond (decide (0 ≤ i_) && decide (i_ < (List.length s : Int)))
  (cond (decide (((List.getD s (Int.toNat i_) 0).toNat : Int) < (32 : Int)))
  (k1 false)
  (cond (decide (0 ≤ i_) && decide (i_ < (List.length s : Int)))
  (cond (decide ((126 : Int) < ((List.getD s (Int.toNat i_) 0).toNat : Int)))
  (k1 false)
  (let i_2 : Int := (IntKind.i64.wrap (i_ + (1 : Int)));
  rec s i_2))
  none))
  none)
  (k2 s)
def ref37_Text_p1_l {β : Type} : Nat → ref37_Text_p1_K1 β → ref37_Text_p1_K2 β → (List UInt8) → Int → Option β
  | 0 => fun _ _ _ _ => none
  | i + 1 => fun k1 k2 s i_ => ref37_Text_p1_s (ref37_Text_p1_l i k1 k2) k1 k2 s i_
theorem ref37_Text_p1_ok' (hΓ : ΓOk Try.prog (ref37_Text_X c_ref25_In).Γ) (i : Nat) : PieceOk Try.prog 23 0 ref37_Text_p1_code ref37_Text_p1_v ref37_Text_p1_o (ref37_Text_p1_G (ref37_Text_p1_l i)) := by
  rw [show ref37_Text_p1_code = .loop (loopBody ref37_Text_p1_code) by kernel_rfl]
  exact piece_loop (X := (ref37_Text_X c_ref25_In)) (p := 1) (Λ := pick1 []) (G := fun i => @fun β d ks => ref37_Text_p1_G (ref37_Text_p1_l i) d ks) mixed tab_ok hΓ rfl (by kernel_rfl) CutsOk_nil (fun _ _ => rfl) (fun i => @fun β d ks r h => Eq.trans (b := ref37_Text_p1_G (ref37_Text_p1_l (i + 1)) d ks) (by kernel_rfl) h) i
def ref37_Text_s (p1 : ref37_Text_p1_T) {β : Type} (s : List UInt8) (k : (Bool → Option β)) : Option β :=
  p1 (fun (t2 : Bool) =>
  k t2) (fun (s2 : List UInt8) =>
  c_ref25_In (List.length s2 : Int) (1 : Int) (512 : Int) (fun (rIn : Bool) =>
  k rIn)) s (0 : Int)
theorem ref37_Text_ok' (hΓ : ΓOk Try.prog (ref37_Text_X c_ref25_In).Γ) (p1 : ref37_Text_p1_T) (hp1 : PieceOk Try.prog 23 0 ref37_Text_p1_code ref37_Text_p1_v ref37_Text_p1_o (ref37_Text_p1_G p1)) : SpecOk Try.prog 47 (ref37_Text_S (ref37_Text_s c_ref25_In p1)) :=
  spec_exec (X := (ref37_Text_X c_ref25_In)) (Λ := pick1 [(26, pieceCut ref37_Text_p1_v ref37_Text_p1_o (ref37_Text_p1_G p1))]) (rs := [.tmp 2]) (c := bodyOf Try.f47) mixed tab_ok hΓ Try.func47 (by kernel_rfl) (by kernel_rfl) (by kernel_rfl) (by kernel_rfl) (CutsOk_cons (q := 26) (c' := ref37_Text_p1_code) (by kernel_rfl) rfl hp1 CutsOk_nil) (fun x k r h => Eq.trans (b := (ref37_Text_S (ref37_Text_s c_ref25_In p1)).run x k) (by kernel_rfl) h)
end
theorem ref37_Text_Γ : ΓOk Try.prog (pick1 [(45, .spec (ref25_In_S ref25_In))]) := (ΓOk_cons ref25_In_ok ΓOk_nil)
def ref37_Text_p1_n (m : Nat) : ref37_Text_p1_T := ref37_Text_p1_l m
theorem ref37_Text_p1_step {β : Type} (i : Nat) (k1 k2 s i_) : (ref37_Text_p1_n (i + 1) k1 k2 s i_ : Option β) = ref37_Text_p1_s (ref37_Text_p1_n i k1 k2) k1 k2 s i_ := rfl
def ref37_Text_p1 : ref37_Text_p1_T := ref37_Text_p1_n fuel
theorem ref37_Text_p1_ok : PieceOk Try.prog 23 0 ref37_Text_p1_code ref37_Text_p1_v ref37_Text_p1_o (ref37_Text_p1_G ref37_Text_p1) := ref37_Text_p1_ok' ref25_In ref37_Text_Γ fuel
def ref37_Text : T_ref37_Text := ref37_Text_s ref25_In ref37_Text_p1
theorem ref37_Text_ok : SpecOk Try.prog 47 (ref37_Text_S ref37_Text) := ref37_Text_ok' ref25_In ref37_Text_Γ ref37_Text_p1 ref37_Text_p1_ok

/-- pagewatch/pagewatchref37.person -/
abbrev T_ref37_person := {β : Type} → Int → Bool → (Bool → Option β) → Option β
def ref37_person_S (c : T_ref37_person) : Spec :=
  ⟨[(false, [.data (.int .i64)]), (false, [.data .bool])], [], [(false, [.data .bool])], [], fun x k => c x.1.1.1 x.1.2.1.1 (fun r0 => k (((r0, ()), ()), ()))⟩
section
variable (c_ref25_In : T_ref25_In)
@[reducible] def ref37_person_X : Ctx := ⟨look tab, pick1 [(45, .spec (ref25_In_S c_ref25_In))]⟩
def ref37_person_s {β : Type} (n : Int) (nobody : Bool) (k : (Bool → Option β)) : Option β :=
  c_ref25_In n (0 : Int) (31 : Int) (fun (rIn : Bool) =>
  cond rIn
  (k true)
  (cond nobody
  (let t : Bool := (decide (n = (-1 : Int)));
  k t)
  (k false)))
theorem ref37_person_ok' (hΓ : ΓOk Try.prog (ref37_person_X c_ref25_In).Γ) : SpecOk Try.prog 48 (ref37_person_S (ref37_person_s c_ref25_In)) :=
  spec_exec (X := (ref37_person_X c_ref25_In)) (Λ := pick1 []) (rs := [.tmp 4]) (c := bodyOf Try.f48) mixed tab_ok hΓ Try.func48 (by kernel_rfl) (by kernel_rfl) (by kernel_rfl) (by kernel_rfl) CutsOk_nil (fun x k r h => Eq.trans (b := (ref37_person_S (ref37_person_s c_ref25_In)).run x k) (by kernel_rfl) h)
end
theorem ref37_person_Γ : ΓOk Try.prog (pick1 [(45, .spec (ref25_In_S ref25_In))]) := (ΓOk_cons ref25_In_ok ΓOk_nil)
def ref37_person : T_ref37_person := ref37_person_s ref25_In
theorem ref37_person_ok : SpecOk Try.prog 48 (ref37_person_S ref37_person) := ref37_person_ok' ref25_In ref37_person_Γ

/-- pagewatch/pagewatchref37.lists -/
abbrev T_ref37_lists := {β : Type} → api_Incident → (Bool → Option β) → Option β
def ref37_lists_S (c : T_ref37_lists) : Spec :=
  ⟨[(true, [.data y_api_Incident])], [], [(false, [.data .bool])], [], fun x k => c x.1.1.1 (fun r0 => k (((r0, ()), ()), ()))⟩
noncomputable def ref37_lists_p1_code : Code := codeAt 26 (bodyOf Try.f49)
noncomputable def ref37_lists_p2_code : Code := codeAt 122 (bodyOf Try.f49)
noncomputable def ref37_lists_p3_code : Code := codeAt 1018 (bodyOf Try.f49)
abbrev ref37_lists_p1_K1 (β : Type) := Bool → Option β
abbrev ref37_lists_p1_K2 (β : Type) := Int → Int → Int → Int → (List UInt8) → Int → Int → Int → (List Int) → (List api_Task) → (List api_Update) → (List Int) → (List (Int × (Int × Int))) → Int → Option β
abbrev ref37_lists_p1_T := {β : Type} → ref37_lists_p1_K1 β → ref37_lists_p1_K2 β → Int → Int → Int → Int → Int → (List UInt8) → Int → Int → Int → (List Int) → (List api_Task) → (List api_Update) → (List Int) → (List (Int × (Int × Int))) → Int → Option β
def ref37_lists_p1_v : View := ⟨0, [1, 3], [(false, [.ptr 0 0]), (false, [.data (.int .i64)])], [.cells 32 [.data (.int .i64), .data (.int .i64), .data (.int .i64), .data (.int .i64), .data .str, .data (.int .i64), .data (.int .i64), .data (.int .i64), .data (.slice (.int .i64)), .data (.slice y_api_Task), .data (.slice y_api_Update), .data (.slice (.int .i64)), .data (.slice (.prod (.int .i64) (.prod (.int .i64) (.int .i64)))), .data (.int .i64)]]⟩
def ref37_lists_p1_o : List (AExit × View) := [(.ret, ⟨0, [2], [(false, [.data .bool])], []⟩), (.exit 0, ⟨0, [1], [(false, [.ptr 0 0])], [.cells 32 [.data (.int .i64), .data (.int .i64), .data (.int .i64), .data (.int .i64), .data .str, .data (.int .i64), .data (.int .i64), .data (.int .i64), .data (.slice (.int .i64)), .data (.slice y_api_Task), .data (.slice y_api_Update), .data (.slice (.int .i64)), .data (.slice (.prod (.int .i64) (.prod (.int .i64) (.int .i64)))), .data (.int .i64)]]⟩)]
@[reducible] def ref37_lists_p1_G (p : ref37_lists_p1_T) {β : Type} (d : ref37_lists_p1_v.den) (ks : Outs.K β ref37_lists_p1_o) : Option β :=
  p (fun a0 => ks.1 (((a0, ()), ()), ())) (fun a0 a1 a2 a3 a4 a5 a6 a7 a8 a9 a10 a11 a12 a13 => ks.2.1 (((), ()), ((a0, a1, a2, a3, a4, a5, a6, a7, a8, a9, a10, a11, a12, a13, ()), ()))) d.1.2.1.1 d.2.1.1 d.2.1.2.1 d.2.1.2.2.1 d.2.1.2.2.2.1 d.2.1.2.2.2.2.1 d.2.1.2.2.2.2.2.1 d.2.1.2.2.2.2.2.2.1 d.2.1.2.2.2.2.2.2.2.1 d.2.1.2.2.2.2.2.2.2.2.1 d.2.1.2.2.2.2.2.2.2.2.2.1 d.2.1.2.2.2.2.2.2.2.2.2.2.1 d.2.1.2.2.2.2.2.2.2.2.2.2.2.1 d.2.1.2.2.2.2.2.2.2.2.2.2.2.2.1 d.2.1.2.2.2.2.2.2.2.2.2.2.2.2.2.1
abbrev ref37_lists_p2_K1 (β : Type) := Bool → Option β
abbrev ref37_lists_p2_K2 (β : Type) := Int → Int → Int → Int → (List UInt8) → Int → Int → Int → (List Int) → (List api_Task) → (List api_Update) → (List Int) → (List (Int × (Int × Int))) → Int → Option β
abbrev ref37_lists_p2_T := {β : Type} → ref37_lists_p2_K1 β → ref37_lists_p2_K2 β → Int → Int → Int → Int → Int → Int → (List UInt8) → Int → Int → Int → (List Int) → (List api_Task) → (List api_Update) → (List Int) → (List (Int × (Int × Int))) → Int → Option β
def ref37_lists_p2_v : View := ⟨0, [1, 5, 6], [(false, [.ptr 0 0]), (false, [.data (.int .i64)]), (false, [.data (.int .i64)])], [.cells 32 [.data (.int .i64), .data (.int .i64), .data (.int .i64), .data (.int .i64), .data .str, .data (.int .i64), .data (.int .i64), .data (.int .i64), .data (.slice (.int .i64)), .data (.slice y_api_Task), .data (.slice y_api_Update), .data (.slice (.int .i64)), .data (.slice (.prod (.int .i64) (.prod (.int .i64) (.int .i64)))), .data (.int .i64)]]⟩
def ref37_lists_p2_o : List (AExit × View) := [(.ret, ⟨0, [2], [(false, [.data .bool])], []⟩), (.exit 2, ⟨0, [1], [(false, [.ptr 0 0])], [.cells 32 [.data (.int .i64), .data (.int .i64), .data (.int .i64), .data (.int .i64), .data .str, .data (.int .i64), .data (.int .i64), .data (.int .i64), .data (.slice (.int .i64)), .data (.slice y_api_Task), .data (.slice y_api_Update), .data (.slice (.int .i64)), .data (.slice (.prod (.int .i64) (.prod (.int .i64) (.int .i64)))), .data (.int .i64)]]⟩)]
@[reducible] def ref37_lists_p2_G (p : ref37_lists_p2_T) {β : Type} (d : ref37_lists_p2_v.den) (ks : Outs.K β ref37_lists_p2_o) : Option β :=
  p (fun a0 => ks.1 (((a0, ()), ()), ())) (fun a0 a1 a2 a3 a4 a5 a6 a7 a8 a9 a10 a11 a12 a13 => ks.2.1 (((), ()), ((a0, a1, a2, a3, a4, a5, a6, a7, a8, a9, a10, a11, a12, a13, ()), ()))) d.1.2.1.1 d.1.2.2.1.1 d.2.1.1 d.2.1.2.1 d.2.1.2.2.1 d.2.1.2.2.2.1 d.2.1.2.2.2.2.1 d.2.1.2.2.2.2.2.1 d.2.1.2.2.2.2.2.2.1 d.2.1.2.2.2.2.2.2.2.1 d.2.1.2.2.2.2.2.2.2.2.1 d.2.1.2.2.2.2.2.2.2.2.2.1 d.2.1.2.2.2.2.2.2.2.2.2.2.1 d.2.1.2.2.2.2.2.2.2.2.2.2.2.1 d.2.1.2.2.2.2.2.2.2.2.2.2.2.2.1 d.2.1.2.2.2.2.2.2.2.2.2.2.2.2.2.1
abbrev ref37_lists_p3_K1 (β : Type) := Bool → Option β
abbrev ref37_lists_p3_K2 (β : Type) := Int → Int → Int → Int → Int → (List UInt8) → Int → Int → Int → (List Int) → (List api_Task) → (List api_Update) → (List Int) → (List (Int × (Int × Int))) → Int → Option β
abbrev ref37_lists_p3_T := {β : Type} → ref37_lists_p3_K1 β → ref37_lists_p3_K2 β → Int → Int → Int → Int → Int → Int → Int → (List UInt8) → Int → Int → Int → (List Int) → (List api_Task) → (List api_Update) → (List Int) → (List (Int × (Int × Int))) → Int → Option β
def ref37_lists_p3_v : View := ⟨0, [1, 5, 8, 9], [(false, [.ptr 0 0]), (false, [.data (.int .i64)]), (false, [.data (.int .i64)]), (false, [.data (.int .i64)])], [.cells 32 [.data (.int .i64), .data (.int .i64), .data (.int .i64), .data (.int .i64), .data .str, .data (.int .i64), .data (.int .i64), .data (.int .i64), .data (.slice (.int .i64)), .data (.slice y_api_Task), .data (.slice y_api_Update), .data (.slice (.int .i64)), .data (.slice (.prod (.int .i64) (.prod (.int .i64) (.int .i64)))), .data (.int .i64)]]⟩
def ref37_lists_p3_o : List (AExit × View) := [(.ret, ⟨0, [2], [(false, [.data .bool])], []⟩), (.exit 4, ⟨0, [1, 8], [(false, [.ptr 0 0]), (false, [.data (.int .i64)])], [.cells 32 [.data (.int .i64), .data (.int .i64), .data (.int .i64), .data (.int .i64), .data .str, .data (.int .i64), .data (.int .i64), .data (.int .i64), .data (.slice (.int .i64)), .data (.slice y_api_Task), .data (.slice y_api_Update), .data (.slice (.int .i64)), .data (.slice (.prod (.int .i64) (.prod (.int .i64) (.int .i64)))), .data (.int .i64)]]⟩)]
@[reducible] def ref37_lists_p3_G (p : ref37_lists_p3_T) {β : Type} (d : ref37_lists_p3_v.den) (ks : Outs.K β ref37_lists_p3_o) : Option β :=
  p (fun a0 => ks.1 (((a0, ()), ()), ())) (fun a0 a1 a2 a3 a4 a5 a6 a7 a8 a9 a10 a11 a12 a13 a14 => ks.2.1 (((), (a0, ()), ()), ((a1, a2, a3, a4, a5, a6, a7, a8, a9, a10, a11, a12, a13, a14, ()), ()))) d.1.2.1.1 d.1.2.2.1.1 d.1.2.2.2.1.1 d.2.1.1 d.2.1.2.1 d.2.1.2.2.1 d.2.1.2.2.2.1 d.2.1.2.2.2.2.1 d.2.1.2.2.2.2.2.1 d.2.1.2.2.2.2.2.2.1 d.2.1.2.2.2.2.2.2.2.1 d.2.1.2.2.2.2.2.2.2.2.1 d.2.1.2.2.2.2.2.2.2.2.2.1 d.2.1.2.2.2.2.2.2.2.2.2.2.1 d.2.1.2.2.2.2.2.2.2.2.2.2.2.1 d.2.1.2.2.2.2.2.2.2.2.2.2.2.2.1 d.2.1.2.2.2.2.2.2.2.2.2.2.2.2.2.1
section
variable (c_ref25_In : T_ref25_In) (c_ref25_Set : T_ref25_Set) (c_ref37_Text : T_ref37_Text) (c_ref37_person : T_ref37_person) (c_ref37_state : T_ref37_state)
@[reducible] def ref37_lists_X : Ctx := ⟨look tab, pick1 [(45, .spec (ref25_In_S c_ref25_In)), (37, .spec (ref25_Set_S c_ref25_Set)), (47, .spec (ref37_Text_S c_ref37_Text)), (48, .spec (ref37_person_S c_ref37_person)), (46, .spec (ref37_state_S c_ref37_state))]⟩
def ref37_lists_p1_s {β : Type} (rec : Int → Int → Int → Int → Int → (List UInt8) → Int → Int → Int → (List Int) → (List api_Task) → (List api_Update) → (List Int) → (List (Int × (Int × Int))) → Int → Option β) (k1 : ref37_lists_p1_K1 β) (k2 : ref37_lists_p1_K2 β) (i_ : Int) (x : Int) (x2 : Int) (x3 : Int) (x4 : Int) (x5 : List UInt8) (x6 : Int) (x7 : Int) (x8 : Int) (x9 : List Int) (x10 : List api_Task) (x11 : List api_Update) (x12 : List Int) (x13 : List (Int × (Int × Int))) (x14 : Int) : Option β :=
  cond (decide (i_ < (List.length x10 : Int)))
  (cond (decide (0 ≤ i_) && decide (i_ < (List.length x10 : Int)))
  (let e : api_Task := List.getD x10 (Int.toNat i_) (([] : List UInt8), ((0 : Int), ((0 : Int), (0 : Int))));
  c_ref37_Text e.1 (fun (rText : Bool) =>
  cond (!rText)
  (k1 false)
  (c_ref37_person e.2.1 true (fun (rperson : Bool) =>
  cond (!rperson)
  (k1 false)
  (c_ref25_In e.2.2.1 x4 (8589934592 : Int) (fun (rIn : Bool) =>
  cond (!rIn)
  (k1 false)
  (cond (!decide (e.2.2.2 = (-1 : Int)))
  (c_ref25_In e.2.2.2 e.2.2.1 (8589934592 : Int) (fun (rIn2 : Bool) =>
  cond (!rIn2)
  (k1 false)
  (let i_2 : Int := (IntKind.i64.wrap (i_ + (1 : Int)));
  rec i_2 x x2 x3 x4 x5 x6 x7 x8 x9 x10 x11 x12 x13 x14)))
  (let i_2 : Int := (IntKind.i64.wrap (i_ + (1 : Int)));
  rec i_2 x x2 x3 x4 x5 x6 x7 x8 x9 x10 x11 x12 x13 x14))))))))
  none)
  (k2 x x2 x3 x4 x5 x6 x7 x8 x9 x10 x11 x12 x13 x14)
def ref37_lists_p1_l {β : Type} : Nat → ref37_lists_p1_K1 β → ref37_lists_p1_K2 β → Int → Int → Int → Int → Int → (List UInt8) → Int → Int → Int → (List Int) → (List api_Task) → (List api_Update) → (List Int) → (List (Int × (Int × Int))) → Int → Option β
  | 0 => fun _ _ _ _ _ _ _ _ _ _ _ _ _ _ _ _ _ => none
  | i + 1 => fun k1 k2 i_ x x2 x3 x4 x5 x6 x7 x8 x9 x10 x11 x12 x13 x14 => ref37_lists_p1_s c_ref25_In c_ref37_Text c_ref37_person (ref37_lists_p1_l i k1 k2) k1 k2 i_ x x2 x3 x4 x5 x6 x7 x8 x9 x10 x11 x12 x13 x14
theorem ref37_lists_p1_ok' (hΓ : ΓOk Try.prog (ref37_lists_X c_ref25_In c_ref25_Set c_ref37_Text c_ref37_person c_ref37_state).Γ) (i : Nat) : PieceOk Try.prog 138 0 ref37_lists_p1_code ref37_lists_p1_v ref37_lists_p1_o (ref37_lists_p1_G (ref37_lists_p1_l c_ref25_In c_ref37_Text c_ref37_person i)) := by
  rw [show ref37_lists_p1_code = .loop (loopBody ref37_lists_p1_code) by kernel_rfl]
  exact piece_loop (X := (ref37_lists_X c_ref25_In c_ref25_Set c_ref37_Text c_ref37_person c_ref37_state)) (p := 1) (Λ := pick1 []) (G := fun i => @fun β d ks => ref37_lists_p1_G (ref37_lists_p1_l c_ref25_In c_ref37_Text c_ref37_person i) d ks) mixed tab_ok hΓ rfl (by kernel_rfl) CutsOk_nil (fun _ _ => rfl) (fun i => @fun β d ks r h => Eq.trans (b := ref37_lists_p1_G (ref37_lists_p1_l c_ref25_In c_ref37_Text c_ref37_person (i + 1)) d ks) (by kernel_rfl) h) i
def ref37_lists_p2_s {β : Type} (rec : Int → Int → Int → Int → Int → Int → (List UInt8) → Int → Int → Int → (List Int) → (List api_Task) → (List api_Update) → (List Int) → (List (Int × (Int × Int))) → Int → Option β) (k1 : ref37_lists_p2_K1 β) (k2 : ref37_lists_p2_K2 β) (at_ : Int) (i_ : Int) (x : Int) (x2 : Int) (x3 : Int) (x4 : Int) (x5 : List UInt8) (x6 : Int) (x7 : Int) (x8 : Int) (x9 : List Int) (x10 : List api_Task) (x11 : List api_Update) (x12 : List Int) (x13 : List (Int × (Int × Int))) (x14 : Int) : Option β :=
  cond (decide (i_ < (List.length x11 : Int)))
  (cond (decide (0 ≤ i_) && decide (i_ < (List.length x11 : Int)))
  (let e : api_Update := List.getD x11 (Int.toNat i_) ((0 : Int), ((0 : Int), (([] : List UInt8), ([] : List Int))));
  c_ref37_Text e.2.2.1 (fun (rText : Bool) =>
  cond (!rText)
  (k1 false)
  (c_ref37_state e.2.1 (fun (rstate : Bool) =>
  cond (!rstate)
  (k1 false)
  (c_ref25_Set e.2.2.2 (32 : Int) (fun (rSet : Bool) =>
  cond (!rSet)
  (k1 false)
  (c_ref25_In e.1 at_ (8589934592 : Int) (fun (rIn : Bool) =>
  cond (!rIn)
  (k1 false)
  (let i_2 : Int := (IntKind.i64.wrap (i_ + (1 : Int)));
  rec e.1 i_2 x x2 x3 x4 x5 x6 x7 x8 x9 x10 x11 x12 x13 x14)))))))))
  none)
  (k2 x x2 x3 x4 x5 x6 x7 x8 x9 x10 x11 x12 x13 x14)
def ref37_lists_p2_l {β : Type} : Nat → ref37_lists_p2_K1 β → ref37_lists_p2_K2 β → Int → Int → Int → Int → Int → Int → (List UInt8) → Int → Int → Int → (List Int) → (List api_Task) → (List api_Update) → (List Int) → (List (Int × (Int × Int))) → Int → Option β
  | 0 => fun _ _ _ _ _ _ _ _ _ _ _ _ _ _ _ _ _ _ => none
  | i + 1 => fun k1 k2 at_ i_ x x2 x3 x4 x5 x6 x7 x8 x9 x10 x11 x12 x13 x14 => ref37_lists_p2_s c_ref25_In c_ref25_Set c_ref37_Text c_ref37_state (ref37_lists_p2_l i k1 k2) k1 k2 at_ i_ x x2 x3 x4 x5 x6 x7 x8 x9 x10 x11 x12 x13 x14
theorem ref37_lists_p2_ok' (hΓ : ΓOk Try.prog (ref37_lists_X c_ref25_In c_ref25_Set c_ref37_Text c_ref37_person c_ref37_state).Γ) (i : Nat) : PieceOk Try.prog 138 0 ref37_lists_p2_code ref37_lists_p2_v ref37_lists_p2_o (ref37_lists_p2_G (ref37_lists_p2_l c_ref25_In c_ref25_Set c_ref37_Text c_ref37_state i)) := by
  rw [show ref37_lists_p2_code = .loop (loopBody ref37_lists_p2_code) by kernel_rfl]
  exact piece_loop (X := (ref37_lists_X c_ref25_In c_ref25_Set c_ref37_Text c_ref37_person c_ref37_state)) (p := 1) (Λ := pick1 []) (G := fun i => @fun β d ks => ref37_lists_p2_G (ref37_lists_p2_l c_ref25_In c_ref25_Set c_ref37_Text c_ref37_state i) d ks) mixed tab_ok hΓ rfl (by kernel_rfl) CutsOk_nil (fun _ _ => rfl) (fun i => @fun β d ks r h => Eq.trans (b := ref37_lists_p2_G (ref37_lists_p2_l c_ref25_In c_ref25_Set c_ref37_Text c_ref37_state (i + 1)) d ks) (by kernel_rfl) h) i
def ref37_lists_p3_s {β : Type} (rec : Int → Int → Int → Int → Int → Int → Int → (List UInt8) → Int → Int → Int → (List Int) → (List api_Task) → (List api_Update) → (List Int) → (List (Int × (Int × Int))) → Int → Option β) (k1 : ref37_lists_p3_K1 β) (k2 : ref37_lists_p3_K2 β) (at_ : Int) (now : Int) (i_ : Int) (x : Int) (x2 : Int) (x3 : Int) (x4 : Int) (x5 : List UInt8) (x6 : Int) (x7 : Int) (x8 : Int) (x9 : List Int) (x10 : List api_Task) (x11 : List api_Update) (x12 : List Int) (x13 : List (Int × (Int × Int))) (x14 : Int) : Option β :=
  cond (decide (i_ < (List.length x13 : Int)))
  (cond (decide (0 ≤ i_) && decide (i_ < (List.length x13 : Int)))
  (let e : (Int × (Int × Int)) := List.getD x13 (Int.toNat i_) ((0 : Int), ((0 : Int), (0 : Int)));
  c_ref37_state e.2.1 (fun (rstate : Bool) =>
  cond (!rstate)
  (k1 false)
  (cond (decide (e.2.1 = now))
  (k1 false)
  (c_ref37_person e.2.2 true (fun (rperson : Bool) =>
  cond (!rperson)
  (k1 false)
  (c_ref25_In e.1 at_ (8589934592 : Int) (fun (rIn : Bool) =>
  cond (!rIn)
  (k1 false)
  (let i_2 : Int := (IntKind.i64.wrap (i_ + (1 : Int)));
  rec e.1 e.2.1 i_2 x x2 x3 x4 x5 x6 x7 x8 x9 x10 x11 x12 x13 x14))))))))
  none)
  (k2 now x x2 x3 x4 x5 x6 x7 x8 x9 x10 x11 x12 x13 x14)
def ref37_lists_p3_l {β : Type} : Nat → ref37_lists_p3_K1 β → ref37_lists_p3_K2 β → Int → Int → Int → Int → Int → Int → Int → (List UInt8) → Int → Int → Int → (List Int) → (List api_Task) → (List api_Update) → (List Int) → (List (Int × (Int × Int))) → Int → Option β
  | 0 => fun _ _ _ _ _ _ _ _ _ _ _ _ _ _ _ _ _ _ _ => none
  | i + 1 => fun k1 k2 at_ now i_ x x2 x3 x4 x5 x6 x7 x8 x9 x10 x11 x12 x13 x14 => ref37_lists_p3_s c_ref25_In c_ref37_person c_ref37_state (ref37_lists_p3_l i k1 k2) k1 k2 at_ now i_ x x2 x3 x4 x5 x6 x7 x8 x9 x10 x11 x12 x13 x14
theorem ref37_lists_p3_ok' (hΓ : ΓOk Try.prog (ref37_lists_X c_ref25_In c_ref25_Set c_ref37_Text c_ref37_person c_ref37_state).Γ) (i : Nat) : PieceOk Try.prog 138 0 ref37_lists_p3_code ref37_lists_p3_v ref37_lists_p3_o (ref37_lists_p3_G (ref37_lists_p3_l c_ref25_In c_ref37_person c_ref37_state i)) := by
  rw [show ref37_lists_p3_code = .loop (loopBody ref37_lists_p3_code) by kernel_rfl]
  exact piece_loop (X := (ref37_lists_X c_ref25_In c_ref25_Set c_ref37_Text c_ref37_person c_ref37_state)) (p := 1) (Λ := pick1 []) (G := fun i => @fun β d ks => ref37_lists_p3_G (ref37_lists_p3_l c_ref25_In c_ref37_person c_ref37_state i) d ks) mixed tab_ok hΓ rfl (by kernel_rfl) CutsOk_nil (fun _ _ => rfl) (fun i => @fun β d ks r h => Eq.trans (b := ref37_lists_p3_G (ref37_lists_p3_l c_ref25_In c_ref37_person c_ref37_state (i + 1)) d ks) (by kernel_rfl) h) i
def ref37_lists_s (p1 : ref37_lists_p1_T) (p2 : ref37_lists_p2_T) (p3 : ref37_lists_p3_T) {β : Type} (x : api_Incident) (k : (Bool → Option β)) : Option β :=
  p1 (fun (t2 : Bool) =>
  k t2) (fun (x2 : Int) (x3 : Int) (x4 : Int) (x5 : Int) (x6 : List UInt8) (x7 : Int) (x8 : Int) (x9 : Int) (x10 : List Int) (x11 : List api_Task) (x12 : List api_Update) (x13 : List Int) (x14 : List (Int × (Int × Int))) (x15 : Int) =>
  p2 (fun (t2 : Bool) =>
  k t2) (fun (x16 : Int) (x17 : Int) (x18 : Int) (x19 : Int) (x20 : List UInt8) (x21 : Int) (x22 : Int) (x23 : Int) (x24 : List Int) (x25 : List api_Task) (x26 : List api_Update) (x27 : List Int) (x28 : List (Int × (Int × Int))) (x29 : Int) =>
  p3 (fun (t2 : Bool) =>
  k t2) (fun (now : Int) (x30 : Int) (x31 : Int) (x32 : Int) (x33 : Int) (x34 : List UInt8) (x35 : Int) (x36 : Int) (x37 : Int) (x38 : List Int) (x39 : List api_Task) (x40 : List api_Update) (x41 : List Int) (x42 : List (Int × (Int × Int))) (x43 : Int) =>
  k (decide (now = x31))) x19 (0 : Int) (0 : Int) x16 x17 x18 x19 x20 x21 x22 x23 x24 x25 x26 x27 x28 x29) x5 (0 : Int) x2 x3 x4 x5 x6 x7 x8 x9 x10 x11 x12 x13 x14 x15) (0 : Int) x.1 x.2.1 x.2.2.1 x.2.2.2.1 x.2.2.2.2.1 x.2.2.2.2.2.1.1 x.2.2.2.2.2.1.2.1 x.2.2.2.2.2.1.2.2 x.2.2.2.2.2.2.1 x.2.2.2.2.2.2.2.1 x.2.2.2.2.2.2.2.2.1 x.2.2.2.2.2.2.2.2.2.1 x.2.2.2.2.2.2.2.2.2.2.1 x.2.2.2.2.2.2.2.2.2.2.2
theorem ref37_lists_ok' (hΓ : ΓOk Try.prog (ref37_lists_X c_ref25_In c_ref25_Set c_ref37_Text c_ref37_person c_ref37_state).Γ) (p1 : ref37_lists_p1_T) (p2 : ref37_lists_p2_T) (p3 : ref37_lists_p3_T) (hp1 : PieceOk Try.prog 138 0 ref37_lists_p1_code ref37_lists_p1_v ref37_lists_p1_o (ref37_lists_p1_G p1)) (hp2 : PieceOk Try.prog 138 0 ref37_lists_p2_code ref37_lists_p2_v ref37_lists_p2_o (ref37_lists_p2_G p2)) (hp3 : PieceOk Try.prog 138 0 ref37_lists_p3_code ref37_lists_p3_v ref37_lists_p3_o (ref37_lists_p3_G p3)) : SpecOk Try.prog 49 (ref37_lists_S (ref37_lists_s p1 p2 p3)) :=
  spec_exec (X := (ref37_lists_X c_ref25_In c_ref25_Set c_ref37_Text c_ref37_person c_ref37_state)) (Λ := pick1 [(26, pieceCut ref37_lists_p1_v ref37_lists_p1_o (ref37_lists_p1_G p1)), (122, pieceCut ref37_lists_p2_v ref37_lists_p2_o (ref37_lists_p2_G p2)), (1018, pieceCut ref37_lists_p3_v ref37_lists_p3_o (ref37_lists_p3_G p3))]) (rs := [.tmp 2]) (c := bodyOf Try.f49) mixed tab_ok hΓ Try.func49 (by kernel_rfl) (by kernel_rfl) (by kernel_rfl) (by kernel_rfl) (CutsOk_cons (q := 26) (c' := ref37_lists_p1_code) (by kernel_rfl) rfl hp1 (CutsOk_cons (q := 122) (c' := ref37_lists_p2_code) (by kernel_rfl) rfl hp2 (CutsOk_cons (q := 1018) (c' := ref37_lists_p3_code) (by kernel_rfl) rfl hp3 CutsOk_nil))) (fun x k r h => Eq.trans (b := (ref37_lists_S (ref37_lists_s p1 p2 p3)).run x k) (by kernel_rfl) h)
end
theorem ref37_lists_Γ : ΓOk Try.prog (pick1 [(45, .spec (ref25_In_S ref25_In)), (37, .spec (ref25_Set_S ref25_Set)), (47, .spec (ref37_Text_S ref37_Text)), (48, .spec (ref37_person_S ref37_person)), (46, .spec (ref37_state_S ref37_state))]) := (ΓOk_cons ref25_In_ok (ΓOk_cons ref25_Set_ok (ΓOk_cons ref37_Text_ok (ΓOk_cons ref37_person_ok (ΓOk_cons ref37_state_ok ΓOk_nil)))))
def ref37_lists_p1_n (m : Nat) : ref37_lists_p1_T := ref37_lists_p1_l ref25_In ref37_Text ref37_person m
theorem ref37_lists_p1_step {β : Type} (i : Nat) (k1 k2 i_ x x2 x3 x4 x5 x6 x7 x8 x9 x10 x11 x12 x13 x14) : (ref37_lists_p1_n (i + 1) k1 k2 i_ x x2 x3 x4 x5 x6 x7 x8 x9 x10 x11 x12 x13 x14 : Option β) = ref37_lists_p1_s ref25_In ref37_Text ref37_person (ref37_lists_p1_n i k1 k2) k1 k2 i_ x x2 x3 x4 x5 x6 x7 x8 x9 x10 x11 x12 x13 x14 := rfl
def ref37_lists_p1 : ref37_lists_p1_T := ref37_lists_p1_n fuel
theorem ref37_lists_p1_ok : PieceOk Try.prog 138 0 ref37_lists_p1_code ref37_lists_p1_v ref37_lists_p1_o (ref37_lists_p1_G ref37_lists_p1) := ref37_lists_p1_ok' ref25_In ref25_Set ref37_Text ref37_person ref37_state ref37_lists_Γ fuel
def ref37_lists_p2_n (m : Nat) : ref37_lists_p2_T := ref37_lists_p2_l ref25_In ref25_Set ref37_Text ref37_state m
theorem ref37_lists_p2_step {β : Type} (i : Nat) (k1 k2 at_ i_ x x2 x3 x4 x5 x6 x7 x8 x9 x10 x11 x12 x13 x14) : (ref37_lists_p2_n (i + 1) k1 k2 at_ i_ x x2 x3 x4 x5 x6 x7 x8 x9 x10 x11 x12 x13 x14 : Option β) = ref37_lists_p2_s ref25_In ref25_Set ref37_Text ref37_state (ref37_lists_p2_n i k1 k2) k1 k2 at_ i_ x x2 x3 x4 x5 x6 x7 x8 x9 x10 x11 x12 x13 x14 := rfl
def ref37_lists_p2 : ref37_lists_p2_T := ref37_lists_p2_n fuel
theorem ref37_lists_p2_ok : PieceOk Try.prog 138 0 ref37_lists_p2_code ref37_lists_p2_v ref37_lists_p2_o (ref37_lists_p2_G ref37_lists_p2) := ref37_lists_p2_ok' ref25_In ref25_Set ref37_Text ref37_person ref37_state ref37_lists_Γ fuel
def ref37_lists_p3_n (m : Nat) : ref37_lists_p3_T := ref37_lists_p3_l ref25_In ref37_person ref37_state m
theorem ref37_lists_p3_step {β : Type} (i : Nat) (k1 k2 at_ now i_ x x2 x3 x4 x5 x6 x7 x8 x9 x10 x11 x12 x13 x14) : (ref37_lists_p3_n (i + 1) k1 k2 at_ now i_ x x2 x3 x4 x5 x6 x7 x8 x9 x10 x11 x12 x13 x14 : Option β) = ref37_lists_p3_s ref25_In ref37_person ref37_state (ref37_lists_p3_n i k1 k2) k1 k2 at_ now i_ x x2 x3 x4 x5 x6 x7 x8 x9 x10 x11 x12 x13 x14 := rfl
def ref37_lists_p3 : ref37_lists_p3_T := ref37_lists_p3_n fuel
theorem ref37_lists_p3_ok : PieceOk Try.prog 138 0 ref37_lists_p3_code ref37_lists_p3_v ref37_lists_p3_o (ref37_lists_p3_G ref37_lists_p3) := ref37_lists_p3_ok' ref25_In ref25_Set ref37_Text ref37_person ref37_state ref37_lists_Γ fuel
def ref37_lists : T_ref37_lists := ref37_lists_s ref37_lists_p1 ref37_lists_p2 ref37_lists_p3
theorem ref37_lists_ok : SpecOk Try.prog 49 (ref37_lists_S ref37_lists) := ref37_lists_ok' ref25_In ref25_Set ref37_Text ref37_person ref37_state ref37_lists_Γ ref37_lists_p1 ref37_lists_p2 ref37_lists_p3 ref37_lists_p1_ok ref37_lists_p2_ok ref37_lists_p3_ok

/-- pagewatch/incident.latest -/
abbrev T_incident_latest := {β : Type} → api_Incident → (Int → Option β) → Option β
def incident_latest_S (c : T_incident_latest) : Spec :=
  ⟨[(true, [.data y_api_Incident])], [], [(false, [.data (.int .i64)])], [], fun x k => c x.1.1.1 (fun r0 => k (((r0, ()), ()), ()))⟩
noncomputable def incident_latest_p1_code : Code := codeAt 58 (bodyOf Try.f60)
noncomputable def incident_latest_p2_code : Code := codeAt 122 (bodyOf Try.f60)
abbrev incident_latest_p1_K1 (β : Type) := Int → Int → Int → Int → Int → (List UInt8) → Int → Int → Int → (List Int) → (List api_Task) → (List api_Update) → (List Int) → (List (Int × (Int × Int))) → Int → Option β
abbrev incident_latest_p1_T := {β : Type} → incident_latest_p1_K1 β → Int → (List api_Update) → Int → Int → Int → Int → Int → Int → (List UInt8) → Int → Int → Int → (List Int) → (List api_Task) → (List api_Update) → (List Int) → (List (Int × (Int × Int))) → Int → Option β
def incident_latest_p1_v : View := ⟨0, [1, 3, 11, 12, 13], [(false, [.ptr 0 0]), (false, [.data (.int .i64)]), (false, [.data (.slice y_api_Update)]), (false, [.data (.int .i64)]), (false, [.data (.int .i64)])], [.cells 32 [.data (.int .i64), .data (.int .i64), .data (.int .i64), .data (.int .i64), .data .str, .data (.int .i64), .data (.int .i64), .data (.int .i64), .data (.slice (.int .i64)), .data (.slice y_api_Task), .data (.slice y_api_Update), .data (.slice (.int .i64)), .data (.slice (.prod (.int .i64) (.prod (.int .i64) (.int .i64)))), .data (.int .i64)]]⟩
def incident_latest_p1_o : List (AExit × View) := [(.exit 0, ⟨0, [1, 3], [(false, [.ptr 0 0]), (false, [.data (.int .i64)])], [.cells 32 [.data (.int .i64), .data (.int .i64), .data (.int .i64), .data (.int .i64), .data .str, .data (.int .i64), .data (.int .i64), .data (.int .i64), .data (.slice (.int .i64)), .data (.slice y_api_Task), .data (.slice y_api_Update), .data (.slice (.int .i64)), .data (.slice (.prod (.int .i64) (.prod (.int .i64) (.int .i64)))), .data (.int .i64)]]⟩)]
@[reducible] def incident_latest_p1_G (p : incident_latest_p1_T) {β : Type} (d : incident_latest_p1_v.den) (ks : Outs.K β incident_latest_p1_o) : Option β :=
  p (fun a0 a1 a2 a3 a4 a5 a6 a7 a8 a9 a10 a11 a12 a13 a14 => ks.1 (((), (a0, ()), ()), ((a1, a2, a3, a4, a5, a6, a7, a8, a9, a10, a11, a12, a13, a14, ()), ()))) d.1.2.1.1 d.1.2.2.1.1 d.1.2.2.2.1.1 d.1.2.2.2.2.1.1 d.2.1.1 d.2.1.2.1 d.2.1.2.2.1 d.2.1.2.2.2.1 d.2.1.2.2.2.2.1 d.2.1.2.2.2.2.2.1 d.2.1.2.2.2.2.2.2.1 d.2.1.2.2.2.2.2.2.2.1 d.2.1.2.2.2.2.2.2.2.2.1 d.2.1.2.2.2.2.2.2.2.2.2.1 d.2.1.2.2.2.2.2.2.2.2.2.2.1 d.2.1.2.2.2.2.2.2.2.2.2.2.2.1 d.2.1.2.2.2.2.2.2.2.2.2.2.2.2.1 d.2.1.2.2.2.2.2.2.2.2.2.2.2.2.2.1
abbrev incident_latest_p2_K1 (β : Type) := Int → Option β
abbrev incident_latest_p2_T := {β : Type} → incident_latest_p2_K1 β → Int → (List (Int × (Int × Int))) → Int → Int → Option β
def incident_latest_p2_v : View := ⟨0, [3, 23, 24, 25], [(false, [.data (.int .i64)]), (false, [.data (.slice (.prod (.int .i64) (.prod (.int .i64) (.int .i64))))]), (false, [.data (.int .i64)]), (false, [.data (.int .i64)])], []⟩
def incident_latest_p2_o : List (AExit × View) := [(.exit 2, ⟨0, [3], [(false, [.data (.int .i64)])], []⟩)]
@[reducible] def incident_latest_p2_G (p : incident_latest_p2_T) {β : Type} (d : incident_latest_p2_v.den) (ks : Outs.K β incident_latest_p2_o) : Option β :=
  p (fun a0 => ks.1 (((a0, ()), ()), ())) d.1.1.1 d.1.2.1.1 d.1.2.2.1.1 d.1.2.2.2.1.1
section
@[reducible] def incident_latest_X : Ctx := ⟨look tab, pick1 []⟩
def incident_latest_p1_s {β : Type} (rec : Int → (List api_Update) → Int → Int → Int → Int → Int → Int → (List UInt8) → Int → Int → Int → (List Int) → (List api_Task) → (List api_Update) → (List Int) → (List (Int × (Int × Int))) → Int → Option β) (k1 : incident_latest_p1_K1 β) (at_ : Int) (t11 : List api_Update) (t12 : Int) (t13 : Int) (x : Int) (x2 : Int) (x3 : Int) (x4 : Int) (x5 : List UInt8) (x6 : Int) (x7 : Int) (x8 : Int) (x9 : List Int) (x10 : List api_Task) (x11 : List api_Update) (x12 : List Int) (x13 : List (Int × (Int × Int))) (x14 : Int) : Option β :=
  cond (decide (t13 < t12))
  (cond (decide (0 ≤ t13) && decide (t13 < (List.length t11 : Int)))
  (let e : api_Update := List.getD t11 (Int.toNat t13) ((0 : Int), ((0 : Int), (([] : List UInt8), ([] : List Int))));
  let at_2 : Int := (if e.1 > at_ then e.1 else at_);
  rec at_2 t11 t12 (IntKind.i64.wrap (t13 + (1 : Int))) x x2 x3 x4 x5 x6 x7 x8 x9 x10 x11 x12 x13 x14)
  none)
  (k1 at_ x x2 x3 x4 x5 x6 x7 x8 x9 x10 x11 x12 x13 x14)
def incident_latest_p1_l {β : Type} : Nat → incident_latest_p1_K1 β → Int → (List api_Update) → Int → Int → Int → Int → Int → Int → (List UInt8) → Int → Int → Int → (List Int) → (List api_Task) → (List api_Update) → (List Int) → (List (Int × (Int × Int))) → Int → Option β
  | 0 => fun _ _ _ _ _ _ _ _ _ _ _ _ _ _ _ _ _ _ _ => none
  | i + 1 => fun k1 at_ t11 t12 t13 x x2 x3 x4 x5 x6 x7 x8 x9 x10 x11 x12 x13 x14 => incident_latest_p1_s (incident_latest_p1_l i k1) k1 at_ t11 t12 t13 x x2 x3 x4 x5 x6 x7 x8 x9 x10 x11 x12 x13 x14
theorem incident_latest_p1_ok' (hΓ : ΓOk Try.prog incident_latest_X.Γ) (i : Nat) : PieceOk Try.prog 35 0 incident_latest_p1_code incident_latest_p1_v incident_latest_p1_o (incident_latest_p1_G (incident_latest_p1_l i)) := by
  rw [show incident_latest_p1_code = .loop (loopBody incident_latest_p1_code) by kernel_rfl]
  exact piece_loop (X := incident_latest_X) (p := 1) (Λ := pick1 []) (G := fun i => @fun β d ks => incident_latest_p1_G (incident_latest_p1_l i) d ks) mixed tab_ok hΓ rfl (by kernel_rfl) CutsOk_nil (fun _ _ => rfl) (fun i => @fun β d ks r h => Eq.trans (b := incident_latest_p1_G (incident_latest_p1_l (i + 1)) d ks) (by kernel_rfl) h) i
def incident_latest_p2_s {β : Type} (rec : Int → (List (Int × (Int × Int))) → Int → Int → Option β) (k1 : incident_latest_p2_K1 β) (at_ : Int) (t23 : List (Int × (Int × Int))) (t24 : Int) (t25 : Int) : Option β :=
  cond (decide (t25 < t24))
  (cond (decide (0 ≤ t25) && decide (t25 < (List.length t23 : Int)))
  (let e : (Int × (Int × Int)) := List.getD t23 (Int.toNat t25) ((0 : Int), ((0 : Int), (0 : Int)));
  let at_2 : Int := (if e.1 > at_ then e.1 else at_);
  rec at_2 t23 t24 (IntKind.i64.wrap (t25 + (1 : Int))))
  none)
  (k1 at_)
def incident_latest_p2_l {β : Type} : Nat → incident_latest_p2_K1 β → Int → (List (Int × (Int × Int))) → Int → Int → Option β
  | 0 => fun _ _ _ _ _ => none
  | i + 1 => fun k1 at_ t23 t24 t25 => incident_latest_p2_s (incident_latest_p2_l i k1) k1 at_ t23 t24 t25
theorem incident_latest_p2_ok' (hΓ : ΓOk Try.prog incident_latest_X.Γ) (i : Nat) : PieceOk Try.prog 35 0 incident_latest_p2_code incident_latest_p2_v incident_latest_p2_o (incident_latest_p2_G (incident_latest_p2_l i)) := by
  rw [show incident_latest_p2_code = .loop (loopBody incident_latest_p2_code) by kernel_rfl]
  exact piece_loop (X := incident_latest_X) (p := 1) (Λ := pick1 []) (G := fun i => @fun β d ks => incident_latest_p2_G (incident_latest_p2_l i) d ks) mixed tab_ok hΓ rfl (by kernel_rfl) CutsOk_nil (fun _ _ => rfl) (fun i => @fun β d ks r h => Eq.trans (b := incident_latest_p2_G (incident_latest_p2_l (i + 1)) d ks) (by kernel_rfl) h) i
def incident_latest_s (p1 : incident_latest_p1_T) (p2 : incident_latest_p2_T) {β : Type} (x : api_Incident) (k : (Int → Option β)) : Option β :=
  p1 (fun (at_ : Int) (x2 : Int) (x3 : Int) (x4 : Int) (x5 : Int) (x6 : List UInt8) (x7 : Int) (x8 : Int) (x9 : Int) (x10 : List Int) (x11 : List api_Task) (x12 : List api_Update) (x13 : List Int) (x14 : List (Int × (Int × Int))) (x15 : Int) =>
  p2 (fun (at_2 : Int) =>
  k at_2) at_ x14 (List.length x14 : Int) (0 : Int)) x.2.2.2.1 x.2.2.2.2.2.2.2.2.1 (List.length x.2.2.2.2.2.2.2.2.1 : Int) (0 : Int) x.1 x.2.1 x.2.2.1 x.2.2.2.1 x.2.2.2.2.1 x.2.2.2.2.2.1.1 x.2.2.2.2.2.1.2.1 x.2.2.2.2.2.1.2.2 x.2.2.2.2.2.2.1 x.2.2.2.2.2.2.2.1 x.2.2.2.2.2.2.2.2.1 x.2.2.2.2.2.2.2.2.2.1 x.2.2.2.2.2.2.2.2.2.2.1 x.2.2.2.2.2.2.2.2.2.2.2
theorem incident_latest_ok' (hΓ : ΓOk Try.prog incident_latest_X.Γ) (p1 : incident_latest_p1_T) (p2 : incident_latest_p2_T) (hp1 : PieceOk Try.prog 35 0 incident_latest_p1_code incident_latest_p1_v incident_latest_p1_o (incident_latest_p1_G p1)) (hp2 : PieceOk Try.prog 35 0 incident_latest_p2_code incident_latest_p2_v incident_latest_p2_o (incident_latest_p2_G p2)) : SpecOk Try.prog 60 (incident_latest_S (incident_latest_s p1 p2)) :=
  spec_exec (X := incident_latest_X) (Λ := pick1 [(58, pieceCut incident_latest_p1_v incident_latest_p1_o (incident_latest_p1_G p1)), (122, pieceCut incident_latest_p2_v incident_latest_p2_o (incident_latest_p2_G p2))]) (rs := [.tmp 2]) (c := bodyOf Try.f60) mixed tab_ok hΓ Try.func60 (by kernel_rfl) (by kernel_rfl) (by kernel_rfl) (by kernel_rfl) (CutsOk_cons (q := 58) (c' := incident_latest_p1_code) (by kernel_rfl) rfl hp1 (CutsOk_cons (q := 122) (c' := incident_latest_p2_code) (by kernel_rfl) rfl hp2 CutsOk_nil)) (fun x k r h => Eq.trans (b := (incident_latest_S (incident_latest_s p1 p2)).run x k) (by kernel_rfl) h)
end
theorem incident_latest_Γ : ΓOk Try.prog (pick1 []) := ΓOk_nil
def incident_latest_p1_n (m : Nat) : incident_latest_p1_T := incident_latest_p1_l m
theorem incident_latest_p1_step {β : Type} (i : Nat) (k1 at_ t11 t12 t13 x x2 x3 x4 x5 x6 x7 x8 x9 x10 x11 x12 x13 x14) : (incident_latest_p1_n (i + 1) k1 at_ t11 t12 t13 x x2 x3 x4 x5 x6 x7 x8 x9 x10 x11 x12 x13 x14 : Option β) = incident_latest_p1_s (incident_latest_p1_n i k1) k1 at_ t11 t12 t13 x x2 x3 x4 x5 x6 x7 x8 x9 x10 x11 x12 x13 x14 := rfl
def incident_latest_p1 : incident_latest_p1_T := incident_latest_p1_n fuel
theorem incident_latest_p1_ok : PieceOk Try.prog 35 0 incident_latest_p1_code incident_latest_p1_v incident_latest_p1_o (incident_latest_p1_G incident_latest_p1) := incident_latest_p1_ok' incident_latest_Γ fuel
def incident_latest_p2_n (m : Nat) : incident_latest_p2_T := incident_latest_p2_l m
theorem incident_latest_p2_step {β : Type} (i : Nat) (k1 at_ t23 t24 t25) : (incident_latest_p2_n (i + 1) k1 at_ t23 t24 t25 : Option β) = incident_latest_p2_s (incident_latest_p2_n i k1) k1 at_ t23 t24 t25 := rfl
def incident_latest_p2 : incident_latest_p2_T := incident_latest_p2_n fuel
theorem incident_latest_p2_ok : PieceOk Try.prog 35 0 incident_latest_p2_code incident_latest_p2_v incident_latest_p2_o (incident_latest_p2_G incident_latest_p2) := incident_latest_p2_ok' incident_latest_Γ fuel
def incident_latest : T_incident_latest := incident_latest_s incident_latest_p1 incident_latest_p2
theorem incident_latest_ok : SpecOk Try.prog 60 (incident_latest_S incident_latest) := incident_latest_ok' incident_latest_Γ incident_latest_p1 incident_latest_p2 incident_latest_p1_ok incident_latest_p2_ok

/-- pagewatch/incident.person -/
abbrev T_incident_person := {β : Type} → Int → (Bool → Option β) → Option β
def incident_person_S (c : T_incident_person) : Spec :=
  ⟨[(false, [.data (.int .i64)])], [], [(false, [.data .bool])], [], fun x k => c x.1.1.1 (fun r0 => k (((r0, ()), ()), ()))⟩
section
variable (c_incident_in : T_incident_in)
@[reducible] def incident_person_X : Ctx := ⟨look tab, pick1 [(41, .spec (incident_in_S c_incident_in))]⟩
def incident_person_s {β : Type} (n : Int) (k : (Bool → Option β)) : Option β :=
  c_incident_in n (0 : Int) (31 : Int) (fun (rin : Bool) =>
  k rin)
theorem incident_person_ok' (hΓ : ΓOk Try.prog (incident_person_X c_incident_in).Γ) : SpecOk Try.prog 62 (incident_person_S (incident_person_s c_incident_in)) :=
  spec_exec (X := (incident_person_X c_incident_in)) (Λ := pick1 []) (rs := [.tmp 2]) (c := bodyOf Try.f62) mixed tab_ok hΓ Try.func62 (by kernel_rfl) (by kernel_rfl) (by kernel_rfl) (by kernel_rfl) CutsOk_nil (fun x k r h => Eq.trans (b := (incident_person_S (incident_person_s c_incident_in)).run x k) (by kernel_rfl) h)
end
theorem incident_person_Γ : ΓOk Try.prog (pick1 [(41, .spec (incident_in_S incident_in))]) := (ΓOk_cons incident_in_ok ΓOk_nil)
def incident_person : T_incident_person := incident_person_s incident_in
theorem incident_person_ok : SpecOk Try.prog 62 (incident_person_S incident_person) := incident_person_ok' incident_in incident_person_Γ

/-- (*pagewatch/pagewatchmade.Dice).One -/
abbrev T_made_Dice_One := {β : Type} → (List Int) → (List Int × Int) → (Int → (List Int × Int) → Option β) → Option β
def made_Dice_One_S (c : T_made_Dice_One) : Spec :=
  ⟨[(false, [.ptr 0 0]), (false, [.data (.slice (.int .i64))])], [.cells 86 [.data (.prod (.slice (.int .i64)) (.int .i64))]], [(false, [.data (.int .i64)])], [.cells 86 [.data (.prod (.slice (.int .i64)) (.int .i64))]], fun x k => c x.1.2.1.1 x.2.1.1 (fun r0 r1 => k (((r0, ()), ()), ((r1, ()), ())))⟩
section
variable (c_made_Dice_Next : T_made_Dice_Next)
@[reducible] def made_Dice_One_X : Ctx := ⟨look tab, pick1 [(14, .spec (made_Dice_Next_S c_made_Dice_Next))]⟩
def made_Dice_One_s {β : Type} (l : List Int) (d : (List Int × Int)) (k : (Int → (List Int × Int) → Option β)) : Option β :=
  c_made_Dice_Next (List.length l : Int) d (fun (rNext : Int) (mrNext : (List Int × Int)) =>
  cond (decide (0 ≤ rNext) && decide (rNext < (List.length l : Int)))
  (let e : Int := List.getD l (Int.toNat rNext) (0 : Int);
  k e mrNext)
  none)
theorem made_Dice_One_ok' (hΓ : ΓOk Try.prog (made_Dice_One_X c_made_Dice_Next).Γ) : SpecOk Try.prog 66 (made_Dice_One_S (made_Dice_One_s c_made_Dice_Next)) :=
  spec_exec (X := (made_Dice_One_X c_made_Dice_Next)) (Λ := pick1 []) (rs := [.tmp 4]) (c := bodyOf Try.f66) mixed tab_ok hΓ Try.func66 (by kernel_rfl) (by kernel_rfl) (by kernel_rfl) (by kernel_rfl) CutsOk_nil (fun x k r h => Eq.trans (b := (made_Dice_One_S (made_Dice_One_s c_made_Dice_Next)).run x k) (by kernel_rfl) h)
end
theorem made_Dice_One_Γ : ΓOk Try.prog (pick1 [(14, .spec (made_Dice_Next_S made_Dice_Next))]) := (ΓOk_cons made_Dice_Next_ok ΓOk_nil)
def made_Dice_One : T_made_Dice_One := made_Dice_One_s made_Dice_Next
theorem made_Dice_One_ok : SpecOk Try.prog 66 (made_Dice_One_S made_Dice_One) := made_Dice_One_ok' made_Dice_Next made_Dice_One_Γ

/-- slices.Clone[[]int,int] -/
abbrev T_slices_Clone_int_int := {β : Type} → (List Int) → ((List Int) → Option β) → Option β
def slices_Clone_int_int_S (c : T_slices_Clone_int_int) : Spec :=
  ⟨[(false, [.data (.slice (.int .i64))])], [], [(false, [.rowh 0])], [.row 3 (.int .i64)], fun x k => c x.1.1.1 (fun r0 => k (((), ()), (r0, ())))⟩
def slices_Clone_int_int : T_slices_Clone_int_int := fun l k => cloneF (.int .i64) 8 l k
theorem slices_Clone_int_int_ok : SpecOk Try.prog 80 (slices_Clone_int_int_S slices_Clone_int_int) :=
  clone_ok (et := 3) (e := (.int .i64)) (bytes := 8) (by kernel_rfl)
    (spec_exec (X := ⟨look tab, pick1 []⟩) (Λ := pick1 []) (rs := [.tmp 2]) (c := bodyOf Try.f80) mixed tab_ok ΓOk_nil Try.func80 (by kernel_rfl) (by kernel_rfl) (by kernel_rfl) (by kernel_rfl) CutsOk_nil (fun x k r h => Eq.trans (b := (clone1S 3 (.int .i64) 8).run x k) (by kernel_rfl) h))
    (spec_exec (X := ⟨look tab, pick1 []⟩) (Λ := pick1 []) (rs := [.tmp 2]) (c := bodyOf Try.f80) mixed tab_ok ΓOk_nil Try.func80 (by kernel_rfl) (by kernel_rfl) (by kernel_rfl) (by kernel_rfl) CutsOk_nil (fun x k r h => Eq.trans (b := (clone2S 3 (.int .i64)).run x k) (by kernel_rfl) h))

/-- pagewatch/incident.number -/
abbrev T_incident_number := {β : Type} → Int → (Bool → Option β) → Option β
def incident_number_S (c : T_incident_number) : Spec :=
  ⟨[(false, [.data (.int .i64)])], [], [(false, [.data .bool])], [], fun x k => c x.1.1.1 (fun r0 => k (((r0, ()), ()), ()))⟩
section
variable (c_incident_in : T_incident_in)
@[reducible] def incident_number_X : Ctx := ⟨look tab, pick1 [(41, .spec (incident_in_S c_incident_in))]⟩
def incident_number_s {β : Type} (n : Int) (k : (Bool → Option β)) : Option β :=
  c_incident_in n (1 : Int) (999999 : Int) (fun (rin : Bool) =>
  k rin)
theorem incident_number_ok' (hΓ : ΓOk Try.prog (incident_number_X c_incident_in).Γ) : SpecOk Try.prog 81 (incident_number_S (incident_number_s c_incident_in)) :=
  spec_exec (X := (incident_number_X c_incident_in)) (Λ := pick1 []) (rs := [.tmp 2]) (c := bodyOf Try.f81) mixed tab_ok hΓ Try.func81 (by kernel_rfl) (by kernel_rfl) (by kernel_rfl) (by kernel_rfl) CutsOk_nil (fun x k r h => Eq.trans (b := (incident_number_S (incident_number_s c_incident_in)).run x k) (by kernel_rfl) h)
end
theorem incident_number_Γ : ΓOk Try.prog (pick1 [(41, .spec (incident_in_S incident_in))]) := (ΓOk_cons incident_in_ok ΓOk_nil)
def incident_number : T_incident_number := incident_number_s incident_in
theorem incident_number_ok : SpecOk Try.prog 81 (incident_number_S incident_number) := incident_number_ok' incident_in incident_number_Γ

/-- pagewatch/incident.set -/
abbrev T_incident_set := {β : Type} → (List Int) → Int → Int → (Bool → Option β) → Option β
def incident_set_S (c : T_incident_set) : Spec :=
  ⟨[(false, [.data (.slice (.int .i64))]), (false, [.data (.int .i64)]), (false, [.data (.int .i64)])], [], [(false, [.data .bool])], [], fun x k => c x.1.1.1 x.1.2.1.1 x.1.2.2.1.1 (fun r0 => k (((r0, ()), ()), ()))⟩
noncomputable def incident_set_p1_code : Code := codeAt 26 (bodyOf Try.f82)
abbrev incident_set_p1_K1 (β : Type) := Bool → Option β
abbrev incident_set_p1_K2 (β : Type) := Unit → Option β
abbrev incident_set_p1_T := {β : Type} → incident_set_p1_K1 β → incident_set_p1_K2 β → (List Int) → Int → Int → (List Int) → Int → Int → Option β
def incident_set_p1_v : View := ⟨0, [0, 1, 2, 9, 10, 11], [(false, [.data (.slice (.int .i64))]), (false, [.data (.int .i64)]), (false, [.data (.int .i64)]), (false, [.data (.slice (.int .i64))]), (false, [.data (.int .i64)]), (false, [.data (.int .i64)])], []⟩
def incident_set_p1_o : List (AExit × View) := [(.ret, ⟨0, [6], [(false, [.data .bool])], []⟩), (.exit 0, ⟨0, [], [], []⟩)]
@[reducible] def incident_set_p1_G (p : incident_set_p1_T) {β : Type} (d : incident_set_p1_v.den) (ks : Outs.K β incident_set_p1_o) : Option β :=
  p (fun a0 => ks.1 (((a0, ()), ()), ())) (fun _ => ks.2.1 ((), ())) d.1.1.1 d.1.2.1.1 d.1.2.2.1.1 d.1.2.2.2.1.1 d.1.2.2.2.2.1.1 d.1.2.2.2.2.2.1.1
section
variable (c_incident_in : T_incident_in)
@[reducible] def incident_set_X : Ctx := ⟨look tab, pick1 [(41, .spec (incident_in_S c_incident_in))]⟩
def incident_set_p1_s {β : Type} (rec : (List Int) → Int → Int → (List Int) → Int → Int → Option β) (k1 : incident_set_p1_K1 β) (k2 : incident_set_p1_K2 β) (l : List Int) (low : Int) (high : Int) (t9 : List Int) (t10 : Int) (t11 : Int) : Option β :=
  cond (decide (t11 < t10))
  (cond (decide (0 ≤ t11) && decide (t11 < (List.length t9 : Int)))
  (let e : Int := List.getD t9 (Int.toNat t11) (0 : Int);
  c_incident_in e low high (fun (rin : Bool) =>
  cond (!rin)
  (k1 false)
  (cond (decide ((0 : Int) < t11))
  (cond (decide (0 ≤ (IntKind.i64.wrap (t11 - (1 : Int)))) && decide ((IntKind.i64.wrap (t11 - (1 : Int))) < (List.length l : Int)))
  (let e2 : Int := List.getD l (Int.toNat (IntKind.i64.wrap (t11 - (1 : Int)))) (0 : Int);
  cond (decide (e ≤ e2))
  (k1 false)
  (rec l low high t9 t10 (IntKind.i64.wrap (t11 + (1 : Int)))))
  none)
  (rec l low high t9 t10 (IntKind.i64.wrap (t11 + (1 : Int)))))))
  none)
  (k2 ())
def incident_set_p1_l {β : Type} : Nat → incident_set_p1_K1 β → incident_set_p1_K2 β → (List Int) → Int → Int → (List Int) → Int → Int → Option β
  | 0 => fun _ _ _ _ _ _ _ _ => none
  | i + 1 => fun k1 k2 l low high t9 t10 t11 => incident_set_p1_s c_incident_in (incident_set_p1_l i k1 k2) k1 k2 l low high t9 t10 t11
theorem incident_set_p1_ok' (hΓ : ΓOk Try.prog (incident_set_X c_incident_in).Γ) (i : Nat) : PieceOk Try.prog 35 0 incident_set_p1_code incident_set_p1_v incident_set_p1_o (incident_set_p1_G (incident_set_p1_l c_incident_in i)) := by
  rw [show incident_set_p1_code = .loop (loopBody incident_set_p1_code) by kernel_rfl]
  exact piece_loop (X := (incident_set_X c_incident_in)) (p := 1) (Λ := pick1 []) (G := fun i => @fun β d ks => incident_set_p1_G (incident_set_p1_l c_incident_in i) d ks) mixed tab_ok hΓ rfl (by kernel_rfl) CutsOk_nil (fun _ _ => rfl) (fun i => @fun β d ks r h => Eq.trans (b := incident_set_p1_G (incident_set_p1_l c_incident_in (i + 1)) d ks) (by kernel_rfl) h) i
def incident_set_s (p1 : incident_set_p1_T) {β : Type} (l : List Int) (low : Int) (high : Int) (k : (Bool → Option β)) : Option β :=
  p1 (fun (t6 : Bool) =>
  k t6) (fun (_ : Unit) =>
  k true) l low high l (List.length l : Int) (0 : Int)
theorem incident_set_ok' (hΓ : ΓOk Try.prog (incident_set_X c_incident_in).Γ) (p1 : incident_set_p1_T) (hp1 : PieceOk Try.prog 35 0 incident_set_p1_code incident_set_p1_v incident_set_p1_o (incident_set_p1_G p1)) : SpecOk Try.prog 82 (incident_set_S (incident_set_s p1)) :=
  spec_exec (X := (incident_set_X c_incident_in)) (Λ := pick1 [(26, pieceCut incident_set_p1_v incident_set_p1_o (incident_set_p1_G p1))]) (rs := [.tmp 6]) (c := bodyOf Try.f82) mixed tab_ok hΓ Try.func82 (by kernel_rfl) (by kernel_rfl) (by kernel_rfl) (by kernel_rfl) (CutsOk_cons (q := 26) (c' := incident_set_p1_code) (by kernel_rfl) rfl hp1 CutsOk_nil) (fun x k r h => Eq.trans (b := (incident_set_S (incident_set_s p1)).run x k) (by kernel_rfl) h)
end
theorem incident_set_Γ : ΓOk Try.prog (pick1 [(41, .spec (incident_in_S incident_in))]) := (ΓOk_cons incident_in_ok ΓOk_nil)
def incident_set_p1_n (m : Nat) : incident_set_p1_T := incident_set_p1_l incident_in m
theorem incident_set_p1_step {β : Type} (i : Nat) (k1 k2 l low high t9 t10 t11) : (incident_set_p1_n (i + 1) k1 k2 l low high t9 t10 t11 : Option β) = incident_set_p1_s incident_in (incident_set_p1_n i k1 k2) k1 k2 l low high t9 t10 t11 := rfl
def incident_set_p1 : incident_set_p1_T := incident_set_p1_n fuel
theorem incident_set_p1_ok : PieceOk Try.prog 35 0 incident_set_p1_code incident_set_p1_v incident_set_p1_o (incident_set_p1_G incident_set_p1) := incident_set_p1_ok' incident_in incident_set_Γ fuel
def incident_set : T_incident_set := incident_set_s incident_set_p1
theorem incident_set_ok : SpecOk Try.prog 82 (incident_set_S incident_set) := incident_set_ok' incident_in incident_set_Γ incident_set_p1 incident_set_p1_ok

/-- pagewatch/incident.persons -/
abbrev T_incident_persons := {β : Type} → (List Int) → (Bool → Option β) → Option β
def incident_persons_S (c : T_incident_persons) : Spec :=
  ⟨[(false, [.data (.slice (.int .i64))])], [], [(false, [.data .bool])], [], fun x k => c x.1.1.1 (fun r0 => k (((r0, ()), ()), ()))⟩
section
variable (c_incident_set : T_incident_set)
@[reducible] def incident_persons_X : Ctx := ⟨look tab, pick1 [(82, .spec (incident_set_S c_incident_set))]⟩
def incident_persons_s {β : Type} (l : List Int) (k : (Bool → Option β)) : Option β :=
  c_incident_set l (0 : Int) (31 : Int) (fun (rset : Bool) =>
  k rset)
theorem incident_persons_ok' (hΓ : ΓOk Try.prog (incident_persons_X c_incident_set).Γ) : SpecOk Try.prog 83 (incident_persons_S (incident_persons_s c_incident_set)) :=
  spec_exec (X := (incident_persons_X c_incident_set)) (Λ := pick1 []) (rs := [.tmp 2]) (c := bodyOf Try.f83) mixed tab_ok hΓ Try.func83 (by kernel_rfl) (by kernel_rfl) (by kernel_rfl) (by kernel_rfl) CutsOk_nil (fun x k r h => Eq.trans (b := (incident_persons_S (incident_persons_s c_incident_set)).run x k) (by kernel_rfl) h)
end
theorem incident_persons_Γ : ΓOk Try.prog (pick1 [(82, .spec (incident_set_S incident_set))]) := (ΓOk_cons incident_set_ok ΓOk_nil)
def incident_persons : T_incident_persons := incident_persons_s incident_set
theorem incident_persons_ok : SpecOk Try.prog 83 (incident_persons_S incident_persons) := incident_persons_ok' incident_set incident_persons_Γ

/-- pagewatch/incident.updates -/
abbrev T_incident_updates := {β : Type} → api_Incident → (Bool → Option β) → Option β
def incident_updates_S (c : T_incident_updates) : Spec :=
  ⟨[(true, [.data y_api_Incident])], [], [(false, [.data .bool])], [], fun x k => c x.1.1.1 (fun r0 => k (((r0, ()), ()), ()))⟩
noncomputable def incident_updates_p1_code : Code := codeAt 58 (bodyOf Try.f85)
abbrev incident_updates_p1_K1 (β : Type) := Bool → Option β
abbrev incident_updates_p1_K2 (β : Type) := Int → Int → Int → Int → (List UInt8) → Int → Int → Int → (List Int) → (List api_Task) → (List api_Update) → (List Int) → (List (Int × (Int × Int))) → Int → Option β
abbrev incident_updates_p1_T := {β : Type} → incident_updates_p1_K1 β → incident_updates_p1_K2 β → Int → (List api_Update) → Int → Int → Int → Int → Int → Int → (List UInt8) → Int → Int → Int → (List Int) → (List api_Task) → (List api_Update) → (List Int) → (List (Int × (Int × Int))) → Int → Option β
def incident_updates_p1_v : View := ⟨0, [1, 3, 9, 10, 11], [(false, [.ptr 0 0]), (false, [.data (.int .i64)]), (false, [.data (.slice y_api_Update)]), (false, [.data (.int .i64)]), (false, [.data (.int .i64)])], [.cells 32 [.data (.int .i64), .data (.int .i64), .data (.int .i64), .data (.int .i64), .data .str, .data (.int .i64), .data (.int .i64), .data (.int .i64), .data (.slice (.int .i64)), .data (.slice y_api_Task), .data (.slice y_api_Update), .data (.slice (.int .i64)), .data (.slice (.prod (.int .i64) (.prod (.int .i64) (.int .i64)))), .data (.int .i64)]]⟩
def incident_updates_p1_o : List (AExit × View) := [(.ret, ⟨0, [2], [(false, [.data .bool])], []⟩), (.exit 0, ⟨0, [1], [(false, [.ptr 0 0])], [.cells 32 [.data (.int .i64), .data (.int .i64), .data (.int .i64), .data (.int .i64), .data .str, .data (.int .i64), .data (.int .i64), .data (.int .i64), .data (.slice (.int .i64)), .data (.slice y_api_Task), .data (.slice y_api_Update), .data (.slice (.int .i64)), .data (.slice (.prod (.int .i64) (.prod (.int .i64) (.int .i64)))), .data (.int .i64)]]⟩)]
@[reducible] def incident_updates_p1_G (p : incident_updates_p1_T) {β : Type} (d : incident_updates_p1_v.den) (ks : Outs.K β incident_updates_p1_o) : Option β :=
  p (fun a0 => ks.1 (((a0, ()), ()), ())) (fun a0 a1 a2 a3 a4 a5 a6 a7 a8 a9 a10 a11 a12 a13 => ks.2.1 (((), ()), ((a0, a1, a2, a3, a4, a5, a6, a7, a8, a9, a10, a11, a12, a13, ()), ()))) d.1.2.1.1 d.1.2.2.1.1 d.1.2.2.2.1.1 d.1.2.2.2.2.1.1 d.2.1.1 d.2.1.2.1 d.2.1.2.2.1 d.2.1.2.2.2.1 d.2.1.2.2.2.2.1 d.2.1.2.2.2.2.2.1 d.2.1.2.2.2.2.2.2.1 d.2.1.2.2.2.2.2.2.2.1 d.2.1.2.2.2.2.2.2.2.2.1 d.2.1.2.2.2.2.2.2.2.2.2.1 d.2.1.2.2.2.2.2.2.2.2.2.2.1 d.2.1.2.2.2.2.2.2.2.2.2.2.2.1 d.2.1.2.2.2.2.2.2.2.2.2.2.2.2.1 d.2.1.2.2.2.2.2.2.2.2.2.2.2.2.2.1
section
variable (c_incident_Text : T_incident_Text) (c_incident_in : T_incident_in) (c_incident_persons : T_incident_persons)
@[reducible] def incident_updates_X : Ctx := ⟨look tab, pick1 [(43, .spec (incident_Text_S c_incident_Text)), (41, .spec (incident_in_S c_incident_in)), (83, .spec (incident_persons_S c_incident_persons))]⟩
def incident_updates_p1_s {β : Type} (rec : Int → (List api_Update) → Int → Int → Int → Int → Int → Int → (List UInt8) → Int → Int → Int → (List Int) → (List api_Task) → (List api_Update) → (List Int) → (List (Int × (Int × Int))) → Int → Option β) (k1 : incident_updates_p1_K1 β) (k2 : incident_updates_p1_K2 β) (at_ : Int) (t9 : List api_Update) (t10 : Int) (t11 : Int) (x : Int) (x2 : Int) (x3 : Int) (x4 : Int) (x5 : List UInt8) (x6 : Int) (x7 : Int) (x8 : Int) (x9 : List Int) (x10 : List api_Task) (x11 : List api_Update) (x12 : List Int) (x13 : List (Int × (Int × Int))) (x14 : Int) : Option β :=
  cond (decide (t11 < t10))
  (cond (decide (0 ≤ t11) && decide (t11 < (List.length t9 : Int)))
  (let e : api_Update := List.getD t9 (Int.toNat t11) ((0 : Int), ((0 : Int), (([] : List UInt8), ([] : List Int))));
  c_incident_in e.1 at_ (8589934592 : Int) (fun (rin : Bool) =>
  cond (!rin)
  (k1 false)
  (c_incident_in e.2.1 (0 : Int) (4 : Int) (fun (rin2 : Bool) =>
  cond (!rin2)
  (k1 false)
  (c_incident_Text e.2.2.1 (fun (rText : Bool) =>
  cond (!rText)
  (k1 false)
  (c_incident_persons e.2.2.2 (fun (rpersons : Bool) =>
  cond (!rpersons)
  (k1 false)
  (rec e.1 t9 t10 (IntKind.i64.wrap (t11 + (1 : Int))) x x2 x3 x4 x5 x6 x7 x8 x9 x10 x11 x12 x13 x14)))))))))
  none)
  (k2 x x2 x3 x4 x5 x6 x7 x8 x9 x10 x11 x12 x13 x14)
def incident_updates_p1_l {β : Type} : Nat → incident_updates_p1_K1 β → incident_updates_p1_K2 β → Int → (List api_Update) → Int → Int → Int → Int → Int → Int → (List UInt8) → Int → Int → Int → (List Int) → (List api_Task) → (List api_Update) → (List Int) → (List (Int × (Int × Int))) → Int → Option β
  | 0 => fun _ _ _ _ _ _ _ _ _ _ _ _ _ _ _ _ _ _ _ _ => none
  | i + 1 => fun k1 k2 at_ t9 t10 t11 x x2 x3 x4 x5 x6 x7 x8 x9 x10 x11 x12 x13 x14 => incident_updates_p1_s c_incident_Text c_incident_in c_incident_persons (incident_updates_p1_l i k1 k2) k1 k2 at_ t9 t10 t11 x x2 x3 x4 x5 x6 x7 x8 x9 x10 x11 x12 x13 x14
theorem incident_updates_p1_ok' (hΓ : ΓOk Try.prog (incident_updates_X c_incident_Text c_incident_in c_incident_persons).Γ) (i : Nat) : PieceOk Try.prog 45 0 incident_updates_p1_code incident_updates_p1_v incident_updates_p1_o (incident_updates_p1_G (incident_updates_p1_l c_incident_Text c_incident_in c_incident_persons i)) := by
  rw [show incident_updates_p1_code = .loop (loopBody incident_updates_p1_code) by kernel_rfl]
  exact piece_loop (X := (incident_updates_X c_incident_Text c_incident_in c_incident_persons)) (p := 1) (Λ := pick1 []) (G := fun i => @fun β d ks => incident_updates_p1_G (incident_updates_p1_l c_incident_Text c_incident_in c_incident_persons i) d ks) mixed tab_ok hΓ rfl (by kernel_rfl) CutsOk_nil (fun _ _ => rfl) (fun i => @fun β d ks r h => Eq.trans (b := incident_updates_p1_G (incident_updates_p1_l c_incident_Text c_incident_in c_incident_persons (i + 1)) d ks) (by kernel_rfl) h) i
def incident_updates_s (p1 : incident_updates_p1_T) {β : Type} (x : api_Incident) (k : (Bool → Option β)) : Option β :=
  p1 (fun (t2 : Bool) =>
  k t2) (fun (x2 : Int) (x3 : Int) (x4 : Int) (x5 : Int) (x6 : List UInt8) (x7 : Int) (x8 : Int) (x9 : Int) (x10 : List Int) (x11 : List api_Task) (x12 : List api_Update) (x13 : List Int) (x14 : List (Int × (Int × Int))) (x15 : Int) =>
  let t : Bool := (decide ((List.length x12 : Int) ≤ (32 : Int)));
  k t) x.2.2.2.1 x.2.2.2.2.2.2.2.2.1 (List.length x.2.2.2.2.2.2.2.2.1 : Int) (0 : Int) x.1 x.2.1 x.2.2.1 x.2.2.2.1 x.2.2.2.2.1 x.2.2.2.2.2.1.1 x.2.2.2.2.2.1.2.1 x.2.2.2.2.2.1.2.2 x.2.2.2.2.2.2.1 x.2.2.2.2.2.2.2.1 x.2.2.2.2.2.2.2.2.1 x.2.2.2.2.2.2.2.2.2.1 x.2.2.2.2.2.2.2.2.2.2.1 x.2.2.2.2.2.2.2.2.2.2.2
theorem incident_updates_ok' (hΓ : ΓOk Try.prog (incident_updates_X c_incident_Text c_incident_in c_incident_persons).Γ) (p1 : incident_updates_p1_T) (hp1 : PieceOk Try.prog 45 0 incident_updates_p1_code incident_updates_p1_v incident_updates_p1_o (incident_updates_p1_G p1)) : SpecOk Try.prog 85 (incident_updates_S (incident_updates_s p1)) :=
  spec_exec (X := (incident_updates_X c_incident_Text c_incident_in c_incident_persons)) (Λ := pick1 [(58, pieceCut incident_updates_p1_v incident_updates_p1_o (incident_updates_p1_G p1))]) (rs := [.tmp 2]) (c := bodyOf Try.f85) mixed tab_ok hΓ Try.func85 (by kernel_rfl) (by kernel_rfl) (by kernel_rfl) (by kernel_rfl) (CutsOk_cons (q := 58) (c' := incident_updates_p1_code) (by kernel_rfl) rfl hp1 CutsOk_nil) (fun x k r h => Eq.trans (b := (incident_updates_S (incident_updates_s p1)).run x k) (by kernel_rfl) h)
end
theorem incident_updates_Γ : ΓOk Try.prog (pick1 [(43, .spec (incident_Text_S incident_Text)), (41, .spec (incident_in_S incident_in)), (83, .spec (incident_persons_S incident_persons))]) := (ΓOk_cons incident_Text_ok (ΓOk_cons incident_in_ok (ΓOk_cons incident_persons_ok ΓOk_nil)))
def incident_updates_p1_n (m : Nat) : incident_updates_p1_T := incident_updates_p1_l incident_Text incident_in incident_persons m
theorem incident_updates_p1_step {β : Type} (i : Nat) (k1 k2 at_ t9 t10 t11 x x2 x3 x4 x5 x6 x7 x8 x9 x10 x11 x12 x13 x14) : (incident_updates_p1_n (i + 1) k1 k2 at_ t9 t10 t11 x x2 x3 x4 x5 x6 x7 x8 x9 x10 x11 x12 x13 x14 : Option β) = incident_updates_p1_s incident_Text incident_in incident_persons (incident_updates_p1_n i k1 k2) k1 k2 at_ t9 t10 t11 x x2 x3 x4 x5 x6 x7 x8 x9 x10 x11 x12 x13 x14 := rfl
def incident_updates_p1 : incident_updates_p1_T := incident_updates_p1_n fuel
theorem incident_updates_p1_ok : PieceOk Try.prog 45 0 incident_updates_p1_code incident_updates_p1_v incident_updates_p1_o (incident_updates_p1_G incident_updates_p1) := incident_updates_p1_ok' incident_Text incident_in incident_persons incident_updates_Γ fuel
def incident_updates : T_incident_updates := incident_updates_s incident_updates_p1
theorem incident_updates_ok : SpecOk Try.prog 85 (incident_updates_S incident_updates) := incident_updates_ok' incident_Text incident_in incident_persons incident_updates_Γ incident_updates_p1 incident_updates_p1_ok

/-- slices.Clone[[]pagewatch/api.Task,pagewatch/api.Task] -/
abbrev T_slices_Clone_api_Task_api_Task := {β : Type} → (List api_Task) → ((List api_Task) → Option β) → Option β
def slices_Clone_api_Task_api_Task_S (c : T_slices_Clone_api_Task_api_Task) : Spec :=
  ⟨[(false, [.data (.slice y_api_Task)])], [], [(false, [.rowh 0])], [.row 40 y_api_Task], fun x k => c x.1.1.1 (fun r0 => k (((), ()), (r0, ())))⟩
def slices_Clone_api_Task_api_Task : T_slices_Clone_api_Task_api_Task := fun l k => cloneF y_api_Task 40 l k
theorem slices_Clone_api_Task_api_Task_ok : SpecOk Try.prog 87 (slices_Clone_api_Task_api_Task_S slices_Clone_api_Task_api_Task) :=
  clone_ok (et := 40) (e := y_api_Task) (bytes := 40) (by kernel_rfl)
    (spec_exec (X := ⟨look tab, pick1 []⟩) (Λ := pick1 []) (rs := [.tmp 2]) (c := bodyOf Try.f87) mixed tab_ok ΓOk_nil Try.func87 (by kernel_rfl) (by kernel_rfl) (by kernel_rfl) (by kernel_rfl) CutsOk_nil (fun x k r h => Eq.trans (b := (clone1S 40 y_api_Task 40).run x k) (by kernel_rfl) h))
    (spec_exec (X := ⟨look tab, pick1 []⟩) (Λ := pick1 []) (rs := [.tmp 2]) (c := bodyOf Try.f87) mixed tab_ok ΓOk_nil Try.func87 (by kernel_rfl) (by kernel_rfl) (by kernel_rfl) (by kernel_rfl) CutsOk_nil (fun x k r h => Eq.trans (b := (clone2S 40 y_api_Task).run x k) (by kernel_rfl) h))

/-- slices.Clone[[]pagewatch/api.Update,pagewatch/api.Update] -/
abbrev T_slices_Clone_api_Update_api_Update := {β : Type} → (List api_Update) → ((List api_Update) → Option β) → Option β
def slices_Clone_api_Update_api_Update_S (c : T_slices_Clone_api_Update_api_Update) : Spec :=
  ⟨[(false, [.data (.slice y_api_Update)])], [], [(false, [.rowh 0])], [.row 84 y_api_Update], fun x k => c x.1.1.1 (fun r0 => k (((), ()), (r0, ())))⟩
def slices_Clone_api_Update_api_Update : T_slices_Clone_api_Update_api_Update := fun l k => cloneF y_api_Update 56 l k
theorem slices_Clone_api_Update_api_Update_ok : SpecOk Try.prog 88 (slices_Clone_api_Update_api_Update_S slices_Clone_api_Update_api_Update) :=
  clone_ok (et := 84) (e := y_api_Update) (bytes := 56) (by kernel_rfl)
    (spec_exec (X := ⟨look tab, pick1 []⟩) (Λ := pick1 []) (rs := [.tmp 2]) (c := bodyOf Try.f88) mixed tab_ok ΓOk_nil Try.func88 (by kernel_rfl) (by kernel_rfl) (by kernel_rfl) (by kernel_rfl) CutsOk_nil (fun x k r h => Eq.trans (b := (clone1S 84 y_api_Update 56).run x k) (by kernel_rfl) h))
    (spec_exec (X := ⟨look tab, pick1 []⟩) (Λ := pick1 []) (rs := [.tmp 2]) (c := bodyOf Try.f88) mixed tab_ok ΓOk_nil Try.func88 (by kernel_rfl) (by kernel_rfl) (by kernel_rfl) (by kernel_rfl) CutsOk_nil (fun x k r h => Eq.trans (b := (clone2S 84 y_api_Update).run x k) (by kernel_rfl) h))

/-- slices.Clone[[]pagewatch/api.StateChange,pagewatch/api.StateChange] -/
abbrev T_slices_Clone_api_StateChange_api_StateChange := {β : Type} → (List (Int × (Int × Int))) → ((List (Int × (Int × Int))) → Option β) → Option β
def slices_Clone_api_StateChange_api_StateChange_S (c : T_slices_Clone_api_StateChange_api_StateChange) : Spec :=
  ⟨[(false, [.data (.slice (.prod (.int .i64) (.prod (.int .i64) (.int .i64))))])], [], [(false, [.rowh 0])], [.row 106 (.prod (.int .i64) (.prod (.int .i64) (.int .i64)))], fun x k => c x.1.1.1 (fun r0 => k (((), ()), (r0, ())))⟩
def slices_Clone_api_StateChange_api_StateChange : T_slices_Clone_api_StateChange_api_StateChange := fun l k => cloneF (.prod (.int .i64) (.prod (.int .i64) (.int .i64))) 24 l k
theorem slices_Clone_api_StateChange_api_StateChange_ok : SpecOk Try.prog 89 (slices_Clone_api_StateChange_api_StateChange_S slices_Clone_api_StateChange_api_StateChange) :=
  clone_ok (et := 106) (e := (.prod (.int .i64) (.prod (.int .i64) (.int .i64)))) (bytes := 24) (by kernel_rfl)
    (spec_exec (X := ⟨look tab, pick1 []⟩) (Λ := pick1 []) (rs := [.tmp 2]) (c := bodyOf Try.f89) mixed tab_ok ΓOk_nil Try.func89 (by kernel_rfl) (by kernel_rfl) (by kernel_rfl) (by kernel_rfl) CutsOk_nil (fun x k r h => Eq.trans (b := (clone1S 106 (.prod (.int .i64) (.prod (.int .i64) (.int .i64))) 24).run x k) (by kernel_rfl) h))
    (spec_exec (X := ⟨look tab, pick1 []⟩) (Λ := pick1 []) (rs := [.tmp 2]) (c := bodyOf Try.f89) mixed tab_ok ΓOk_nil Try.func89 (by kernel_rfl) (by kernel_rfl) (by kernel_rfl) (by kernel_rfl) CutsOk_nil (fun x k r h => Eq.trans (b := (clone2S 106 (.prod (.int .i64) (.prod (.int .i64) (.int .i64)))).run x k) (by kernel_rfl) h))

/-- slices.Sort[[]int,int] -/
def lays_Sort_int_ren : Shelf.Ren :=
      { 
      f := fun x =>
        match x with
        | 189 => 93
        | 125 => 103
        | 257 => 102
        | 128 => 113
        | 129 => 114
        | 294 => 104
        | 295 => 105
        | 296 => 106
        | 297 => 107
        | 298 => 108
        | 299 => 109
        | 216 => 110
        | 300 => 111
        | 301 => 112
        | 328 => 115
        | 329 => 116
        | 330 => 117
        | 331 => 118
        | 332 => 119
        | 215 => 120
        | 343 => 121
        | n => n,
      t := fun x =>
        match x with
        | 28 => 22
        | 3 => 3
        | 46 => 129
        | 0 => 0
        | 51 => 137
        | 53 => 139
        | 4 => 4
        | 183 => 132
        | 182 => 131
        | 131 => 42
        | 5 => 5
        | 9 => 9
        | 218 => 140
        | 222 => 144
        | 228 => 146
        | 229 => 63
        | n => n,
      g := fun x => x }
theorem lays_Sort_int : Go.Proofs.Lays.n189 Try.prog lays_Sort_int_ren :=
  { mixed := by kernel_rfl,
    f125 := Eq.trans Try.func103 (congrArg some (by kernel_rfl)),
    f128 := Eq.trans Try.func113 (congrArg some (by kernel_rfl)),
    f129 := Eq.trans Try.func114 (congrArg some (by kernel_rfl)),
    f189 := Eq.trans Try.func93 (congrArg some (by kernel_rfl)),
    f215 := Eq.trans Try.func120 (congrArg some (by kernel_rfl)),
    f216 := Eq.trans Try.func110 (congrArg some (by kernel_rfl)),
    f257 := Eq.trans Try.func102 (congrArg some (by kernel_rfl)),
    f294 := Eq.trans Try.func104 (congrArg some (by kernel_rfl)),
    f295 := Eq.trans Try.func105 (congrArg some (by kernel_rfl)),
    f296 := Eq.trans Try.func106 (congrArg some (by kernel_rfl)),
    f297 := Eq.trans Try.func107 (congrArg some (by kernel_rfl)),
    f298 := Eq.trans Try.func108 (congrArg some (by kernel_rfl)),
    f299 := Eq.trans Try.func109 (congrArg some (by kernel_rfl)),
    f300 := Eq.trans Try.func111 (congrArg some (by kernel_rfl)),
    f301 := Eq.trans Try.func112 (congrArg some (by kernel_rfl)),
    f328 := Eq.trans Try.func115 (congrArg some (by kernel_rfl)),
    f329 := Eq.trans Try.func116 (congrArg some (by kernel_rfl)),
    f330 := Eq.trans Try.func117 (congrArg some (by kernel_rfl)),
    f331 := Eq.trans Try.func118 (congrArg some (by kernel_rfl)),
    f332 := Eq.trans Try.func119 (congrArg some (by kernel_rfl)),
    f343 := Eq.trans Try.func121 (congrArg some (by kernel_rfl)),
    t0 := Try.underlying0,
    a0 := Try.isAgg0,
    z0 := Try.sizeOf0,
    v0 := Try.zeroValue0,
    t3 := Try.underlying3,
    a3 := Try.isAgg3,
    z3 := Try.sizeOf3,
    v3 := Try.zeroValue3,
    t4 := Try.underlying4,
    a4 := Try.isAgg4,
    z4 := Try.sizeOf4,
    v4 := Try.zeroValue4,
    t5 := Try.underlying5,
    a5 := Try.isAgg5,
    z5 := Try.sizeOf5,
    v5 := Try.zeroValue5,
    t9 := Try.underlying9,
    a9 := Try.isAgg9,
    z9 := Try.sizeOf9,
    v9 := Try.zeroValue9,
    t28 := Try.underlying22,
    a28 := Try.isAgg22,
    z28 := Try.sizeOf22,
    v28 := Try.zeroValue22,
    t46 := Try.underlying129,
    a46 := Try.isAgg129,
    z46 := Try.sizeOf129,
    v46 := Try.zeroValue129,
    t51 := Try.underlying137,
    a51 := Try.isAgg137,
    z51 := Try.sizeOf137,
    v51 := Try.zeroValue137,
    t53 := Try.underlying139,
    a53 := Try.isAgg139,
    z53 := Try.sizeOf139,
    v53 := Try.zeroValue139,
    t131 := Try.underlying42,
    a131 := Try.isAgg42,
    z131 := Try.sizeOf42,
    v131 := Try.zeroValue42,
    t182 := Try.underlying131,
    a182 := Try.isAgg131,
    z182 := Try.sizeOf131,
    v182 := Try.zeroValue131,
    t183 := Try.underlying132,
    a183 := Try.isAgg132,
    z183 := Try.sizeOf132,
    v183 := Try.zeroValue132,
    t218 := Try.underlying140,
    a218 := Try.isAgg140,
    z218 := Try.sizeOf140,
    v218 := Try.zeroValue140,
    t222 := Try.underlying144,
    a222 := Try.isAgg144,
    z222 := Try.sizeOf144,
    v222 := Try.zeroValue144,
    t228 := Try.underlying146,
    a228 := Try.isAgg146,
    z228 := Try.sizeOf146,
    v228 := Try.zeroValue146,
    t229 := Try.underlying63,
    a229 := Try.isAgg63,
    z229 := Try.sizeOf63,
    v229 := Try.zeroValue63 }
def slices_Sort_int_int_F : RowF := sortF 3
theorem slices_Sort_int_int_rowok : RowOk Try.prog 93 slices_Sort_int_int_F :=
  sort_rowok lays_Sort_int rfl ⟨_, Try.func93, by kernel_rfl, by kernel_rfl⟩

/-- pagewatch/incident.possible -/
abbrev T_incident_possible := {β : Type} → ((List Int × (List Int × (List Int × (List Int × List Int)))) → Option β) → Option β
def incident_possible_S (c : T_incident_possible) : Spec :=
  ⟨[], [], [(true, [.data (.prod (.slice (.int .i64)) (.prod (.slice (.int .i64)) (.prod (.slice (.int .i64)) (.prod (.slice (.int .i64)) (.slice (.int .i64))))))])], [], fun x k => c  (fun r0 => k (((r0, ()), ()), ()))⟩
section
@[reducible] def incident_possible_X : Ctx := ⟨look tab, pick1 []⟩
def incident_possible_s {β : Type} (k : ((List Int × (List Int × (List Int × (List Int × List Int)))) → Option β)) : Option β :=
  let l : List Int := ([(1 : Int), (2 : Int), (4 : Int)] : List Int);
  let l2 : List Int := ([(0 : Int), (2 : Int), (4 : Int)] : List Int);
  let l3 : List Int := ([(0 : Int), (3 : Int)] : List Int);
  k (l, (l2, (l3, (([] : List Int), ([] : List Int)))))
theorem incident_possible_ok' (hΓ : ΓOk Try.prog incident_possible_X.Γ) : SpecOk Try.prog 97 (incident_possible_S (incident_possible_s)) :=
  spec_exec (X := incident_possible_X) (Λ := pick1 []) (rs := [.cell 0 121]) (c := bodyOf Try.f97) mixed tab_ok hΓ Try.func97 (by kernel_rfl) (by kernel_rfl) (by kernel_rfl) (by kernel_rfl) CutsOk_nil (fun x k r h => Eq.trans (b := (incident_possible_S (incident_possible_s)).run x k) (by kernel_rfl) h)
end
theorem incident_possible_Γ : ΓOk Try.prog (pick1 []) := ΓOk_nil
def incident_possible : T_incident_possible := incident_possible_s
theorem incident_possible_ok : SpecOk Try.prog 97 (incident_possible_S incident_possible) := incident_possible_ok' incident_possible_Γ

/-- slices.Index[[]int,int] -/
abbrev T_slices_Index_int_int := {β : Type} → (List Int) → Int → (Int → Option β) → Option β
def slices_Index_int_int_S (c : T_slices_Index_int_int) : Spec :=
  ⟨[(false, [.data (.slice (.int .i64))]), (false, [.data (.int .i64)])], [], [(false, [.data (.int .i64)])], [], fun x k => c x.1.1.1 x.1.2.1.1 (fun r0 => k (((r0, ()), ()), ()))⟩
noncomputable def slices_Index_int_int_p1_code : Code := codeAt 26 (bodyOf Try.f98)
abbrev slices_Index_int_int_p1_K1 (β : Type) := Int → Option β
abbrev slices_Index_int_int_p1_K2 (β : Type) := Unit → Option β
abbrev slices_Index_int_int_p1_T := {β : Type} → slices_Index_int_int_p1_K1 β → slices_Index_int_int_p1_K2 β → (List Int) → Int → Int → Int → Option β
def slices_Index_int_int_p1_v : View := ⟨0, [0, 1, 7, 8], [(false, [.data (.slice (.int .i64))]), (false, [.data (.int .i64)]), (false, [.data (.int .i64)]), (false, [.data (.int .i64)])], []⟩
def slices_Index_int_int_p1_o : List (AExit × View) := [(.ret, ⟨0, [4], [(false, [.data (.int .i64)])], []⟩), (.exit 0, ⟨0, [], [], []⟩)]
@[reducible] def slices_Index_int_int_p1_G (p : slices_Index_int_int_p1_T) {β : Type} (d : slices_Index_int_int_p1_v.den) (ks : Outs.K β slices_Index_int_int_p1_o) : Option β :=
  p (fun a0 => ks.1 (((a0, ()), ()), ())) (fun _ => ks.2.1 ((), ())) d.1.1.1 d.1.2.1.1 d.1.2.2.1.1 d.1.2.2.2.1.1
section
@[reducible] def slices_Index_int_int_X : Ctx := ⟨look tab, pick1 []⟩
def slices_Index_int_int_p1_s {β : Type} (rec : (List Int) → Int → Int → Int → Option β) (k1 : slices_Index_int_int_p1_K1 β) (k2 : slices_Index_int_int_p1_K2 β) (s : List Int) (v : Int) (t7 : Int) (t8 : Int) : Option β :=
  cond (decide (t8 < t7))
  (cond (decide (0 ≤ t8) && decide (t8 < (List.length s : Int)))
  (let e : Int := List.getD s (Int.toNat t8) (0 : Int);
  cond (decide (v = e))
  (k1 t8)
  (rec s v t7 (IntKind.i64.wrap (t8 + (1 : Int)))))
  none)
  (k2 ())
def slices_Index_int_int_p1_l {β : Type} : Nat → slices_Index_int_int_p1_K1 β → slices_Index_int_int_p1_K2 β → (List Int) → Int → Int → Int → Option β
  | 0 => fun _ _ _ _ _ _ => none
  | i + 1 => fun k1 k2 s v t7 t8 => slices_Index_int_int_p1_s (slices_Index_int_int_p1_l i k1 k2) k1 k2 s v t7 t8
theorem slices_Index_int_int_p1_ok' (hΓ : ΓOk Try.prog slices_Index_int_int_X.Γ) (i : Nat) : PieceOk Try.prog 19 0 slices_Index_int_int_p1_code slices_Index_int_int_p1_v slices_Index_int_int_p1_o (slices_Index_int_int_p1_G (slices_Index_int_int_p1_l i)) := by
  rw [show slices_Index_int_int_p1_code = .loop (loopBody slices_Index_int_int_p1_code) by kernel_rfl]
  exact piece_loop (X := slices_Index_int_int_X) (p := 1) (Λ := pick1 []) (G := fun i => @fun β d ks => slices_Index_int_int_p1_G (slices_Index_int_int_p1_l i) d ks) mixed tab_ok hΓ rfl (by kernel_rfl) CutsOk_nil (fun _ _ => rfl) (fun i => @fun β d ks r h => Eq.trans (b := slices_Index_int_int_p1_G (slices_Index_int_int_p1_l (i + 1)) d ks) (by kernel_rfl) h) i
def slices_Index_int_int_s (p1 : slices_Index_int_int_p1_T) {β : Type} (s : List Int) (v : Int) (k : (Int → Option β)) : Option β :=
  p1 (fun (t4 : Int) =>
  k t4) (fun (_ : Unit) =>
  k (-1 : Int)) s v (List.length s : Int) (0 : Int)
theorem slices_Index_int_int_ok' (hΓ : ΓOk Try.prog slices_Index_int_int_X.Γ) (p1 : slices_Index_int_int_p1_T) (hp1 : PieceOk Try.prog 19 0 slices_Index_int_int_p1_code slices_Index_int_int_p1_v slices_Index_int_int_p1_o (slices_Index_int_int_p1_G p1)) : SpecOk Try.prog 98 (slices_Index_int_int_S (slices_Index_int_int_s p1)) :=
  spec_exec (X := slices_Index_int_int_X) (Λ := pick1 [(26, pieceCut slices_Index_int_int_p1_v slices_Index_int_int_p1_o (slices_Index_int_int_p1_G p1))]) (rs := [.tmp 4]) (c := bodyOf Try.f98) mixed tab_ok hΓ Try.func98 (by kernel_rfl) (by kernel_rfl) (by kernel_rfl) (by kernel_rfl) (CutsOk_cons (q := 26) (c' := slices_Index_int_int_p1_code) (by kernel_rfl) rfl hp1 CutsOk_nil) (fun x k r h => Eq.trans (b := (slices_Index_int_int_S (slices_Index_int_int_s p1)).run x k) (by kernel_rfl) h)
end
theorem slices_Index_int_int_Γ : ΓOk Try.prog (pick1 []) := ΓOk_nil
def slices_Index_int_int_p1_n (m : Nat) : slices_Index_int_int_p1_T := slices_Index_int_int_p1_l m
theorem slices_Index_int_int_p1_step {β : Type} (i : Nat) (k1 k2 s v t7 t8) : (slices_Index_int_int_p1_n (i + 1) k1 k2 s v t7 t8 : Option β) = slices_Index_int_int_p1_s (slices_Index_int_int_p1_n i k1 k2) k1 k2 s v t7 t8 := rfl
def slices_Index_int_int_p1 : slices_Index_int_int_p1_T := slices_Index_int_int_p1_n fuel
theorem slices_Index_int_int_p1_ok : PieceOk Try.prog 19 0 slices_Index_int_int_p1_code slices_Index_int_int_p1_v slices_Index_int_int_p1_o (slices_Index_int_int_p1_G slices_Index_int_int_p1) := slices_Index_int_int_p1_ok' slices_Index_int_int_Γ fuel
def slices_Index_int_int : T_slices_Index_int_int := slices_Index_int_int_s slices_Index_int_int_p1
theorem slices_Index_int_int_ok : SpecOk Try.prog 98 (slices_Index_int_int_S slices_Index_int_int) := slices_Index_int_int_ok' slices_Index_int_int_Γ slices_Index_int_int_p1 slices_Index_int_int_p1_ok

/-- slices.Compact[[]int,int] -/
def lays_Compact_int_ren : Shelf.Ren :=
      { 
      f := fun x =>
        match x with
        | 20 => 99
        | n => n,
      t := fun x =>
        match x with
        | 22 => 22
        | 3 => 3
        | 4 => 4
        | 0 => 0
        | n => n,
      g := fun x => x }
theorem lays_Compact_int : Go.Proofs.Lays2.n20 Try.prog lays_Compact_int_ren :=
  { mixed := by kernel_rfl,
    f20 := Eq.trans Try.func99 (congrArg some (by kernel_rfl)),
    t0 := Try.underlying0,
    a0 := Try.isAgg0,
    z0 := Try.sizeOf0,
    v0 := Try.zeroValue0,
    t3 := Try.underlying3,
    a3 := Try.isAgg3,
    z3 := Try.sizeOf3,
    v3 := Try.zeroValue3,
    t4 := Try.underlying4,
    a4 := Try.isAgg4,
    z4 := Try.sizeOf4,
    v4 := Try.zeroValue4,
    t22 := Try.underlying22,
    a22 := Try.isAgg22,
    z22 := Try.sizeOf22,
    v22 := Try.zeroValue22,
    i3 := by kernel_rfl }
def slices_Compact_int_int_F : RowF := compactF 3
theorem slices_Compact_int_int_rowok : RowOk Try.prog 99 slices_Compact_int_int_F :=
  compact_rowok lays_Compact_int rfl ⟨_, Try.func99, by kernel_rfl, by kernel_rfl⟩

/-- pagewatch/pagewatchref37.Check -/
abbrev T_ref37_Check := {β : Type} → api_Incident → (Bool → Option β) → Option β
def ref37_Check_S (c : T_ref37_Check) : Spec :=
  ⟨[(true, [.data y_api_Incident])], [], [(false, [.data .bool])], [], fun x k => c x.1.1.1 (fun r0 => k (((r0, ()), ()), ()))⟩
noncomputable def ref37_Check_p1_code : Code := codeAt 58 (bodyOf Try.f17)
noncomputable def ref37_Check_p2_code : Code := codeAt 122 (bodyOf Try.f17)
abbrev ref37_Check_p1_K1 (β : Type) := Bool → Option β
abbrev ref37_Check_p1_K2 (β : Type) := Int → Int → Int → Int → (List UInt8) → Int → Int → Int → (List Int) → (List api_Task) → (List api_Update) → (List Int) → (List (Int × (Int × Int))) → Int → Option β
abbrev ref37_Check_p1_T := {β : Type} → ref37_Check_p1_K1 β → ref37_Check_p1_K2 β → Int → Int → Int → Int → Int → (List UInt8) → Int → Int → Int → (List Int) → (List api_Task) → (List api_Update) → (List Int) → (List (Int × (Int × Int))) → Int → Option β
def ref37_Check_p1_v : View := ⟨0, [1, 3], [(false, [.ptr 0 0]), (false, [.data (.int .i64)])], [.cells 32 [.data (.int .i64), .data (.int .i64), .data (.int .i64), .data (.int .i64), .data .str, .data (.int .i64), .data (.int .i64), .data (.int .i64), .data (.slice (.int .i64)), .data (.slice y_api_Task), .data (.slice y_api_Update), .data (.slice (.int .i64)), .data (.slice (.prod (.int .i64) (.prod (.int .i64) (.int .i64)))), .data (.int .i64)]]⟩
def ref37_Check_p1_o : List (AExit × View) := [(.ret, ⟨0, [2], [(false, [.data .bool])], []⟩), (.exit 0, ⟨0, [1], [(false, [.ptr 0 0])], [.cells 32 [.data (.int .i64), .data (.int .i64), .data (.int .i64), .data (.int .i64), .data .str, .data (.int .i64), .data (.int .i64), .data (.int .i64), .data (.slice (.int .i64)), .data (.slice y_api_Task), .data (.slice y_api_Update), .data (.slice (.int .i64)), .data (.slice (.prod (.int .i64) (.prod (.int .i64) (.int .i64)))), .data (.int .i64)]]⟩)]
@[reducible] def ref37_Check_p1_G (p : ref37_Check_p1_T) {β : Type} (d : ref37_Check_p1_v.den) (ks : Outs.K β ref37_Check_p1_o) : Option β :=
  p (fun a0 => ks.1 (((a0, ()), ()), ())) (fun a0 a1 a2 a3 a4 a5 a6 a7 a8 a9 a10 a11 a12 a13 => ks.2.1 (((), ()), ((a0, a1, a2, a3, a4, a5, a6, a7, a8, a9, a10, a11, a12, a13, ()), ()))) d.1.2.1.1 d.2.1.1 d.2.1.2.1 d.2.1.2.2.1 d.2.1.2.2.2.1 d.2.1.2.2.2.2.1 d.2.1.2.2.2.2.2.1 d.2.1.2.2.2.2.2.2.1 d.2.1.2.2.2.2.2.2.2.1 d.2.1.2.2.2.2.2.2.2.2.1 d.2.1.2.2.2.2.2.2.2.2.2.1 d.2.1.2.2.2.2.2.2.2.2.2.2.1 d.2.1.2.2.2.2.2.2.2.2.2.2.2.1 d.2.1.2.2.2.2.2.2.2.2.2.2.2.2.1 d.2.1.2.2.2.2.2.2.2.2.2.2.2.2.2.1
abbrev ref37_Check_p2_K1 (β : Type) := Bool → Option β
abbrev ref37_Check_p2_K2 (β : Type) := Int → Int → Int → Int → (List UInt8) → Int → Int → Int → (List Int) → (List api_Task) → (List api_Update) → (List Int) → (List (Int × (Int × Int))) → Int → Option β
abbrev ref37_Check_p2_T := {β : Type} → ref37_Check_p2_K1 β → ref37_Check_p2_K2 β → Int → Int → Int → Int → Int → (List UInt8) → Int → Int → Int → (List Int) → (List api_Task) → (List api_Update) → (List Int) → (List (Int × (Int × Int))) → Int → Option β
def ref37_Check_p2_v : View := ⟨0, [1, 4], [(false, [.ptr 0 0]), (false, [.data (.int .i64)])], [.cells 32 [.data (.int .i64), .data (.int .i64), .data (.int .i64), .data (.int .i64), .data .str, .data (.int .i64), .data (.int .i64), .data (.int .i64), .data (.slice (.int .i64)), .data (.slice y_api_Task), .data (.slice y_api_Update), .data (.slice (.int .i64)), .data (.slice (.prod (.int .i64) (.prod (.int .i64) (.int .i64)))), .data (.int .i64)]]⟩
def ref37_Check_p2_o : List (AExit × View) := [(.ret, ⟨0, [2], [(false, [.data .bool])], []⟩), (.exit 2, ⟨0, [1], [(false, [.ptr 0 0])], [.cells 32 [.data (.int .i64), .data (.int .i64), .data (.int .i64), .data (.int .i64), .data .str, .data (.int .i64), .data (.int .i64), .data (.int .i64), .data (.slice (.int .i64)), .data (.slice y_api_Task), .data (.slice y_api_Update), .data (.slice (.int .i64)), .data (.slice (.prod (.int .i64) (.prod (.int .i64) (.int .i64)))), .data (.int .i64)]]⟩)]
@[reducible] def ref37_Check_p2_G (p : ref37_Check_p2_T) {β : Type} (d : ref37_Check_p2_v.den) (ks : Outs.K β ref37_Check_p2_o) : Option β :=
  p (fun a0 => ks.1 (((a0, ()), ()), ())) (fun a0 a1 a2 a3 a4 a5 a6 a7 a8 a9 a10 a11 a12 a13 => ks.2.1 (((), ()), ((a0, a1, a2, a3, a4, a5, a6, a7, a8, a9, a10, a11, a12, a13, ()), ()))) d.1.2.1.1 d.2.1.1 d.2.1.2.1 d.2.1.2.2.1 d.2.1.2.2.2.1 d.2.1.2.2.2.2.1 d.2.1.2.2.2.2.2.1 d.2.1.2.2.2.2.2.2.1 d.2.1.2.2.2.2.2.2.2.1 d.2.1.2.2.2.2.2.2.2.2.1 d.2.1.2.2.2.2.2.2.2.2.2.1 d.2.1.2.2.2.2.2.2.2.2.2.2.1 d.2.1.2.2.2.2.2.2.2.2.2.2.2.1 d.2.1.2.2.2.2.2.2.2.2.2.2.2.2.1 d.2.1.2.2.2.2.2.2.2.2.2.2.2.2.2.1
section
variable (c_ref25_In : T_ref25_In) (c_ref25_Set : T_ref25_Set) (c_ref37_Text : T_ref37_Text) (c_ref37_lists : T_ref37_lists) (c_ref37_person : T_ref37_person) (c_ref37_state : T_ref37_state)
@[reducible] def ref37_Check_X : Ctx := ⟨look tab, pick1 [(45, .spec (ref25_In_S c_ref25_In)), (37, .spec (ref25_Set_S c_ref25_Set)), (47, .spec (ref37_Text_S c_ref37_Text)), (49, .spec (ref37_lists_S c_ref37_lists)), (48, .spec (ref37_person_S c_ref37_person)), (46, .spec (ref37_state_S c_ref37_state))]⟩
def ref37_Check_p1_s {β : Type} (rec : Int → Int → Int → Int → Int → (List UInt8) → Int → Int → Int → (List Int) → (List api_Task) → (List api_Update) → (List Int) → (List (Int × (Int × Int))) → Int → Option β) (k1 : ref37_Check_p1_K1 β) (k2 : ref37_Check_p1_K2 β) (i_ : Int) (x : Int) (x2 : Int) (x3 : Int) (x4 : Int) (x5 : List UInt8) (x6 : Int) (x7 : Int) (x8 : Int) (x9 : List Int) (x10 : List api_Task) (x11 : List api_Update) (x12 : List Int) (x13 : List (Int × (Int × Int))) (x14 : Int) : Option β :=
  cond (decide (i_ < (3 : Int)))
  (cond (decide (i_ = (0 : Int)))
  (c_ref37_person x6 true (fun (rperson : Bool) =>
  cond (!rperson)
  (k1 false)
  (let i_2 : Int := (IntKind.i64.wrap (i_ + (1 : Int)));
  rec i_2 x x2 x3 x4 x5 x6 x7 x8 x9 x10 x11 x12 x13 x14)))
  (cond (decide (i_ = (1 : Int)))
  (c_ref37_person x7 true (fun (rperson : Bool) =>
  cond (!rperson)
  (k1 false)
  (let i_2 : Int := (IntKind.i64.wrap (i_ + (1 : Int)));
  rec i_2 x x2 x3 x4 x5 x6 x7 x8 x9 x10 x11 x12 x13 x14)))
  (cond (decide (i_ = (2 : Int)))
  (c_ref37_person x8 true (fun (rperson : Bool) =>
  cond (!rperson)
  (k1 false)
  (let i_2 : Int := (IntKind.i64.wrap (i_ + (1 : Int)));
  rec i_2 x x2 x3 x4 x5 x6 x7 x8 x9 x10 x11 x12 x13 x14)))
  (none))))
  (k2 x x2 x3 x4 x5 x6 x7 x8 x9 x10 x11 x12 x13 x14)
def ref37_Check_p1_l {β : Type} : Nat → ref37_Check_p1_K1 β → ref37_Check_p1_K2 β → Int → Int → Int → Int → Int → (List UInt8) → Int → Int → Int → (List Int) → (List api_Task) → (List api_Update) → (List Int) → (List (Int × (Int × Int))) → Int → Option β
  | 0 => fun _ _ _ _ _ _ _ _ _ _ _ _ _ _ _ _ _ => none
  | i + 1 => fun k1 k2 i_ x x2 x3 x4 x5 x6 x7 x8 x9 x10 x11 x12 x13 x14 => ref37_Check_p1_s c_ref37_person (ref37_Check_p1_l i k1 k2) k1 k2 i_ x x2 x3 x4 x5 x6 x7 x8 x9 x10 x11 x12 x13 x14
theorem ref37_Check_p1_ok' (hΓ : ΓOk Try.prog (ref37_Check_X c_ref25_In c_ref25_Set c_ref37_Text c_ref37_lists c_ref37_person c_ref37_state).Γ) (i : Nat) : PieceOk Try.prog 124 0 ref37_Check_p1_code ref37_Check_p1_v ref37_Check_p1_o (ref37_Check_p1_G (ref37_Check_p1_l c_ref37_person i)) := by
  rw [show ref37_Check_p1_code = .loop (loopBody ref37_Check_p1_code) by kernel_rfl]
  exact piece_loop (X := (ref37_Check_X c_ref25_In c_ref25_Set c_ref37_Text c_ref37_lists c_ref37_person c_ref37_state)) (p := 1) (Λ := pick1 []) (G := fun i => @fun β d ks => ref37_Check_p1_G (ref37_Check_p1_l c_ref37_person i) d ks) mixed tab_ok hΓ rfl (by kernel_rfl) CutsOk_nil (fun _ _ => rfl) (fun i => @fun β d ks r h => Eq.trans (b := ref37_Check_p1_G (ref37_Check_p1_l c_ref37_person (i + 1)) d ks) (by kernel_rfl) h) i
def ref37_Check_p2_s {β : Type} (rec : Int → Int → Int → Int → Int → (List UInt8) → Int → Int → Int → (List Int) → (List api_Task) → (List api_Update) → (List Int) → (List (Int × (Int × Int))) → Int → Option β) (k1 : ref37_Check_p2_K1 β) (k2 : ref37_Check_p2_K2 β) (i_ : Int) (x : Int) (x2 : Int) (x3 : Int) (x4 : Int) (x5 : List UInt8) (x6 : Int) (x7 : Int) (x8 : Int) (x9 : List Int) (x10 : List api_Task) (x11 : List api_Update) (x12 : List Int) (x13 : List (Int × (Int × Int))) (x14 : Int) : Option β :=
  cond (decide (i_ < (List.length x9 : Int)))
  (cond (decide (0 ≤ i_) && decide (i_ < (List.length x9 : Int)))
  (let e : Int := List.getD x9 (Int.toNat i_) (0 : Int);
  c_ref25_In e (1 : Int) (999999 : Int) (fun (rIn : Bool) =>
  cond (!rIn)
  (k1 false)
  (cond (decide ((0 : Int) < i_))
  (cond (decide (0 ≤ (IntKind.i64.wrap (i_ - (1 : Int)))) && decide ((IntKind.i64.wrap (i_ - (1 : Int))) < (List.length x9 : Int)))
  (let e2 : Int := List.getD x9 (Int.toNat (IntKind.i64.wrap (i_ - (1 : Int)))) (0 : Int);
  cond (decide (0 ≤ i_) && decide (i_ < (List.length x9 : Int)))
  (let e3 : Int := List.getD x9 (Int.toNat i_) (0 : Int);
  cond (decide (e3 ≤ e2))
  (k1 false)
  (let i_2 : Int := (IntKind.i64.wrap (i_ + (1 : Int)));
  rec i_2 x x2 x3 x4 x5 x6 x7 x8 x9 x10 x11 x12 x13 x14))
  none)
  none)
  (let i_2 : Int := (IntKind.i64.wrap (i_ + (1 : Int)));
  rec i_2 x x2 x3 x4 x5 x6 x7 x8 x9 x10 x11 x12 x13 x14))))
  none)
  (k2 x x2 x3 x4 x5 x6 x7 x8 x9 x10 x11 x12 x13 x14)
def ref37_Check_p2_l {β : Type} : Nat → ref37_Check_p2_K1 β → ref37_Check_p2_K2 β → Int → Int → Int → Int → Int → (List UInt8) → Int → Int → Int → (List Int) → (List api_Task) → (List api_Update) → (List Int) → (List (Int × (Int × Int))) → Int → Option β
  | 0 => fun _ _ _ _ _ _ _ _ _ _ _ _ _ _ _ _ _ => none
  | i + 1 => fun k1 k2 i_ x x2 x3 x4 x5 x6 x7 x8 x9 x10 x11 x12 x13 x14 => ref37_Check_p2_s c_ref25_In (ref37_Check_p2_l i k1 k2) k1 k2 i_ x x2 x3 x4 x5 x6 x7 x8 x9 x10 x11 x12 x13 x14
theorem ref37_Check_p2_ok' (hΓ : ΓOk Try.prog (ref37_Check_X c_ref25_In c_ref25_Set c_ref37_Text c_ref37_lists c_ref37_person c_ref37_state).Γ) (i : Nat) : PieceOk Try.prog 124 0 ref37_Check_p2_code ref37_Check_p2_v ref37_Check_p2_o (ref37_Check_p2_G (ref37_Check_p2_l c_ref25_In i)) := by
  rw [show ref37_Check_p2_code = .loop (loopBody ref37_Check_p2_code) by kernel_rfl]
  exact piece_loop (X := (ref37_Check_X c_ref25_In c_ref25_Set c_ref37_Text c_ref37_lists c_ref37_person c_ref37_state)) (p := 1) (Λ := pick1 []) (G := fun i => @fun β d ks => ref37_Check_p2_G (ref37_Check_p2_l c_ref25_In i) d ks) mixed tab_ok hΓ rfl (by kernel_rfl) CutsOk_nil (fun _ _ => rfl) (fun i => @fun β d ks r h => Eq.trans (b := ref37_Check_p2_G (ref37_Check_p2_l c_ref25_In (i + 1)) d ks) (by kernel_rfl) h) i
def ref37_Check_s (p1 : ref37_Check_p1_T) (p2 : ref37_Check_p2_T) {β : Type} (x : api_Incident) (k : (Bool → Option β)) : Option β :=
  c_ref25_In x.1 (1 : Int) (999999 : Int) (fun (rIn : Bool) =>
  cond (!rIn)
  (k false)
  (c_ref37_state x.2.1 (fun (rstate : Bool) =>
  cond (!rstate)
  (k false)
  (c_ref25_In x.2.2.1 (1 : Int) (5 : Int) (fun (rIn2 : Bool) =>
  cond (!rIn2)
  (k false)
  (c_ref25_In x.2.2.2.1 (0 : Int) (8589934592 : Int) (fun (rIn3 : Bool) =>
  cond (!rIn3)
  (k false)
  (c_ref37_Text x.2.2.2.2.1 (fun (rText : Bool) =>
  cond (!rText)
  (k false)
  (p1 (fun (t2 : Bool) =>
  k t2) (fun (x2 : Int) (x3 : Int) (x4 : Int) (x5 : Int) (x6 : List UInt8) (x7 : Int) (x8 : Int) (x9 : Int) (x10 : List Int) (x11 : List api_Task) (x12 : List api_Update) (x13 : List Int) (x14 : List (Int × (Int × Int))) (x15 : Int) =>
  p2 (fun (t2 : Bool) =>
  k t2) (fun (x16 : Int) (x17 : Int) (x18 : Int) (x19 : Int) (x20 : List UInt8) (x21 : Int) (x22 : Int) (x23 : Int) (x24 : List Int) (x25 : List api_Task) (x26 : List api_Update) (x27 : List Int) (x28 : List (Int × (Int × Int))) (x29 : Int) =>
  cond (decide ((64 : Int) < (List.length x24 : Int)))
  (k false)
  (cond (decide ((16 : Int) < (List.length x25 : Int)))
  (k false)
  (cond (decide ((32 : Int) < (List.length x26 : Int)))
  (k false)
  (cond (decide ((32 : Int) < (List.length x28 : Int)))
  (k false)
  (c_ref25_Set x27 (32 : Int) (fun (rSet : Bool) =>
  cond (!rSet)
  (k false)
  (c_ref37_lists (x16, (x17, (x18, (x19, (x20, ((x21, (x22, x23)), (x24, (x25, (x26, (x27, (x28, x29))))))))))) (fun (rlists : Bool) =>
  cond (!rlists)
  (k false)
  (cond (decide (x17 = (4 : Int)))
  (c_ref25_In x29 (1 : Int) (999999 : Int) (fun (rIn4 : Bool) =>
  cond rIn4
  (k (!decide (x29 = x16)))
  (k false)))
  (let t : Bool := (decide (x29 = (0 : Int)));
  k t)))))))))) (0 : Int) x2 x3 x4 x5 x6 x7 x8 x9 x10 x11 x12 x13 x14 x15) (0 : Int) x.1 x.2.1 x.2.2.1 x.2.2.2.1 x.2.2.2.2.1 x.2.2.2.2.2.1.1 x.2.2.2.2.2.1.2.1 x.2.2.2.2.2.1.2.2 x.2.2.2.2.2.2.1 x.2.2.2.2.2.2.2.1 x.2.2.2.2.2.2.2.2.1 x.2.2.2.2.2.2.2.2.2.1 x.2.2.2.2.2.2.2.2.2.2.1 x.2.2.2.2.2.2.2.2.2.2.2))))))))))
theorem ref37_Check_ok' (hΓ : ΓOk Try.prog (ref37_Check_X c_ref25_In c_ref25_Set c_ref37_Text c_ref37_lists c_ref37_person c_ref37_state).Γ) (p1 : ref37_Check_p1_T) (p2 : ref37_Check_p2_T) (hp1 : PieceOk Try.prog 124 0 ref37_Check_p1_code ref37_Check_p1_v ref37_Check_p1_o (ref37_Check_p1_G p1)) (hp2 : PieceOk Try.prog 124 0 ref37_Check_p2_code ref37_Check_p2_v ref37_Check_p2_o (ref37_Check_p2_G p2)) : SpecOk Try.prog 17 (ref37_Check_S (ref37_Check_s c_ref25_In c_ref25_Set c_ref37_Text c_ref37_lists c_ref37_state p1 p2)) :=
  spec_exec (X := (ref37_Check_X c_ref25_In c_ref25_Set c_ref37_Text c_ref37_lists c_ref37_person c_ref37_state)) (Λ := pick1 [(58, pieceCut ref37_Check_p1_v ref37_Check_p1_o (ref37_Check_p1_G p1)), (122, pieceCut ref37_Check_p2_v ref37_Check_p2_o (ref37_Check_p2_G p2))]) (rs := [.tmp 2]) (c := bodyOf Try.f17) mixed tab_ok hΓ Try.func17 (by kernel_rfl) (by kernel_rfl) (by kernel_rfl) (by kernel_rfl) (CutsOk_cons (q := 58) (c' := ref37_Check_p1_code) (by kernel_rfl) rfl hp1 (CutsOk_cons (q := 122) (c' := ref37_Check_p2_code) (by kernel_rfl) rfl hp2 CutsOk_nil)) (fun x k r h => Eq.trans (b := (ref37_Check_S (ref37_Check_s c_ref25_In c_ref25_Set c_ref37_Text c_ref37_lists c_ref37_state p1 p2)).run x k) (by kernel_rfl) h)
end
theorem ref37_Check_Γ : ΓOk Try.prog (pick1 [(45, .spec (ref25_In_S ref25_In)), (37, .spec (ref25_Set_S ref25_Set)), (47, .spec (ref37_Text_S ref37_Text)), (49, .spec (ref37_lists_S ref37_lists)), (48, .spec (ref37_person_S ref37_person)), (46, .spec (ref37_state_S ref37_state))]) := (ΓOk_cons ref25_In_ok (ΓOk_cons ref25_Set_ok (ΓOk_cons ref37_Text_ok (ΓOk_cons ref37_lists_ok (ΓOk_cons ref37_person_ok (ΓOk_cons ref37_state_ok ΓOk_nil))))))
def ref37_Check_p1_n (m : Nat) : ref37_Check_p1_T := ref37_Check_p1_l ref37_person m
theorem ref37_Check_p1_step {β : Type} (i : Nat) (k1 k2 i_ x x2 x3 x4 x5 x6 x7 x8 x9 x10 x11 x12 x13 x14) : (ref37_Check_p1_n (i + 1) k1 k2 i_ x x2 x3 x4 x5 x6 x7 x8 x9 x10 x11 x12 x13 x14 : Option β) = ref37_Check_p1_s ref37_person (ref37_Check_p1_n i k1 k2) k1 k2 i_ x x2 x3 x4 x5 x6 x7 x8 x9 x10 x11 x12 x13 x14 := rfl
def ref37_Check_p1 : ref37_Check_p1_T := ref37_Check_p1_n fuel
theorem ref37_Check_p1_ok : PieceOk Try.prog 124 0 ref37_Check_p1_code ref37_Check_p1_v ref37_Check_p1_o (ref37_Check_p1_G ref37_Check_p1) := ref37_Check_p1_ok' ref25_In ref25_Set ref37_Text ref37_lists ref37_person ref37_state ref37_Check_Γ fuel
def ref37_Check_p2_n (m : Nat) : ref37_Check_p2_T := ref37_Check_p2_l ref25_In m
theorem ref37_Check_p2_step {β : Type} (i : Nat) (k1 k2 i_ x x2 x3 x4 x5 x6 x7 x8 x9 x10 x11 x12 x13 x14) : (ref37_Check_p2_n (i + 1) k1 k2 i_ x x2 x3 x4 x5 x6 x7 x8 x9 x10 x11 x12 x13 x14 : Option β) = ref37_Check_p2_s ref25_In (ref37_Check_p2_n i k1 k2) k1 k2 i_ x x2 x3 x4 x5 x6 x7 x8 x9 x10 x11 x12 x13 x14 := rfl
def ref37_Check_p2 : ref37_Check_p2_T := ref37_Check_p2_n fuel
theorem ref37_Check_p2_ok : PieceOk Try.prog 124 0 ref37_Check_p2_code ref37_Check_p2_v ref37_Check_p2_o (ref37_Check_p2_G ref37_Check_p2) := ref37_Check_p2_ok' ref25_In ref25_Set ref37_Text ref37_lists ref37_person ref37_state ref37_Check_Γ fuel
def ref37_Check : T_ref37_Check := ref37_Check_s ref25_In ref25_Set ref37_Text ref37_lists ref37_state ref37_Check_p1 ref37_Check_p2
theorem ref37_Check_ok : SpecOk Try.prog 17 (ref37_Check_S ref37_Check) := ref37_Check_ok' ref25_In ref25_Set ref37_Text ref37_lists ref37_person ref37_state ref37_Check_Γ ref37_Check_p1 ref37_Check_p2 ref37_Check_p1_ok ref37_Check_p2_ok

/-- pagewatch/incident.somebody -/
abbrev T_incident_somebody := {β : Type} → Int → (Bool → Option β) → Option β
def incident_somebody_S (c : T_incident_somebody) : Spec :=
  ⟨[(false, [.data (.int .i64)])], [], [(false, [.data .bool])], [], fun x k => c x.1.1.1 (fun r0 => k (((r0, ()), ()), ()))⟩
section
variable (c_incident_person : T_incident_person)
@[reducible] def incident_somebody_X : Ctx := ⟨look tab, pick1 [(62, .spec (incident_person_S c_incident_person))]⟩
def incident_somebody_s {β : Type} (n : Int) (k : (Bool → Option β)) : Option β :=
  cond (decide (n = (-1 : Int)))
  (k true)
  (c_incident_person n (fun (rperson : Bool) =>
  k rperson))
theorem incident_somebody_ok' (hΓ : ΓOk Try.prog (incident_somebody_X c_incident_person).Γ) : SpecOk Try.prog 42 (incident_somebody_S (incident_somebody_s c_incident_person)) :=
  spec_exec (X := (incident_somebody_X c_incident_person)) (Λ := pick1 []) (rs := [.tmp 2]) (c := bodyOf Try.f42) mixed tab_ok hΓ Try.func42 (by kernel_rfl) (by kernel_rfl) (by kernel_rfl) (by kernel_rfl) CutsOk_nil (fun x k r h => Eq.trans (b := (incident_somebody_S (incident_somebody_s c_incident_person)).run x k) (by kernel_rfl) h)
end
theorem incident_somebody_Γ : ΓOk Try.prog (pick1 [(62, .spec (incident_person_S incident_person))]) := (ΓOk_cons incident_person_ok ΓOk_nil)
def incident_somebody : T_incident_somebody := incident_somebody_s incident_person
theorem incident_somebody_ok : SpecOk Try.prog 42 (incident_somebody_S incident_somebody) := incident_somebody_ok' incident_person incident_somebody_Γ

/-- pagewatch/incident.copied -/
abbrev T_incident_copied := {β : Type} → api_Incident → (Int → Int → Int → Int → (List UInt8) → Int → Int → Int → Int → (List Int) → (List api_Task) → (List api_Update) → (List Int) → (List (Int × (Int × Int))) → Option β) → Option β
def incident_copied_S (c : T_incident_copied) : Spec :=
  ⟨[(true, [.data y_api_Incident])], [], [(true, [.data (.int .i64), .data (.int .i64), .data (.int .i64), .data (.int .i64), .data .str, .data (.int .i64), .data (.int .i64), .data (.int .i64), .rowh 0, .rowh 1, .rowh 2, .rowh 3, .rowh 4, .data (.int .i64)])], [.row 3 (.int .i64), .row 40 y_api_Task, .row 84 y_api_Update, .row 3 (.int .i64), .row 106 (.prod (.int .i64) (.prod (.int .i64) (.int .i64)))], fun x k => c x.1.1.1 (fun r0 r1 r2 r3 r4 r5 r6 r7 r8 r9 r10 r11 r12 r13 => k (((r0, r1, r2, r3, r4, r5, r6, r7, r8, ()), ()), (r9, r10, r11, r12, r13, ())))⟩
noncomputable def incident_copied_p1_code : Code := codeAt 58 (bodyOf Try.f44)
abbrev incident_copied_p1_K1 (β : Type) := Int → Int → Int → Int → (List UInt8) → Int → Int → Int → Int → Int → Int → Int → Int → (List UInt8) → Int → Int → Int → Int → (List Int) → (List api_Task) → (List api_Update) → (List Int) → (List (Int × (Int × Int))) → (List Int) → (List api_Task) → (List api_Update) → (List Int) → (List (Int × (Int × Int))) → Option β
abbrev incident_copied_p1_T := {β : Type} → incident_copied_p1_K1 β → Int → Int → Int → Int → Int → Int → (List UInt8) → Int → Int → Int → Int → Int → Int → Int → Int → (List UInt8) → Int → Int → Int → Int → (List Int) → (List api_Task) → (List api_Update) → (List Int) → (List (Int × (Int × Int))) → (List Int) → (List api_Task) → (List api_Update) → (List Int) → (List (Int × (Int × Int))) → Option β
def incident_copied_p1_v : View := ⟨0, [1, 2, 26, 27], [(false, [.ptr 0 0]), (false, [.ptr 1 0]), (false, [.data (.int .i64)]), (false, [.data (.int .i64)])], [.cells 32 [.data (.int .i64), .data (.int .i64), .data (.int .i64), .data (.int .i64), .data .str, .data (.int .i64), .data (.int .i64), .data (.int .i64), .rowh 2, .rowh 3, .rowh 4, .rowh 5, .rowh 6, .data (.int .i64)], .cells 32 [.data (.int .i64), .data (.int .i64), .data (.int .i64), .data (.int .i64), .data .str, .data (.int .i64), .data (.int .i64), .data (.int .i64), .rowh 7, .rowh 8, .rowh 9, .rowh 10, .rowh 11, .data (.int .i64)], .row 3 (.int .i64), .row 40 y_api_Task, .row 84 y_api_Update, .row 3 (.int .i64), .row 106 (.prod (.int .i64) (.prod (.int .i64) (.int .i64))), .row 3 (.int .i64), .row 40 y_api_Task, .row 84 y_api_Update, .row 3 (.int .i64), .row 106 (.prod (.int .i64) (.prod (.int .i64) (.int .i64)))]⟩
def incident_copied_p1_o : List (AExit × View) := [(.exit 0, ⟨0, [1, 2], [(false, [.ptr 0 0]), (false, [.ptr 1 0])], [.cells 32 [.data (.int .i64), .data (.int .i64), .data (.int .i64), .data (.int .i64), .data .str, .data (.int .i64), .data (.int .i64), .data (.int .i64), .rowh 2, .rowh 3, .rowh 4, .rowh 5, .rowh 6, .data (.int .i64)], .cells 32 [.data (.int .i64), .data (.int .i64), .data (.int .i64), .data (.int .i64), .data .str, .data (.int .i64), .data (.int .i64), .data (.int .i64), .rowh 7, .rowh 8, .rowh 9, .rowh 10, .rowh 11, .data (.int .i64)], .row 3 (.int .i64), .row 40 y_api_Task, .row 84 y_api_Update, .row 3 (.int .i64), .row 106 (.prod (.int .i64) (.prod (.int .i64) (.int .i64))), .row 3 (.int .i64), .row 40 y_api_Task, .row 84 y_api_Update, .row 3 (.int .i64), .row 106 (.prod (.int .i64) (.prod (.int .i64) (.int .i64)))]⟩)]
@[reducible] def incident_copied_p1_G (p : incident_copied_p1_T) {β : Type} (d : incident_copied_p1_v.den) (ks : Outs.K β incident_copied_p1_o) : Option β :=
  p (fun a0 a1 a2 a3 a4 a5 a6 a7 a8 a9 a10 a11 a12 a13 a14 a15 a16 a17 a18 a19 a20 a21 a22 a23 a24 a25 a26 a27 => ks.1 (((), (), ()), ((a0, a1, a2, a3, a4, a5, a6, a7, a8, ()), (a9, a10, a11, a12, a13, a14, a15, a16, a17, ()), a18, a19, a20, a21, a22, a23, a24, a25, a26, a27, ()))) d.1.2.2.1.1 d.1.2.2.2.1.1 d.2.1.1 d.2.1.2.1 d.2.1.2.2.1 d.2.1.2.2.2.1 d.2.1.2.2.2.2.1 d.2.1.2.2.2.2.2.1 d.2.1.2.2.2.2.2.2.1 d.2.1.2.2.2.2.2.2.2.1 d.2.1.2.2.2.2.2.2.2.2.1 d.2.2.1.1 d.2.2.1.2.1 d.2.2.1.2.2.1 d.2.2.1.2.2.2.1 d.2.2.1.2.2.2.2.1 d.2.2.1.2.2.2.2.2.1 d.2.2.1.2.2.2.2.2.2.1 d.2.2.1.2.2.2.2.2.2.2.1 d.2.2.1.2.2.2.2.2.2.2.2.1 d.2.2.2.1 d.2.2.2.2.1 d.2.2.2.2.2.1 d.2.2.2.2.2.2.1 d.2.2.2.2.2.2.2.1 d.2.2.2.2.2.2.2.2.1 d.2.2.2.2.2.2.2.2.2.1 d.2.2.2.2.2.2.2.2.2.2.1 d.2.2.2.2.2.2.2.2.2.2.2.1 d.2.2.2.2.2.2.2.2.2.2.2.2.1
section
variable (c_slices_Clone_api_StateChange_api_StateChange : T_slices_Clone_api_StateChange_api_StateChange) (c_slices_Clone_api_Task_api_Task : T_slices_Clone_api_Task_api_Task) (c_slices_Clone_api_Update_api_Update : T_slices_Clone_api_Update_api_Update) (c_slices_Clone_int_int : T_slices_Clone_int_int)
@[reducible] def incident_copied_X : Ctx := ⟨look tab, pick1 [(89, .spec (slices_Clone_api_StateChange_api_StateChange_S c_slices_Clone_api_StateChange_api_StateChange)), (87, .spec (slices_Clone_api_Task_api_Task_S c_slices_Clone_api_Task_api_Task)), (88, .spec (slices_Clone_api_Update_api_Update_S c_slices_Clone_api_Update_api_Update)), (80, .spec (slices_Clone_int_int_S c_slices_Clone_int_int))]⟩
def incident_copied_p1_s {β : Type} (rec : Int → Int → Int → Int → Int → Int → (List UInt8) → Int → Int → Int → Int → Int → Int → Int → Int → (List UInt8) → Int → Int → Int → Int → (List Int) → (List api_Task) → (List api_Update) → (List Int) → (List (Int × (Int × Int))) → (List Int) → (List api_Task) → (List api_Update) → (List Int) → (List (Int × (Int × Int))) → Option β) (k1 : incident_copied_p1_K1 β) (t26 : Int) (t27 : Int) (x : Int) (x2 : Int) (x3 : Int) (x4 : Int) (x5 : List UInt8) (x6 : Int) (x7 : Int) (x8 : Int) (x9 : Int) (t2 : Int) (t22 : Int) (t23 : Int) (t24 : Int) (t25 : List UInt8) (t28 : Int) (t29 : Int) (t210 : Int) (t211 : Int) (b2_ : List Int) (b3_ : List api_Task) (b4_ : List api_Update) (b5_ : List Int) (b6_ : List (Int × (Int × Int))) (b7_ : List Int) (b8_ : List api_Task) (b9_ : List api_Update) (b10_ : List Int) (b11_ : List (Int × (Int × Int))) : Option β :=
  cond (decide (t27 < t26))
  (cond (decide (0 ≤ t27) && decide (t27 < (List.length b4_ : Int)))
  (c_slices_Clone_int_int ((((List.getD b4_ (Int.toNat t27) ((0 : Int), ((0 : Int), (([] : List UInt8), ([] : List Int))))).2).2).2) (fun (lrCloneintint : List Int) =>
  cond (decide (0 ≤ t27) && decide (t27 < (List.length b4_ : Int)))
  (let l : List api_Update := (List.set b4_ (Int.toNat t27) ((List.getD b4_ (Int.toNat t27) ((0 : Int), ((0 : Int), (([] : List UInt8), ([] : List Int))))).1, (((List.getD b4_ (Int.toNat t27) ((0 : Int), ((0 : Int), (([] : List UInt8), ([] : List Int))))).2).1, ((((List.getD b4_ (Int.toNat t27) ((0 : Int), ((0 : Int), (([] : List UInt8), ([] : List Int))))).2).2).1, lrCloneintint))));
  rec t26 (IntKind.i64.wrap (t27 + (1 : Int))) x x2 x3 x4 x5 x6 x7 x8 x9 t2 t22 t23 t24 t25 t28 t29 t210 t211 b2_ b3_ l b5_ b6_ b7_ b8_ b9_ b10_ b11_)
  none))
  none)
  (k1 x x2 x3 x4 x5 x6 x7 x8 x9 t2 t22 t23 t24 t25 t28 t29 t210 t211 b2_ b3_ b4_ b5_ b6_ b7_ b8_ b9_ b10_ b11_)
def incident_copied_p1_l {β : Type} : Nat → incident_copied_p1_K1 β → Int → Int → Int → Int → Int → Int → (List UInt8) → Int → Int → Int → Int → Int → Int → Int → Int → (List UInt8) → Int → Int → Int → Int → (List Int) → (List api_Task) → (List api_Update) → (List Int) → (List (Int × (Int × Int))) → (List Int) → (List api_Task) → (List api_Update) → (List Int) → (List (Int × (Int × Int))) → Option β
  | 0 => fun _ _ _ _ _ _ _ _ _ _ _ _ _ _ _ _ _ _ _ _ _ _ _ _ _ _ _ _ _ _ _ => none
  | i + 1 => fun k1 t26 t27 x x2 x3 x4 x5 x6 x7 x8 x9 t2 t22 t23 t24 t25 t28 t29 t210 t211 b2_ b3_ b4_ b5_ b6_ b7_ b8_ b9_ b10_ b11_ => incident_copied_p1_s c_slices_Clone_int_int (incident_copied_p1_l i k1) k1 t26 t27 x x2 x3 x4 x5 x6 x7 x8 x9 t2 t22 t23 t24 t25 t28 t29 t210 t211 b2_ b3_ b4_ b5_ b6_ b7_ b8_ b9_ b10_ b11_
theorem incident_copied_p1_ok' (hΓ : ΓOk Try.prog (incident_copied_X c_slices_Clone_api_StateChange_api_StateChange c_slices_Clone_api_Task_api_Task c_slices_Clone_api_Update_api_Update c_slices_Clone_int_int).Γ) (i : Nat) : PieceOk Try.prog 44 0 incident_copied_p1_code incident_copied_p1_v incident_copied_p1_o (incident_copied_p1_G (incident_copied_p1_l c_slices_Clone_int_int i)) := by
  rw [show incident_copied_p1_code = .loop (loopBody incident_copied_p1_code) by kernel_rfl]
  exact piece_loop (X := (incident_copied_X c_slices_Clone_api_StateChange_api_StateChange c_slices_Clone_api_Task_api_Task c_slices_Clone_api_Update_api_Update c_slices_Clone_int_int)) (p := 1) (Λ := pick1 []) (G := fun i => @fun β d ks => incident_copied_p1_G (incident_copied_p1_l c_slices_Clone_int_int i) d ks) mixed tab_ok hΓ rfl (by kernel_rfl) CutsOk_nil (fun _ _ => rfl) (fun i => @fun β d ks r h => Eq.trans (b := incident_copied_p1_G (incident_copied_p1_l c_slices_Clone_int_int (i + 1)) d ks) (by kernel_rfl) h) i
def incident_copied_s (p1 : incident_copied_p1_T) {β : Type} (x : api_Incident) (k : (Int → Int → Int → Int → (List UInt8) → Int → Int → Int → Int → (List Int) → (List api_Task) → (List api_Update) → (List Int) → (List (Int × (Int × Int))) → Option β)) : Option β :=
  c_slices_Clone_int_int x.2.2.2.2.2.2.1 (fun (lrCloneintint : List Int) =>
  c_slices_Clone_api_Task_api_Task x.2.2.2.2.2.2.2.1 (fun (lrTask : List api_Task) =>
  c_slices_Clone_api_Update_api_Update x.2.2.2.2.2.2.2.2.1 (fun (lrUpdate : List api_Update) =>
  c_slices_Clone_int_int x.2.2.2.2.2.2.2.2.2.1 (fun (lrCloneintint2 : List Int) =>
  c_slices_Clone_api_StateChange_api_StateChange x.2.2.2.2.2.2.2.2.2.2.1 (fun (lrStateChange : List (Int × (Int × Int))) =>
  p1 (fun (x2 : Int) (x3 : Int) (x4 : Int) (x5 : Int) (x6 : List UInt8) (x7 : Int) (x8 : Int) (x9 : Int) (x10 : Int) (t2 : Int) (t22 : Int) (t23 : Int) (t24 : Int) (t25 : List UInt8) (t26 : Int) (t27 : Int) (t28 : Int) (t29 : Int) (b2_ : List Int) (b3_ : List api_Task) (b4_ : List api_Update) (b5_ : List Int) (b6_ : List (Int × (Int × Int))) (b7_ : List Int) (b8_ : List api_Task) (b9_ : List api_Update) (b10_ : List Int) (b11_ : List (Int × (Int × Int))) =>
  k x2 x3 x4 x5 x6 x7 x8 x9 x10 b2_ b3_ b4_ b5_ b6_) (List.length lrUpdate : Int) (0 : Int) x.1 x.2.1 x.2.2.1 x.2.2.2.1 x.2.2.2.2.1 x.2.2.2.2.2.1.1 x.2.2.2.2.2.1.2.1 x.2.2.2.2.2.1.2.2 x.2.2.2.2.2.2.2.2.2.2.2 (0 : Int) (0 : Int) (0 : Int) (0 : Int) ([] : List UInt8) (0 : Int) (0 : Int) (0 : Int) (0 : Int) lrCloneintint lrTask lrUpdate lrCloneintint2 lrStateChange ([] : List Int) ([] : List api_Task) ([] : List api_Update) ([] : List Int) ([] : List (Int × (Int × Int))))))))
theorem incident_copied_ok' (hΓ : ΓOk Try.prog (incident_copied_X c_slices_Clone_api_StateChange_api_StateChange c_slices_Clone_api_Task_api_Task c_slices_Clone_api_Update_api_Update c_slices_Clone_int_int).Γ) (p1 : incident_copied_p1_T) (hp1 : PieceOk Try.prog 44 0 incident_copied_p1_code incident_copied_p1_v incident_copied_p1_o (incident_copied_p1_G p1)) : SpecOk Try.prog 44 (incident_copied_S (incident_copied_s c_slices_Clone_api_StateChange_api_StateChange c_slices_Clone_api_Task_api_Task c_slices_Clone_api_Update_api_Update c_slices_Clone_int_int p1)) :=
  spec_exec (X := (incident_copied_X c_slices_Clone_api_StateChange_api_StateChange c_slices_Clone_api_Task_api_Task c_slices_Clone_api_Update_api_Update c_slices_Clone_int_int)) (Λ := pick1 [(58, pieceCut incident_copied_p1_v incident_copied_p1_o (incident_copied_p1_G p1))]) (rs := [.cell 2 32]) (c := bodyOf Try.f44) mixed tab_ok hΓ Try.func44 (by kernel_rfl) (by kernel_rfl) (by kernel_rfl) (by kernel_rfl) (CutsOk_cons (q := 58) (c' := incident_copied_p1_code) (by kernel_rfl) rfl hp1 CutsOk_nil) (fun x k r h => Eq.trans (b := (incident_copied_S (incident_copied_s c_slices_Clone_api_StateChange_api_StateChange c_slices_Clone_api_Task_api_Task c_slices_Clone_api_Update_api_Update c_slices_Clone_int_int p1)).run x k) (by kernel_rfl) h)
end
theorem incident_copied_Γ : ΓOk Try.prog (pick1 [(89, .spec (slices_Clone_api_StateChange_api_StateChange_S slices_Clone_api_StateChange_api_StateChange)), (87, .spec (slices_Clone_api_Task_api_Task_S slices_Clone_api_Task_api_Task)), (88, .spec (slices_Clone_api_Update_api_Update_S slices_Clone_api_Update_api_Update)), (80, .spec (slices_Clone_int_int_S slices_Clone_int_int))]) := (ΓOk_cons slices_Clone_api_StateChange_api_StateChange_ok (ΓOk_cons slices_Clone_api_Task_api_Task_ok (ΓOk_cons slices_Clone_api_Update_api_Update_ok (ΓOk_cons slices_Clone_int_int_ok ΓOk_nil))))
def incident_copied_p1_n (m : Nat) : incident_copied_p1_T := incident_copied_p1_l slices_Clone_int_int m
theorem incident_copied_p1_step {β : Type} (i : Nat) (k1 t26 t27 x x2 x3 x4 x5 x6 x7 x8 x9 t2 t22 t23 t24 t25 t28 t29 t210 t211 b2_ b3_ b4_ b5_ b6_ b7_ b8_ b9_ b10_ b11_) : (incident_copied_p1_n (i + 1) k1 t26 t27 x x2 x3 x4 x5 x6 x7 x8 x9 t2 t22 t23 t24 t25 t28 t29 t210 t211 b2_ b3_ b4_ b5_ b6_ b7_ b8_ b9_ b10_ b11_ : Option β) = incident_copied_p1_s slices_Clone_int_int (incident_copied_p1_n i k1) k1 t26 t27 x x2 x3 x4 x5 x6 x7 x8 x9 t2 t22 t23 t24 t25 t28 t29 t210 t211 b2_ b3_ b4_ b5_ b6_ b7_ b8_ b9_ b10_ b11_ := rfl
def incident_copied_p1 : incident_copied_p1_T := incident_copied_p1_n fuel
theorem incident_copied_p1_ok : PieceOk Try.prog 44 0 incident_copied_p1_code incident_copied_p1_v incident_copied_p1_o (incident_copied_p1_G incident_copied_p1) := incident_copied_p1_ok' slices_Clone_api_StateChange_api_StateChange slices_Clone_api_Task_api_Task slices_Clone_api_Update_api_Update slices_Clone_int_int incident_copied_Γ fuel
def incident_copied : T_incident_copied := incident_copied_s slices_Clone_api_StateChange_api_StateChange slices_Clone_api_Task_api_Task slices_Clone_api_Update_api_Update slices_Clone_int_int incident_copied_p1
theorem incident_copied_ok : SpecOk Try.prog 44 (incident_copied_S incident_copied) := incident_copied_ok' slices_Clone_api_StateChange_api_StateChange slices_Clone_api_Task_api_Task slices_Clone_api_Update_api_Update slices_Clone_int_int incident_copied_Γ incident_copied_p1 incident_copied_p1_ok

/-- slices.Contains[[]int,int] -/
abbrev T_slices_Contains_int_int := {β : Type} → (List Int) → Int → (Bool → Option β) → Option β
def slices_Contains_int_int_S (c : T_slices_Contains_int_int) : Spec :=
  ⟨[(false, [.data (.slice (.int .i64))]), (false, [.data (.int .i64)])], [], [(false, [.data .bool])], [], fun x k => c x.1.1.1 x.1.2.1.1 (fun r0 => k (((r0, ()), ()), ()))⟩
section
variable (c_slices_Index_int_int : T_slices_Index_int_int)
@[reducible] def slices_Contains_int_int_X : Ctx := ⟨look tab, pick1 [(98, .spec (slices_Index_int_int_S c_slices_Index_int_int))]⟩
def slices_Contains_int_int_s {β : Type} (s : List Int) (v : Int) (k : (Bool → Option β)) : Option β :=
  c_slices_Index_int_int s v (fun (rIndexintint : Int) =>
  let t : Bool := (decide ((0 : Int) ≤ rIndexintint));
  k t)
theorem slices_Contains_int_int_ok' (hΓ : ΓOk Try.prog (slices_Contains_int_int_X c_slices_Index_int_int).Γ) : SpecOk Try.prog 63 (slices_Contains_int_int_S (slices_Contains_int_int_s c_slices_Index_int_int)) :=
  spec_exec (X := (slices_Contains_int_int_X c_slices_Index_int_int)) (Λ := pick1 []) (rs := [.tmp 4]) (c := bodyOf Try.f63) mixed tab_ok hΓ Try.func63 (by kernel_rfl) (by kernel_rfl) (by kernel_rfl) (by kernel_rfl) CutsOk_nil (fun x k r h => Eq.trans (b := (slices_Contains_int_int_S (slices_Contains_int_int_s c_slices_Index_int_int)).run x k) (by kernel_rfl) h)
end
theorem slices_Contains_int_int_Γ : ΓOk Try.prog (pick1 [(98, .spec (slices_Index_int_int_S slices_Index_int_int))]) := (ΓOk_cons slices_Index_int_int_ok ΓOk_nil)
def slices_Contains_int_int : T_slices_Contains_int_int := slices_Contains_int_int_s slices_Index_int_int
theorem slices_Contains_int_int_ok : SpecOk Try.prog 63 (slices_Contains_int_int_S slices_Contains_int_int) := slices_Contains_int_int_ok' slices_Index_int_int slices_Contains_int_int_Γ

/-- pagewatch/incident.joined -/
abbrev T_incident_joined := {β : Type} → (List Int) → (List Int) → ((List Int) → Option β) → Option β
def incident_joined_S (c : T_incident_joined) : Spec :=
  ⟨[(false, [.data (.slice (.int .i64))]), (false, [.data (.slice (.int .i64))])], [], [(false, [.rowh 0])], [.row 3 (.int .i64)], fun x k => c x.1.1.1 x.1.2.1.1 (fun r0 => k (((), ()), (r0, ())))⟩
section
variable (c_slices_Clone_int_int : T_slices_Clone_int_int)
@[reducible] def incident_joined_X : Ctx := ⟨look tab, pick1 [(80, .spec (slices_Clone_int_int_S c_slices_Clone_int_int)), (99, .rows slices_Compact_int_int_F), (93, .rows slices_Sort_int_int_F)]⟩
def incident_joined_s {β : Type} (l : List Int) (more : List Int) (k : ((List Int) → Option β)) : Option β :=
  c_slices_Clone_int_int l (fun (lrCloneintint : List Int) =>
  cond (decide ((List.length lrCloneintint + List.length more) * 8 ≤ roomMax))
  (let l2 : List Int := (lrCloneintint ++ more);
  cond (decide (List.length l2 < 4611686018427387904))
  (let l3 : List Int := (sortInts l2);
  cond (decide (List.length l3 < 4611686018427387904))
  (let l4 : List Int := (Go.Lib.compact l3);
  k l4)
  none)
  none)
  none)
theorem incident_joined_ok' (hΓ : ΓOk Try.prog (incident_joined_X c_slices_Clone_int_int).Γ) : SpecOk Try.prog 64 (incident_joined_S (incident_joined_s c_slices_Clone_int_int)) :=
  spec_exec (X := (incident_joined_X c_slices_Clone_int_int)) (Λ := pick1 []) (rs := [.tmp 4]) (c := bodyOf Try.f64) mixed tab_ok hΓ Try.func64 (by kernel_rfl) (by kernel_rfl) (by kernel_rfl) (by kernel_rfl) CutsOk_nil (fun x k r h => Eq.trans (b := (incident_joined_S (incident_joined_s c_slices_Clone_int_int)).run x k) (by kernel_rfl) h)
end
theorem incident_joined_Γ : ΓOk Try.prog (pick1 [(80, .spec (slices_Clone_int_int_S slices_Clone_int_int)), (99, .rows slices_Compact_int_int_F), (93, .rows slices_Sort_int_int_F)]) := (ΓOk_cons slices_Clone_int_int_ok (ΓOk_row slices_Compact_int_int_rowok (ΓOk_row slices_Sort_int_int_rowok ΓOk_nil)))
def incident_joined : T_incident_joined := incident_joined_s slices_Clone_int_int
theorem incident_joined_ok : SpecOk Try.prog 64 (incident_joined_S incident_joined) := incident_joined_ok' slices_Clone_int_int incident_joined_Γ

/-- pagewatch/incident.tasks -/
abbrev T_incident_tasks := {β : Type} → api_Incident → (Bool → Option β) → Option β
def incident_tasks_S (c : T_incident_tasks) : Spec :=
  ⟨[(true, [.data y_api_Incident])], [], [(false, [.data .bool])], [], fun x k => c x.1.1.1 (fun r0 => k (((r0, ()), ()), ()))⟩
noncomputable def incident_tasks_p1_code : Code := codeAt 26 (bodyOf Try.f84)
abbrev incident_tasks_p1_K1 (β : Type) := Bool → Option β
abbrev incident_tasks_p1_K2 (β : Type) := Int → Int → Int → Int → (List UInt8) → Int → Int → Int → (List Int) → (List api_Task) → (List api_Update) → (List Int) → (List (Int × (Int × Int))) → Int → Option β
abbrev incident_tasks_p1_T := {β : Type} → incident_tasks_p1_K1 β → incident_tasks_p1_K2 β → (List api_Task) → Int → Int → Int → Int → Int → Int → (List UInt8) → Int → Int → Int → (List Int) → (List api_Task) → (List api_Update) → (List Int) → (List (Int × (Int × Int))) → Int → Option β
def incident_tasks_p1_v : View := ⟨0, [1, 6, 7, 8], [(false, [.ptr 0 0]), (false, [.data (.slice y_api_Task)]), (false, [.data (.int .i64)]), (false, [.data (.int .i64)])], [.cells 32 [.data (.int .i64), .data (.int .i64), .data (.int .i64), .data (.int .i64), .data .str, .data (.int .i64), .data (.int .i64), .data (.int .i64), .data (.slice (.int .i64)), .data (.slice y_api_Task), .data (.slice y_api_Update), .data (.slice (.int .i64)), .data (.slice (.prod (.int .i64) (.prod (.int .i64) (.int .i64)))), .data (.int .i64)]]⟩
def incident_tasks_p1_o : List (AExit × View) := [(.ret, ⟨0, [2], [(false, [.data .bool])], []⟩), (.exit 0, ⟨0, [1], [(false, [.ptr 0 0])], [.cells 32 [.data (.int .i64), .data (.int .i64), .data (.int .i64), .data (.int .i64), .data .str, .data (.int .i64), .data (.int .i64), .data (.int .i64), .data (.slice (.int .i64)), .data (.slice y_api_Task), .data (.slice y_api_Update), .data (.slice (.int .i64)), .data (.slice (.prod (.int .i64) (.prod (.int .i64) (.int .i64)))), .data (.int .i64)]]⟩)]
@[reducible] def incident_tasks_p1_G (p : incident_tasks_p1_T) {β : Type} (d : incident_tasks_p1_v.den) (ks : Outs.K β incident_tasks_p1_o) : Option β :=
  p (fun a0 => ks.1 (((a0, ()), ()), ())) (fun a0 a1 a2 a3 a4 a5 a6 a7 a8 a9 a10 a11 a12 a13 => ks.2.1 (((), ()), ((a0, a1, a2, a3, a4, a5, a6, a7, a8, a9, a10, a11, a12, a13, ()), ()))) d.1.2.1.1 d.1.2.2.1.1 d.1.2.2.2.1.1 d.2.1.1 d.2.1.2.1 d.2.1.2.2.1 d.2.1.2.2.2.1 d.2.1.2.2.2.2.1 d.2.1.2.2.2.2.2.1 d.2.1.2.2.2.2.2.2.1 d.2.1.2.2.2.2.2.2.2.1 d.2.1.2.2.2.2.2.2.2.2.1 d.2.1.2.2.2.2.2.2.2.2.2.1 d.2.1.2.2.2.2.2.2.2.2.2.2.1 d.2.1.2.2.2.2.2.2.2.2.2.2.2.1 d.2.1.2.2.2.2.2.2.2.2.2.2.2.2.1 d.2.1.2.2.2.2.2.2.2.2.2.2.2.2.2.1
section
variable (c_incident_Text : T_incident_Text) (c_incident_in : T_incident_in) (c_incident_somebody : T_incident_somebody)
@[reducible] def incident_tasks_X : Ctx := ⟨look tab, pick1 [(43, .spec (incident_Text_S c_incident_Text)), (41, .spec (incident_in_S c_incident_in)), (42, .spec (incident_somebody_S c_incident_somebody))]⟩
def incident_tasks_p1_s {β : Type} (rec : (List api_Task) → Int → Int → Int → Int → Int → Int → (List UInt8) → Int → Int → Int → (List Int) → (List api_Task) → (List api_Update) → (List Int) → (List (Int × (Int × Int))) → Int → Option β) (k1 : incident_tasks_p1_K1 β) (k2 : incident_tasks_p1_K2 β) (t6 : List api_Task) (t7 : Int) (t8 : Int) (x : Int) (x2 : Int) (x3 : Int) (x4 : Int) (x5 : List UInt8) (x6 : Int) (x7 : Int) (x8 : Int) (x9 : List Int) (x10 : List api_Task) (x11 : List api_Update) (x12 : List Int) (x13 : List (Int × (Int × Int))) (x14 : Int) : Option β :=
  cond (decide (t8 < t7))
  (cond (decide (0 ≤ t8) && decide (t8 < (List.length t6 : Int)))
  (let e : api_Task := List.getD t6 (Int.toNat t8) (([] : List UInt8), ((0 : Int), ((0 : Int), (0 : Int))));
  c_incident_Text e.1 (fun (rText : Bool) =>
  cond (!rText)
  (k1 false)
  (c_incident_somebody e.2.1 (fun (rsomebody : Bool) =>
  cond (!rsomebody)
  (k1 false)
  (c_incident_in e.2.2.1 x4 (8589934592 : Int) (fun (rin : Bool) =>
  cond (!rin)
  (k1 false)
  (cond (!decide (e.2.2.2 = (-1 : Int)))
  (c_incident_in e.2.2.2 e.2.2.1 (8589934592 : Int) (fun (rin2 : Bool) =>
  cond (!rin2)
  (k1 false)
  (rec t6 t7 (IntKind.i64.wrap (t8 + (1 : Int))) x x2 x3 x4 x5 x6 x7 x8 x9 x10 x11 x12 x13 x14)))
  (rec t6 t7 (IntKind.i64.wrap (t8 + (1 : Int))) x x2 x3 x4 x5 x6 x7 x8 x9 x10 x11 x12 x13 x14))))))))
  none)
  (k2 x x2 x3 x4 x5 x6 x7 x8 x9 x10 x11 x12 x13 x14)
def incident_tasks_p1_l {β : Type} : Nat → incident_tasks_p1_K1 β → incident_tasks_p1_K2 β → (List api_Task) → Int → Int → Int → Int → Int → Int → (List UInt8) → Int → Int → Int → (List Int) → (List api_Task) → (List api_Update) → (List Int) → (List (Int × (Int × Int))) → Int → Option β
  | 0 => fun _ _ _ _ _ _ _ _ _ _ _ _ _ _ _ _ _ _ _ => none
  | i + 1 => fun k1 k2 t6 t7 t8 x x2 x3 x4 x5 x6 x7 x8 x9 x10 x11 x12 x13 x14 => incident_tasks_p1_s c_incident_Text c_incident_in c_incident_somebody (incident_tasks_p1_l i k1 k2) k1 k2 t6 t7 t8 x x2 x3 x4 x5 x6 x7 x8 x9 x10 x11 x12 x13 x14
theorem incident_tasks_p1_ok' (hΓ : ΓOk Try.prog (incident_tasks_X c_incident_Text c_incident_in c_incident_somebody).Γ) (i : Nat) : PieceOk Try.prog 48 0 incident_tasks_p1_code incident_tasks_p1_v incident_tasks_p1_o (incident_tasks_p1_G (incident_tasks_p1_l c_incident_Text c_incident_in c_incident_somebody i)) := by
  rw [show incident_tasks_p1_code = .loop (loopBody incident_tasks_p1_code) by kernel_rfl]
  exact piece_loop (X := (incident_tasks_X c_incident_Text c_incident_in c_incident_somebody)) (p := 1) (Λ := pick1 []) (G := fun i => @fun β d ks => incident_tasks_p1_G (incident_tasks_p1_l c_incident_Text c_incident_in c_incident_somebody i) d ks) mixed tab_ok hΓ rfl (by kernel_rfl) CutsOk_nil (fun _ _ => rfl) (fun i => @fun β d ks r h => Eq.trans (b := incident_tasks_p1_G (incident_tasks_p1_l c_incident_Text c_incident_in c_incident_somebody (i + 1)) d ks) (by kernel_rfl) h) i
def incident_tasks_s (p1 : incident_tasks_p1_T) {β : Type} (x : api_Incident) (k : (Bool → Option β)) : Option β :=
  p1 (fun (t2 : Bool) =>
  k t2) (fun (x2 : Int) (x3 : Int) (x4 : Int) (x5 : Int) (x6 : List UInt8) (x7 : Int) (x8 : Int) (x9 : Int) (x10 : List Int) (x11 : List api_Task) (x12 : List api_Update) (x13 : List Int) (x14 : List (Int × (Int × Int))) (x15 : Int) =>
  let t : Bool := (decide ((List.length x11 : Int) ≤ (16 : Int)));
  k t) x.2.2.2.2.2.2.2.1 (List.length x.2.2.2.2.2.2.2.1 : Int) (0 : Int) x.1 x.2.1 x.2.2.1 x.2.2.2.1 x.2.2.2.2.1 x.2.2.2.2.2.1.1 x.2.2.2.2.2.1.2.1 x.2.2.2.2.2.1.2.2 x.2.2.2.2.2.2.1 x.2.2.2.2.2.2.2.1 x.2.2.2.2.2.2.2.2.1 x.2.2.2.2.2.2.2.2.2.1 x.2.2.2.2.2.2.2.2.2.2.1 x.2.2.2.2.2.2.2.2.2.2.2
theorem incident_tasks_ok' (hΓ : ΓOk Try.prog (incident_tasks_X c_incident_Text c_incident_in c_incident_somebody).Γ) (p1 : incident_tasks_p1_T) (hp1 : PieceOk Try.prog 48 0 incident_tasks_p1_code incident_tasks_p1_v incident_tasks_p1_o (incident_tasks_p1_G p1)) : SpecOk Try.prog 84 (incident_tasks_S (incident_tasks_s p1)) :=
  spec_exec (X := (incident_tasks_X c_incident_Text c_incident_in c_incident_somebody)) (Λ := pick1 [(26, pieceCut incident_tasks_p1_v incident_tasks_p1_o (incident_tasks_p1_G p1))]) (rs := [.tmp 2]) (c := bodyOf Try.f84) mixed tab_ok hΓ Try.func84 (by kernel_rfl) (by kernel_rfl) (by kernel_rfl) (by kernel_rfl) (CutsOk_cons (q := 26) (c' := incident_tasks_p1_code) (by kernel_rfl) rfl hp1 CutsOk_nil) (fun x k r h => Eq.trans (b := (incident_tasks_S (incident_tasks_s p1)).run x k) (by kernel_rfl) h)
end
theorem incident_tasks_Γ : ΓOk Try.prog (pick1 [(43, .spec (incident_Text_S incident_Text)), (41, .spec (incident_in_S incident_in)), (42, .spec (incident_somebody_S incident_somebody))]) := (ΓOk_cons incident_Text_ok (ΓOk_cons incident_in_ok (ΓOk_cons incident_somebody_ok ΓOk_nil)))
def incident_tasks_p1_n (m : Nat) : incident_tasks_p1_T := incident_tasks_p1_l incident_Text incident_in incident_somebody m
theorem incident_tasks_p1_step {β : Type} (i : Nat) (k1 k2 t6 t7 t8 x x2 x3 x4 x5 x6 x7 x8 x9 x10 x11 x12 x13 x14) : (incident_tasks_p1_n (i + 1) k1 k2 t6 t7 t8 x x2 x3 x4 x5 x6 x7 x8 x9 x10 x11 x12 x13 x14 : Option β) = incident_tasks_p1_s incident_Text incident_in incident_somebody (incident_tasks_p1_n i k1 k2) k1 k2 t6 t7 t8 x x2 x3 x4 x5 x6 x7 x8 x9 x10 x11 x12 x13 x14 := rfl
def incident_tasks_p1 : incident_tasks_p1_T := incident_tasks_p1_n fuel
theorem incident_tasks_p1_ok : PieceOk Try.prog 48 0 incident_tasks_p1_code incident_tasks_p1_v incident_tasks_p1_o (incident_tasks_p1_G incident_tasks_p1) := incident_tasks_p1_ok' incident_Text incident_in incident_somebody incident_tasks_Γ fuel
def incident_tasks : T_incident_tasks := incident_tasks_s incident_tasks_p1
theorem incident_tasks_ok : SpecOk Try.prog 84 (incident_tasks_S incident_tasks) := incident_tasks_ok' incident_Text incident_in incident_somebody incident_tasks_Γ incident_tasks_p1 incident_tasks_p1_ok

/-- pagewatch/incident.changes -/
abbrev T_incident_changes := {β : Type} → api_Incident → (Bool → Option β) → Option β
def incident_changes_S (c : T_incident_changes) : Spec :=
  ⟨[(true, [.data y_api_Incident])], [], [(false, [.data .bool])], [], fun x k => c x.1.1.1 (fun r0 => k (((r0, ()), ()), ()))⟩
noncomputable def incident_changes_p1_code : Code := codeAt 58 (bodyOf Try.f86)
abbrev incident_changes_p1_K1 (β : Type) := Bool → Option β
abbrev incident_changes_p1_K2 (β : Type) := Int → Int → Int → Int → Int → (List UInt8) → Int → Int → Int → (List Int) → (List api_Task) → (List api_Update) → (List Int) → (List (Int × (Int × Int))) → Int → Option β
abbrev incident_changes_p1_T := {β : Type} → incident_changes_p1_K1 β → incident_changes_p1_K2 β → Int → Int → (List (Int × (Int × Int))) → Int → Int → Int → Int → Int → Int → (List UInt8) → Int → Int → Int → (List Int) → (List api_Task) → (List api_Update) → (List Int) → (List (Int × (Int × Int))) → Int → Option β
def incident_changes_p1_v : View := ⟨0, [1, 3, 4, 10, 11, 12], [(false, [.ptr 0 0]), (false, [.data (.int .i64)]), (false, [.data (.int .i64)]), (false, [.data (.slice (.prod (.int .i64) (.prod (.int .i64) (.int .i64))))]), (false, [.data (.int .i64)]), (false, [.data (.int .i64)])], [.cells 32 [.data (.int .i64), .data (.int .i64), .data (.int .i64), .data (.int .i64), .data .str, .data (.int .i64), .data (.int .i64), .data (.int .i64), .data (.slice (.int .i64)), .data (.slice y_api_Task), .data (.slice y_api_Update), .data (.slice (.int .i64)), .data (.slice (.prod (.int .i64) (.prod (.int .i64) (.int .i64)))), .data (.int .i64)]]⟩
def incident_changes_p1_o : List (AExit × View) := [(.ret, ⟨0, [2], [(false, [.data .bool])], []⟩), (.exit 0, ⟨0, [1, 4], [(false, [.ptr 0 0]), (false, [.data (.int .i64)])], [.cells 32 [.data (.int .i64), .data (.int .i64), .data (.int .i64), .data (.int .i64), .data .str, .data (.int .i64), .data (.int .i64), .data (.int .i64), .data (.slice (.int .i64)), .data (.slice y_api_Task), .data (.slice y_api_Update), .data (.slice (.int .i64)), .data (.slice (.prod (.int .i64) (.prod (.int .i64) (.int .i64)))), .data (.int .i64)]]⟩)]
@[reducible] def incident_changes_p1_G (p : incident_changes_p1_T) {β : Type} (d : incident_changes_p1_v.den) (ks : Outs.K β incident_changes_p1_o) : Option β :=
  p (fun a0 => ks.1 (((a0, ()), ()), ())) (fun a0 a1 a2 a3 a4 a5 a6 a7 a8 a9 a10 a11 a12 a13 a14 => ks.2.1 (((), (a0, ()), ()), ((a1, a2, a3, a4, a5, a6, a7, a8, a9, a10, a11, a12, a13, a14, ()), ()))) d.1.2.1.1 d.1.2.2.1.1 d.1.2.2.2.1.1 d.1.2.2.2.2.1.1 d.1.2.2.2.2.2.1.1 d.2.1.1 d.2.1.2.1 d.2.1.2.2.1 d.2.1.2.2.2.1 d.2.1.2.2.2.2.1 d.2.1.2.2.2.2.2.1 d.2.1.2.2.2.2.2.2.1 d.2.1.2.2.2.2.2.2.2.1 d.2.1.2.2.2.2.2.2.2.2.1 d.2.1.2.2.2.2.2.2.2.2.2.1 d.2.1.2.2.2.2.2.2.2.2.2.2.1 d.2.1.2.2.2.2.2.2.2.2.2.2.2.1 d.2.1.2.2.2.2.2.2.2.2.2.2.2.2.1 d.2.1.2.2.2.2.2.2.2.2.2.2.2.2.2.1
section
variable (c_incident_in : T_incident_in) (c_incident_somebody : T_incident_somebody)
@[reducible] def incident_changes_X : Ctx := ⟨look tab, pick1 [(41, .spec (incident_in_S c_incident_in)), (42, .spec (incident_somebody_S c_incident_somebody))]⟩
def incident_changes_p1_s {β : Type} (rec : Int → Int → (List (Int × (Int × Int))) → Int → Int → Int → Int → Int → Int → (List UInt8) → Int → Int → Int → (List Int) → (List api_Task) → (List api_Update) → (List Int) → (List (Int × (Int × Int))) → Int → Option β) (k1 : incident_changes_p1_K1 β) (k2 : incident_changes_p1_K2 β) (at_ : Int) (state : Int) (t10 : List (Int × (Int × Int))) (t11 : Int) (t12 : Int) (x : Int) (x2 : Int) (x3 : Int) (x4 : Int) (x5 : List UInt8) (x6 : Int) (x7 : Int) (x8 : Int) (x9 : List Int) (x10 : List api_Task) (x11 : List api_Update) (x12 : List Int) (x13 : List (Int × (Int × Int))) (x14 : Int) : Option β :=
  cond (decide (t12 < t11))
  (cond (decide (0 ≤ t12) && decide (t12 < (List.length t10 : Int)))
  (let e : (Int × (Int × Int)) := List.getD t10 (Int.toNat t12) ((0 : Int), ((0 : Int), (0 : Int)));
  c_incident_in e.1 at_ (8589934592 : Int) (fun (rin : Bool) =>
  cond (!rin)
  (k1 false)
  (c_incident_in e.2.1 (0 : Int) (4 : Int) (fun (rin2 : Bool) =>
  cond (!rin2)
  (k1 false)
  (cond (decide (e.2.1 = state))
  (k1 false)
  (c_incident_somebody e.2.2 (fun (rsomebody : Bool) =>
  cond (!rsomebody)
  (k1 false)
  (rec e.1 e.2.1 t10 t11 (IntKind.i64.wrap (t12 + (1 : Int))) x x2 x3 x4 x5 x6 x7 x8 x9 x10 x11 x12 x13 x14))))))))
  none)
  (k2 state x x2 x3 x4 x5 x6 x7 x8 x9 x10 x11 x12 x13 x14)
def incident_changes_p1_l {β : Type} : Nat → incident_changes_p1_K1 β → incident_changes_p1_K2 β → Int → Int → (List (Int × (Int × Int))) → Int → Int → Int → Int → Int → Int → (List UInt8) → Int → Int → Int → (List Int) → (List api_Task) → (List api_Update) → (List Int) → (List (Int × (Int × Int))) → Int → Option β
  | 0 => fun _ _ _ _ _ _ _ _ _ _ _ _ _ _ _ _ _ _ _ _ _ => none
  | i + 1 => fun k1 k2 at_ state t10 t11 t12 x x2 x3 x4 x5 x6 x7 x8 x9 x10 x11 x12 x13 x14 => incident_changes_p1_s c_incident_in c_incident_somebody (incident_changes_p1_l i k1 k2) k1 k2 at_ state t10 t11 t12 x x2 x3 x4 x5 x6 x7 x8 x9 x10 x11 x12 x13 x14
theorem incident_changes_p1_ok' (hΓ : ΓOk Try.prog (incident_changes_X c_incident_in c_incident_somebody).Γ) (i : Nat) : PieceOk Try.prog 54 0 incident_changes_p1_code incident_changes_p1_v incident_changes_p1_o (incident_changes_p1_G (incident_changes_p1_l c_incident_in c_incident_somebody i)) := by
  rw [show incident_changes_p1_code = .loop (loopBody incident_changes_p1_code) by kernel_rfl]
  exact piece_loop (X := (incident_changes_X c_incident_in c_incident_somebody)) (p := 1) (Λ := pick1 []) (G := fun i => @fun β d ks => incident_changes_p1_G (incident_changes_p1_l c_incident_in c_incident_somebody i) d ks) mixed tab_ok hΓ rfl (by kernel_rfl) CutsOk_nil (fun _ _ => rfl) (fun i => @fun β d ks r h => Eq.trans (b := incident_changes_p1_G (incident_changes_p1_l c_incident_in c_incident_somebody (i + 1)) d ks) (by kernel_rfl) h) i
def incident_changes_s (p1 : incident_changes_p1_T) {β : Type} (x : api_Incident) (k : (Bool → Option β)) : Option β :=
  p1 (fun (t2 : Bool) =>
  k t2) (fun (state : Int) (x2 : Int) (x3 : Int) (x4 : Int) (x5 : Int) (x6 : List UInt8) (x7 : Int) (x8 : Int) (x9 : Int) (x10 : List Int) (x11 : List api_Task) (x12 : List api_Update) (x13 : List Int) (x14 : List (Int × (Int × Int))) (x15 : Int) =>
  cond (decide ((List.length x14 : Int) ≤ (32 : Int)))
  (k (decide (x3 = state)))
  (k false)) x.2.2.2.1 (0 : Int) x.2.2.2.2.2.2.2.2.2.2.1 (List.length x.2.2.2.2.2.2.2.2.2.2.1 : Int) (0 : Int) x.1 x.2.1 x.2.2.1 x.2.2.2.1 x.2.2.2.2.1 x.2.2.2.2.2.1.1 x.2.2.2.2.2.1.2.1 x.2.2.2.2.2.1.2.2 x.2.2.2.2.2.2.1 x.2.2.2.2.2.2.2.1 x.2.2.2.2.2.2.2.2.1 x.2.2.2.2.2.2.2.2.2.1 x.2.2.2.2.2.2.2.2.2.2.1 x.2.2.2.2.2.2.2.2.2.2.2
theorem incident_changes_ok' (hΓ : ΓOk Try.prog (incident_changes_X c_incident_in c_incident_somebody).Γ) (p1 : incident_changes_p1_T) (hp1 : PieceOk Try.prog 54 0 incident_changes_p1_code incident_changes_p1_v incident_changes_p1_o (incident_changes_p1_G p1)) : SpecOk Try.prog 86 (incident_changes_S (incident_changes_s p1)) :=
  spec_exec (X := (incident_changes_X c_incident_in c_incident_somebody)) (Λ := pick1 [(58, pieceCut incident_changes_p1_v incident_changes_p1_o (incident_changes_p1_G p1))]) (rs := [.tmp 2]) (c := bodyOf Try.f86) mixed tab_ok hΓ Try.func86 (by kernel_rfl) (by kernel_rfl) (by kernel_rfl) (by kernel_rfl) (CutsOk_cons (q := 58) (c' := incident_changes_p1_code) (by kernel_rfl) rfl hp1 CutsOk_nil) (fun x k r h => Eq.trans (b := (incident_changes_S (incident_changes_s p1)).run x k) (by kernel_rfl) h)
end
theorem incident_changes_Γ : ΓOk Try.prog (pick1 [(41, .spec (incident_in_S incident_in)), (42, .spec (incident_somebody_S incident_somebody))]) := (ΓOk_cons incident_in_ok (ΓOk_cons incident_somebody_ok ΓOk_nil))
def incident_changes_p1_n (m : Nat) : incident_changes_p1_T := incident_changes_p1_l incident_in incident_somebody m
theorem incident_changes_p1_step {β : Type} (i : Nat) (k1 k2 at_ state t10 t11 t12 x x2 x3 x4 x5 x6 x7 x8 x9 x10 x11 x12 x13 x14) : (incident_changes_p1_n (i + 1) k1 k2 at_ state t10 t11 t12 x x2 x3 x4 x5 x6 x7 x8 x9 x10 x11 x12 x13 x14 : Option β) = incident_changes_p1_s incident_in incident_somebody (incident_changes_p1_n i k1 k2) k1 k2 at_ state t10 t11 t12 x x2 x3 x4 x5 x6 x7 x8 x9 x10 x11 x12 x13 x14 := rfl
def incident_changes_p1 : incident_changes_p1_T := incident_changes_p1_n fuel
theorem incident_changes_p1_ok : PieceOk Try.prog 54 0 incident_changes_p1_code incident_changes_p1_v incident_changes_p1_o (incident_changes_p1_G incident_changes_p1) := incident_changes_p1_ok' incident_in incident_somebody incident_changes_Γ fuel
def incident_changes : T_incident_changes := incident_changes_s incident_changes_p1
theorem incident_changes_ok : SpecOk Try.prog 86 (incident_changes_S incident_changes) := incident_changes_ok' incident_in incident_somebody incident_changes_Γ incident_changes_p1 incident_changes_p1_ok

/-- pagewatch/incident.Check -/
abbrev T_incident_Check := {β : Type} → api_Incident → (Bool → Option β) → Option β
def incident_Check_S (c : T_incident_Check) : Spec :=
  ⟨[(true, [.data y_api_Incident])], [], [(false, [.data .bool])], [], fun x k => c x.1.1.1 (fun r0 => k (((r0, ()), ()), ()))⟩
noncomputable def incident_Check_p1_code : Code := codeAt 58 (bodyOf Try.f39)
noncomputable def incident_Check_p2_code : Code := codeAt 63 (bodyOf Try.f39)
abbrev incident_Check_p1_K1 (β : Type) := Bool → Option β
abbrev incident_Check_p1_K2 (β : Type) := Int → Int → Int → Int → (List UInt8) → Int → Int → Int → (List Int) → (List api_Task) → (List api_Update) → (List Int) → (List (Int × (Int × Int))) → Int → Option β
abbrev incident_Check_p1_T := {β : Type} → incident_Check_p1_K1 β → incident_Check_p1_K2 β → Int → Int → Int → Int → Int → Int → Int → Int → (List UInt8) → Int → Int → Int → (List Int) → (List api_Task) → (List api_Update) → (List Int) → (List (Int × (Int × Int))) → Int → Option β
def incident_Check_p1_v : View := ⟨0, [1, 29, 30], [(false, [.ptr 0 0]), (true, [.data (.int .i64), .data (.int .i64), .data (.int .i64)]), (false, [.data (.int .i64)])], [.cells 32 [.data (.int .i64), .data (.int .i64), .data (.int .i64), .data (.int .i64), .data .str, .data (.int .i64), .data (.int .i64), .data (.int .i64), .data (.slice (.int .i64)), .data (.slice y_api_Task), .data (.slice y_api_Update), .data (.slice (.int .i64)), .data (.slice (.prod (.int .i64) (.prod (.int .i64) (.int .i64)))), .data (.int .i64)]]⟩
def incident_Check_p1_o : List (AExit × View) := [(.ret, ⟨0, [2], [(false, [.data .bool])], []⟩), (.exit 0, ⟨0, [1], [(false, [.ptr 0 0])], [.cells 32 [.data (.int .i64), .data (.int .i64), .data (.int .i64), .data (.int .i64), .data .str, .data (.int .i64), .data (.int .i64), .data (.int .i64), .data (.slice (.int .i64)), .data (.slice y_api_Task), .data (.slice y_api_Update), .data (.slice (.int .i64)), .data (.slice (.prod (.int .i64) (.prod (.int .i64) (.int .i64)))), .data (.int .i64)]]⟩)]
@[reducible] def incident_Check_p1_G (p : incident_Check_p1_T) {β : Type} (d : incident_Check_p1_v.den) (ks : Outs.K β incident_Check_p1_o) : Option β :=
  p (fun a0 => ks.1 (((a0, ()), ()), ())) (fun a0 a1 a2 a3 a4 a5 a6 a7 a8 a9 a10 a11 a12 a13 => ks.2.1 (((), ()), ((a0, a1, a2, a3, a4, a5, a6, a7, a8, a9, a10, a11, a12, a13, ()), ()))) d.1.2.1.1 d.1.2.1.2.1 d.1.2.1.2.2.1 d.1.2.2.1.1 d.2.1.1 d.2.1.2.1 d.2.1.2.2.1 d.2.1.2.2.2.1 d.2.1.2.2.2.2.1 d.2.1.2.2.2.2.2.1 d.2.1.2.2.2.2.2.2.1 d.2.1.2.2.2.2.2.2.2.1 d.2.1.2.2.2.2.2.2.2.2.1 d.2.1.2.2.2.2.2.2.2.2.2.1 d.2.1.2.2.2.2.2.2.2.2.2.2.1 d.2.1.2.2.2.2.2.2.2.2.2.2.2.1 d.2.1.2.2.2.2.2.2.2.2.2.2.2.2.1 d.2.1.2.2.2.2.2.2.2.2.2.2.2.2.2.1
abbrev incident_Check_p2_K1 (β : Type) := Bool → Option β
abbrev incident_Check_p2_T := {β : Type} → incident_Check_p2_K1 β → Int → Int → Int → Int → (List UInt8) → Int → Int → Int → (List Int) → (List api_Task) → (List api_Update) → (List Int) → (List (Int × (Int × Int))) → Int → Option β
def incident_Check_p2_v : View := ⟨0, [1], [(false, [.ptr 0 0])], [.cells 32 [.data (.int .i64), .data (.int .i64), .data (.int .i64), .data (.int .i64), .data .str, .data (.int .i64), .data (.int .i64), .data (.int .i64), .data (.slice (.int .i64)), .data (.slice y_api_Task), .data (.slice y_api_Update), .data (.slice (.int .i64)), .data (.slice (.prod (.int .i64) (.prod (.int .i64) (.int .i64)))), .data (.int .i64)]]⟩
def incident_Check_p2_o : List (AExit × View) := [(.ret, ⟨0, [2], [(false, [.data .bool])], []⟩)]
@[reducible] def incident_Check_p2_G (p : incident_Check_p2_T) {β : Type} (d : incident_Check_p2_v.den) (ks : Outs.K β incident_Check_p2_o) : Option β :=
  p (fun a0 => ks.1 (((a0, ()), ()), ())) d.2.1.1 d.2.1.2.1 d.2.1.2.2.1 d.2.1.2.2.2.1 d.2.1.2.2.2.2.1 d.2.1.2.2.2.2.2.1 d.2.1.2.2.2.2.2.2.1 d.2.1.2.2.2.2.2.2.2.1 d.2.1.2.2.2.2.2.2.2.2.1 d.2.1.2.2.2.2.2.2.2.2.2.1 d.2.1.2.2.2.2.2.2.2.2.2.2.1 d.2.1.2.2.2.2.2.2.2.2.2.2.2.1 d.2.1.2.2.2.2.2.2.2.2.2.2.2.2.1 d.2.1.2.2.2.2.2.2.2.2.2.2.2.2.2.1
section
variable (c_incident_Text : T_incident_Text) (c_incident_changes : T_incident_changes) (c_incident_in : T_incident_in) (c_incident_number : T_incident_number) (c_incident_persons : T_incident_persons) (c_incident_set : T_incident_set) (c_incident_somebody : T_incident_somebody) (c_incident_tasks : T_incident_tasks) (c_incident_updates : T_incident_updates)
@[reducible] def incident_Check_X : Ctx := ⟨look tab, pick1 [(43, .spec (incident_Text_S c_incident_Text)), (86, .spec (incident_changes_S c_incident_changes)), (41, .spec (incident_in_S c_incident_in)), (81, .spec (incident_number_S c_incident_number)), (83, .spec (incident_persons_S c_incident_persons)), (82, .spec (incident_set_S c_incident_set)), (42, .spec (incident_somebody_S c_incident_somebody)), (84, .spec (incident_tasks_S c_incident_tasks)), (85, .spec (incident_updates_S c_incident_updates))]⟩
def incident_Check_p1_s {β : Type} (rec : Int → Int → Int → Int → Int → Int → Int → Int → (List UInt8) → Int → Int → Int → (List Int) → (List api_Task) → (List api_Update) → (List Int) → (List (Int × (Int × Int))) → Int → Option β) (k1 : incident_Check_p1_K1 β) (k2 : incident_Check_p1_K2 β) (t29 : Int) (t292 : Int) (t293 : Int) (t30 : Int) (x : Int) (x2 : Int) (x3 : Int) (x4 : Int) (x5 : List UInt8) (x6 : Int) (x7 : Int) (x8 : Int) (x9 : List Int) (x10 : List api_Task) (x11 : List api_Update) (x12 : List Int) (x13 : List (Int × (Int × Int))) (x14 : Int) : Option β :=
  cond (decide (t30 < (3 : Int)))
  (cond (decide (0 ≤ t30) && decide (t30 < (List.length ([t29, t292, t293] : List Int) : Int)))
  (let e : Int := List.getD ([t29, t292, t293] : List Int) (Int.toNat t30) (0 : Int);
  c_incident_somebody e (fun (rsomebody : Bool) =>
  cond (!rsomebody)
  (k1 false)
  (rec t29 t292 t293 (IntKind.i64.wrap (t30 + (1 : Int))) x x2 x3 x4 x5 x6 x7 x8 x9 x10 x11 x12 x13 x14)))
  none)
  (k2 x x2 x3 x4 x5 x6 x7 x8 x9 x10 x11 x12 x13 x14)
def incident_Check_p1_l {β : Type} : Nat → incident_Check_p1_K1 β → incident_Check_p1_K2 β → Int → Int → Int → Int → Int → Int → Int → Int → (List UInt8) → Int → Int → Int → (List Int) → (List api_Task) → (List api_Update) → (List Int) → (List (Int × (Int × Int))) → Int → Option β
  | 0 => fun _ _ _ _ _ _ _ _ _ _ _ _ _ _ _ _ _ _ _ _ => none
  | i + 1 => fun k1 k2 t29 t292 t293 t30 x x2 x3 x4 x5 x6 x7 x8 x9 x10 x11 x12 x13 x14 => incident_Check_p1_s c_incident_somebody (incident_Check_p1_l i k1 k2) k1 k2 t29 t292 t293 t30 x x2 x3 x4 x5 x6 x7 x8 x9 x10 x11 x12 x13 x14
theorem incident_Check_p1_ok' (hΓ : ΓOk Try.prog (incident_Check_X c_incident_Text c_incident_changes c_incident_in c_incident_number c_incident_persons c_incident_set c_incident_somebody c_incident_tasks c_incident_updates).Γ) (i : Nat) : PieceOk Try.prog 89 0 incident_Check_p1_code incident_Check_p1_v incident_Check_p1_o (incident_Check_p1_G (incident_Check_p1_l c_incident_somebody i)) := by
  rw [show incident_Check_p1_code = .loop (loopBody incident_Check_p1_code) by kernel_rfl]
  exact piece_loop (X := (incident_Check_X c_incident_Text c_incident_changes c_incident_in c_incident_number c_incident_persons c_incident_set c_incident_somebody c_incident_tasks c_incident_updates)) (p := 1) (Λ := pick1 []) (G := fun i => @fun β d ks => incident_Check_p1_G (incident_Check_p1_l c_incident_somebody i) d ks) mixed tab_ok hΓ rfl (by kernel_rfl) CutsOk_nil (fun _ _ => rfl) (fun i => @fun β d ks r h => Eq.trans (b := incident_Check_p1_G (incident_Check_p1_l c_incident_somebody (i + 1)) d ks) (by kernel_rfl) h) i
def incident_Check_p2_s {β : Type} (k1 : incident_Check_p2_K1 β) (x : Int) (x2 : Int) (x3 : Int) (x4 : Int) (x5 : List UInt8) (x6 : Int) (x7 : Int) (x8 : Int) (x9 : List Int) (x10 : List api_Task) (x11 : List api_Update) (x12 : List Int) (x13 : List (Int × (Int × Int))) (x14 : Int) : Option β :=
  c_incident_tasks (x, (x2, (x3, (x4, (x5, ((x6, (x7, x8)), (x9, (x10, (x11, (x12, (x13, x14))))))))))) (fun (rtasks : Bool) =>
  cond rtasks
  (c_incident_updates (x, (x2, (x3, (x4, (x5, ((x6, (x7, x8)), (x9, (x10, (x11, (x12, (x13, x14))))))))))) (fun (rupdates : Bool) =>
  cond rupdates
  (c_incident_changes (x, (x2, (x3, (x4, (x5, ((x6, (x7, x8)), (x9, (x10, (x11, (x12, (x13, x14))))))))))) (fun (rchanges : Bool) =>
  k1 rchanges))
  (k1 false)))
  (k1 false))
def incident_Check_p2_u {β : Type} (k1 : incident_Check_p2_K1 β) (x : Int) (x2 : Int) (x3 : Int) (x4 : Int) (x5 : List UInt8) (x6 : Int) (x7 : Int) (x8 : Int) (x9 : List Int) (x10 : List api_Task) (x11 : List api_Update) (x12 : List Int) (x13 : List (Int × (Int × Int))) (x14 : Int) : Option β := incident_Check_p2_s c_incident_changes c_incident_tasks c_incident_updates k1 x x2 x3 x4 x5 x6 x7 x8 x9 x10 x11 x12 x13 x14
theorem incident_Check_p2_ok' (hΓ : ΓOk Try.prog (incident_Check_X c_incident_Text c_incident_changes c_incident_in c_incident_number c_incident_persons c_incident_set c_incident_somebody c_incident_tasks c_incident_updates).Γ) : PieceOk Try.prog 89 0 incident_Check_p2_code incident_Check_p2_v incident_Check_p2_o (incident_Check_p2_G (incident_Check_p2_u c_incident_changes c_incident_tasks c_incident_updates)) :=
  piece_exec (X := (incident_Check_X c_incident_Text c_incident_changes c_incident_in c_incident_number c_incident_persons c_incident_set c_incident_somebody c_incident_tasks c_incident_updates)) (p := 63) (Λ := pick1 []) mixed tab_ok hΓ (by kernel_rfl) CutsOk_nil (fun d ks r h => Eq.trans (b := incident_Check_p2_G (incident_Check_p2_u c_incident_changes c_incident_tasks c_incident_updates) d ks) (by kernel_rfl) h)
def incident_Check_s (p1 : incident_Check_p1_T) (p2 : incident_Check_p2_T) {β : Type} (x : api_Incident) (k : (Bool → Option β)) : Option β :=
  c_incident_number x.1 (fun (rnumber : Bool) =>
  cond (!rnumber)
  (k false)
  (c_incident_in x.2.2.1 (1 : Int) (5 : Int) (fun (rin : Bool) =>
  cond (!rin)
  (k false)
  (c_incident_in x.2.2.2.1 (0 : Int) (8589934592 : Int) (fun (rin2 : Bool) =>
  cond (!rin2)
  (k false)
  (c_incident_Text x.2.2.2.2.1 (fun (rText : Bool) =>
  cond (!rText)
  (k false)
  (p1 (fun (t2 : Bool) =>
  k t2) (fun (x2 : Int) (x3 : Int) (x4 : Int) (x5 : Int) (x6 : List UInt8) (x7 : Int) (x8 : Int) (x9 : Int) (x10 : List Int) (x11 : List api_Task) (x12 : List api_Update) (x13 : List Int) (x14 : List (Int × (Int × Int))) (x15 : Int) =>
  c_incident_set x10 (1 : Int) (999999 : Int) (fun (rset : Bool) =>
  cond (!rset)
  (k false)
  (cond (decide ((64 : Int) < (List.length x10 : Int)))
  (k false)
  (c_incident_persons x13 (fun (rpersons : Bool) =>
  cond (!rpersons)
  (k false)
  (let merged : Bool := (decide (x3 = (4 : Int)));
  cond merged
  (c_incident_number x15 (fun (rnumber2 : Bool) =>
  cond (!rnumber2)
  (k false)
  (cond (decide (x15 = x2))
  (k false)
  (cond (!merged)
  (cond (!decide (x15 = (0 : Int)))
  (k false)
  (p2 (fun (t2 : Bool) =>
  k t2) x2 x3 x4 x5 x6 x7 x8 x9 x10 x11 x12 x13 x14 x15))
  (p2 (fun (t2 : Bool) =>
  k t2) x2 x3 x4 x5 x6 x7 x8 x9 x10 x11 x12 x13 x14 x15)))))
  (cond (!merged)
  (cond (!decide (x15 = (0 : Int)))
  (k false)
  (p2 (fun (t2 : Bool) =>
  k t2) x2 x3 x4 x5 x6 x7 x8 x9 x10 x11 x12 x13 x14 x15))
  (p2 (fun (t2 : Bool) =>
  k t2) x2 x3 x4 x5 x6 x7 x8 x9 x10 x11 x12 x13 x14 x15)))))))) x.2.2.2.2.2.1.1 x.2.2.2.2.2.1.2.1 x.2.2.2.2.2.1.2.2 (0 : Int) x.1 x.2.1 x.2.2.1 x.2.2.2.1 x.2.2.2.2.1 x.2.2.2.2.2.1.1 x.2.2.2.2.2.1.2.1 x.2.2.2.2.2.1.2.2 x.2.2.2.2.2.2.1 x.2.2.2.2.2.2.2.1 x.2.2.2.2.2.2.2.2.1 x.2.2.2.2.2.2.2.2.2.1 x.2.2.2.2.2.2.2.2.2.2.1 x.2.2.2.2.2.2.2.2.2.2.2))))))))
theorem incident_Check_ok' (hΓ : ΓOk Try.prog (incident_Check_X c_incident_Text c_incident_changes c_incident_in c_incident_number c_incident_persons c_incident_set c_incident_somebody c_incident_tasks c_incident_updates).Γ) (p1 : incident_Check_p1_T) (p2 : incident_Check_p2_T) (hp1 : PieceOk Try.prog 89 0 incident_Check_p1_code incident_Check_p1_v incident_Check_p1_o (incident_Check_p1_G p1)) (hp2 : PieceOk Try.prog 89 0 incident_Check_p2_code incident_Check_p2_v incident_Check_p2_o (incident_Check_p2_G p2)) : SpecOk Try.prog 39 (incident_Check_S (incident_Check_s c_incident_Text c_incident_in c_incident_number c_incident_persons c_incident_set p1 p2)) :=
  spec_exec (X := (incident_Check_X c_incident_Text c_incident_changes c_incident_in c_incident_number c_incident_persons c_incident_set c_incident_somebody c_incident_tasks c_incident_updates)) (Λ := pick1 [(58, pieceCut incident_Check_p1_v incident_Check_p1_o (incident_Check_p1_G p1)), (63, pieceCut incident_Check_p2_v incident_Check_p2_o (incident_Check_p2_G p2))]) (rs := [.tmp 2]) (c := bodyOf Try.f39) mixed tab_ok hΓ Try.func39 (by kernel_rfl) (by kernel_rfl) (by kernel_rfl) (by kernel_rfl) (CutsOk_cons (q := 58) (c' := incident_Check_p1_code) (by kernel_rfl) rfl hp1 (CutsOk_cons (q := 63) (c' := incident_Check_p2_code) (by kernel_rfl) rfl hp2 CutsOk_nil)) (fun x k r h => Eq.trans (b := (incident_Check_S (incident_Check_s c_incident_Text c_incident_in c_incident_number c_incident_persons c_incident_set p1 p2)).run x k) (by kernel_rfl) h)
end
theorem incident_Check_Γ : ΓOk Try.prog (pick1 [(43, .spec (incident_Text_S incident_Text)), (86, .spec (incident_changes_S incident_changes)), (41, .spec (incident_in_S incident_in)), (81, .spec (incident_number_S incident_number)), (83, .spec (incident_persons_S incident_persons)), (82, .spec (incident_set_S incident_set)), (42, .spec (incident_somebody_S incident_somebody)), (84, .spec (incident_tasks_S incident_tasks)), (85, .spec (incident_updates_S incident_updates))]) := (ΓOk_cons incident_Text_ok (ΓOk_cons incident_changes_ok (ΓOk_cons incident_in_ok (ΓOk_cons incident_number_ok (ΓOk_cons incident_persons_ok (ΓOk_cons incident_set_ok (ΓOk_cons incident_somebody_ok (ΓOk_cons incident_tasks_ok (ΓOk_cons incident_updates_ok ΓOk_nil)))))))))
def incident_Check_p1_n (m : Nat) : incident_Check_p1_T := incident_Check_p1_l incident_somebody m
theorem incident_Check_p1_step {β : Type} (i : Nat) (k1 k2 t29 t292 t293 t30 x x2 x3 x4 x5 x6 x7 x8 x9 x10 x11 x12 x13 x14) : (incident_Check_p1_n (i + 1) k1 k2 t29 t292 t293 t30 x x2 x3 x4 x5 x6 x7 x8 x9 x10 x11 x12 x13 x14 : Option β) = incident_Check_p1_s incident_somebody (incident_Check_p1_n i k1 k2) k1 k2 t29 t292 t293 t30 x x2 x3 x4 x5 x6 x7 x8 x9 x10 x11 x12 x13 x14 := rfl
def incident_Check_p1 : incident_Check_p1_T := incident_Check_p1_n fuel
theorem incident_Check_p1_ok : PieceOk Try.prog 89 0 incident_Check_p1_code incident_Check_p1_v incident_Check_p1_o (incident_Check_p1_G incident_Check_p1) := incident_Check_p1_ok' incident_Text incident_changes incident_in incident_number incident_persons incident_set incident_somebody incident_tasks incident_updates incident_Check_Γ fuel
def incident_Check_p2 : incident_Check_p2_T := incident_Check_p2_u incident_changes incident_tasks incident_updates
theorem incident_Check_p2_ok : PieceOk Try.prog 89 0 incident_Check_p2_code incident_Check_p2_v incident_Check_p2_o (incident_Check_p2_G incident_Check_p2) := incident_Check_p2_ok' incident_Text incident_changes incident_in incident_number incident_persons incident_set incident_somebody incident_tasks incident_updates incident_Check_Γ
def incident_Check : T_incident_Check := incident_Check_s incident_Text incident_in incident_number incident_persons incident_set incident_Check_p1 incident_Check_p2
theorem incident_Check_ok : SpecOk Try.prog 39 (incident_Check_S incident_Check) := incident_Check_ok' incident_Text incident_changes incident_in incident_number incident_persons incident_set incident_somebody incident_tasks incident_updates incident_Check_Γ incident_Check_p1 incident_Check_p2 incident_Check_p1_ok incident_Check_p2_ok

/-- pagewatch/incident.changeable -/
abbrev T_incident_changeable := {β : Type} → api_Incident → Bool → (Int → Option β) → Option β
def incident_changeable_S (c : T_incident_changeable) : Spec :=
  ⟨[(true, [.data y_api_Incident]), (false, [.data .bool])], [], [(false, [.data (.int .i64)])], [], fun x k => c x.1.1.1 x.1.2.1.1 (fun r0 => k (((r0, ()), ()), ()))⟩
section
variable (c_incident_Check : T_incident_Check)
@[reducible] def incident_changeable_X : Ctx := ⟨look tab, pick1 [(39, .spec (incident_Check_S c_incident_Check))]⟩
def incident_changeable_s {β : Type} (x : api_Incident) (fits : Bool) (k : (Int → Option β)) : Option β :=
  c_incident_Check x (fun (rCheck : Bool) =>
  cond (!rCheck)
  (k (8 : Int))
  (cond (decide (x.2.1 = (3 : Int)))
  (k (9 : Int))
  (let t : Bool := (decide (x.2.1 = (4 : Int)));
  cond t
  (k (9 : Int))
  (cond (!fits)
  (k (1 : Int))
  (k (0 : Int))))))
theorem incident_changeable_ok' (hΓ : ΓOk Try.prog (incident_changeable_X c_incident_Check).Γ) : SpecOk Try.prog 40 (incident_changeable_S (incident_changeable_s c_incident_Check)) :=
  spec_exec (X := (incident_changeable_X c_incident_Check)) (Λ := pick1 []) (rs := [.tmp 4]) (c := bodyOf Try.f40) mixed tab_ok hΓ Try.func40 (by kernel_rfl) (by kernel_rfl) (by kernel_rfl) (by kernel_rfl) CutsOk_nil (fun x k r h => Eq.trans (b := (incident_changeable_S (incident_changeable_s c_incident_Check)).run x k) (by kernel_rfl) h)
end
theorem incident_changeable_Γ : ΓOk Try.prog (pick1 [(39, .spec (incident_Check_S incident_Check))]) := (ΓOk_cons incident_Check_ok ΓOk_nil)
def incident_changeable : T_incident_changeable := incident_changeable_s incident_Check
theorem incident_changeable_ok : SpecOk Try.prog 40 (incident_changeable_S incident_changeable) := incident_changeable_ok' incident_Check incident_changeable_Γ

/-- pagewatch/incident.can -/
abbrev T_incident_can := {β : Type} → api_Incident → Int → (Bool → Option β) → Option β
def incident_can_S (c : T_incident_can) : Spec :=
  ⟨[(true, [.data y_api_Incident]), (false, [.data (.int .i64)])], [], [(false, [.data .bool])], [], fun x k => c x.1.1.1 x.1.2.1.1 (fun r0 => k (((r0, ()), ()), ()))⟩
section
variable (c_incident_possible : T_incident_possible) (c_slices_Contains_int_int : T_slices_Contains_int_int)
@[reducible] def incident_can_X : Ctx := ⟨look tab, pick1 [(97, .spec (incident_possible_S c_incident_possible)), (63, .spec (slices_Contains_int_int_S c_slices_Contains_int_int))]⟩
def incident_can_s {β : Type} (x : api_Incident) (state : Int) (k : (Bool → Option β)) : Option β :=
  c_incident_possible  (fun (rpossible : (List Int × (List Int × (List Int × (List Int × List Int))))) =>
  cond (decide (0 ≤ x.2.1) && decide (x.2.1 < (List.length ([rpossible.1, rpossible.2.1, rpossible.2.2.1, rpossible.2.2.2.1, rpossible.2.2.2.2] : List (List Int)) : Int)))
  (let e : List Int := List.getD ([rpossible.1, rpossible.2.1, rpossible.2.2.1, rpossible.2.2.2.1, rpossible.2.2.2.2] : List (List Int)) (Int.toNat x.2.1) ([] : List Int);
  c_slices_Contains_int_int e state (fun (rContainsintint : Bool) =>
  k rContainsintint))
  none)
theorem incident_can_ok' (hΓ : ΓOk Try.prog (incident_can_X c_incident_possible c_slices_Contains_int_int).Γ) : SpecOk Try.prog 61 (incident_can_S (incident_can_s c_incident_possible c_slices_Contains_int_int)) :=
  spec_exec (X := (incident_can_X c_incident_possible c_slices_Contains_int_int)) (Λ := pick1 []) (rs := [.tmp 4]) (c := bodyOf Try.f61) mixed tab_ok hΓ Try.func61 (by kernel_rfl) (by kernel_rfl) (by kernel_rfl) (by kernel_rfl) CutsOk_nil (fun x k r h => Eq.trans (b := (incident_can_S (incident_can_s c_incident_possible c_slices_Contains_int_int)).run x k) (by kernel_rfl) h)
end
theorem incident_can_Γ : ΓOk Try.prog (pick1 [(97, .spec (incident_possible_S incident_possible)), (63, .spec (slices_Contains_int_int_S slices_Contains_int_int))]) := (ΓOk_cons incident_possible_ok (ΓOk_cons slices_Contains_int_int_ok ΓOk_nil))
def incident_can : T_incident_can := incident_can_s incident_possible slices_Contains_int_int
theorem incident_can_ok : SpecOk Try.prog 61 (incident_can_S incident_can) := incident_can_ok' incident_possible slices_Contains_int_int incident_can_Γ

/-- pagewatch/incident.Open -/
abbrev T_incident_Open := {β : Type} → Int → Int → Int → (List UInt8) → Int → (api_Incident → Int → Option β) → Option β
def incident_Open_S (c : T_incident_Open) : Spec :=
  ⟨[(false, [.data (.int .i64)]), (false, [.data (.int .i64)]), (false, [.data (.int .i64)]), (false, [.data .str]), (false, [.data (.int .i64)])], [], [(true, [.data y_api_Incident]), (false, [.data (.int .i64)])], [], fun x k => c x.1.1.1 x.1.2.1.1 x.1.2.2.1.1 x.1.2.2.2.1.1 x.1.2.2.2.2.1.1 (fun r0 r1 => k (((r0, ()), (r1, ()), ()), ()))⟩
noncomputable def incident_Open_p1_code : Code := codeAt 15 (bodyOf Try.f13)
abbrev incident_Open_p1_K1 (β : Type) := Int → Int → Int → Int → Int → (List UInt8) → Int → Int → Int → Int → (List Int) → (List api_Task) → (List api_Update) → (List Int) → (List (Int × (Int × Int))) → Option β
abbrev incident_Open_p1_T := {β : Type} → incident_Open_p1_K1 β → Int → Int → Int → Int → (List UInt8) → Int → Int → Int → Int → Int → Int → Int → Int → (List UInt8) → Int → Int → Int → Int → (List Int) → (List Int) → (List api_Task) → (List api_Update) → (List Int) → (List (Int × (Int × Int))) → (List api_Task) → (List api_Update) → (List Int) → (List (Int × (Int × Int))) → Option β
def incident_Open_p1_v : View := ⟨0, [10, 12], [(false, [.ptr 0 0]), (false, [.ptr 1 0])], [.cells 32 [.data (.int .i64), .data (.int .i64), .data (.int .i64), .data (.int .i64), .data .str, .data (.int .i64), .data (.int .i64), .data (.int .i64), .rowh 3, .rowh 4, .rowh 5, .rowh 6, .rowh 7, .data (.int .i64)], .cells 32 [.data (.int .i64), .data (.int .i64), .data (.int .i64), .data (.int .i64), .data .str, .data (.int .i64), .data (.int .i64), .data (.int .i64), .rowh 2, .rowh 8, .rowh 9, .rowh 10, .rowh 11, .data (.int .i64)], .row 3 (.int .i64), .row 3 (.int .i64), .row 40 y_api_Task, .row 84 y_api_Update, .row 3 (.int .i64), .row 106 (.prod (.int .i64) (.prod (.int .i64) (.int .i64))), .row 40 y_api_Task, .row 84 y_api_Update, .row 3 (.int .i64), .row 106 (.prod (.int .i64) (.prod (.int .i64) (.int .i64)))]⟩
def incident_Open_p1_o : List (AExit × View) := [(.ret, ⟨0, [10, 11], [(false, [.ptr 0 0]), (false, [.data (.int .i64)])], [.cells 32 [.data (.int .i64), .data (.int .i64), .data (.int .i64), .data (.int .i64), .data .str, .data (.int .i64), .data (.int .i64), .data (.int .i64), .rowh 1, .rowh 2, .rowh 3, .rowh 4, .rowh 5, .data (.int .i64)], .row 3 (.int .i64), .row 40 y_api_Task, .row 84 y_api_Update, .row 3 (.int .i64), .row 106 (.prod (.int .i64) (.prod (.int .i64) (.int .i64)))]⟩)]
@[reducible] def incident_Open_p1_G (p : incident_Open_p1_T) {β : Type} (d : incident_Open_p1_v.den) (ks : Outs.K β incident_Open_p1_o) : Option β :=
  p (fun a0 a1 a2 a3 a4 a5 a6 a7 a8 a9 a10 a11 a12 a13 a14 => ks.1 (((), (a0, ()), ()), ((a1, a2, a3, a4, a5, a6, a7, a8, a9, ()), a10, a11, a12, a13, a14, ()))) d.2.1.1 d.2.1.2.1 d.2.1.2.2.1 d.2.1.2.2.2.1 d.2.1.2.2.2.2.1 d.2.1.2.2.2.2.2.1 d.2.1.2.2.2.2.2.2.1 d.2.1.2.2.2.2.2.2.2.1 d.2.1.2.2.2.2.2.2.2.2.1 d.2.2.1.1 d.2.2.1.2.1 d.2.2.1.2.2.1 d.2.2.1.2.2.2.1 d.2.2.1.2.2.2.2.1 d.2.2.1.2.2.2.2.2.1 d.2.2.1.2.2.2.2.2.2.1 d.2.2.1.2.2.2.2.2.2.2.1 d.2.2.1.2.2.2.2.2.2.2.2.1 d.2.2.2.1 d.2.2.2.2.1 d.2.2.2.2.2.1 d.2.2.2.2.2.2.1 d.2.2.2.2.2.2.2.1 d.2.2.2.2.2.2.2.2.1 d.2.2.2.2.2.2.2.2.2.1 d.2.2.2.2.2.2.2.2.2.2.1 d.2.2.2.2.2.2.2.2.2.2.2.1 d.2.2.2.2.2.2.2.2.2.2.2.2.1
section
variable (c_incident_Check : T_incident_Check)
@[reducible] def incident_Open_X : Ctx := ⟨look tab, pick1 [(39, .spec (incident_Check_S c_incident_Check))]⟩
def incident_Open_p1_s {β : Type} (k1 : incident_Open_p1_K1 β) (t10 : Int) (t102 : Int) (t103 : Int) (t104 : Int) (t105 : List UInt8) (t106 : Int) (t107 : Int) (t108 : Int) (t109 : Int) (x : Int) (x2 : Int) (x3 : Int) (x4 : Int) (x5 : List UInt8) (x6 : Int) (x7 : Int) (x8 : Int) (x9 : Int) (b2_ : List Int) (b3_ : List Int) (b4_ : List api_Task) (b5_ : List api_Update) (b6_ : List Int) (b7_ : List (Int × (Int × Int))) (b8_ : List api_Task) (b9_ : List api_Update) (b10_ : List Int) (b11_ : List (Int × (Int × Int))) : Option β :=
  c_incident_Check (x, (x2, (x3, (x4, (x5, ((x6, (x7, x8)), (b2_, (b8_, (b9_, (b10_, (b11_, x9))))))))))) (fun (rCheck : Bool) =>
  cond (!rCheck)
  (k1 (8 : Int) (0 : Int) (0 : Int) (0 : Int) (0 : Int) ([] : List UInt8) (0 : Int) (0 : Int) (0 : Int) (0 : Int) ([] : List Int) ([] : List api_Task) ([] : List api_Update) ([] : List Int) ([] : List (Int × (Int × Int))))
  (k1 (0 : Int) x x2 x3 x4 x5 x6 x7 x8 x9 b2_ b8_ b9_ b10_ b11_))
def incident_Open_p1_u {β : Type} (k1 : incident_Open_p1_K1 β) (t10 : Int) (t102 : Int) (t103 : Int) (t104 : Int) (t105 : List UInt8) (t106 : Int) (t107 : Int) (t108 : Int) (t109 : Int) (x : Int) (x2 : Int) (x3 : Int) (x4 : Int) (x5 : List UInt8) (x6 : Int) (x7 : Int) (x8 : Int) (x9 : Int) (b2_ : List Int) (b3_ : List Int) (b4_ : List api_Task) (b5_ : List api_Update) (b6_ : List Int) (b7_ : List (Int × (Int × Int))) (b8_ : List api_Task) (b9_ : List api_Update) (b10_ : List Int) (b11_ : List (Int × (Int × Int))) : Option β := incident_Open_p1_s c_incident_Check k1 t10 t102 t103 t104 t105 t106 t107 t108 t109 x x2 x3 x4 x5 x6 x7 x8 x9 b2_ b3_ b4_ b5_ b6_ b7_ b8_ b9_ b10_ b11_
theorem incident_Open_p1_ok' (hΓ : ΓOk Try.prog (incident_Open_X c_incident_Check).Γ) : PieceOk Try.prog 29 0 incident_Open_p1_code incident_Open_p1_v incident_Open_p1_o (incident_Open_p1_G (incident_Open_p1_u c_incident_Check)) :=
  piece_exec (X := (incident_Open_X c_incident_Check)) (p := 15) (Λ := pick1 []) mixed tab_ok hΓ (by kernel_rfl) CutsOk_nil (fun d ks r h => Eq.trans (b := incident_Open_p1_G (incident_Open_p1_u c_incident_Check) d ks) (by kernel_rfl) h)
def incident_Open_s (p1 : incident_Open_p1_T) {β : Type} (id : Int) (at_ : Int) (severity : Int) (title : List UInt8) (page : Int) (k : (api_Incident → Int → Option β)) : Option β :=
  cond (!decide (page = (0 : Int)))
  (let l : List Int := ([page] : List Int);
  p1 (fun (t11 : Int) (t10 : Int) (t102 : Int) (t103 : Int) (t104 : Int) (t105 : List UInt8) (t106 : Int) (t107 : Int) (t108 : Int) (t109 : Int) (b1_ : List Int) (b2_ : List api_Task) (b3_ : List api_Update) (b4_ : List Int) (b5_ : List (Int × (Int × Int))) =>
  k (t10, (t102, (t103, (t104, (t105, ((t106, (t107, t108)), (b1_, (b2_, (b3_, (b4_, (b5_, t109))))))))))) t11) (0 : Int) (0 : Int) (0 : Int) (0 : Int) ([] : List UInt8) (0 : Int) (0 : Int) (0 : Int) (0 : Int) id (0 : Int) severity at_ title (-1 : Int) (-1 : Int) (-1 : Int) (0 : Int) l ([] : List Int) ([] : List api_Task) ([] : List api_Update) ([] : List Int) ([] : List (Int × (Int × Int))) ([] : List api_Task) ([] : List api_Update) ([] : List Int) ([] : List (Int × (Int × Int))))
  (p1 (fun (t11 : Int) (t10 : Int) (t102 : Int) (t103 : Int) (t104 : Int) (t105 : List UInt8) (t106 : Int) (t107 : Int) (t108 : Int) (t109 : Int) (b1_ : List Int) (b2_ : List api_Task) (b3_ : List api_Update) (b4_ : List Int) (b5_ : List (Int × (Int × Int))) =>
  k (t10, (t102, (t103, (t104, (t105, ((t106, (t107, t108)), (b1_, (b2_, (b3_, (b4_, (b5_, t109))))))))))) t11) (0 : Int) (0 : Int) (0 : Int) (0 : Int) ([] : List UInt8) (0 : Int) (0 : Int) (0 : Int) (0 : Int) id (0 : Int) severity at_ title (-1 : Int) (-1 : Int) (-1 : Int) (0 : Int) ([] : List Int) ([] : List Int) ([] : List api_Task) ([] : List api_Update) ([] : List Int) ([] : List (Int × (Int × Int))) ([] : List api_Task) ([] : List api_Update) ([] : List Int) ([] : List (Int × (Int × Int))))
theorem incident_Open_ok' (hΓ : ΓOk Try.prog (incident_Open_X c_incident_Check).Γ) (p1 : incident_Open_p1_T) (hp1 : PieceOk Try.prog 29 0 incident_Open_p1_code incident_Open_p1_v incident_Open_p1_o (incident_Open_p1_G p1)) : SpecOk Try.prog 13 (incident_Open_S (incident_Open_s p1)) :=
  spec_exec (X := (incident_Open_X c_incident_Check)) (Λ := pick1 [(15, pieceCut incident_Open_p1_v incident_Open_p1_o (incident_Open_p1_G p1))]) (rs := [.cell 10 32, .tmp 11]) (c := bodyOf Try.f13) mixed tab_ok hΓ Try.func13 (by kernel_rfl) (by kernel_rfl) (by kernel_rfl) (by kernel_rfl) (CutsOk_cons (q := 15) (c' := incident_Open_p1_code) (by kernel_rfl) rfl hp1 CutsOk_nil) (fun x k r h => Eq.trans (b := (incident_Open_S (incident_Open_s p1)).run x k) (by kernel_rfl) h)
end
theorem incident_Open_Γ : ΓOk Try.prog (pick1 [(39, .spec (incident_Check_S incident_Check))]) := (ΓOk_cons incident_Check_ok ΓOk_nil)
def incident_Open_p1 : incident_Open_p1_T := incident_Open_p1_u incident_Check
theorem incident_Open_p1_ok : PieceOk Try.prog 29 0 incident_Open_p1_code incident_Open_p1_v incident_Open_p1_o (incident_Open_p1_G incident_Open_p1) := incident_Open_p1_ok' incident_Check incident_Open_Γ
def incident_Open : T_incident_Open := incident_Open_s incident_Open_p1
theorem incident_Open_ok : SpecOk Try.prog 13 (incident_Open_S incident_Open) := incident_Open_ok' incident_Check incident_Open_Γ incident_Open_p1 incident_Open_p1_ok

/-- pagewatch/incident.Add -/
abbrev T_incident_Add := {β : Type} → api_Incident → Int → Int → (List UInt8) → (api_Incident → Int → Option β) → Option β
def incident_Add_S (c : T_incident_Add) : Spec :=
  ⟨[(true, [.data y_api_Incident]), (false, [.data (.int .i64)]), (false, [.data (.int .i64)]), (false, [.data .str])], [], [(true, [.data y_api_Incident]), (false, [.data (.int .i64)])], [], fun x k => c x.1.1.1 x.1.2.1.1 x.1.2.2.1.1 x.1.2.2.2.1.1 (fun r0 r1 => k (((r0, ()), (r1, ()), ()), ()))⟩
noncomputable def incident_Add_p1_code : Code := codeAt 7 (bodyOf Try.f15)
abbrev incident_Add_p1_K1 (β : Type) := Int → Int → Int → Int → Int → (List UInt8) → Int → Int → Int → Int → (List Int) → (List api_Task) → (List api_Update) → (List Int) → (List (Int × (Int × Int))) → Option β
abbrev incident_Add_p1_T := {β : Type} → incident_Add_p1_K1 β → Int → Int → (List UInt8) → Int → Int → Int → Int → (List UInt8) → Int → Int → Int → (List Int) → (List api_Task) → (List api_Update) → (List Int) → (List (Int × (Int × Int))) → Int → Int → Int → Int → Int → (List UInt8) → Int → Int → Int → Int → (List Int) → (List api_Task) → (List api_Update) → (List Int) → (List (Int × (Int × Int))) → Option β
def incident_Add_p1_v : View := ⟨0, [1, 2, 3, 4, 8], [(false, [.data (.int .i64)]), (false, [.data (.int .i64)]), (false, [.data .str]), (false, [.ptr 0 0]), (false, [.ptr 1 0])], [.cells 32 [.data (.int .i64), .data (.int .i64), .data (.int .i64), .data (.int .i64), .data .str, .data (.int .i64), .data (.int .i64), .data (.int .i64), .data (.slice (.int .i64)), .data (.slice y_api_Task), .data (.slice y_api_Update), .data (.slice (.int .i64)), .data (.slice (.prod (.int .i64) (.prod (.int .i64) (.int .i64)))), .data (.int .i64)], .cells 32 [.data (.int .i64), .data (.int .i64), .data (.int .i64), .data (.int .i64), .data .str, .data (.int .i64), .data (.int .i64), .data (.int .i64), .rowh 2, .rowh 3, .rowh 4, .rowh 5, .rowh 6, .data (.int .i64)], .row 3 (.int .i64), .row 40 y_api_Task, .row 84 y_api_Update, .row 3 (.int .i64), .row 106 (.prod (.int .i64) (.prod (.int .i64) (.int .i64)))]⟩
def incident_Add_p1_o : List (AExit × View) := [(.ret, ⟨0, [8, 9], [(false, [.ptr 0 0]), (false, [.data (.int .i64)])], [.cells 32 [.data (.int .i64), .data (.int .i64), .data (.int .i64), .data (.int .i64), .data .str, .data (.int .i64), .data (.int .i64), .data (.int .i64), .rowh 1, .rowh 2, .rowh 3, .rowh 4, .rowh 5, .data (.int .i64)], .row 3 (.int .i64), .row 40 y_api_Task, .row 84 y_api_Update, .row 3 (.int .i64), .row 106 (.prod (.int .i64) (.prod (.int .i64) (.int .i64)))]⟩)]
@[reducible] def incident_Add_p1_G (p : incident_Add_p1_T) {β : Type} (d : incident_Add_p1_v.den) (ks : Outs.K β incident_Add_p1_o) : Option β :=
  p (fun a0 a1 a2 a3 a4 a5 a6 a7 a8 a9 a10 a11 a12 a13 a14 => ks.1 (((), (a0, ()), ()), ((a1, a2, a3, a4, a5, a6, a7, a8, a9, ()), a10, a11, a12, a13, a14, ()))) d.1.1.1 d.1.2.1.1 d.1.2.2.1.1 d.2.1.1 d.2.1.2.1 d.2.1.2.2.1 d.2.1.2.2.2.1 d.2.1.2.2.2.2.1 d.2.1.2.2.2.2.2.1 d.2.1.2.2.2.2.2.2.1 d.2.1.2.2.2.2.2.2.2.1 d.2.1.2.2.2.2.2.2.2.2.1 d.2.1.2.2.2.2.2.2.2.2.2.1 d.2.1.2.2.2.2.2.2.2.2.2.2.1 d.2.1.2.2.2.2.2.2.2.2.2.2.2.1 d.2.1.2.2.2.2.2.2.2.2.2.2.2.2.1 d.2.1.2.2.2.2.2.2.2.2.2.2.2.2.2.1 d.2.2.1.1 d.2.2.1.2.1 d.2.2.1.2.2.1 d.2.2.1.2.2.2.1 d.2.2.1.2.2.2.2.1 d.2.2.1.2.2.2.2.2.1 d.2.2.1.2.2.2.2.2.2.1 d.2.2.1.2.2.2.2.2.2.2.1 d.2.2.1.2.2.2.2.2.2.2.2.1 d.2.2.2.1 d.2.2.2.2.1 d.2.2.2.2.2.1 d.2.2.2.2.2.2.1 d.2.2.2.2.2.2.2.1
section
variable (c_incident_Text : T_incident_Text) (c_incident_changeable : T_incident_changeable) (c_incident_copied : T_incident_copied) (c_incident_in : T_incident_in) (c_incident_somebody : T_incident_somebody)
@[reducible] def incident_Add_X : Ctx := ⟨look tab, pick1 [(43, .spec (incident_Text_S c_incident_Text)), (40, .spec (incident_changeable_S c_incident_changeable)), (44, .spec (incident_copied_S c_incident_copied)), (41, .spec (incident_in_S c_incident_in)), (42, .spec (incident_somebody_S c_incident_somebody))]⟩
def incident_Add_p1_s {β : Type} (k1 : incident_Add_p1_K1 β) (at_ : Int) (person : Int) (text : List UInt8) (x : Int) (x2 : Int) (x3 : Int) (x4 : Int) (x5 : List UInt8) (x6 : Int) (x7 : Int) (x8 : Int) (x9 : List Int) (x10 : List api_Task) (x11 : List api_Update) (x12 : List Int) (x13 : List (Int × (Int × Int))) (x14 : Int) (t8 : Int) (t82 : Int) (t83 : Int) (t84 : Int) (t85 : List UInt8) (t86 : Int) (t87 : Int) (t88 : Int) (t89 : Int) (b2_ : List Int) (b3_ : List api_Task) (b4_ : List api_Update) (b5_ : List Int) (b6_ : List (Int × (Int × Int))) : Option β :=
  c_incident_Text text (fun (rText : Bool) =>
  cond (!rText)
  (k1 (2 : Int) (0 : Int) (0 : Int) (0 : Int) (0 : Int) ([] : List UInt8) (0 : Int) (0 : Int) (0 : Int) (0 : Int) ([] : List Int) ([] : List api_Task) ([] : List api_Update) ([] : List Int) ([] : List (Int × (Int × Int))))
  (cond (decide ((List.length x10 : Int) = (16 : Int)))
  (k1 (5 : Int) (0 : Int) (0 : Int) (0 : Int) (0 : Int) ([] : List UInt8) (0 : Int) (0 : Int) (0 : Int) (0 : Int) ([] : List Int) ([] : List api_Task) ([] : List api_Update) ([] : List Int) ([] : List (Int × (Int × Int))))
  (c_incident_copied (x, (x2, (x3, (x4, (x5, ((x6, (x7, x8)), (x9, (x10, (x11, (x12, (x13, x14))))))))))) (fun (rcopied : Int) (rcopied2 : Int) (rcopied3 : Int) (rcopied4 : Int) (rcopied5 : List UInt8) (rcopied6 : Int) (rcopied7 : Int) (rcopied8 : Int) (rcopied9 : Int) (lrcopied : List Int) (lrcopied2 : List api_Task) (lrcopied3 : List api_Update) (lrcopied4 : List Int) (lrcopied5 : List (Int × (Int × Int))) =>
  let l : List api_Task := ([(text, (person, (at_, (-1 : Int))))] : List api_Task);
  cond (decide ((List.length lrcopied2 + List.length l) * 40 ≤ roomMax))
  (let l2 : List api_Task := (lrcopied2 ++ l);
  k1 (0 : Int) rcopied rcopied2 rcopied3 rcopied4 rcopied5 rcopied6 rcopied7 rcopied8 rcopied9 lrcopied l2 lrcopied3 lrcopied4 lrcopied5)
  none))))
def incident_Add_p1_u {β : Type} (k1 : incident_Add_p1_K1 β) (at_ : Int) (person : Int) (text : List UInt8) (x : Int) (x2 : Int) (x3 : Int) (x4 : Int) (x5 : List UInt8) (x6 : Int) (x7 : Int) (x8 : Int) (x9 : List Int) (x10 : List api_Task) (x11 : List api_Update) (x12 : List Int) (x13 : List (Int × (Int × Int))) (x14 : Int) (t8 : Int) (t82 : Int) (t83 : Int) (t84 : Int) (t85 : List UInt8) (t86 : Int) (t87 : Int) (t88 : Int) (t89 : Int) (b2_ : List Int) (b3_ : List api_Task) (b4_ : List api_Update) (b5_ : List Int) (b6_ : List (Int × (Int × Int))) : Option β := incident_Add_p1_s c_incident_Text c_incident_copied k1 at_ person text x x2 x3 x4 x5 x6 x7 x8 x9 x10 x11 x12 x13 x14 t8 t82 t83 t84 t85 t86 t87 t88 t89 b2_ b3_ b4_ b5_ b6_
theorem incident_Add_p1_ok' (hΓ : ΓOk Try.prog (incident_Add_X c_incident_Text c_incident_changeable c_incident_copied c_incident_in c_incident_somebody).Γ) : PieceOk Try.prog 46 0 incident_Add_p1_code incident_Add_p1_v incident_Add_p1_o (incident_Add_p1_G (incident_Add_p1_u c_incident_Text c_incident_copied)) :=
  piece_exec (X := (incident_Add_X c_incident_Text c_incident_changeable c_incident_copied c_incident_in c_incident_somebody)) (p := 7) (Λ := pick1 []) mixed tab_ok hΓ (by kernel_rfl) CutsOk_nil (fun d ks r h => Eq.trans (b := incident_Add_p1_G (incident_Add_p1_u c_incident_Text c_incident_copied) d ks) (by kernel_rfl) h)
def incident_Add_s (p1 : incident_Add_p1_T) {β : Type} (x : api_Incident) (at_ : Int) (person : Int) (text : List UInt8) (k : (api_Incident → Int → Option β)) : Option β :=
  c_incident_in at_ x.2.2.2.1 (8589934592 : Int) (fun (rin : Bool) =>
  cond rin
  (c_incident_somebody person (fun (rsomebody : Bool) =>
  c_incident_changeable x rsomebody (fun (rchangeable : Int) =>
  cond (!decide (rchangeable = (0 : Int)))
  (k ((0 : Int), ((0 : Int), ((0 : Int), ((0 : Int), (([] : List UInt8), (((0 : Int), ((0 : Int), (0 : Int))), (([] : List Int), (([] : List api_Task), (([] : List api_Update), (([] : List Int), (([] : List (Int × (Int × Int))), (0 : Int)))))))))))) rchangeable)
  (p1 (fun (t9 : Int) (t8 : Int) (t82 : Int) (t83 : Int) (t84 : Int) (t85 : List UInt8) (t86 : Int) (t87 : Int) (t88 : Int) (t89 : Int) (b1_ : List Int) (b2_ : List api_Task) (b3_ : List api_Update) (b4_ : List Int) (b5_ : List (Int × (Int × Int))) =>
  k (t8, (t82, (t83, (t84, (t85, ((t86, (t87, t88)), (b1_, (b2_, (b3_, (b4_, (b5_, t89))))))))))) t9) at_ person text x.1 x.2.1 x.2.2.1 x.2.2.2.1 x.2.2.2.2.1 x.2.2.2.2.2.1.1 x.2.2.2.2.2.1.2.1 x.2.2.2.2.2.1.2.2 x.2.2.2.2.2.2.1 x.2.2.2.2.2.2.2.1 x.2.2.2.2.2.2.2.2.1 x.2.2.2.2.2.2.2.2.2.1 x.2.2.2.2.2.2.2.2.2.2.1 x.2.2.2.2.2.2.2.2.2.2.2 (0 : Int) (0 : Int) (0 : Int) (0 : Int) ([] : List UInt8) (0 : Int) (0 : Int) (0 : Int) (0 : Int) ([] : List Int) ([] : List api_Task) ([] : List api_Update) ([] : List Int) ([] : List (Int × (Int × Int)))))))
  (c_incident_changeable x false (fun (rchangeable : Int) =>
  cond (!decide (rchangeable = (0 : Int)))
  (k ((0 : Int), ((0 : Int), ((0 : Int), ((0 : Int), (([] : List UInt8), (((0 : Int), ((0 : Int), (0 : Int))), (([] : List Int), (([] : List api_Task), (([] : List api_Update), (([] : List Int), (([] : List (Int × (Int × Int))), (0 : Int)))))))))))) rchangeable)
  (p1 (fun (t9 : Int) (t8 : Int) (t82 : Int) (t83 : Int) (t84 : Int) (t85 : List UInt8) (t86 : Int) (t87 : Int) (t88 : Int) (t89 : Int) (b1_ : List Int) (b2_ : List api_Task) (b3_ : List api_Update) (b4_ : List Int) (b5_ : List (Int × (Int × Int))) =>
  k (t8, (t82, (t83, (t84, (t85, ((t86, (t87, t88)), (b1_, (b2_, (b3_, (b4_, (b5_, t89))))))))))) t9) at_ person text x.1 x.2.1 x.2.2.1 x.2.2.2.1 x.2.2.2.2.1 x.2.2.2.2.2.1.1 x.2.2.2.2.2.1.2.1 x.2.2.2.2.2.1.2.2 x.2.2.2.2.2.2.1 x.2.2.2.2.2.2.2.1 x.2.2.2.2.2.2.2.2.1 x.2.2.2.2.2.2.2.2.2.1 x.2.2.2.2.2.2.2.2.2.2.1 x.2.2.2.2.2.2.2.2.2.2.2 (0 : Int) (0 : Int) (0 : Int) (0 : Int) ([] : List UInt8) (0 : Int) (0 : Int) (0 : Int) (0 : Int) ([] : List Int) ([] : List api_Task) ([] : List api_Update) ([] : List Int) ([] : List (Int × (Int × Int)))))))
theorem incident_Add_ok' (hΓ : ΓOk Try.prog (incident_Add_X c_incident_Text c_incident_changeable c_incident_copied c_incident_in c_incident_somebody).Γ) (p1 : incident_Add_p1_T) (hp1 : PieceOk Try.prog 46 0 incident_Add_p1_code incident_Add_p1_v incident_Add_p1_o (incident_Add_p1_G p1)) : SpecOk Try.prog 15 (incident_Add_S (incident_Add_s c_incident_changeable c_incident_in c_incident_somebody p1)) :=
  spec_exec (X := (incident_Add_X c_incident_Text c_incident_changeable c_incident_copied c_incident_in c_incident_somebody)) (Λ := pick1 [(7, pieceCut incident_Add_p1_v incident_Add_p1_o (incident_Add_p1_G p1))]) (rs := [.cell 8 32, .tmp 9]) (c := bodyOf Try.f15) mixed tab_ok hΓ Try.func15 (by kernel_rfl) (by kernel_rfl) (by kernel_rfl) (by kernel_rfl) (CutsOk_cons (q := 7) (c' := incident_Add_p1_code) (by kernel_rfl) rfl hp1 CutsOk_nil) (fun x k r h => Eq.trans (b := (incident_Add_S (incident_Add_s c_incident_changeable c_incident_in c_incident_somebody p1)).run x k) (by kernel_rfl) h)
end
theorem incident_Add_Γ : ΓOk Try.prog (pick1 [(43, .spec (incident_Text_S incident_Text)), (40, .spec (incident_changeable_S incident_changeable)), (44, .spec (incident_copied_S incident_copied)), (41, .spec (incident_in_S incident_in)), (42, .spec (incident_somebody_S incident_somebody))]) := (ΓOk_cons incident_Text_ok (ΓOk_cons incident_changeable_ok (ΓOk_cons incident_copied_ok (ΓOk_cons incident_in_ok (ΓOk_cons incident_somebody_ok ΓOk_nil)))))
def incident_Add_p1 : incident_Add_p1_T := incident_Add_p1_u incident_Text incident_copied
theorem incident_Add_p1_ok : PieceOk Try.prog 46 0 incident_Add_p1_code incident_Add_p1_v incident_Add_p1_o (incident_Add_p1_G incident_Add_p1) := incident_Add_p1_ok' incident_Text incident_changeable incident_copied incident_in incident_somebody incident_Add_Γ
def incident_Add : T_incident_Add := incident_Add_s incident_changeable incident_in incident_somebody incident_Add_p1
theorem incident_Add_ok : SpecOk Try.prog 15 (incident_Add_S incident_Add) := incident_Add_ok' incident_Text incident_changeable incident_copied incident_in incident_somebody incident_Add_Γ incident_Add_p1 incident_Add_p1_ok

/-- pagewatch/incident.Finish -/
abbrev T_incident_Finish := {β : Type} → api_Incident → Int → Int → (api_Incident → Int → Option β) → Option β
def incident_Finish_S (c : T_incident_Finish) : Spec :=
  ⟨[(true, [.data y_api_Incident]), (false, [.data (.int .i64)]), (false, [.data (.int .i64)])], [], [(true, [.data y_api_Incident]), (false, [.data (.int .i64)])], [], fun x k => c x.1.1.1 x.1.2.1.1 x.1.2.2.1.1 (fun r0 r1 => k (((r0, ()), (r1, ()), ()), ()))⟩
section
variable (c_incident_changeable : T_incident_changeable) (c_incident_copied : T_incident_copied) (c_incident_in : T_incident_in)
@[reducible] def incident_Finish_X : Ctx := ⟨look tab, pick1 [(40, .spec (incident_changeable_S c_incident_changeable)), (44, .spec (incident_copied_S c_incident_copied)), (41, .spec (incident_in_S c_incident_in))]⟩
def incident_Finish_s {β : Type} (x : api_Incident) (task : Int) (at_ : Int) (k : (api_Incident → Int → Option β)) : Option β :=
  c_incident_in at_ x.2.2.2.1 (8589934592 : Int) (fun (rin : Bool) =>
  c_incident_changeable x rin (fun (rchangeable : Int) =>
  cond (!decide (rchangeable = (0 : Int)))
  (k ((0 : Int), ((0 : Int), ((0 : Int), ((0 : Int), (([] : List UInt8), (((0 : Int), ((0 : Int), (0 : Int))), (([] : List Int), (([] : List api_Task), (([] : List api_Update), (([] : List Int), (([] : List (Int × (Int × Int))), (0 : Int)))))))))))) rchangeable)
  (c_incident_in task (0 : Int) (IntKind.i64.wrap ((List.length x.2.2.2.2.2.2.2.1 : Int) - (1 : Int))) (fun (rin2 : Bool) =>
  cond (!rin2)
  (k ((0 : Int), ((0 : Int), ((0 : Int), ((0 : Int), (([] : List UInt8), (((0 : Int), ((0 : Int), (0 : Int))), (([] : List Int), (([] : List api_Task), (([] : List api_Update), (([] : List Int), (([] : List (Int × (Int × Int))), (0 : Int)))))))))))) (3 : Int))
  (cond (decide (0 ≤ task) && decide (task < (List.length x.2.2.2.2.2.2.2.1 : Int)))
  (let e : api_Task := List.getD x.2.2.2.2.2.2.2.1 (Int.toNat task) (([] : List UInt8), ((0 : Int), ((0 : Int), (0 : Int))));
  let t : Bool := (!decide (e.2.2.2 = (-1 : Int)));
  cond t
  (k ((0 : Int), ((0 : Int), ((0 : Int), ((0 : Int), (([] : List UInt8), (((0 : Int), ((0 : Int), (0 : Int))), (([] : List Int), (([] : List api_Task), (([] : List api_Update), (([] : List Int), (([] : List (Int × (Int × Int))), (0 : Int)))))))))))) (9 : Int))
  (cond (decide (0 ≤ task) && decide (task < (List.length x.2.2.2.2.2.2.2.1 : Int)))
  (let e2 : api_Task := List.getD x.2.2.2.2.2.2.2.1 (Int.toNat task) (([] : List UInt8), ((0 : Int), ((0 : Int), (0 : Int))));
  let t2 : Bool := (decide (at_ < e2.2.2.1));
  cond t2
  (k ((0 : Int), ((0 : Int), ((0 : Int), ((0 : Int), (([] : List UInt8), (((0 : Int), ((0 : Int), (0 : Int))), (([] : List Int), (([] : List api_Task), (([] : List api_Update), (([] : List Int), (([] : List (Int × (Int × Int))), (0 : Int)))))))))))) (1 : Int))
  (c_incident_copied x (fun (rcopied : Int) (rcopied2 : Int) (rcopied3 : Int) (rcopied4 : Int) (rcopied5 : List UInt8) (rcopied6 : Int) (rcopied7 : Int) (rcopied8 : Int) (rcopied9 : Int) (lrcopied : List Int) (lrcopied2 : List api_Task) (lrcopied3 : List api_Update) (lrcopied4 : List Int) (lrcopied5 : List (Int × (Int × Int))) =>
  cond (decide (0 ≤ task) && decide (task < (List.length lrcopied2 : Int)))
  (let l : List api_Task := (List.set lrcopied2 (Int.toNat task) ((List.getD lrcopied2 (Int.toNat task) (([] : List UInt8), ((0 : Int), ((0 : Int), (0 : Int))))).1, (((List.getD lrcopied2 (Int.toNat task) (([] : List UInt8), ((0 : Int), ((0 : Int), (0 : Int))))).2).1, ((((List.getD lrcopied2 (Int.toNat task) (([] : List UInt8), ((0 : Int), ((0 : Int), (0 : Int))))).2).2).1, at_))));
  k (rcopied, (rcopied2, (rcopied3, (rcopied4, (rcopied5, ((rcopied6, (rcopied7, rcopied8)), (lrcopied, (l, (lrcopied3, (lrcopied4, (lrcopied5, rcopied9))))))))))) (0 : Int))
  none)))
  none))
  none)))))
theorem incident_Finish_ok' (hΓ : ΓOk Try.prog (incident_Finish_X c_incident_changeable c_incident_copied c_incident_in).Γ) : SpecOk Try.prog 16 (incident_Finish_S (incident_Finish_s c_incident_changeable c_incident_copied c_incident_in)) :=
  spec_exec (X := (incident_Finish_X c_incident_changeable c_incident_copied c_incident_in)) (Λ := pick1 []) (rs := [.cell 6 32, .tmp 7]) (c := bodyOf Try.f16) mixed tab_ok hΓ Try.func16 (by kernel_rfl) (by kernel_rfl) (by kernel_rfl) (by kernel_rfl) CutsOk_nil (fun x k r h => Eq.trans (b := (incident_Finish_S (incident_Finish_s c_incident_changeable c_incident_copied c_incident_in)).run x k) (by kernel_rfl) h)
end
theorem incident_Finish_Γ : ΓOk Try.prog (pick1 [(40, .spec (incident_changeable_S incident_changeable)), (44, .spec (incident_copied_S incident_copied)), (41, .spec (incident_in_S incident_in))]) := (ΓOk_cons incident_changeable_ok (ΓOk_cons incident_copied_ok (ΓOk_cons incident_in_ok ΓOk_nil)))
def incident_Finish : T_incident_Finish := incident_Finish_s incident_changeable incident_copied incident_in
theorem incident_Finish_ok : SpecOk Try.prog 16 (incident_Finish_S incident_Finish) := incident_Finish_ok' incident_changeable incident_copied incident_in incident_Finish_Γ

/-- pagewatch/incident.Move -/
abbrev T_incident_Move := {β : Type} → api_Incident → Int → Int → Int → (api_Incident → Int → Option β) → Option β
def incident_Move_S (c : T_incident_Move) : Spec :=
  ⟨[(true, [.data y_api_Incident]), (false, [.data (.int .i64)]), (false, [.data (.int .i64)]), (false, [.data (.int .i64)])], [], [(true, [.data y_api_Incident]), (false, [.data (.int .i64)])], [], fun x k => c x.1.1.1 x.1.2.1.1 x.1.2.2.1.1 x.1.2.2.2.1.1 (fun r0 r1 => k (((r0, ()), (r1, ()), ()), ()))⟩
noncomputable def incident_Move_p1_code : Code := codeAt 7 (bodyOf Try.f26)
abbrev incident_Move_p1_K1 (β : Type) := Int → Int → Int → Int → Int → (List UInt8) → Int → Int → Int → Int → (List Int) → (List api_Task) → (List api_Update) → (List Int) → (List (Int × (Int × Int))) → Option β
abbrev incident_Move_p1_T := {β : Type} → incident_Move_p1_K1 β → Int → Int → Int → Int → Int → Int → Int → (List UInt8) → Int → Int → Int → (List Int) → (List api_Task) → (List api_Update) → (List Int) → (List (Int × (Int × Int))) → Int → Int → Int → Int → Int → (List UInt8) → Int → Int → Int → Int → (List Int) → (List api_Task) → (List api_Update) → (List Int) → (List (Int × (Int × Int))) → Option β
def incident_Move_p1_v : View := ⟨0, [1, 2, 3, 4, 8], [(false, [.data (.int .i64)]), (false, [.data (.int .i64)]), (false, [.data (.int .i64)]), (false, [.ptr 0 0]), (false, [.ptr 1 0])], [.cells 32 [.data (.int .i64), .data (.int .i64), .data (.int .i64), .data (.int .i64), .data .str, .data (.int .i64), .data (.int .i64), .data (.int .i64), .data (.slice (.int .i64)), .data (.slice y_api_Task), .data (.slice y_api_Update), .data (.slice (.int .i64)), .data (.slice (.prod (.int .i64) (.prod (.int .i64) (.int .i64)))), .data (.int .i64)], .cells 32 [.data (.int .i64), .data (.int .i64), .data (.int .i64), .data (.int .i64), .data .str, .data (.int .i64), .data (.int .i64), .data (.int .i64), .rowh 2, .rowh 3, .rowh 4, .rowh 5, .rowh 6, .data (.int .i64)], .row 3 (.int .i64), .row 40 y_api_Task, .row 84 y_api_Update, .row 3 (.int .i64), .row 106 (.prod (.int .i64) (.prod (.int .i64) (.int .i64)))]⟩
def incident_Move_p1_o : List (AExit × View) := [(.ret, ⟨0, [8, 9], [(false, [.ptr 0 0]), (false, [.data (.int .i64)])], [.cells 32 [.data (.int .i64), .data (.int .i64), .data (.int .i64), .data (.int .i64), .data .str, .data (.int .i64), .data (.int .i64), .data (.int .i64), .rowh 1, .rowh 2, .rowh 3, .rowh 4, .rowh 5, .data (.int .i64)], .row 3 (.int .i64), .row 40 y_api_Task, .row 84 y_api_Update, .row 3 (.int .i64), .row 106 (.prod (.int .i64) (.prod (.int .i64) (.int .i64)))]⟩)]
@[reducible] def incident_Move_p1_G (p : incident_Move_p1_T) {β : Type} (d : incident_Move_p1_v.den) (ks : Outs.K β incident_Move_p1_o) : Option β :=
  p (fun a0 a1 a2 a3 a4 a5 a6 a7 a8 a9 a10 a11 a12 a13 a14 => ks.1 (((), (a0, ()), ()), ((a1, a2, a3, a4, a5, a6, a7, a8, a9, ()), a10, a11, a12, a13, a14, ()))) d.1.1.1 d.1.2.1.1 d.1.2.2.1.1 d.2.1.1 d.2.1.2.1 d.2.1.2.2.1 d.2.1.2.2.2.1 d.2.1.2.2.2.2.1 d.2.1.2.2.2.2.2.1 d.2.1.2.2.2.2.2.2.1 d.2.1.2.2.2.2.2.2.2.1 d.2.1.2.2.2.2.2.2.2.2.1 d.2.1.2.2.2.2.2.2.2.2.2.1 d.2.1.2.2.2.2.2.2.2.2.2.2.1 d.2.1.2.2.2.2.2.2.2.2.2.2.2.1 d.2.1.2.2.2.2.2.2.2.2.2.2.2.2.1 d.2.1.2.2.2.2.2.2.2.2.2.2.2.2.2.1 d.2.2.1.1 d.2.2.1.2.1 d.2.2.1.2.2.1 d.2.2.1.2.2.2.1 d.2.2.1.2.2.2.2.1 d.2.2.1.2.2.2.2.2.1 d.2.2.1.2.2.2.2.2.2.1 d.2.2.1.2.2.2.2.2.2.2.1 d.2.2.1.2.2.2.2.2.2.2.2.1 d.2.2.2.1 d.2.2.2.2.1 d.2.2.2.2.2.1 d.2.2.2.2.2.2.1 d.2.2.2.2.2.2.2.1
section
variable (c_incident_can : T_incident_can) (c_incident_changeable : T_incident_changeable) (c_incident_copied : T_incident_copied) (c_incident_in : T_incident_in) (c_incident_latest : T_incident_latest) (c_incident_somebody : T_incident_somebody)
@[reducible] def incident_Move_X : Ctx := ⟨look tab, pick1 [(61, .spec (incident_can_S c_incident_can)), (40, .spec (incident_changeable_S c_incident_changeable)), (44, .spec (incident_copied_S c_incident_copied)), (41, .spec (incident_in_S c_incident_in)), (60, .spec (incident_latest_S c_incident_latest)), (42, .spec (incident_somebody_S c_incident_somebody))]⟩
def incident_Move_p1_s {β : Type} (k1 : incident_Move_p1_K1 β) (at_ : Int) (state : Int) (person : Int) (x : Int) (x2 : Int) (x3 : Int) (x4 : Int) (x5 : List UInt8) (x6 : Int) (x7 : Int) (x8 : Int) (x9 : List Int) (x10 : List api_Task) (x11 : List api_Update) (x12 : List Int) (x13 : List (Int × (Int × Int))) (x14 : Int) (t8 : Int) (t82 : Int) (t83 : Int) (t84 : Int) (t85 : List UInt8) (t86 : Int) (t87 : Int) (t88 : Int) (t89 : Int) (b2_ : List Int) (b3_ : List api_Task) (b4_ : List api_Update) (b5_ : List Int) (b6_ : List (Int × (Int × Int))) : Option β :=
  cond (decide (state = (4 : Int)))
  (k1 (9 : Int) (0 : Int) (0 : Int) (0 : Int) (0 : Int) ([] : List UInt8) (0 : Int) (0 : Int) (0 : Int) (0 : Int) ([] : List Int) ([] : List api_Task) ([] : List api_Update) ([] : List Int) ([] : List (Int × (Int × Int))))
  (c_incident_can (x, (x2, (x3, (x4, (x5, ((x6, (x7, x8)), (x9, (x10, (x11, (x12, (x13, x14))))))))))) state (fun (rcan : Bool) =>
  cond (!rcan)
  (k1 (9 : Int) (0 : Int) (0 : Int) (0 : Int) (0 : Int) ([] : List UInt8) (0 : Int) (0 : Int) (0 : Int) (0 : Int) ([] : List Int) ([] : List api_Task) ([] : List api_Update) ([] : List Int) ([] : List (Int × (Int × Int))))
  (cond (decide ((List.length x13 : Int) = (32 : Int)))
  (k1 (5 : Int) (0 : Int) (0 : Int) (0 : Int) (0 : Int) ([] : List UInt8) (0 : Int) (0 : Int) (0 : Int) (0 : Int) ([] : List Int) ([] : List api_Task) ([] : List api_Update) ([] : List Int) ([] : List (Int × (Int × Int))))
  (c_incident_copied (x, (x2, (x3, (x4, (x5, ((x6, (x7, x8)), (x9, (x10, (x11, (x12, (x13, x14))))))))))) (fun (rcopied : Int) (rcopied2 : Int) (rcopied3 : Int) (rcopied4 : Int) (rcopied5 : List UInt8) (rcopied6 : Int) (rcopied7 : Int) (rcopied8 : Int) (rcopied9 : Int) (lrcopied : List Int) (lrcopied2 : List api_Task) (lrcopied3 : List api_Update) (lrcopied4 : List Int) (lrcopied5 : List (Int × (Int × Int))) =>
  let l : List (Int × (Int × Int)) := ([(at_, (state, person))] : List (Int × (Int × Int)));
  cond (decide ((List.length lrcopied5 + List.length l) * 24 ≤ roomMax))
  (let l2 : List (Int × (Int × Int)) := (lrcopied5 ++ l);
  k1 (0 : Int) rcopied state rcopied3 rcopied4 rcopied5 rcopied6 rcopied7 rcopied8 rcopied9 lrcopied lrcopied2 lrcopied3 lrcopied4 l2)
  none)))))
def incident_Move_p1_u {β : Type} (k1 : incident_Move_p1_K1 β) (at_ : Int) (state : Int) (person : Int) (x : Int) (x2 : Int) (x3 : Int) (x4 : Int) (x5 : List UInt8) (x6 : Int) (x7 : Int) (x8 : Int) (x9 : List Int) (x10 : List api_Task) (x11 : List api_Update) (x12 : List Int) (x13 : List (Int × (Int × Int))) (x14 : Int) (t8 : Int) (t82 : Int) (t83 : Int) (t84 : Int) (t85 : List UInt8) (t86 : Int) (t87 : Int) (t88 : Int) (t89 : Int) (b2_ : List Int) (b3_ : List api_Task) (b4_ : List api_Update) (b5_ : List Int) (b6_ : List (Int × (Int × Int))) : Option β := incident_Move_p1_s c_incident_can c_incident_copied k1 at_ state person x x2 x3 x4 x5 x6 x7 x8 x9 x10 x11 x12 x13 x14 t8 t82 t83 t84 t85 t86 t87 t88 t89 b2_ b3_ b4_ b5_ b6_
theorem incident_Move_p1_ok' (hΓ : ΓOk Try.prog (incident_Move_X c_incident_can c_incident_changeable c_incident_copied c_incident_in c_incident_latest c_incident_somebody).Γ) : PieceOk Try.prog 53 0 incident_Move_p1_code incident_Move_p1_v incident_Move_p1_o (incident_Move_p1_G (incident_Move_p1_u c_incident_can c_incident_copied)) :=
  piece_exec (X := (incident_Move_X c_incident_can c_incident_changeable c_incident_copied c_incident_in c_incident_latest c_incident_somebody)) (p := 7) (Λ := pick1 []) mixed tab_ok hΓ (by kernel_rfl) CutsOk_nil (fun d ks r h => Eq.trans (b := incident_Move_p1_G (incident_Move_p1_u c_incident_can c_incident_copied) d ks) (by kernel_rfl) h)
def incident_Move_s (p1 : incident_Move_p1_T) {β : Type} (x : api_Incident) (at_ : Int) (state : Int) (person : Int) (k : (api_Incident → Int → Option β)) : Option β :=
  c_incident_latest x (fun (rlatest : Int) =>
  c_incident_in at_ rlatest (8589934592 : Int) (fun (rin : Bool) =>
  cond rin
  (c_incident_somebody person (fun (rsomebody : Bool) =>
  c_incident_changeable x rsomebody (fun (rchangeable : Int) =>
  cond (!decide (rchangeable = (0 : Int)))
  (k ((0 : Int), ((0 : Int), ((0 : Int), ((0 : Int), (([] : List UInt8), (((0 : Int), ((0 : Int), (0 : Int))), (([] : List Int), (([] : List api_Task), (([] : List api_Update), (([] : List Int), (([] : List (Int × (Int × Int))), (0 : Int)))))))))))) rchangeable)
  (p1 (fun (t9 : Int) (t8 : Int) (t82 : Int) (t83 : Int) (t84 : Int) (t85 : List UInt8) (t86 : Int) (t87 : Int) (t88 : Int) (t89 : Int) (b1_ : List Int) (b2_ : List api_Task) (b3_ : List api_Update) (b4_ : List Int) (b5_ : List (Int × (Int × Int))) =>
  k (t8, (t82, (t83, (t84, (t85, ((t86, (t87, t88)), (b1_, (b2_, (b3_, (b4_, (b5_, t89))))))))))) t9) at_ state person x.1 x.2.1 x.2.2.1 x.2.2.2.1 x.2.2.2.2.1 x.2.2.2.2.2.1.1 x.2.2.2.2.2.1.2.1 x.2.2.2.2.2.1.2.2 x.2.2.2.2.2.2.1 x.2.2.2.2.2.2.2.1 x.2.2.2.2.2.2.2.2.1 x.2.2.2.2.2.2.2.2.2.1 x.2.2.2.2.2.2.2.2.2.2.1 x.2.2.2.2.2.2.2.2.2.2.2 (0 : Int) (0 : Int) (0 : Int) (0 : Int) ([] : List UInt8) (0 : Int) (0 : Int) (0 : Int) (0 : Int) ([] : List Int) ([] : List api_Task) ([] : List api_Update) ([] : List Int) ([] : List (Int × (Int × Int)))))))
  (c_incident_changeable x false (fun (rchangeable : Int) =>
  cond (!decide (rchangeable = (0 : Int)))
  (k ((0 : Int), ((0 : Int), ((0 : Int), ((0 : Int), (([] : List UInt8), (((0 : Int), ((0 : Int), (0 : Int))), (([] : List Int), (([] : List api_Task), (([] : List api_Update), (([] : List Int), (([] : List (Int × (Int × Int))), (0 : Int)))))))))))) rchangeable)
  (p1 (fun (t9 : Int) (t8 : Int) (t82 : Int) (t83 : Int) (t84 : Int) (t85 : List UInt8) (t86 : Int) (t87 : Int) (t88 : Int) (t89 : Int) (b1_ : List Int) (b2_ : List api_Task) (b3_ : List api_Update) (b4_ : List Int) (b5_ : List (Int × (Int × Int))) =>
  k (t8, (t82, (t83, (t84, (t85, ((t86, (t87, t88)), (b1_, (b2_, (b3_, (b4_, (b5_, t89))))))))))) t9) at_ state person x.1 x.2.1 x.2.2.1 x.2.2.2.1 x.2.2.2.2.1 x.2.2.2.2.2.1.1 x.2.2.2.2.2.1.2.1 x.2.2.2.2.2.1.2.2 x.2.2.2.2.2.2.1 x.2.2.2.2.2.2.2.1 x.2.2.2.2.2.2.2.2.1 x.2.2.2.2.2.2.2.2.2.1 x.2.2.2.2.2.2.2.2.2.2.1 x.2.2.2.2.2.2.2.2.2.2.2 (0 : Int) (0 : Int) (0 : Int) (0 : Int) ([] : List UInt8) (0 : Int) (0 : Int) (0 : Int) (0 : Int) ([] : List Int) ([] : List api_Task) ([] : List api_Update) ([] : List Int) ([] : List (Int × (Int × Int))))))))
theorem incident_Move_ok' (hΓ : ΓOk Try.prog (incident_Move_X c_incident_can c_incident_changeable c_incident_copied c_incident_in c_incident_latest c_incident_somebody).Γ) (p1 : incident_Move_p1_T) (hp1 : PieceOk Try.prog 53 0 incident_Move_p1_code incident_Move_p1_v incident_Move_p1_o (incident_Move_p1_G p1)) : SpecOk Try.prog 26 (incident_Move_S (incident_Move_s c_incident_changeable c_incident_in c_incident_latest c_incident_somebody p1)) :=
  spec_exec (X := (incident_Move_X c_incident_can c_incident_changeable c_incident_copied c_incident_in c_incident_latest c_incident_somebody)) (Λ := pick1 [(7, pieceCut incident_Move_p1_v incident_Move_p1_o (incident_Move_p1_G p1))]) (rs := [.cell 8 32, .tmp 9]) (c := bodyOf Try.f26) mixed tab_ok hΓ Try.func26 (by kernel_rfl) (by kernel_rfl) (by kernel_rfl) (by kernel_rfl) (CutsOk_cons (q := 7) (c' := incident_Move_p1_code) (by kernel_rfl) rfl hp1 CutsOk_nil) (fun x k r h => Eq.trans (b := (incident_Move_S (incident_Move_s c_incident_changeable c_incident_in c_incident_latest c_incident_somebody p1)).run x k) (by kernel_rfl) h)
end
theorem incident_Move_Γ : ΓOk Try.prog (pick1 [(61, .spec (incident_can_S incident_can)), (40, .spec (incident_changeable_S incident_changeable)), (44, .spec (incident_copied_S incident_copied)), (41, .spec (incident_in_S incident_in)), (60, .spec (incident_latest_S incident_latest)), (42, .spec (incident_somebody_S incident_somebody))]) := (ΓOk_cons incident_can_ok (ΓOk_cons incident_changeable_ok (ΓOk_cons incident_copied_ok (ΓOk_cons incident_in_ok (ΓOk_cons incident_latest_ok (ΓOk_cons incident_somebody_ok ΓOk_nil))))))
def incident_Move_p1 : incident_Move_p1_T := incident_Move_p1_u incident_can incident_copied
theorem incident_Move_p1_ok : PieceOk Try.prog 53 0 incident_Move_p1_code incident_Move_p1_v incident_Move_p1_o (incident_Move_p1_G incident_Move_p1) := incident_Move_p1_ok' incident_can incident_changeable incident_copied incident_in incident_latest incident_somebody incident_Move_Γ
def incident_Move : T_incident_Move := incident_Move_s incident_changeable incident_in incident_latest incident_somebody incident_Move_p1
theorem incident_Move_ok : SpecOk Try.prog 26 (incident_Move_S incident_Move) := incident_Move_ok' incident_can incident_changeable incident_copied incident_in incident_latest incident_somebody incident_Move_Γ incident_Move_p1 incident_Move_p1_ok

/-- pagewatch/incident.At -/
abbrev T_incident_At := {β : Type} → api_Incident → Int → (Int → Option β) → Option β
def incident_At_S (c : T_incident_At) : Spec :=
  ⟨[(true, [.data y_api_Incident]), (false, [.data (.int .i64)])], [], [(false, [.data (.int .i64)])], [], fun x k => c x.1.1.1 x.1.2.1.1 (fun r0 => k (((r0, ()), ()), ()))⟩
noncomputable def incident_At_p1_code : Code := codeAt 122 (bodyOf Try.f28)
abbrev incident_At_p1_K1 (β : Type) := Int → Option β
abbrev incident_At_p1_T := {β : Type} → incident_At_p1_K1 β → Int → Int → (List (Int × (Int × Int))) → Int → Int → Option β
def incident_At_p1_v : View := ⟨0, [1, 5, 18, 19, 20], [(false, [.data (.int .i64)]), (false, [.data (.int .i64)]), (false, [.data (.slice (.prod (.int .i64) (.prod (.int .i64) (.int .i64))))]), (false, [.data (.int .i64)]), (false, [.data (.int .i64)])], []⟩
def incident_At_p1_o : List (AExit × View) := [(.exit 0, ⟨0, [5], [(false, [.data (.int .i64)])], []⟩)]
@[reducible] def incident_At_p1_G (p : incident_At_p1_T) {β : Type} (d : incident_At_p1_v.den) (ks : Outs.K β incident_At_p1_o) : Option β :=
  p (fun a0 => ks.1 (((a0, ()), ()), ())) d.1.1.1 d.1.2.1.1 d.1.2.2.1.1 d.1.2.2.2.1.1 d.1.2.2.2.2.1.1
section
variable (c_incident_Check : T_incident_Check)
@[reducible] def incident_At_X : Ctx := ⟨look tab, pick1 [(39, .spec (incident_Check_S c_incident_Check))]⟩
def incident_At_p1_s {β : Type} (rec : Int → Int → (List (Int × (Int × Int))) → Int → Int → Option β) (k1 : incident_At_p1_K1 β) (at_ : Int) (state : Int) (t18 : List (Int × (Int × Int))) (t19 : Int) (t20 : Int) : Option β :=
  cond (decide (t20 < t19))
  (cond (decide (0 ≤ t20) && decide (t20 < (List.length t18 : Int)))
  (let e : (Int × (Int × Int)) := List.getD t18 (Int.toNat t20) ((0 : Int), ((0 : Int), (0 : Int)));
  cond (decide (e.1 ≤ at_))
  (rec at_ e.2.1 t18 t19 (IntKind.i64.wrap (t20 + (1 : Int))))
  (rec at_ state t18 t19 (IntKind.i64.wrap (t20 + (1 : Int)))))
  none)
  (k1 state)
def incident_At_p1_l {β : Type} : Nat → incident_At_p1_K1 β → Int → Int → (List (Int × (Int × Int))) → Int → Int → Option β
  | 0 => fun _ _ _ _ _ _ => none
  | i + 1 => fun k1 at_ state t18 t19 t20 => incident_At_p1_s (incident_At_p1_l i k1) k1 at_ state t18 t19 t20
theorem incident_At_p1_ok' (hΓ : ΓOk Try.prog (incident_At_X c_incident_Check).Γ) (i : Nat) : PieceOk Try.prog 32 0 incident_At_p1_code incident_At_p1_v incident_At_p1_o (incident_At_p1_G (incident_At_p1_l i)) := by
  rw [show incident_At_p1_code = .loop (loopBody incident_At_p1_code) by kernel_rfl]
  exact piece_loop (X := (incident_At_X c_incident_Check)) (p := 1) (Λ := pick1 []) (G := fun i => @fun β d ks => incident_At_p1_G (incident_At_p1_l i) d ks) mixed tab_ok hΓ rfl (by kernel_rfl) CutsOk_nil (fun _ _ => rfl) (fun i => @fun β d ks r h => Eq.trans (b := incident_At_p1_G (incident_At_p1_l (i + 1)) d ks) (by kernel_rfl) h) i
def incident_At_s (p1 : incident_At_p1_T) {β : Type} (x : api_Incident) (at_ : Int) (k : (Int → Option β)) : Option β :=
  c_incident_Check x (fun (rCheck : Bool) =>
  cond (!rCheck)
  (k (-1 : Int))
  (cond (decide (at_ < x.2.2.2.1))
  (k (-1 : Int))
  (p1 (fun (state : Int) =>
  k state) at_ (0 : Int) x.2.2.2.2.2.2.2.2.2.2.1 (List.length x.2.2.2.2.2.2.2.2.2.2.1 : Int) (0 : Int))))
theorem incident_At_ok' (hΓ : ΓOk Try.prog (incident_At_X c_incident_Check).Γ) (p1 : incident_At_p1_T) (hp1 : PieceOk Try.prog 32 0 incident_At_p1_code incident_At_p1_v incident_At_p1_o (incident_At_p1_G p1)) : SpecOk Try.prog 28 (incident_At_S (incident_At_s c_incident_Check p1)) :=
  spec_exec (X := (incident_At_X c_incident_Check)) (Λ := pick1 [(122, pieceCut incident_At_p1_v incident_At_p1_o (incident_At_p1_G p1))]) (rs := [.tmp 4]) (c := bodyOf Try.f28) mixed tab_ok hΓ Try.func28 (by kernel_rfl) (by kernel_rfl) (by kernel_rfl) (by kernel_rfl) (CutsOk_cons (q := 122) (c' := incident_At_p1_code) (by kernel_rfl) rfl hp1 CutsOk_nil) (fun x k r h => Eq.trans (b := (incident_At_S (incident_At_s c_incident_Check p1)).run x k) (by kernel_rfl) h)
end
theorem incident_At_Γ : ΓOk Try.prog (pick1 [(39, .spec (incident_Check_S incident_Check))]) := (ΓOk_cons incident_Check_ok ΓOk_nil)
def incident_At_p1_n (m : Nat) : incident_At_p1_T := incident_At_p1_l m
theorem incident_At_p1_step {β : Type} (i : Nat) (k1 at_ state t18 t19 t20) : (incident_At_p1_n (i + 1) k1 at_ state t18 t19 t20 : Option β) = incident_At_p1_s (incident_At_p1_n i k1) k1 at_ state t18 t19 t20 := rfl
def incident_At_p1 : incident_At_p1_T := incident_At_p1_n fuel
theorem incident_At_p1_ok : PieceOk Try.prog 32 0 incident_At_p1_code incident_At_p1_v incident_At_p1_o (incident_At_p1_G incident_At_p1) := incident_At_p1_ok' incident_Check incident_At_Γ fuel
def incident_At : T_incident_At := incident_At_s incident_Check incident_At_p1
theorem incident_At_ok : SpecOk Try.prog 28 (incident_At_S incident_At) := incident_At_ok' incident_Check incident_At_Γ incident_At_p1 incident_At_p1_ok

/-- pagewatch/incident.Subscribe -/
abbrev T_incident_Subscribe := {β : Type} → api_Incident → Int → (api_Incident → Int → Option β) → Option β
def incident_Subscribe_S (c : T_incident_Subscribe) : Spec :=
  ⟨[(true, [.data y_api_Incident]), (false, [.data (.int .i64)])], [], [(true, [.data y_api_Incident]), (false, [.data (.int .i64)])], [], fun x k => c x.1.1.1 x.1.2.1.1 (fun r0 r1 => k (((r0, ()), (r1, ()), ()), ()))⟩
section
variable (c_incident_changeable : T_incident_changeable) (c_incident_copied : T_incident_copied) (c_incident_joined : T_incident_joined) (c_incident_person : T_incident_person) (c_slices_Contains_int_int : T_slices_Contains_int_int)
@[reducible] def incident_Subscribe_X : Ctx := ⟨look tab, pick1 [(40, .spec (incident_changeable_S c_incident_changeable)), (44, .spec (incident_copied_S c_incident_copied)), (64, .spec (incident_joined_S c_incident_joined)), (62, .spec (incident_person_S c_incident_person)), (63, .spec (slices_Contains_int_int_S c_slices_Contains_int_int))]⟩
def incident_Subscribe_s {β : Type} (x : api_Incident) (p : Int) (k : (api_Incident → Int → Option β)) : Option β :=
  c_incident_person p (fun (rperson : Bool) =>
  c_incident_changeable x rperson (fun (rchangeable : Int) =>
  cond (!decide (rchangeable = (0 : Int)))
  (k ((0 : Int), ((0 : Int), ((0 : Int), ((0 : Int), (([] : List UInt8), (((0 : Int), ((0 : Int), (0 : Int))), (([] : List Int), (([] : List api_Task), (([] : List api_Update), (([] : List Int), (([] : List (Int × (Int × Int))), (0 : Int)))))))))))) rchangeable)
  (c_slices_Contains_int_int x.2.2.2.2.2.2.2.2.2.1 p (fun (rContainsintint : Bool) =>
  cond rContainsintint
  (k ((0 : Int), ((0 : Int), ((0 : Int), ((0 : Int), (([] : List UInt8), (((0 : Int), ((0 : Int), (0 : Int))), (([] : List Int), (([] : List api_Task), (([] : List api_Update), (([] : List Int), (([] : List (Int × (Int × Int))), (0 : Int)))))))))))) (4 : Int))
  (c_incident_copied x (fun (rcopied : Int) (rcopied2 : Int) (rcopied3 : Int) (rcopied4 : Int) (rcopied5 : List UInt8) (rcopied6 : Int) (rcopied7 : Int) (rcopied8 : Int) (rcopied9 : Int) (lrcopied : List Int) (lrcopied2 : List api_Task) (lrcopied3 : List api_Update) (lrcopied4 : List Int) (lrcopied5 : List (Int × (Int × Int))) =>
  let l : List Int := ([p] : List Int);
  c_incident_joined lrcopied4 l (fun (lrjoined : List Int) =>
  k (rcopied, (rcopied2, (rcopied3, (rcopied4, (rcopied5, ((rcopied6, (rcopied7, rcopied8)), (lrcopied, (lrcopied2, (lrcopied3, (lrjoined, (lrcopied5, rcopied9))))))))))) (0 : Int))))))))
theorem incident_Subscribe_ok' (hΓ : ΓOk Try.prog (incident_Subscribe_X c_incident_changeable c_incident_copied c_incident_joined c_incident_person c_slices_Contains_int_int).Γ) : SpecOk Try.prog 29 (incident_Subscribe_S (incident_Subscribe_s c_incident_changeable c_incident_copied c_incident_joined c_incident_person c_slices_Contains_int_int)) :=
  spec_exec (X := (incident_Subscribe_X c_incident_changeable c_incident_copied c_incident_joined c_incident_person c_slices_Contains_int_int)) (Λ := pick1 []) (rs := [.cell 4 32, .tmp 5]) (c := bodyOf Try.f29) mixed tab_ok hΓ Try.func29 (by kernel_rfl) (by kernel_rfl) (by kernel_rfl) (by kernel_rfl) CutsOk_nil (fun x k r h => Eq.trans (b := (incident_Subscribe_S (incident_Subscribe_s c_incident_changeable c_incident_copied c_incident_joined c_incident_person c_slices_Contains_int_int)).run x k) (by kernel_rfl) h)
end
theorem incident_Subscribe_Γ : ΓOk Try.prog (pick1 [(40, .spec (incident_changeable_S incident_changeable)), (44, .spec (incident_copied_S incident_copied)), (64, .spec (incident_joined_S incident_joined)), (62, .spec (incident_person_S incident_person)), (63, .spec (slices_Contains_int_int_S slices_Contains_int_int))]) := (ΓOk_cons incident_changeable_ok (ΓOk_cons incident_copied_ok (ΓOk_cons incident_joined_ok (ΓOk_cons incident_person_ok (ΓOk_cons slices_Contains_int_int_ok ΓOk_nil)))))
def incident_Subscribe : T_incident_Subscribe := incident_Subscribe_s incident_changeable incident_copied incident_joined incident_person slices_Contains_int_int
theorem incident_Subscribe_ok : SpecOk Try.prog 29 (incident_Subscribe_S incident_Subscribe) := incident_Subscribe_ok' incident_changeable incident_copied incident_joined incident_person slices_Contains_int_int incident_Subscribe_Γ

/-- pagewatch/pagewatchlaw37.sane -/
abbrev T_law37_sane := {β : Type} → (Bool → Option β) → Option β
def law37_sane_S (c : T_law37_sane) : Spec :=
  ⟨[], [], [(false, [.data .bool])], [], fun x k => c  (fun r0 => k (((r0, ()), ()), ()))⟩
section
variable (c_incident_At : T_incident_At) (c_incident_Move : T_incident_Move) (c_incident_Open : T_incident_Open)
@[reducible] def law37_sane_X : Ctx := ⟨look tab, pick1 [(28, .spec (incident_At_S c_incident_At)), (26, .spec (incident_Move_S c_incident_Move)), (13, .spec (incident_Open_S c_incident_Open))]⟩
def law37_sane_s {β : Type} (k : (Bool → Option β)) : Option β :=
  c_incident_Open (1 : Int) (0 : Int) (3 : Int) ([119, 101, 98] : List UInt8) (0 : Int) (fun (rOpen : api_Incident) (rOpen2 : Int) =>
  c_incident_Move rOpen (100 : Int) (1 : Int) (1 : Int) (fun (rMove : api_Incident) (rMove2 : Int) =>
  c_incident_Move rMove (200 : Int) (2 : Int) (1 : Int) (fun (rMove3 : api_Incident) (rMove4 : Int) =>
  c_incident_Open (2 : Int) (0 : Int) (3 : Int) ([119, 101, 98] : List UInt8) (0 : Int) (fun (rOpen3 : api_Incident) (rOpen4 : Int) =>
  c_incident_Move rOpen3 (5 : Int) (3 : Int) (1 : Int) (fun (rMove5 : api_Incident) (rMove6 : Int) =>
  cond (decide (rOpen2 = (0 : Int)))
  (cond (decide (rMove2 = (0 : Int)))
  (cond (decide (rMove4 = (0 : Int)))
  (cond (decide (rMove6 = (9 : Int)))
  (c_incident_At rMove3 (150 : Int) (fun (rAt : Int) =>
  let t : Bool := (decide (rAt = (1 : Int)));
  k t))
  (k false))
  (k false))
  (k false))
  (k false))))))
theorem law37_sane_ok' (hΓ : ΓOk Try.prog (law37_sane_X c_incident_At c_incident_Move c_incident_Open).Γ) : SpecOk Try.prog 11 (law37_sane_S (law37_sane_s c_incident_At c_incident_Move c_incident_Open)) :=
  spec_exec (X := (law37_sane_X c_incident_At c_incident_Move c_incident_Open)) (Λ := pick1 []) (rs := [.tmp 0]) (c := bodyOf Try.f11) mixed tab_ok hΓ Try.func11 (by kernel_rfl) (by kernel_rfl) (by kernel_rfl) (by kernel_rfl) CutsOk_nil (fun x k r h => Eq.trans (b := (law37_sane_S (law37_sane_s c_incident_At c_incident_Move c_incident_Open)).run x k) (by kernel_rfl) h)
end
theorem law37_sane_Γ : ΓOk Try.prog (pick1 [(28, .spec (incident_At_S incident_At)), (26, .spec (incident_Move_S incident_Move)), (13, .spec (incident_Open_S incident_Open))]) := (ΓOk_cons incident_At_ok (ΓOk_cons incident_Move_ok (ΓOk_cons incident_Open_ok ΓOk_nil)))
def law37_sane : T_law37_sane := law37_sane_s incident_At incident_Move incident_Open
theorem law37_sane_ok : SpecOk Try.prog 11 (law37_sane_S law37_sane) := law37_sane_ok' incident_At incident_Move incident_Open law37_sane_Γ

/-- pagewatch/pagewatchlaw37.IncidentMoves -/
abbrev T_law37_IncidentMoves := {β : Type} → (List Int) → (Bool → Option β) → Option β
def law37_IncidentMoves_S (c : T_law37_IncidentMoves) : Spec :=
  ⟨[(false, [.data (.slice (.int .i64))])], [], [(false, [.data .bool])], [], fun x k => c x.1.1.1 (fun r0 => k (((r0, ()), ()), ()))⟩
noncomputable def law37_IncidentMoves_p3_code : Code := codeAt 1018 (bodyOf Try.f7)
noncomputable def law37_IncidentMoves_p1_code : Code := codeAt 415 (loopBody law37_IncidentMoves_p3_code)
noncomputable def law37_IncidentMoves_p2_code : Code := codeAt 207 (loopBody law37_IncidentMoves_p3_code)
abbrev law37_IncidentMoves_p1_K1 (β : Type) := Bool → Option β
abbrev law37_IncidentMoves_p1_K2 (β : Type) := Int → Int → Int → (List Int) → Int → Int → Int → Int → Int → (List UInt8) → Int → Int → Int → (List Int) → (List api_Task) → (List api_Update) → (List Int) → (List (Int × (Int × Int))) → Int → Option β
abbrev law37_IncidentMoves_p1_T := {β : Type} → law37_IncidentMoves_p1_K1 β → law37_IncidentMoves_p1_K2 β → Int → Int → Int → (List Int) → Int → Int → Int → Int → Int → (List UInt8) → Int → Int → Int → (List Int) → (List api_Task) → (List api_Update) → (List Int) → (List (Int × (Int × Int))) → Int → Option β
def law37_IncidentMoves_p1_v : View := ⟨0, [3, 4, 6, 7, 8], [(false, [.ptr 0 0]), (false, [.ptr 1 0]), (false, [.data (.int .i64)]), (false, [.data (.int .i64)]), (false, [.data (.int .i64)])], [.cells 86 [.data (.slice (.int .i64)), .data (.int .i64)], .cells 32 [.data (.int .i64), .data (.int .i64), .data (.int .i64), .data (.int .i64), .data .str, .data (.int .i64), .data (.int .i64), .data (.int .i64), .data (.slice (.int .i64)), .data (.slice y_api_Task), .data (.slice y_api_Update), .data (.slice (.int .i64)), .data (.slice (.prod (.int .i64) (.prod (.int .i64) (.int .i64)))), .data (.int .i64)]]⟩
def law37_IncidentMoves_p1_o : List (AExit × View) := [(.ret, ⟨0, [2], [(false, [.data .bool])], []⟩), (.normal, ⟨0, [3, 4, 6, 7, 8], [(false, [.ptr 0 0]), (false, [.ptr 1 0]), (false, [.data (.int .i64)]), (false, [.data (.int .i64)]), (false, [.data (.int .i64)])], [.cells 86 [.data (.slice (.int .i64)), .data (.int .i64)], .cells 32 [.data (.int .i64), .data (.int .i64), .data (.int .i64), .data (.int .i64), .data .str, .data (.int .i64), .data (.int .i64), .data (.int .i64), .data (.slice (.int .i64)), .data (.slice y_api_Task), .data (.slice y_api_Update), .data (.slice (.int .i64)), .data (.slice (.prod (.int .i64) (.prod (.int .i64) (.int .i64)))), .data (.int .i64)]]⟩)]
@[reducible] def law37_IncidentMoves_p1_G (p : law37_IncidentMoves_p1_T) {β : Type} (d : law37_IncidentMoves_p1_v.den) (ks : Outs.K β law37_IncidentMoves_p1_o) : Option β :=
  p (fun a0 => ks.1 (((a0, ()), ()), ())) (fun a0 a1 a2 a3 a4 a5 a6 a7 a8 a9 a10 a11 a12 a13 a14 a15 a16 a17 a18 => ks.2.1 (((), (), (a0, ()), (a1, ()), (a2, ()), ()), ((a3, a4, ()), (a5, a6, a7, a8, a9, a10, a11, a12, a13, a14, a15, a16, a17, a18, ()), ()))) d.1.2.2.1.1 d.1.2.2.2.1.1 d.1.2.2.2.2.1.1 d.2.1.1 d.2.1.2.1 d.2.2.1.1 d.2.2.1.2.1 d.2.2.1.2.2.1 d.2.2.1.2.2.2.1 d.2.2.1.2.2.2.2.1 d.2.2.1.2.2.2.2.2.1 d.2.2.1.2.2.2.2.2.2.1 d.2.2.1.2.2.2.2.2.2.2.1 d.2.2.1.2.2.2.2.2.2.2.2.1 d.2.2.1.2.2.2.2.2.2.2.2.2.1 d.2.2.1.2.2.2.2.2.2.2.2.2.2.1 d.2.2.1.2.2.2.2.2.2.2.2.2.2.2.1 d.2.2.1.2.2.2.2.2.2.2.2.2.2.2.2.1 d.2.2.1.2.2.2.2.2.2.2.2.2.2.2.2.2.1
abbrev law37_IncidentMoves_p2_K1 (β : Type) := Bool → Option β
abbrev law37_IncidentMoves_p2_K2 (β : Type) := Int → Int → Int → (List Int) → Int → Int → Int → Int → Int → (List UInt8) → Int → Int → Int → (List Int) → (List api_Task) → (List api_Update) → (List Int) → (List (Int × (Int × Int))) → Int → Option β
abbrev law37_IncidentMoves_p2_T := {β : Type} → law37_IncidentMoves_p2_K1 β → law37_IncidentMoves_p2_K2 β → Int → Int → Int → Int → Int → (List Int) → Int → Int → Int → Int → Int → (List UInt8) → Int → Int → Int → (List Int) → (List api_Task) → (List api_Update) → (List Int) → (List (Int × (Int × Int))) → Int → Int → Int → Int → Int → (List UInt8) → Int → Int → Int → (List Int) → (List api_Task) → (List api_Update) → (List Int) → (List (Int × (Int × Int))) → Int → Option β
def law37_IncidentMoves_p2_v : View := ⟨0, [3, 4, 6, 7, 8, 9, 10, 11], [(false, [.ptr 0 0]), (false, [.ptr 1 0]), (false, [.data (.int .i64)]), (false, [.data (.int .i64)]), (false, [.data (.int .i64)]), (false, [.data (.int .i64)]), (false, [.ptr 2 0]), (false, [.data (.int .i64)])], [.cells 86 [.data (.slice (.int .i64)), .data (.int .i64)], .cells 32 [.data (.int .i64), .data (.int .i64), .data (.int .i64), .data (.int .i64), .data .str, .data (.int .i64), .data (.int .i64), .data (.int .i64), .data (.slice (.int .i64)), .data (.slice y_api_Task), .data (.slice y_api_Update), .data (.slice (.int .i64)), .data (.slice (.prod (.int .i64) (.prod (.int .i64) (.int .i64)))), .data (.int .i64)], .cells 32 [.data (.int .i64), .data (.int .i64), .data (.int .i64), .data (.int .i64), .data .str, .data (.int .i64), .data (.int .i64), .data (.int .i64), .data (.slice (.int .i64)), .data (.slice y_api_Task), .data (.slice y_api_Update), .data (.slice (.int .i64)), .data (.slice (.prod (.int .i64) (.prod (.int .i64) (.int .i64)))), .data (.int .i64)]]⟩
def law37_IncidentMoves_p2_o : List (AExit × View) := [(.ret, ⟨0, [2], [(false, [.data .bool])], []⟩), (.normal, ⟨0, [3, 4, 6, 7, 8], [(false, [.ptr 0 0]), (false, [.ptr 1 0]), (false, [.data (.int .i64)]), (false, [.data (.int .i64)]), (false, [.data (.int .i64)])], [.cells 86 [.data (.slice (.int .i64)), .data (.int .i64)], .cells 32 [.data (.int .i64), .data (.int .i64), .data (.int .i64), .data (.int .i64), .data .str, .data (.int .i64), .data (.int .i64), .data (.int .i64), .data (.slice (.int .i64)), .data (.slice y_api_Task), .data (.slice y_api_Update), .data (.slice (.int .i64)), .data (.slice (.prod (.int .i64) (.prod (.int .i64) (.int .i64)))), .data (.int .i64)]]⟩)]
@[reducible] def law37_IncidentMoves_p2_G (p : law37_IncidentMoves_p2_T) {β : Type} (d : law37_IncidentMoves_p2_v.den) (ks : Outs.K β law37_IncidentMoves_p2_o) : Option β :=
  p (fun a0 => ks.1 (((a0, ()), ()), ())) (fun a0 a1 a2 a3 a4 a5 a6 a7 a8 a9 a10 a11 a12 a13 a14 a15 a16 a17 a18 => ks.2.1 (((), (), (a0, ()), (a1, ()), (a2, ()), ()), ((a3, a4, ()), (a5, a6, a7, a8, a9, a10, a11, a12, a13, a14, a15, a16, a17, a18, ()), ()))) d.1.2.2.1.1 d.1.2.2.2.1.1 d.1.2.2.2.2.1.1 d.1.2.2.2.2.2.1.1 d.1.2.2.2.2.2.2.2.1.1 d.2.1.1 d.2.1.2.1 d.2.2.1.1 d.2.2.1.2.1 d.2.2.1.2.2.1 d.2.2.1.2.2.2.1 d.2.2.1.2.2.2.2.1 d.2.2.1.2.2.2.2.2.1 d.2.2.1.2.2.2.2.2.2.1 d.2.2.1.2.2.2.2.2.2.2.1 d.2.2.1.2.2.2.2.2.2.2.2.1 d.2.2.1.2.2.2.2.2.2.2.2.2.1 d.2.2.1.2.2.2.2.2.2.2.2.2.2.1 d.2.2.1.2.2.2.2.2.2.2.2.2.2.2.1 d.2.2.1.2.2.2.2.2.2.2.2.2.2.2.2.1 d.2.2.1.2.2.2.2.2.2.2.2.2.2.2.2.2.1 d.2.2.2.1.1 d.2.2.2.1.2.1 d.2.2.2.1.2.2.1 d.2.2.2.1.2.2.2.1 d.2.2.2.1.2.2.2.2.1 d.2.2.2.1.2.2.2.2.2.1 d.2.2.2.1.2.2.2.2.2.2.1 d.2.2.2.1.2.2.2.2.2.2.2.1 d.2.2.2.1.2.2.2.2.2.2.2.2.1 d.2.2.2.1.2.2.2.2.2.2.2.2.2.1 d.2.2.2.1.2.2.2.2.2.2.2.2.2.2.1 d.2.2.2.1.2.2.2.2.2.2.2.2.2.2.2.1 d.2.2.2.1.2.2.2.2.2.2.2.2.2.2.2.2.1 d.2.2.2.1.2.2.2.2.2.2.2.2.2.2.2.2.2.1
abbrev law37_IncidentMoves_p3_K1 (β : Type) := Bool → Option β
abbrev law37_IncidentMoves_p3_K2 (β : Type) := Int → Int → Int → Int → Int → Int → (List UInt8) → Int → Int → Int → (List Int) → (List api_Task) → (List api_Update) → (List Int) → (List (Int × (Int × Int))) → Int → Option β
abbrev law37_IncidentMoves_p3_T := {β : Type} → law37_IncidentMoves_p3_K1 β → law37_IncidentMoves_p3_K2 β → Int → Int → Int → (List Int) → Int → Int → Int → Int → Int → (List UInt8) → Int → Int → Int → (List Int) → (List api_Task) → (List api_Update) → (List Int) → (List (Int × (Int × Int))) → Int → Option β
def law37_IncidentMoves_p3_v : View := ⟨0, [3, 4, 6, 7, 8], [(false, [.ptr 0 0]), (false, [.ptr 1 0]), (false, [.data (.int .i64)]), (false, [.data (.int .i64)]), (false, [.data (.int .i64)])], [.cells 86 [.data (.slice (.int .i64)), .data (.int .i64)], .cells 32 [.data (.int .i64), .data (.int .i64), .data (.int .i64), .data (.int .i64), .data .str, .data (.int .i64), .data (.int .i64), .data (.int .i64), .data (.slice (.int .i64)), .data (.slice y_api_Task), .data (.slice y_api_Update), .data (.slice (.int .i64)), .data (.slice (.prod (.int .i64) (.prod (.int .i64) (.int .i64)))), .data (.int .i64)]]⟩
def law37_IncidentMoves_p3_o : List (AExit × View) := [(.ret, ⟨0, [2], [(false, [.data .bool])], []⟩), (.exit 0, ⟨0, [4, 6, 7], [(false, [.ptr 0 0]), (false, [.data (.int .i64)]), (false, [.data (.int .i64)])], [.cells 32 [.data (.int .i64), .data (.int .i64), .data (.int .i64), .data (.int .i64), .data .str, .data (.int .i64), .data (.int .i64), .data (.int .i64), .data (.slice (.int .i64)), .data (.slice y_api_Task), .data (.slice y_api_Update), .data (.slice (.int .i64)), .data (.slice (.prod (.int .i64) (.prod (.int .i64) (.int .i64)))), .data (.int .i64)]]⟩)]
@[reducible] def law37_IncidentMoves_p3_G (p : law37_IncidentMoves_p3_T) {β : Type} (d : law37_IncidentMoves_p3_v.den) (ks : Outs.K β law37_IncidentMoves_p3_o) : Option β :=
  p (fun a0 => ks.1 (((a0, ()), ()), ())) (fun a0 a1 a2 a3 a4 a5 a6 a7 a8 a9 a10 a11 a12 a13 a14 a15 => ks.2.1 (((), (a0, ()), (a1, ()), ()), ((a2, a3, a4, a5, a6, a7, a8, a9, a10, a11, a12, a13, a14, a15, ()), ()))) d.1.2.2.1.1 d.1.2.2.2.1.1 d.1.2.2.2.2.1.1 d.2.1.1 d.2.1.2.1 d.2.2.1.1 d.2.2.1.2.1 d.2.2.1.2.2.1 d.2.2.1.2.2.2.1 d.2.2.1.2.2.2.2.1 d.2.2.1.2.2.2.2.2.1 d.2.2.1.2.2.2.2.2.2.1 d.2.2.1.2.2.2.2.2.2.2.1 d.2.2.1.2.2.2.2.2.2.2.2.1 d.2.2.1.2.2.2.2.2.2.2.2.2.1 d.2.2.1.2.2.2.2.2.2.2.2.2.2.1 d.2.2.1.2.2.2.2.2.2.2.2.2.2.2.1 d.2.2.1.2.2.2.2.2.2.2.2.2.2.2.2.1 d.2.2.1.2.2.2.2.2.2.2.2.2.2.2.2.2.1
section
variable (c_incident_Add : T_incident_Add) (c_incident_At : T_incident_At) (c_incident_Move : T_incident_Move) (c_incident_Open : T_incident_Open) (c_incident_Subscribe : T_incident_Subscribe) (c_law37_sane : T_law37_sane) (c_made_Dice_Next : T_made_Dice_Next) (c_made_Light : T_made_Light) (c_made_Roll : T_made_Roll) (c_ref37_Check : T_ref37_Check) (c_ref37_Possible : T_ref37_Possible)
@[reducible] def law37_IncidentMoves_X : Ctx := ⟨look tab, pick1 [(15, .spec (incident_Add_S c_incident_Add)), (28, .spec (incident_At_S c_incident_At)), (26, .spec (incident_Move_S c_incident_Move)), (13, .spec (incident_Open_S c_incident_Open)), (29, .spec (incident_Subscribe_S c_incident_Subscribe)), (11, .spec (law37_sane_S c_law37_sane)), (14, .spec (made_Dice_Next_S c_made_Dice_Next)), (10, .spec (made_Light_S c_made_Light)), (12, .spec (made_Roll_S c_made_Roll)), (17, .spec (ref37_Check_S c_ref37_Check)), (27, .spec (ref37_Possible_S c_ref37_Possible))]⟩
def law37_IncidentMoves_p1_s {β : Type} (k1 : law37_IncidentMoves_p1_K1 β) (k2 : law37_IncidentMoves_p1_K2 β) (now : Int) (state : Int) (i_ : Int) (d : List Int) (d2 : Int) (x : Int) (x2 : Int) (x3 : Int) (x4 : Int) (x5 : List UInt8) (x6 : Int) (x7 : Int) (x8 : Int) (x9 : List Int) (x10 : List api_Task) (x11 : List api_Update) (x12 : List Int) (x13 : List (Int × (Int × Int))) (x14 : Int) : Option β :=
  cond (!decide (x2 = state))
  (k1 false)
  (c_ref37_Check (x, (x2, (x3, (x4, (x5, ((x6, (x7, x8)), (x9, (x10, (x11, (x12, (x13, x14))))))))))) (fun (rCheck : Bool) =>
  cond (!rCheck)
  (k1 false)
  (c_incident_At (x, (x2, (x3, (x4, (x5, ((x6, (x7, x8)), (x9, (x10, (x11, (x12, (x13, x14))))))))))) now (fun (rAt : Int) =>
  cond (!decide (rAt = state))
  (k1 false)
  (c_incident_At (x, (x2, (x3, (x4, (x5, ((x6, (x7, x8)), (x9, (x10, (x11, (x12, (x13, x14))))))))))) (863999 : Int) (fun (rAt2 : Int) =>
  cond (!decide (rAt2 = (-1 : Int)))
  (k1 false)
  (k2 now state i_ d d2 x x2 x3 x4 x5 x6 x7 x8 x9 x10 x11 x12 x13 x14)))))))
def law37_IncidentMoves_p1_u {β : Type} (k1 : law37_IncidentMoves_p1_K1 β) (k2 : law37_IncidentMoves_p1_K2 β) (now : Int) (state : Int) (i_ : Int) (d : List Int) (d2 : Int) (x : Int) (x2 : Int) (x3 : Int) (x4 : Int) (x5 : List UInt8) (x6 : Int) (x7 : Int) (x8 : Int) (x9 : List Int) (x10 : List api_Task) (x11 : List api_Update) (x12 : List Int) (x13 : List (Int × (Int × Int))) (x14 : Int) : Option β := law37_IncidentMoves_p1_s c_incident_At c_ref37_Check k1 k2 now state i_ d d2 x x2 x3 x4 x5 x6 x7 x8 x9 x10 x11 x12 x13 x14
theorem law37_IncidentMoves_p1_ok' (hΓ : ΓOk Try.prog (law37_IncidentMoves_X c_incident_Add c_incident_At c_incident_Move c_incident_Open c_incident_Subscribe c_law37_sane c_made_Dice_Next c_made_Light c_made_Roll c_ref37_Check c_ref37_Possible).Γ) : PieceOk Try.prog 141 0 law37_IncidentMoves_p1_code law37_IncidentMoves_p1_v law37_IncidentMoves_p1_o (law37_IncidentMoves_p1_G (law37_IncidentMoves_p1_u c_incident_At c_ref37_Check)) :=
  piece_exec (X := (law37_IncidentMoves_X c_incident_Add c_incident_At c_incident_Move c_incident_Open c_incident_Subscribe c_law37_sane c_made_Dice_Next c_made_Light c_made_Roll c_ref37_Check c_ref37_Possible)) (p := 415) (Λ := pick1 []) mixed tab_ok hΓ (by kernel_rfl) CutsOk_nil (fun d ks r h => Eq.trans (b := law37_IncidentMoves_p1_G (law37_IncidentMoves_p1_u c_incident_At c_ref37_Check) d ks) (by kernel_rfl) h)
def law37_IncidentMoves_p2_s (p1 : law37_IncidentMoves_p1_T) {β : Type} (k1 : law37_IncidentMoves_p2_K1 β) (k2 : law37_IncidentMoves_p2_K2 β) (now : Int) (state : Int) (i_ : Int) (to_ : Int) (f : Int) (d : List Int) (d2 : Int) (x : Int) (x2 : Int) (x3 : Int) (x4 : Int) (x5 : List UInt8) (x6 : Int) (x7 : Int) (x8 : Int) (x9 : List Int) (x10 : List api_Task) (x11 : List api_Update) (x12 : List Int) (x13 : List (Int × (Int × Int))) (x14 : Int) (y : Int) (y2 : Int) (y3 : Int) (y4 : Int) (y5 : List UInt8) (y6 : Int) (y7 : Int) (y8 : Int) (y9 : List Int) (y10 : List api_Task) (y11 : List api_Update) (y12 : List Int) (y13 : List (Int × (Int × Int))) (y14 : Int) : Option β :=
  cond (decide (f = (0 : Int)))
  (c_incident_At (y, (y2, (y3, (y4, (y5, ((y6, (y7, y8)), (y9, (y10, (y11, (y12, (y13, y14))))))))))) now (fun (rAt : Int) =>
  cond (!decide (rAt = to_))
  (k1 false)
  (cond (decide ((864000 : Int) < now))
  (c_incident_At (y, (y2, (y3, (y4, (y5, ((y6, (y7, y8)), (y9, (y10, (y11, (y12, (y13, y14))))))))))) (IntKind.i64.wrap (now - (1 : Int))) (fun (rAt2 : Int) =>
  c_incident_At (x, (x2, (x3, (x4, (x5, ((x6, (x7, x8)), (x9, (x10, (x11, (x12, (x13, x14))))))))))) (IntKind.i64.wrap (now - (1 : Int))) (fun (rAt3 : Int) =>
  cond (!decide (rAt2 = rAt3))
  (c_incident_At (x, (x2, (x3, (x4, (x5, ((x6, (x7, x8)), (x9, (x10, (x11, (x12, (x13, x14))))))))))) (IntKind.i64.wrap (now - (1 : Int))) (fun (rAt4 : Int) =>
  cond (!decide (rAt4 = state))
  (k1 false)
  (p1 (fun (t2 : Bool) =>
  k1 t2) (fun (now2 : Int) (state2 : Int) (i_2 : Int) (d3 : List Int) (d4 : Int) (x15 : Int) (x16 : Int) (x17 : Int) (x18 : Int) (x19 : List UInt8) (x20 : Int) (x21 : Int) (x22 : Int) (x23 : List Int) (x24 : List api_Task) (x25 : List api_Update) (x26 : List Int) (x27 : List (Int × (Int × Int))) (x28 : Int) =>
  k2 now2 state2 i_2 d3 d4 x15 x16 x17 x18 x19 x20 x21 x22 x23 x24 x25 x26 x27 x28) now to_ i_ d d2 y y2 y3 y4 y5 y6 y7 y8 y9 y10 y11 y12 y13 y14)))
  (p1 (fun (t2 : Bool) =>
  k1 t2) (fun (now2 : Int) (state2 : Int) (i_2 : Int) (d3 : List Int) (d4 : Int) (x15 : Int) (x16 : Int) (x17 : Int) (x18 : Int) (x19 : List UInt8) (x20 : Int) (x21 : Int) (x22 : Int) (x23 : List Int) (x24 : List api_Task) (x25 : List api_Update) (x26 : List Int) (x27 : List (Int × (Int × Int))) (x28 : Int) =>
  k2 now2 state2 i_2 d3 d4 x15 x16 x17 x18 x19 x20 x21 x22 x23 x24 x25 x26 x27 x28) now to_ i_ d d2 y y2 y3 y4 y5 y6 y7 y8 y9 y10 y11 y12 y13 y14))))
  (p1 (fun (t2 : Bool) =>
  k1 t2) (fun (now2 : Int) (state2 : Int) (i_2 : Int) (d3 : List Int) (d4 : Int) (x15 : Int) (x16 : Int) (x17 : Int) (x18 : Int) (x19 : List UInt8) (x20 : Int) (x21 : Int) (x22 : Int) (x23 : List Int) (x24 : List api_Task) (x25 : List api_Update) (x26 : List Int) (x27 : List (Int × (Int × Int))) (x28 : Int) =>
  k2 now2 state2 i_2 d3 d4 x15 x16 x17 x18 x19 x20 x21 x22 x23 x24 x25 x26 x27 x28) now to_ i_ d d2 y y2 y3 y4 y5 y6 y7 y8 y9 y10 y11 y12 y13 y14))))
  (p1 (fun (t2 : Bool) =>
  k1 t2) (fun (now2 : Int) (state2 : Int) (i_2 : Int) (d3 : List Int) (d4 : Int) (x15 : Int) (x16 : Int) (x17 : Int) (x18 : Int) (x19 : List UInt8) (x20 : Int) (x21 : Int) (x22 : Int) (x23 : List Int) (x24 : List api_Task) (x25 : List api_Update) (x26 : List Int) (x27 : List (Int × (Int × Int))) (x28 : Int) =>
  k2 now2 state2 i_2 d3 d4 x15 x16 x17 x18 x19 x20 x21 x22 x23 x24 x25 x26 x27 x28) now state i_ d d2 x x2 x3 x4 x5 x6 x7 x8 x9 x10 x11 x12 x13 x14)
def law37_IncidentMoves_p2_u (p1 : law37_IncidentMoves_p1_T) {β : Type} (k1 : law37_IncidentMoves_p2_K1 β) (k2 : law37_IncidentMoves_p2_K2 β) (now : Int) (state : Int) (i_ : Int) (to_ : Int) (f : Int) (d : List Int) (d2 : Int) (x : Int) (x2 : Int) (x3 : Int) (x4 : Int) (x5 : List UInt8) (x6 : Int) (x7 : Int) (x8 : Int) (x9 : List Int) (x10 : List api_Task) (x11 : List api_Update) (x12 : List Int) (x13 : List (Int × (Int × Int))) (x14 : Int) (y : Int) (y2 : Int) (y3 : Int) (y4 : Int) (y5 : List UInt8) (y6 : Int) (y7 : Int) (y8 : Int) (y9 : List Int) (y10 : List api_Task) (y11 : List api_Update) (y12 : List Int) (y13 : List (Int × (Int × Int))) (y14 : Int) : Option β := law37_IncidentMoves_p2_s c_incident_At p1 k1 k2 now state i_ to_ f d d2 x x2 x3 x4 x5 x6 x7 x8 x9 x10 x11 x12 x13 x14 y y2 y3 y4 y5 y6 y7 y8 y9 y10 y11 y12 y13 y14
theorem law37_IncidentMoves_p2_ok' (hΓ : ΓOk Try.prog (law37_IncidentMoves_X c_incident_Add c_incident_At c_incident_Move c_incident_Open c_incident_Subscribe c_law37_sane c_made_Dice_Next c_made_Light c_made_Roll c_ref37_Check c_ref37_Possible).Γ) (p1 : law37_IncidentMoves_p1_T) (hp1 : PieceOk Try.prog 141 0 law37_IncidentMoves_p1_code law37_IncidentMoves_p1_v law37_IncidentMoves_p1_o (law37_IncidentMoves_p1_G p1)) : PieceOk Try.prog 141 0 law37_IncidentMoves_p2_code law37_IncidentMoves_p2_v law37_IncidentMoves_p2_o (law37_IncidentMoves_p2_G (law37_IncidentMoves_p2_u c_incident_At p1)) :=
  piece_exec (X := (law37_IncidentMoves_X c_incident_Add c_incident_At c_incident_Move c_incident_Open c_incident_Subscribe c_law37_sane c_made_Dice_Next c_made_Light c_made_Roll c_ref37_Check c_ref37_Possible)) (p := 207) (Λ := pick1 [(415, pieceCut law37_IncidentMoves_p1_v law37_IncidentMoves_p1_o (law37_IncidentMoves_p1_G p1))]) mixed tab_ok hΓ (by kernel_rfl) (CutsOk_cons (q := 415) (c' := law37_IncidentMoves_p1_code) (by kernel_rfl) rfl hp1 CutsOk_nil) (fun d ks r h => Eq.trans (b := law37_IncidentMoves_p2_G (law37_IncidentMoves_p2_u c_incident_At p1) d ks) (by kernel_rfl) h)
def law37_IncidentMoves_p3_s (p2 : law37_IncidentMoves_p2_T) {β : Type} (rec : Int → Int → Int → (List Int) → Int → Int → Int → Int → Int → (List UInt8) → Int → Int → Int → (List Int) → (List api_Task) → (List api_Update) → (List Int) → (List (Int × (Int × Int))) → Int → Option β) (k1 : law37_IncidentMoves_p3_K1 β) (k2 : law37_IncidentMoves_p3_K2 β) (now : Int) (state : Int) (i_ : Int) (d : List Int) (d2 : Int) (x : Int) (x2 : Int) (x3 : Int) (x4 : Int) (x5 : List UInt8) (x6 : Int) (x7 : Int) (x8 : Int) (x9 : List Int) (x10 : List api_Task) (x11 : List api_Update) (x12 : List Int) (x13 : List (Int × (Int × Int))) (x14 : Int) : Option β :=
  cond (decide (i_ < (12 : Int)))
  (c_made_Dice_Next (60 : Int) (d, d2) (fun (rNext : Int) (mrNext : (List Int × Int)) =>
  let now2 : Int := (IntKind.i64.wrap (now + rNext));
  c_made_Dice_Next (5 : Int) mrNext (fun (rNext2 : Int) (mrNext2 : (List Int × Int)) =>
  c_made_Dice_Next (3 : Int) mrNext2 (fun (rNext3 : Int) (mrNext3 : (List Int × Int)) =>
  c_incident_Move (x, (x2, (x3, (x4, (x5, ((x6, (x7, x8)), (x9, (x10, (x11, (x12, (x13, x14))))))))))) now2 rNext2 rNext3 (fun (rMove : api_Incident) (rMove2 : Int) =>
  cond (!decide (rNext2 = (4 : Int)))
  (c_ref37_Possible state rNext2 (fun (rPossible : Bool) =>
  cond (!((decide (rMove2 = (0 : Int))) == rPossible))
  (k1 false)
  (cond (!decide (rMove2 = (0 : Int)))
  (cond (!decide (rMove2 = (9 : Int)))
  (k1 false)
  (p2 (fun (t2 : Bool) =>
  k1 t2) (fun (now3 : Int) (state2 : Int) (i_2 : Int) (d3 : List Int) (d4 : Int) (x15 : Int) (x16 : Int) (x17 : Int) (x18 : Int) (x19 : List UInt8) (x20 : Int) (x21 : Int) (x22 : Int) (x23 : List Int) (x24 : List api_Task) (x25 : List api_Update) (x26 : List Int) (x27 : List (Int × (Int × Int))) (x28 : Int) =>
  let i_3 : Int := (IntKind.i64.wrap (i_2 + (1 : Int)));
  rec now3 state2 i_3 d3 d4 x15 x16 x17 x18 x19 x20 x21 x22 x23 x24 x25 x26 x27 x28) now2 state i_ rNext2 rMove2 mrNext3.1 mrNext3.2 x x2 x3 x4 x5 x6 x7 x8 x9 x10 x11 x12 x13 x14 rMove.1 rMove.2.1 rMove.2.2.1 rMove.2.2.2.1 rMove.2.2.2.2.1 rMove.2.2.2.2.2.1.1 rMove.2.2.2.2.2.1.2.1 rMove.2.2.2.2.2.1.2.2 rMove.2.2.2.2.2.2.1 rMove.2.2.2.2.2.2.2.1 rMove.2.2.2.2.2.2.2.2.1 rMove.2.2.2.2.2.2.2.2.2.1 rMove.2.2.2.2.2.2.2.2.2.2.1 rMove.2.2.2.2.2.2.2.2.2.2.2))
  (p2 (fun (t2 : Bool) =>
  k1 t2) (fun (now3 : Int) (state2 : Int) (i_2 : Int) (d3 : List Int) (d4 : Int) (x15 : Int) (x16 : Int) (x17 : Int) (x18 : Int) (x19 : List UInt8) (x20 : Int) (x21 : Int) (x22 : Int) (x23 : List Int) (x24 : List api_Task) (x25 : List api_Update) (x26 : List Int) (x27 : List (Int × (Int × Int))) (x28 : Int) =>
  let i_3 : Int := (IntKind.i64.wrap (i_2 + (1 : Int)));
  rec now3 state2 i_3 d3 d4 x15 x16 x17 x18 x19 x20 x21 x22 x23 x24 x25 x26 x27 x28) now2 state i_ rNext2 rMove2 mrNext3.1 mrNext3.2 x x2 x3 x4 x5 x6 x7 x8 x9 x10 x11 x12 x13 x14 rMove.1 rMove.2.1 rMove.2.2.1 rMove.2.2.2.1 rMove.2.2.2.2.1 rMove.2.2.2.2.2.1.1 rMove.2.2.2.2.2.1.2.1 rMove.2.2.2.2.2.1.2.2 rMove.2.2.2.2.2.2.1 rMove.2.2.2.2.2.2.2.1 rMove.2.2.2.2.2.2.2.2.1 rMove.2.2.2.2.2.2.2.2.2.1 rMove.2.2.2.2.2.2.2.2.2.2.1 rMove.2.2.2.2.2.2.2.2.2.2.2))))
  (cond (!((decide (rMove2 = (0 : Int))) == false))
  (k1 false)
  (cond (!decide (rMove2 = (0 : Int)))
  (cond (!decide (rMove2 = (9 : Int)))
  (k1 false)
  (p2 (fun (t2 : Bool) =>
  k1 t2) (fun (now3 : Int) (state2 : Int) (i_2 : Int) (d3 : List Int) (d4 : Int) (x15 : Int) (x16 : Int) (x17 : Int) (x18 : Int) (x19 : List UInt8) (x20 : Int) (x21 : Int) (x22 : Int) (x23 : List Int) (x24 : List api_Task) (x25 : List api_Update) (x26 : List Int) (x27 : List (Int × (Int × Int))) (x28 : Int) =>
  let i_3 : Int := (IntKind.i64.wrap (i_2 + (1 : Int)));
  rec now3 state2 i_3 d3 d4 x15 x16 x17 x18 x19 x20 x21 x22 x23 x24 x25 x26 x27 x28) now2 state i_ rNext2 rMove2 mrNext3.1 mrNext3.2 x x2 x3 x4 x5 x6 x7 x8 x9 x10 x11 x12 x13 x14 rMove.1 rMove.2.1 rMove.2.2.1 rMove.2.2.2.1 rMove.2.2.2.2.1 rMove.2.2.2.2.2.1.1 rMove.2.2.2.2.2.1.2.1 rMove.2.2.2.2.2.1.2.2 rMove.2.2.2.2.2.2.1 rMove.2.2.2.2.2.2.2.1 rMove.2.2.2.2.2.2.2.2.1 rMove.2.2.2.2.2.2.2.2.2.1 rMove.2.2.2.2.2.2.2.2.2.2.1 rMove.2.2.2.2.2.2.2.2.2.2.2))
  (p2 (fun (t2 : Bool) =>
  k1 t2) (fun (now3 : Int) (state2 : Int) (i_2 : Int) (d3 : List Int) (d4 : Int) (x15 : Int) (x16 : Int) (x17 : Int) (x18 : Int) (x19 : List UInt8) (x20 : Int) (x21 : Int) (x22 : Int) (x23 : List Int) (x24 : List api_Task) (x25 : List api_Update) (x26 : List Int) (x27 : List (Int × (Int × Int))) (x28 : Int) =>
  let i_3 : Int := (IntKind.i64.wrap (i_2 + (1 : Int)));
  rec now3 state2 i_3 d3 d4 x15 x16 x17 x18 x19 x20 x21 x22 x23 x24 x25 x26 x27 x28) now2 state i_ rNext2 rMove2 mrNext3.1 mrNext3.2 x x2 x3 x4 x5 x6 x7 x8 x9 x10 x11 x12 x13 x14 rMove.1 rMove.2.1 rMove.2.2.1 rMove.2.2.2.1 rMove.2.2.2.2.1 rMove.2.2.2.2.2.1.1 rMove.2.2.2.2.2.1.2.1 rMove.2.2.2.2.2.1.2.2 rMove.2.2.2.2.2.2.1 rMove.2.2.2.2.2.2.2.1 rMove.2.2.2.2.2.2.2.2.1 rMove.2.2.2.2.2.2.2.2.2.1 rMove.2.2.2.2.2.2.2.2.2.2.1 rMove.2.2.2.2.2.2.2.2.2.2.2))))))))
  (k2 now state x x2 x3 x4 x5 x6 x7 x8 x9 x10 x11 x12 x13 x14)
def law37_IncidentMoves_p3_l (p2 : law37_IncidentMoves_p2_T) {β : Type} : Nat → law37_IncidentMoves_p3_K1 β → law37_IncidentMoves_p3_K2 β → Int → Int → Int → (List Int) → Int → Int → Int → Int → Int → (List UInt8) → Int → Int → Int → (List Int) → (List api_Task) → (List api_Update) → (List Int) → (List (Int × (Int × Int))) → Int → Option β
  | 0 => fun _ _ _ _ _ _ _ _ _ _ _ _ _ _ _ _ _ _ _ _ _ => none
  | i + 1 => fun k1 k2 now state i_ d d2 x x2 x3 x4 x5 x6 x7 x8 x9 x10 x11 x12 x13 x14 => law37_IncidentMoves_p3_s c_incident_Move c_made_Dice_Next c_ref37_Possible p2 (law37_IncidentMoves_p3_l p2 i k1 k2) k1 k2 now state i_ d d2 x x2 x3 x4 x5 x6 x7 x8 x9 x10 x11 x12 x13 x14
theorem law37_IncidentMoves_p3_ok' (hΓ : ΓOk Try.prog (law37_IncidentMoves_X c_incident_Add c_incident_At c_incident_Move c_incident_Open c_incident_Subscribe c_law37_sane c_made_Dice_Next c_made_Light c_made_Roll c_ref37_Check c_ref37_Possible).Γ) (p2 : law37_IncidentMoves_p2_T) (hp2 : PieceOk Try.prog 141 0 law37_IncidentMoves_p2_code law37_IncidentMoves_p2_v law37_IncidentMoves_p2_o (law37_IncidentMoves_p2_G p2)) (i : Nat) : PieceOk Try.prog 141 0 law37_IncidentMoves_p3_code law37_IncidentMoves_p3_v law37_IncidentMoves_p3_o (law37_IncidentMoves_p3_G (law37_IncidentMoves_p3_l c_incident_Move c_made_Dice_Next c_ref37_Possible p2 i)) := by
  rw [show law37_IncidentMoves_p3_code = .loop (loopBody law37_IncidentMoves_p3_code) by kernel_rfl]
  exact piece_loop (X := (law37_IncidentMoves_X c_incident_Add c_incident_At c_incident_Move c_incident_Open c_incident_Subscribe c_law37_sane c_made_Dice_Next c_made_Light c_made_Roll c_ref37_Check c_ref37_Possible)) (p := 1) (Λ := pick1 [(207, pieceCut law37_IncidentMoves_p2_v law37_IncidentMoves_p2_o (law37_IncidentMoves_p2_G p2))]) (G := fun i => @fun β d ks => law37_IncidentMoves_p3_G (law37_IncidentMoves_p3_l c_incident_Move c_made_Dice_Next c_ref37_Possible p2 i) d ks) mixed tab_ok hΓ rfl (by kernel_rfl) (CutsOk_cons (q := 207) (c' := law37_IncidentMoves_p2_code) (by kernel_rfl) rfl hp2 CutsOk_nil) (fun _ _ => rfl) (fun i => @fun β d ks r h => Eq.trans (b := law37_IncidentMoves_p3_G (law37_IncidentMoves_p3_l c_incident_Move c_made_Dice_Next c_ref37_Possible p2 (i + 1)) d ks) (by kernel_rfl) h) i
def law37_IncidentMoves_s (p3 : law37_IncidentMoves_p3_T) {β : Type} (t : List Int) (k : (Bool → Option β)) : Option β :=
  c_made_Light t (fun (rLight : Bool) =>
  cond (!rLight)
  (c_law37_sane  (fun (rsane : Bool) =>
  k rsane))
  (c_made_Roll t (fun (mrRoll : (List Int × Int)) =>
  c_incident_Open (1 : Int) (864000 : Int) (2 : Int) ([100, 105, 115, 107] : List UInt8) (0 : Int) (fun (rOpen : api_Incident) (rOpen2 : Int) =>
  cond (!decide (rOpen2 = (0 : Int)))
  (k false)
  (p3 (fun (t2 : Bool) =>
  k t2) (fun (now : Int) (state : Int) (x : Int) (x2 : Int) (x3 : Int) (x4 : Int) (x5 : List UInt8) (x6 : Int) (x7 : Int) (x8 : Int) (x9 : List Int) (x10 : List api_Task) (x11 : List api_Update) (x12 : List Int) (x13 : List (Int × (Int × Int))) (x14 : Int) =>
  cond (!decide (state = (3 : Int)))
  (c_law37_sane  (fun (rsane : Bool) =>
  k rsane))
  (c_incident_Add (x, (x2, (x3, (x4, (x5, ((x6, (x7, x8)), (x9, (x10, (x11, (x12, (x13, x14))))))))))) now (1 : Int) ([108, 97, 116, 101] : List UInt8) (fun (rAdd : api_Incident) (rAdd2 : Int) =>
  c_incident_Subscribe (x, (x2, (x3, (x4, (x5, ((x6, (x7, x8)), (x9, (x10, (x11, (x12, (x13, x14))))))))))) (3 : Int) (fun (rSubscribe : api_Incident) (rSubscribe2 : Int) =>
  cond (decide (rAdd2 = (9 : Int)))
  (cond (decide (rSubscribe2 = (9 : Int)))
  (c_law37_sane  (fun (rsane : Bool) =>
  k rsane))
  (k false))
  (k false))))) (864000 : Int) (0 : Int) (0 : Int) mrRoll.1 mrRoll.2 rOpen.1 rOpen.2.1 rOpen.2.2.1 rOpen.2.2.2.1 rOpen.2.2.2.2.1 rOpen.2.2.2.2.2.1.1 rOpen.2.2.2.2.2.1.2.1 rOpen.2.2.2.2.2.1.2.2 rOpen.2.2.2.2.2.2.1 rOpen.2.2.2.2.2.2.2.1 rOpen.2.2.2.2.2.2.2.2.1 rOpen.2.2.2.2.2.2.2.2.2.1 rOpen.2.2.2.2.2.2.2.2.2.2.1 rOpen.2.2.2.2.2.2.2.2.2.2.2)))))
theorem law37_IncidentMoves_ok' (hΓ : ΓOk Try.prog (law37_IncidentMoves_X c_incident_Add c_incident_At c_incident_Move c_incident_Open c_incident_Subscribe c_law37_sane c_made_Dice_Next c_made_Light c_made_Roll c_ref37_Check c_ref37_Possible).Γ) (p3 : law37_IncidentMoves_p3_T) (hp3 : PieceOk Try.prog 141 0 law37_IncidentMoves_p3_code law37_IncidentMoves_p3_v law37_IncidentMoves_p3_o (law37_IncidentMoves_p3_G p3)) : SpecOk Try.prog 7 (law37_IncidentMoves_S (law37_IncidentMoves_s c_incident_Add c_incident_Open c_incident_Subscribe c_law37_sane c_made_Light c_made_Roll p3)) :=
  spec_exec (X := (law37_IncidentMoves_X c_incident_Add c_incident_At c_incident_Move c_incident_Open c_incident_Subscribe c_law37_sane c_made_Dice_Next c_made_Light c_made_Roll c_ref37_Check c_ref37_Possible)) (Λ := pick1 [(1018, pieceCut law37_IncidentMoves_p3_v law37_IncidentMoves_p3_o (law37_IncidentMoves_p3_G p3))]) (rs := [.tmp 2]) (c := bodyOf Try.f7) mixed tab_ok hΓ Try.func7 (by kernel_rfl) (by kernel_rfl) (by kernel_rfl) (by kernel_rfl) (CutsOk_cons (q := 1018) (c' := law37_IncidentMoves_p3_code) (by kernel_rfl) rfl hp3 CutsOk_nil) (fun x k r h => Eq.trans (b := (law37_IncidentMoves_S (law37_IncidentMoves_s c_incident_Add c_incident_Open c_incident_Subscribe c_law37_sane c_made_Light c_made_Roll p3)).run x k) (by kernel_rfl) h)
end
theorem law37_IncidentMoves_Γ : ΓOk Try.prog (pick1 [(15, .spec (incident_Add_S incident_Add)), (28, .spec (incident_At_S incident_At)), (26, .spec (incident_Move_S incident_Move)), (13, .spec (incident_Open_S incident_Open)), (29, .spec (incident_Subscribe_S incident_Subscribe)), (11, .spec (law37_sane_S law37_sane)), (14, .spec (made_Dice_Next_S made_Dice_Next)), (10, .spec (made_Light_S made_Light)), (12, .spec (made_Roll_S made_Roll)), (17, .spec (ref37_Check_S ref37_Check)), (27, .spec (ref37_Possible_S ref37_Possible))]) := (ΓOk_cons incident_Add_ok (ΓOk_cons incident_At_ok (ΓOk_cons incident_Move_ok (ΓOk_cons incident_Open_ok (ΓOk_cons incident_Subscribe_ok (ΓOk_cons law37_sane_ok (ΓOk_cons made_Dice_Next_ok (ΓOk_cons made_Light_ok (ΓOk_cons made_Roll_ok (ΓOk_cons ref37_Check_ok (ΓOk_cons ref37_Possible_ok ΓOk_nil)))))))))))
def law37_IncidentMoves_p1 : law37_IncidentMoves_p1_T := law37_IncidentMoves_p1_u incident_At ref37_Check
theorem law37_IncidentMoves_p1_ok : PieceOk Try.prog 141 0 law37_IncidentMoves_p1_code law37_IncidentMoves_p1_v law37_IncidentMoves_p1_o (law37_IncidentMoves_p1_G law37_IncidentMoves_p1) := law37_IncidentMoves_p1_ok' incident_Add incident_At incident_Move incident_Open incident_Subscribe law37_sane made_Dice_Next made_Light made_Roll ref37_Check ref37_Possible law37_IncidentMoves_Γ
def law37_IncidentMoves_p2 : law37_IncidentMoves_p2_T := law37_IncidentMoves_p2_u incident_At law37_IncidentMoves_p1
theorem law37_IncidentMoves_p2_ok : PieceOk Try.prog 141 0 law37_IncidentMoves_p2_code law37_IncidentMoves_p2_v law37_IncidentMoves_p2_o (law37_IncidentMoves_p2_G law37_IncidentMoves_p2) := law37_IncidentMoves_p2_ok' incident_Add incident_At incident_Move incident_Open incident_Subscribe law37_sane made_Dice_Next made_Light made_Roll ref37_Check ref37_Possible law37_IncidentMoves_Γ law37_IncidentMoves_p1 law37_IncidentMoves_p1_ok
def law37_IncidentMoves_p3_n (m : Nat) : law37_IncidentMoves_p3_T := law37_IncidentMoves_p3_l incident_Move made_Dice_Next ref37_Possible law37_IncidentMoves_p2 m
theorem law37_IncidentMoves_p3_step {β : Type} (i : Nat) (k1 k2 now state i_ d d2 x x2 x3 x4 x5 x6 x7 x8 x9 x10 x11 x12 x13 x14) : (law37_IncidentMoves_p3_n (i + 1) k1 k2 now state i_ d d2 x x2 x3 x4 x5 x6 x7 x8 x9 x10 x11 x12 x13 x14 : Option β) = law37_IncidentMoves_p3_s incident_Move made_Dice_Next ref37_Possible law37_IncidentMoves_p2 (law37_IncidentMoves_p3_n i k1 k2) k1 k2 now state i_ d d2 x x2 x3 x4 x5 x6 x7 x8 x9 x10 x11 x12 x13 x14 := rfl
def law37_IncidentMoves_p3 : law37_IncidentMoves_p3_T := law37_IncidentMoves_p3_n fuel
theorem law37_IncidentMoves_p3_ok : PieceOk Try.prog 141 0 law37_IncidentMoves_p3_code law37_IncidentMoves_p3_v law37_IncidentMoves_p3_o (law37_IncidentMoves_p3_G law37_IncidentMoves_p3) := law37_IncidentMoves_p3_ok' incident_Add incident_At incident_Move incident_Open incident_Subscribe law37_sane made_Dice_Next made_Light made_Roll ref37_Check ref37_Possible law37_IncidentMoves_Γ law37_IncidentMoves_p2 law37_IncidentMoves_p2_ok fuel
def law37_IncidentMoves : T_law37_IncidentMoves := law37_IncidentMoves_s incident_Add incident_Open incident_Subscribe law37_sane made_Light made_Roll law37_IncidentMoves_p3
theorem law37_IncidentMoves_ok : SpecOk Try.prog 7 (law37_IncidentMoves_S law37_IncidentMoves) := law37_IncidentMoves_ok' incident_Add incident_At incident_Move incident_Open incident_Subscribe law37_sane made_Dice_Next made_Light made_Roll ref37_Check ref37_Possible law37_IncidentMoves_Γ law37_IncidentMoves_p3 law37_IncidentMoves_p3_ok
end
end Go.Lift
