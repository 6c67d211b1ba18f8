/- Part8: Fn1, LBase, LSynLines, LStr, LDice, LSynParse, LSynDraw, LSyntaxLines, LSyntaxBack. -/
import Derived.Test.YtecdnhcojfdgmaaGreatDoorProg
import Derived.KernelRfl
import Derived.Test.YtecdnhcojfdgmaaGreatDoorPart7
set_option linter.unusedVariables false
set_option linter.unusedSimpArgs false
namespace Go.Lift
open Go.Proofs
noncomputable section
set_option maxRecDepth 100000
set_option linter.unusedVariables false
abbrev zql5 := {β : Type} → (List UInt8) → (zq0 → Int → Option β) → Option β
def zql6 (c : zql5) : Spec :=
  ⟨[(false, [.data .str])], [], [(true, [.data zq1]), (false, [.data (.int .i64)])], [], fun x k => c x.1.1.1 (fun r0 r1 => k (((r0, ()), (r1, ()), ()), ()))⟩
noncomputable def ref06_Token_p1_code : Code := codeAt 60927 (bodyOf Tryz.f42)
noncomputable def ref06_Token_p2_code : Code := codeAt 3807 (bodyOf Tryz.f42)
noncomputable def ref06_Token_p3_code : Code := codeAt 237 (bodyOf Tryz.f42)
abbrev zql7 (β : Type) := Int → Int → (List UInt8) → Int → Option β
abbrev zql8 (β : Type) := Int → (List UInt8) → Int → Option β
abbrev zql9 := {β : Type} → zql7 β → zql8 β → (List UInt8) → Bool → Int → (List UInt8) → Int → Option β
def zqla : View := ⟨0, [0, 2, 80], [(false, [.data .str]),  (false, [.ptr 0 0]), (false, [.data .bool])], [.cells 51 [.data (.int .i64), .data .str, .data (.int .i64)]]⟩
def zqlb : List  (AExit × View) := [(.ret, ⟨0, [2, 3], [(false, [.ptr 0 0]), (false, [.data (.int .i64)])], [.cells 51 [.data (.int .i64), .data .str, .data (.int .i64)]]⟩), (.normal, ⟨0, [2], [(false, [.ptr 0 0])], [.cells 51 [.data (.int .i64), .data .str, .data (.int .i64)]]⟩)]
@[reducible] def ref06_Token_p1_G (p : zql9) {β : Type} (d : zqla.den) (ks : Outs.K β zqlb) : Option β :=
  p (fun a0 a1 a2 a3 => ks.1 (((), (a0, ()), ()), ((a1, a2, a3, ()), ()))) (fun a0 a1 a2 => ks.2.1 (((), ()), ((a0, a1, a2, ()), ()))) d.1.1.1 d.1.2.2.1.1 d.2.1.1 d.2.1.2.1 d.2.1.2.2.1
abbrev zqlc (β : Type) := Int → (List UInt8) → Int → Option β
abbrev zqld (β : Type) := Int → Int → (List UInt8) → Int → Option β
abbrev zqle (β : Type) := Int → (List UInt8) → Int → Option β
abbrev zqlf := {β : Type} → zqlc β → zqld β → zqle β → (List UInt8) → (List UInt8) → Bool → Int → (List UInt8) → Int → Option β
def zqlg : View := ⟨0, [0, 2, 16, 38], [(false, [.data .str]),  (false, [.ptr 0 0]), (false, [.data .str]), (false, [.data .bool])], [.cells 51 [.data (.int .i64), .data .str, .data (.int .i64)]]⟩
def zqlh : List  (AExit × View) := [(.exit 0, ⟨0, [2], [(false, [.ptr 0 0])], [.cells 51 [.data (.int .i64), .data .str, .data (.int .i64)]]⟩), (.ret, ⟨0, [2, 3], [(false, [.ptr 0 0]), (false, [.data (.int .i64)])], [.cells 51 [.data (.int .i64), .data .str, .data (.int .i64)]]⟩), (.normal, ⟨0, [2], [(false, [.ptr 0 0])], [.cells 51 [.data (.int .i64), .data .str, .data (.int .i64)]]⟩)]
@[reducible] def ref06_Token_p2_G (p : zqlf) {β : Type} (d : zqlg.den) (ks : Outs.K β zqlh) : Option β :=
  p (fun a0 a1 a2 => ks.1 (((), ()), ((a0, a1, a2, ()), ()))) (fun a0 a1 a2 a3 => ks.2.1 (((), (a0, ()), ()), ((a1, a2, a3, ()), ()))) (fun a0 a1 a2 => ks.2.2.1 (((), ()), ((a0, a1, a2, ()), ()))) d.1.1.1 d.1.2.2.1.1 d.1.2.2.2.1.1 d.2.1.1 d.2.1.2.1 d.2.1.2.2.1
abbrev zqli (β : Type) := Int → Int → (List UInt8) → Int → Option β
abbrev zqlj (β : Type) := Int → (List UInt8) → Int → Option β
abbrev zqlk (β : Type) := Int → (List UInt8) → Int → Option β
abbrev zqll := {β : Type} → zqli β → zqlj β → zqlk β → (List UInt8) → (List UInt8) → Bool → Int → (List UInt8) → Int → Option β
def zqlm : View := ⟨0, [0, 2, 16, 17], [(false, [.data .str]),  (false, [.ptr 0 0]), (false, [.data .str]), (false, [.data .bool])], [.cells 51 [.data (.int .i64), .data .str, .data (.int .i64)]]⟩
def zqln : List  (AExit × View) := [(.ret, ⟨0, [2, 3], [(false, [.ptr 0 0]), (false, [.data (.int .i64)])], [.cells 51 [.data (.int .i64), .data .str, .data (.int .i64)]]⟩), (.normal, ⟨0, [2], [(false, [.ptr 0 0])], [.cells 51 [.data (.int .i64), .data .str, .data (.int .i64)]]⟩), (.exit 0, ⟨0, [2], [(false, [.ptr 0 0])], [.cells 51 [.data (.int .i64), .data .str, .data (.int .i64)]]⟩)]
@[reducible] def ref06_Token_p3_G (p : zqll) {β : Type} (d : zqlm.den) (ks : Outs.K β zqln) : Option β :=
  p (fun a0 a1 a2 a3 => ks.1 (((), (a0, ()), ()), ((a1, a2, a3, ()), ()))) (fun a0 a1 a2 => ks.2.1 (((), ()), ((a0, a1, a2, ()), ()))) (fun a0 a1 a2 => ks.2.2.1 (((), ()), ((a0, a1, a2, ()), ()))) d.1.1.1 d.1.2.2.1.1 d.1.2.2.2.1.1 d.2.1.1 d.2.1.2.1 d.2.1.2.2.1
section
variable (c_ref06_Name : zq9q) (c_ref06_clock : zqar) (c_ref06_date : zqkk) (c_ref06_form : zqa9) (c_ref06_number : zq5h)
@[reducible] def ref06_Token_X : Ctx := ⟨look tab, pick1 [(58, .spec (zq9r c_ref06_Name)), (60, .spec (zqas c_ref06_clock)), (61, .spec (zqkl c_ref06_date)), (59, .spec (zqaa c_ref06_form)), (62, .spec (zq5i c_ref06_number))], false, false, false, false⟩
def zqlo {β : Type} (k1 : zql7 β) (k2 : zql8 β) (word : List UInt8) (t80 : Bool) (t2 : Int) (t22 : List UInt8) (t23 : Int) : Option β :=
  cond t80
  (cond (decide (0 ≤ 0) && decide (0 < (List.length word : Int)))
  (cond (!decide (((List.getD word (Int.toNat 0) 0).toNat : Int) = 48))
  (c_ref06_number word (fun rnumber =>
  k1 0 1 ([] : List UInt8) rnumber))
  (cond (decide ((List.length word : Int) = 1))
  (c_ref06_number word (fun rnumber =>
  k1 0 1 ([] : List UInt8) rnumber))
  (k2 t2 t22 t23)))
  none)
  (k2 t2 t22 t23)
def zqlp {β : Type} (k1 : zql7 β) (k2 : zql8 β) (word : List UInt8) (t80 : Bool) (t2 : Int) (t22 : List UInt8) (t23 : Int) : Option β := zqlo c_ref06_number k1 k2 word t80 t2 t22 t23
theorem zqlq (hΓ : ΓOk Tryz.prog (ref06_Token_X c_ref06_Name c_ref06_clock c_ref06_date c_ref06_form c_ref06_number).Γ) : PieceOk Tryz.prog 102 0 ref06_Token_p1_code zqla zqlb (ref06_Token_p1_G (zqlp c_ref06_number)) :=
  piece_exec (X := (ref06_Token_X c_ref06_Name c_ref06_clock c_ref06_date c_ref06_form c_ref06_number)) (p := 60927) (Λ := pick1 []) mixed tab_ok hΓ (by kernel_rfl) CutsOk_nil (fun d ks r h => Eq.trans (b := ref06_Token_p1_G (zqlp c_ref06_number) d ks) (by kernel_rfl) h)
def zqlr (p1 : zql9) {β : Type} (k1 : zqlc β) (k2 : zqld β) (k3 : zqle β) (word : List UInt8) (t16 : List UInt8) (t38 : Bool) (t2 : Int) (t22 : List UInt8) (t23 : Int) : Option β :=
  cond t38
  (cond (decide (0 ≤ 1) && (decide (1 ≤ (List.length word : Int)) && decide ((List.length word : Int) ≤ (List.length word : Int))))
  (c_ref06_clock (List.drop (Int.toNat 1) (List.take (Int.toNat (List.length word : Int)) word)) (fun rclock =>
  cond (decide (rclock < 0))
  (k1 t2 t22 t23)
  (cond (decide (64800 < rclock))
  (k1 t2 t22 t23)
  (cond (decide (0 ≤ 0) && decide (0 < (List.length word : Int)))
  (cond (decide (((List.getD word (Int.toNat 0) 0).toNat : Int) = 45))
  (let n : Int := (IntKind.i64.wrap (0 - rclock));
  k2 0 4 ([] : List UInt8) n)
  (k2 0 4 ([] : List UInt8) rclock))
  none))))
  none)
  (let t : Bool := (decide (t16 = ([100, 100, 100, 100, 45, 100, 100, 45, 100, 100, 84, 100, 100, 58, 100, 100, 58, 100, 100, 90] : List UInt8)));
  cond t
  (cond (decide (0 ≤ 0) && (decide (0 ≤ 10) && decide (10 ≤ (List.length word : Int))))
  (c_ref06_date (List.drop (Int.toNat 0) (List.take (Int.toNat 10) word)) (fun rdate =>
  cond (decide (0 ≤ 11) && (decide (11 ≤ 19) && decide (19 ≤ (List.length word : Int))))
  (c_ref06_clock (List.drop (Int.toNat 11) (List.take (Int.toNat 19) word)) (fun rclock =>
  cond (decide (0 ≤ rdate))
  (cond (decide (0 ≤ rclock))
  (cond (decide (rclock < 86400))
  (k2 0 5 ([] : List UInt8) (IntKind.i64.wrap ((IntKind.i64.wrap (rdate * 86400)) + rclock)))
  (k3 t2 t22 t23))
  (k3 t2 t22 t23))
  (k3 t2 t22 t23)))
  none))
  none)
  (let t3 : Bool := (decide (t16 = ([100] : List UInt8)));
  cond t3
  (p1 (fun t32 t24 t25 t26 =>
  k2 t32 t24 t25 t26) (fun t24 t25 t26 =>
  k3 t24 t25 t26) word t3 t2 t22 t23)
  (let t4 : Bool := (decide (t16 = ([100, 100] : List UInt8)));
  cond t4
  (p1 (fun t32 t24 t25 t26 =>
  k2 t32 t24 t25 t26) (fun t24 t25 t26 =>
  k3 t24 t25 t26) word t4 t2 t22 t23)
  (let t5 : Bool := (decide (t16 = ([100, 100, 100] : List UInt8)));
  cond t5
  (p1 (fun t32 t24 t25 t26 =>
  k2 t32 t24 t25 t26) (fun t24 t25 t26 =>
  k3 t24 t25 t26) word t5 t2 t22 t23)
  (let t6 : Bool := (decide (t16 = ([100, 100, 100, 100] : List UInt8)));
  cond t6
  (p1 (fun t32 t24 t25 t26 =>
  k2 t32 t24 t25 t26) (fun t24 t25 t26 =>
  k3 t24 t25 t26) word t6 t2 t22 t23)
  (let t7 : Bool := (decide (t16 = ([100, 100, 100, 100, 100] : List UInt8)));
  cond t7
  (p1 (fun t32 t24 t25 t26 =>
  k2 t32 t24 t25 t26) (fun t24 t25 t26 =>
  k3 t24 t25 t26) word t7 t2 t22 t23)
  (let t8 : Bool := (decide (t16 = ([100, 100, 100, 100, 100, 100] : List UInt8)));
  cond t8
  (p1 (fun t32 t24 t25 t26 =>
  k2 t32 t24 t25 t26) (fun t24 t25 t26 =>
  k3 t24 t25 t26) word t8 t2 t22 t23)
  (let t9 : Bool := (decide (t16 = ([100, 100, 100, 100, 100, 100, 100] : List UInt8)));
  cond t9
  (p1 (fun t32 t24 t25 t26 =>
  k2 t32 t24 t25 t26) (fun t24 t25 t26 =>
  k3 t24 t25 t26) word t9 t2 t22 t23)
  (let t10 : Bool := (decide (t16 = ([100, 100, 100, 100, 100, 100, 100, 100] : List UInt8)));
  cond t10
  (p1 (fun t32 t24 t25 t26 =>
  k2 t32 t24 t25 t26) (fun t24 t25 t26 =>
  k3 t24 t25 t26) word t10 t2 t22 t23)
  (let t11 : Bool := (decide (t16 = ([100, 100, 100, 100, 100, 100, 100, 100, 100] : List UInt8)));
  p1 (fun t32 t24 t25 t26 =>
  k2 t32 t24 t25 t26) (fun t24 t25 t26 =>
  k3 t24 t25 t26) word t11 t2 t22 t23))))))))))
def zqls (p1 : zql9) {β : Type} (k1 : zqlc β) (k2 : zqld β) (k3 : zqle β) (word : List UInt8) (t16 : List UInt8) (t38 : Bool) (t2 : Int) (t22 : List UInt8) (t23 : Int) : Option β := zqlr c_ref06_clock c_ref06_date p1 k1 k2 k3 word t16 t38 t2 t22 t23
theorem zqlt (hΓ : ΓOk Tryz.prog (ref06_Token_X c_ref06_Name c_ref06_clock c_ref06_date c_ref06_form c_ref06_number).Γ) (p1 : zql9) (hp1 : PieceOk Tryz.prog 102 0 ref06_Token_p1_code zqla zqlb (ref06_Token_p1_G p1)) : PieceOk Tryz.prog 102 0 ref06_Token_p2_code zqlg zqlh (ref06_Token_p2_G (zqls c_ref06_clock c_ref06_date p1)) :=
  piece_exec (X := (ref06_Token_X c_ref06_Name c_ref06_clock c_ref06_date c_ref06_form c_ref06_number)) (p := 3807) (Λ := pick1 [(60927, pieceCut zqla zqlb (ref06_Token_p1_G p1))]) mixed tab_ok hΓ (by kernel_rfl) (CutsOk_cons (q := 60927) (c' := ref06_Token_p1_code) (by kernel_rfl) rfl hp1 CutsOk_nil) (fun d ks r h => Eq.trans (b := ref06_Token_p2_G (zqls c_ref06_clock c_ref06_date p1) d ks) (by kernel_rfl) h)
def zqlu (p2 : zqlf) {β : Type} (k1 : zqli β) (k2 : zqlj β) (k3 : zqlk β) (word : List UInt8) (t16 : List UInt8) (t17 : Bool) (t2 : Int) (t22 : List UInt8) (t23 : Int) : Option β :=
  cond t17
  (c_ref06_clock word (fun rclock =>
  cond (decide (0 ≤ rclock))
  (cond (decide (rclock ≤ 86400))
  (k1 0 2 ([] : List UInt8) rclock)
  (k2 t2 t22 t23))
  (k2 t2 t22 t23)))
  (let t : Bool := (decide (t16 = ([100, 100, 100, 100, 45, 100, 100, 45, 100, 100] : List UInt8)));
  cond t
  (c_ref06_date word (fun rdate =>
  cond (decide (0 ≤ rdate))
  (k1 0 3 ([] : List UInt8) rdate)
  (k2 t2 t22 t23)))
  (let t3 : Bool := (decide (t16 = ([43, 100, 100, 58, 100, 100] : List UInt8)));
  cond t3
  (p2 (fun t24 t25 t26 =>
  k3 t24 t25 t26) (fun t32 t24 t25 t26 =>
  k1 t32 t24 t25 t26) (fun t24 t25 t26 =>
  k2 t24 t25 t26) word t16 t3 t2 t22 t23)
  (let t4 : Bool := (decide (t16 = ([45, 100, 100, 58, 100, 100] : List UInt8)));
  p2 (fun t24 t25 t26 =>
  k3 t24 t25 t26) (fun t32 t24 t25 t26 =>
  k1 t32 t24 t25 t26) (fun t24 t25 t26 =>
  k2 t24 t25 t26) word t16 t4 t2 t22 t23)))
def zqlv (p2 : zqlf) {β : Type} (k1 : zqli β) (k2 : zqlj β) (k3 : zqlk β) (word : List UInt8) (t16 : List UInt8) (t17 : Bool) (t2 : Int) (t22 : List UInt8) (t23 : Int) : Option β := zqlu c_ref06_clock c_ref06_date p2 k1 k2 k3 word t16 t17 t2 t22 t23
theorem zqlw (hΓ : ΓOk Tryz.prog (ref06_Token_X c_ref06_Name c_ref06_clock c_ref06_date c_ref06_form c_ref06_number).Γ) (p2 : zqlf) (hp2 : PieceOk Tryz.prog 102 0 ref06_Token_p2_code zqlg zqlh (ref06_Token_p2_G p2)) : PieceOk Tryz.prog 102 0 ref06_Token_p3_code zqlm zqln (ref06_Token_p3_G (zqlv c_ref06_clock c_ref06_date p2)) :=
  piece_exec (X := (ref06_Token_X c_ref06_Name c_ref06_clock c_ref06_date c_ref06_form c_ref06_number)) (p := 237) (Λ := pick1 [(3807, pieceCut zqlg zqlh (ref06_Token_p2_G p2))]) mixed tab_ok hΓ (by kernel_rfl) (CutsOk_cons (q := 3807) (c' := ref06_Token_p2_code) (by kernel_rfl) rfl hp2 CutsOk_nil) (fun d ks r h => Eq.trans (b := ref06_Token_p3_G (zqlv c_ref06_clock c_ref06_date p2) d ks) (by kernel_rfl) h)
def zqlx (p3 : zqll) {β : Type} (word : List UInt8) (k : (zq0 → Int → Option β)) : Option β :=
  c_ref06_Name word (fun rName =>
  cond rName
  (k (0, (word, 0)) 0)
  (c_ref06_form word (fun rform =>
  let t : Bool := (decide (rform = ([100, 100, 58, 100, 100] : List UInt8)));
  cond t
  (p3 (fun t3 t2 t22 t23 =>
  k (t2, (t22, t23)) t3) (fun t2 t22 t23 =>
  k (0, (([] : List UInt8), 0)) 2) (fun t2 t22 t23 =>
  k (0, (([] : List UInt8), 0)) 2) word rform t 0 ([] : List UInt8) 0)
  (let t2 : Bool := (decide (rform = ([100, 100, 58, 100, 100, 58, 100, 100] : List UInt8)));
  p3 (fun t3 t22 t23 t24 =>
  k (t22, (t23, t24)) t3) (fun t22 t23 t24 =>
  k (0, (([] : List UInt8), 0)) 2) (fun t22 t23 t24 =>
  k (0, (([] : List UInt8), 0)) 2) word rform t2 0 ([] : List UInt8) 0))))
theorem zqly (hΓ : ΓOk Tryz.prog (ref06_Token_X c_ref06_Name c_ref06_clock c_ref06_date c_ref06_form c_ref06_number).Γ) (p3 : zqll) (hp3 : PieceOk Tryz.prog 102 0 ref06_Token_p3_code zqlm zqln (ref06_Token_p3_G p3)) : SpecOk Tryz.prog 42 (zql6 (zqlx c_ref06_Name c_ref06_form p3)) :=
  spec_exec (X := (ref06_Token_X c_ref06_Name c_ref06_clock c_ref06_date c_ref06_form c_ref06_number)) (Λ := pick1 [(237, pieceCut zqlm zqln (ref06_Token_p3_G p3))]) (rs := [.cell 2 51, .tmp 3]) (c := bodyOf Tryz.f42) mixed tab_ok hΓ Tryz.func42 (by kernel_rfl) (by kernel_rfl) (by kernel_rfl) (by kernel_rfl) (CutsOk_cons (q := 237) (c' := ref06_Token_p3_code) (by kernel_rfl) rfl hp3 CutsOk_nil) (fun x k r h => Eq.trans (b := (zql6 (zqlx c_ref06_Name c_ref06_form p3)).run x k) (by kernel_rfl) h)
end
theorem zqlzΓ : ΓOk Tryz.prog (pick1 [(58, .spec (zq9r zqa7)), (60, .spec (zqas zqb5)), (61, .spec (zqkl zqkp)), (59, .spec (zqaa zqap)), (62, .spec (zq5i zq5x))]) := (ΓOk_cons zqa8 (ΓOk_cons zqb6 (ΓOk_cons zqkq (ΓOk_cons zqaq (ΓOk_cons zq5y ΓOk_nil)))))
def zqm0 : zql9 := zqlp zq5x
theorem zqm1 : PieceOk Tryz.prog 102 0 ref06_Token_p1_code zqla zqlb (ref06_Token_p1_G zqm0) := zqlq zqa7 zqb5 zqkp zqap zq5x zqlzΓ
def zqm2 : zqlf := zqls zqb5 zqkp zqm0
theorem zqm3 : PieceOk Tryz.prog 102 0 ref06_Token_p2_code zqlg zqlh (ref06_Token_p2_G zqm2) := zqlt zqa7 zqb5 zqkp zqap zq5x zqlzΓ zqm0 zqm1
def zqm4 : zqll := zqlv zqb5 zqkp zqm2
theorem zqm5 : PieceOk Tryz.prog 102 0 ref06_Token_p3_code zqlm zqln (ref06_Token_p3_G zqm4) := zqlw zqa7 zqb5 zqkp zqap zq5x zqlzΓ zqm2 zqm3
def zqm6 : zql5 := zqlx zqa7 zqap zqm4
theorem zqm7 : SpecOk Tryz.prog 42 (zql6 zqm6) := zqly zqa7 zqb5 zqkp zqap zq5x zqlzΓ zqm4 zqm5
abbrev zqm8 := {β : Type} → (List UInt8) → (Int → Bool → Option β) → Option β
def zqm9 (c : zqm8) : Spec :=
  ⟨[(false, [.data .str])], [], [(false, [.data (.int .i64)]), (false, [.data .bool])], [], fun x k => c x.1.1.1 (fun r0 r1 => k (((r0, ()), (r1, ()), ()), ()))⟩
section
variable (c_lexer_clock : zqfe) (c_lexer_date : zqkr)
@[reducible] def lexer_instant_X : Ctx := ⟨look tab, pick1 [(73, .spec (zqff c_lexer_clock)), (72, .spec (zqks c_lexer_date))], false, false, false, false⟩
def zqma {β : Type} (s : List UInt8) (k : (Int → Bool → Option β)) : Option β :=
  cond (!decide ((List.length s : Int) = 20))
  (k 0 false)
  (cond (decide (0 ≤ 10) && decide (10 < (List.length s : Int)))
  (cond (!decide (((List.getD s (Int.toNat 10) 0).toNat : Int) = 84))
  (k 0 false)
  (cond (decide (0 ≤ 19) && decide (19 < (List.length s : Int)))
  (cond (!decide (((List.getD s (Int.toNat 19) 0).toNat : Int) = 90))
  (k 0 false)
  (cond (decide (0 ≤ 0) && (decide (0 ≤ 10) && decide (10 ≤ (List.length s : Int))))
  (c_lexer_date (List.drop (Int.toNat 0) (List.take (Int.toNat 10) s)) (fun rdate rdate2 =>
  cond (decide (0 ≤ 11) && (decide (11 ≤ 19) && decide (19 ≤ (List.length s : Int))))
  (c_lexer_clock (List.drop (Int.toNat 11) (List.take (Int.toNat 19) s)) (fun rclock rclock2 =>
  cond rdate2
  (cond rclock2
  (let t : Int := (IntKind.i64.wrap ((IntKind.i64.wrap (rdate * 86400)) + rclock));
  let t2 : Bool := (decide (rclock < 86400));
  k t t2)
  (let t : Int := (IntKind.i64.wrap ((IntKind.i64.wrap (rdate * 86400)) + rclock));
  k t false))
  (let t : Int := (IntKind.i64.wrap ((IntKind.i64.wrap (rdate * 86400)) + rclock));
  k t false)))
  none))
  none))
  none))
  none)
theorem zqmb (hΓ : ΓOk Tryz.prog (lexer_instant_X c_lexer_clock c_lexer_date).Γ) : SpecOk Tryz.prog 71 (zqm9 (zqma c_lexer_clock c_lexer_date)) :=
  spec_exec (X := (lexer_instant_X c_lexer_clock c_lexer_date)) (Λ := pick1 []) (rs := [.tmp 2, .tmp 3]) (c := bodyOf Tryz.f71) mixed tab_ok hΓ Tryz.func71 (by kernel_rfl) (by kernel_rfl) (by kernel_rfl) (by kernel_rfl) CutsOk_nil (fun x k r h => Eq.trans (b := (zqm9 (zqma c_lexer_clock c_lexer_date)).run x k) (by kernel_rfl) h)
end
theorem zqmcΓ : ΓOk Tryz.prog (pick1 [(73, .spec (zqff zqfv)), (72, .spec (zqks zqkw))]) := (ΓOk_cons zqfw (ΓOk_cons zqkx ΓOk_nil))
def zqmd : zqm8 := zqma zqfv zqkw
theorem zqme : SpecOk Tryz.prog 71 (zqm9 zqmd) := zqmb zqfv zqkw zqmcΓ
abbrev zqmf := {β : Type} → (Int × List zq0) → ((List UInt8) → Int → Option β) → Option β
def zqmg (c : zqmf) : Spec :=
  ⟨[(true, [.data (.prod (.int .i64) (.slice zq1))])], [], [(false, [.data .str]), (false, [.data (.int .i64)])], [], fun x k => c x.1.1.1 (fun r0 r1 => k (((r0, ()), (r1, ()), ()), ()))⟩
noncomputable def syntax_written_p1_code : Code := codeAt 122 (bodyOf Tryz.f21)
abbrev zqmh (β : Type) := (List UInt8) → Int → Option β
abbrev zqmi (β : Type) := (List (List UInt8)) → Option β
abbrev zqmj := {β : Type} → zqmh β → zqmi β → (List zq0) → Int → Int → (List (List UInt8)) → Option β
def zqmk : View := ⟨0, [4, 15, 16, 17], [(false, [.rowh 0]),  (false, [.data (.slice zq1)]), (false, [.data (.int .i64)]), (false, [.data (.int .i64)])], [.row 9 .str]⟩
def zqml : List  (AExit × View) := [(.ret, ⟨0, [2, 3], [(false, [.data .str]), (false, [.data (.int .i64)])], []⟩), (.exit 0, ⟨0, [4], [(false, [.rowh 0])], [.row 9 .str]⟩)]
@[reducible] def syntax_written_p1_G (p : zqmj) {β : Type} (d : zqmk.den) (ks : Outs.K β zqml) : Option β :=
  p (fun a0 a1 => ks.1 (((a0, ()), (a1, ()), ()), ())) (fun a0 => ks.2.1 (((), ()), (a0, ()))) d.1.2.1.1 d.1.2.2.1.1 d.1.2.2.2.1.1 d.2.1
section
variable (c_lexer_Text : zqky) (c_syntax_Form : zqhi)
@[reducible] def syntax_written_X : Ctx := ⟨look tab, pick1 [(34, .spec (zqkz c_lexer_Text)), (12, .spec (zqhj c_syntax_Form)), (35, .bld zq2i)], false, false, false, false⟩
def zqmm {β : Type} (rec : (List zq0) → Int → Int → (List (List UInt8)) → Option β) (k1 : zqmh β) (k2 : zqmi β) (t15 : List zq0) (t16 t17 : Int) (words : List (List UInt8)) : Option β :=
  cond (decide (t17 < t16))
  (cond (decide (0 ≤ t17) && decide (t17 < (List.length t15 : Int)))
  (let e : zq0 := List.getD t15 (Int.toNat t17) (0, (([] : List UInt8), 0));
  c_lexer_Text e (fun rText rText2 =>
  cond (!decide (rText2 = 0))
  (k1 ([] : List UInt8) 8)
  (let l : List (List UInt8) := ([rText] : List (List UInt8));
  cond (decide ((List.length words + List.length l) * 16 ≤ roomMax))
  (let l2 : List (List UInt8) := (words ++ l);
  rec t15 t16 (IntKind.i64.wrap (t17 + 1)) l2)
  none)))
  none)
  (k2 words)
def zqmn {β : Type} : Nat → zqmh β → zqmi β →  (List zq0) → Int → Int → (List (List UInt8)) → Option β
  | 0 => fun _ _ _ _ _ _ => none
  | i + 1 => fun k1 k2 t15 t16 t17 words => zqmm c_lexer_Text (zqmn i k1 k2) k1 k2 t15 t16 t17 words
theorem zqmo (hΓ : ΓOk Tryz.prog (syntax_written_X c_lexer_Text c_syntax_Form).Γ) (i : Nat) : PieceOk Tryz.prog 39 0 syntax_written_p1_code zqmk zqml (syntax_written_p1_G (zqmn c_lexer_Text i)) := by
  rw [show syntax_written_p1_code = .loop (loopBody syntax_written_p1_code) by kernel_rfl]
  exact piece_loop (X := (syntax_written_X c_lexer_Text c_syntax_Form)) (p := 1) (Λ := pick1 []) (G := fun i => @fun β d ks => syntax_written_p1_G (zqmn c_lexer_Text i) d ks) mixed tab_ok hΓ rfl (by kernel_rfl) CutsOk_nil (fun _ _ => rfl) (fun i => @fun β d ks r h => Eq.trans (b := syntax_written_p1_G (zqmn c_lexer_Text (i + 1)) d ks) (by kernel_rfl) h) i
def zqmp (p1 : zqmj) {β : Type} (s : (Int × List zq0)) (k : ((List UInt8) → Int → Option β)) : Option β :=
  c_syntax_Form s.2 (fun rForm =>
  cond (!rForm)
  (k ([] : List UInt8) 8)
  (p1 (fun t2 t3 =>
  k t2 t3) (fun words =>
  cond (decide (List.length words ≤ 140737488355328) && decide (List.length (Lib.join words ([32] : List UInt8)) ≤ 140737488355328))
  (let out : List UInt8 := (Lib.join words ([32] : List UInt8));
  cond (decide (512 < (List.length out : Int)))
  (k ([] : List UInt8) 5)
  (k out 0))
  none) s.2 (List.length s.2 : Int) 0 ([] : List (List UInt8))))
theorem zqmq (hΓ : ΓOk Tryz.prog (syntax_written_X c_lexer_Text c_syntax_Form).Γ) (p1 : zqmj) (hp1 : PieceOk Tryz.prog 39 0 syntax_written_p1_code zqmk zqml (syntax_written_p1_G p1)) : SpecOk Tryz.prog 21 (zqmg (zqmp c_syntax_Form p1)) :=
  spec_exec (X := (syntax_written_X c_lexer_Text c_syntax_Form)) (Λ := pick1 [(122, pieceCut zqmk zqml (syntax_written_p1_G p1))]) (rs := [.tmp 2, .tmp 3]) (c := bodyOf Tryz.f21) mixed tab_ok hΓ Tryz.func21 (by kernel_rfl) (by kernel_rfl) (by kernel_rfl) (by kernel_rfl) (CutsOk_cons (q := 122) (c' := syntax_written_p1_code) (by kernel_rfl) rfl hp1 CutsOk_nil) (fun x k r h => Eq.trans (b := (zqmg (zqmp c_syntax_Form p1)).run x k) (by kernel_rfl) h)
end
theorem zqmrΓ : ΓOk Tryz.prog (pick1 [(34, .spec (zqkz zql3)), (12, .spec (zqhj zqih)), (35, .bld zq2i)]) := (ΓOk_cons zql4 (ΓOk_cons zqii (ΓOk_bld zq2j ΓOk_nil)))
def zqms (m : Nat) : zqmj := zqmn zql3 m
theorem zqmt {β : Type} (i : Nat) (k1 k2 t15 t16 t17 words) : (zqms (i + 1) k1 k2 t15 t16 t17 words : Option β) = zqmm zql3 (zqms i k1 k2) k1 k2 t15 t16 t17 words := rfl
def zqmu : zqmj := zqms fuel
theorem zqmv : PieceOk Tryz.prog 39 0 syntax_written_p1_code zqmk zqml (syntax_written_p1_G zqmu) := zqmo zql3 zqih zqmrΓ fuel
def zqmw : zqmf := zqmp zqih zqmu
theorem zqmx : SpecOk Tryz.prog 21 (zqmg zqmw) := zqmq zql3 zqih zqmrΓ zqmu zqmv
abbrev zqmy := {β : Type} → (List UInt8) → (Int → (List zq0) → Option β) → Option β
def zqmz (c : zqmy) : Spec :=
  ⟨[(false, [.data .str])], [], [(false, [.rowh 0]), (false, [.data (.int .i64)])], [.row 51 zq1], fun x k => c x.1.1.1 (fun r0 r1 => k (((), (r0, ()), ()), (r1, ())))⟩
noncomputable def ref06_Line_p1_code : Code := codeAt 122 (bodyOf Tryz.f28)
noncomputable def ref06_Line_p2_code : Code := codeAt 1018 (bodyOf Tryz.f28)
abbrev zqn0 (β : Type) := Int → (List zq0) → Option β
abbrev zqn1 (β : Type) := (List UInt8) → Int → Option β
abbrev zqn2 := {β : Type} → zqn0 β → zqn1 β → (List UInt8) → Int → Int → Option β
def zqn3 : View := ⟨0, [0, 4, 5], [(false, [.data .str]),  (false, [.data (.int .i64)]), (false, [.data (.int .i64)])], []⟩
def zqn4 : List  (AExit × View) := [(.ret, ⟨0, [2, 3], [(false, [.rowh 0]), (false, [.data (.int .i64)])], [.row 51 zq1]⟩), (.exit 0, ⟨0, [0, 4], [(false, [.data .str]), (false, [.data (.int .i64)])], []⟩)]
@[reducible] def ref06_Line_p1_G (p : zqn2) {β : Type} (d : zqn3.den) (ks : Outs.K β zqn4) : Option β :=
  p (fun a0 a1 => ks.1 (((), (a0, ()), ()), (a1, ()))) (fun a0 a1 => ks.2.1 (((a0, ()), (a1, ()), ()), ())) d.1.1.1 d.1.2.1.1 d.1.2.2.1.1
abbrev zqn5 (β : Type) := Int → (List zq0) → Option β
abbrev zqn6 (β : Type) := (List zq0) → Option β
abbrev zqn7 := {β : Type} → zqn5 β → zqn6 β → Int → (List zq0) → (List (List UInt8)) → Option β
def zqn8 : View := ⟨0, [6, 7, 8], [(false, [.rowh 0]),  (false, [.rowh 1]), (false, [.data (.int .i64)])], [.row 51 zq1, .row 9 .str]⟩
def zqn9 : List  (AExit × View) := [(.ret, ⟨0, [2, 3], [(false, [.rowh 0]), (false, [.data (.int .i64)])], [.row 51 zq1]⟩), (.exit 2, ⟨0, [6], [(false, [.rowh 0])], [.row 51 zq1]⟩)]
@[reducible] def ref06_Line_p2_G (p : zqn7) {β : Type} (d : zqn8.den) (ks : Outs.K β zqn9) : Option β :=
  p (fun a0 a1 => ks.1 (((), (a0, ()), ()), (a1, ()))) (fun a0 => ks.2.1 (((), ()), (a0, ()))) d.1.2.2.1.1 d.2.1 d.2.2.1
section
variable (c_ref06_Token : zql5) (c_ref06_Words : zq3h)
@[reducible] def ref06_Line_X : Ctx := ⟨look tab, pick1 [(42, .spec (zql6 c_ref06_Token)), (41, .spec (zq3i c_ref06_Words))], false, false, false, false⟩
def zqna {β : Type} (rec : (List UInt8) → Int → Int → Option β) (k1 : zqn0 β) (k2 : zqn1 β) (text : List UInt8) (end_ i_ : Int) : Option β :=
  cond (decide (i_ < (List.length text : Int)))
  (cond (decide (0 ≤ i_) && decide (i_ < (List.length text : Int)))
  (cond (decide (((List.getD text (Int.toNat i_) 0).toNat : Int) < 32))
  (k1 2 ([] : List zq0))
  (cond (decide (0 ≤ i_) && decide (i_ < (List.length text : Int)))
  (cond (decide (126 < ((List.getD text (Int.toNat i_) 0).toNat : Int)))
  (k1 2 ([] : List zq0))
  (cond (decide (0 ≤ i_) && decide (i_ < (List.length text : Int)))
  (cond (decide (((List.getD text (Int.toNat i_) 0).toNat : Int) = 35))
  (let end_2 : Int := (if i_ < end_ then i_ else end_);
  let i_2 : Int := (IntKind.i64.wrap (i_ + 1));
  rec text end_2 i_2)
  (let i_2 : Int := (IntKind.i64.wrap (i_ + 1));
  rec text end_ i_2))
  none))
  none))
  none)
  (k2 text end_)
def zqnb {β : Type} : Nat → zqn0 β → zqn1 β →  (List UInt8) → Int → Int → Option β
  | 0 => fun _ _ _ _ _ => none
  | i + 1 => fun k1 k2 text end_ i_ => zqna (zqnb i k1 k2) k1 k2 text end_ i_
theorem zqnc (hΓ : ΓOk Tryz.prog (ref06_Line_X c_ref06_Token c_ref06_Words).Γ) (i : Nat) : PieceOk Tryz.prog 65 0 ref06_Line_p1_code zqn3 zqn4 (ref06_Line_p1_G (zqnb i)) := by
  rw [show ref06_Line_p1_code = .loop (loopBody ref06_Line_p1_code) by kernel_rfl]
  exact piece_loop (X := (ref06_Line_X c_ref06_Token c_ref06_Words)) (p := 1) (Λ := pick1 []) (G := fun i => @fun β d ks => ref06_Line_p1_G (zqnb i) d ks) mixed tab_ok hΓ rfl (by kernel_rfl) CutsOk_nil (fun _ _ => rfl) (fun i => @fun β d ks r h => Eq.trans (b := ref06_Line_p1_G (zqnb (i + 1)) d ks) (by kernel_rfl) h) i
def zqnd {β : Type} (rec : Int → (List zq0) → (List (List UInt8)) → Option β) (k1 : zqn5 β) (k2 : zqn6 β) (i_ : Int) (out : List zq0) (l : List (List UInt8)) : Option β :=
  cond (decide (i_ < (List.length l : Int)))
  (cond (decide (0 ≤ i_) && decide (i_ < (List.length l : Int)))
  (c_ref06_Token (List.getD l (Int.toNat i_) ([] : List UInt8)) (fun rToken rToken2 =>
  cond (!decide (rToken2 = 0))
  (k1 rToken2 ([] : List zq0))
  (let l2 : List zq0 := ([rToken] : List zq0);
  cond (decide ((List.length out + List.length l2) * 32 ≤ roomMax))
  (let l3 : List zq0 := (out ++ l2);
  let i_2 : Int := (IntKind.i64.wrap (i_ + 1));
  rec i_2 l3 l)
  none)))
  none)
  (k2 out)
def zqne {β : Type} : Nat → zqn5 β → zqn6 β → Int →  (List zq0) → (List (List UInt8)) → Option β
  | 0 => fun _ _ _ _ _ => none
  | i + 1 => fun k1 k2 i_ out l => zqnd c_ref06_Token (zqne i k1 k2) k1 k2 i_ out l
theorem zqnf (hΓ : ΓOk Tryz.prog (ref06_Line_X c_ref06_Token c_ref06_Words).Γ) (i : Nat) : PieceOk Tryz.prog 65 0 ref06_Line_p2_code zqn8 zqn9 (ref06_Line_p2_G (zqne c_ref06_Token i)) := by
  rw [show ref06_Line_p2_code = .loop (loopBody ref06_Line_p2_code) by kernel_rfl]
  exact piece_loop (X := (ref06_Line_X c_ref06_Token c_ref06_Words)) (p := 1) (Λ := pick1 []) (G := fun i => @fun β d ks => ref06_Line_p2_G (zqne c_ref06_Token i) d ks) mixed tab_ok hΓ rfl (by kernel_rfl) CutsOk_nil (fun _ _ => rfl) (fun i => @fun β d ks r h => Eq.trans (b := ref06_Line_p2_G (zqne c_ref06_Token (i + 1)) d ks) (by kernel_rfl) h) i
def zqng (p1 : zqn2) (p2 : zqn7) {β : Type} (text : List UInt8) (k : (Int → (List zq0) → Option β)) : Option β :=
  cond (decide (512 < (List.length text : Int)))
  (k 5 ([] : List zq0))
  (p1 (fun t3 t2 =>
  k t3 t2) (fun text2 end_ =>
  cond (decide (0 ≤ 0) && (decide (0 ≤ end_) && decide (end_ ≤ (List.length text2 : Int))))
  (c_ref06_Words (List.drop (Int.toNat 0) (List.take (Int.toNat end_) text2)) (fun lrWords =>
  p2 (fun t3 t2 =>
  k t3 t2) (fun out =>
  k 0 out) 0 ([] : List zq0) lrWords))
  none) text (List.length text : Int) 0)
theorem zqnh (hΓ : ΓOk Tryz.prog (ref06_Line_X c_ref06_Token c_ref06_Words).Γ) (p1 : zqn2) (p2 : zqn7) (hp1 : PieceOk Tryz.prog 65 0 ref06_Line_p1_code zqn3 zqn4 (ref06_Line_p1_G p1)) (hp2 : PieceOk Tryz.prog 65 0 ref06_Line_p2_code zqn8 zqn9 (ref06_Line_p2_G p2)) : SpecOk Tryz.prog 28 (zqmz (zqng c_ref06_Words p1 p2)) :=
  spec_exec (X := (ref06_Line_X c_ref06_Token c_ref06_Words)) (Λ := pick1 [(122, pieceCut zqn3 zqn4 (ref06_Line_p1_G p1)), (1018, pieceCut zqn8 zqn9 (ref06_Line_p2_G p2))]) (rs := [.tmp 2, .tmp 3]) (c := bodyOf Tryz.f28) mixed tab_ok hΓ Tryz.func28 (by kernel_rfl) (by kernel_rfl) (by kernel_rfl) (by kernel_rfl) (CutsOk_cons (q := 122) (c' := ref06_Line_p1_code) (by kernel_rfl) rfl hp1 (CutsOk_cons (q := 1018) (c' := ref06_Line_p2_code) (by kernel_rfl) rfl hp2 CutsOk_nil)) (fun x k r h => Eq.trans (b := (zqmz (zqng c_ref06_Words p1 p2)).run x k) (by kernel_rfl) h)
end
theorem zqniΓ : ΓOk Tryz.prog (pick1 [(42, .spec (zql6 zqm6)), (41, .spec (zq3i zq46))]) := (ΓOk_cons zqm7 (ΓOk_cons zq47 ΓOk_nil))
def zqnj (m : Nat) : zqn2 := zqnb m
theorem zqnk {β : Type} (i : Nat) (k1 k2 text end_ i_) : (zqnj (i + 1) k1 k2 text end_ i_ : Option β) = zqna (zqnj i k1 k2) k1 k2 text end_ i_ := rfl
def zqnl : zqn2 := zqnj fuel
theorem zqnm : PieceOk Tryz.prog 65 0 ref06_Line_p1_code zqn3 zqn4 (ref06_Line_p1_G zqnl) := zqnc zqm6 zq46 zqniΓ fuel
def zqnn (m : Nat) : zqn7 := zqne zqm6 m
theorem zqno {β : Type} (i : Nat) (k1 k2 i_ out l) : (zqnn (i + 1) k1 k2 i_ out l : Option β) = zqnd zqm6 (zqnn i k1 k2) k1 k2 i_ out l := rfl
def zqnp : zqn7 := zqnn fuel
theorem zqnq : PieceOk Tryz.prog 65 0 ref06_Line_p2_code zqn8 zqn9 (ref06_Line_p2_G zqnp) := zqnf zqm6 zq46 zqniΓ fuel
def zqnr : zqmy := zqng zq46 zqnl zqnp
theorem zqns : SpecOk Tryz.prog 28 (zqmz zqnr) := zqnh zqm6 zq46 zqniΓ zqnl zqnp zqnm zqnq
abbrev zqnt := {β : Type} → (List UInt8) → (Int → Int → Bool → Option β) → Option β
def zqnu (c : zqnt) : Spec :=
  ⟨[(false, [.data .str])], [], [(false, [.data (.int .i64)]), (false, [.data (.int .i64)]), (false, [.data .bool])], [], fun x k => c x.1.1.1 (fun r0 r1 r2 => k (((r0, ()), (r1, ()), (r2, ()), ()), ()))⟩
noncomputable def lexer_form_p1_code : Code := codeAt 7 (bodyOf Tryz.f53)
noncomputable def lexer_form_p2_code : Code := codeAt 215 (bodyOf Tryz.f53)
abbrev zqnv (β : Type) := Int → Int → Bool → Option β
abbrev zqnw := {β : Type} → zqnv β → (List UInt8) → Option β
def zqnx : View := ⟨0, [0], [(false, [.data .str])], []⟩
def zqny : List  (AExit × View) := [(.ret, ⟨0, [2, 3, 4], [(false, [.data (.int .i64)]), (false, [.data (.int .i64)]), (false, [.data .bool])], []⟩)]
@[reducible] def lexer_form_p1_G (p : zqnw) {β : Type} (d : zqnx.den) (ks : Outs.K β zqny) : Option β :=
  p (fun a0 a1 a2 => ks.1 (((a0, ()), (a1, ()), (a2, ()), ()), ())) d.1.1.1
abbrev zqnz (β : Type) := Int → Int → Bool → Option β
abbrev zqo0 (β : Type) := (List UInt8) → Option β
abbrev zqo1 := {β : Type} → zqnz β → zqo0 β → (List UInt8) → Bool → Option β
def zqo2 : View := ⟨0, [0, 23], [(false, [.data .str]),  (false, [.data .bool])], []⟩
def zqo3 : List  (AExit × View) := [(.ret, ⟨0, [2, 3, 4], [(false, [.data (.int .i64)]), (false, [.data (.int .i64)]), (false, [.data .bool])], []⟩), (.normal, ⟨0, [0], [(false, [.data .str])], []⟩)]
@[reducible] def lexer_form_p2_G (p : zqo1) {β : Type} (d : zqo2.den) (ks : Outs.K β zqo3) : Option β :=
  p (fun a0 a1 a2 => ks.1 (((a0, ()), (a1, ()), (a2, ()), ()), ())) (fun a0 => ks.2.1 (((a0, ()), ()), ())) d.1.1.1 d.1.2.1.1
section
variable (c_lexer_Name : zq97) (c_lexer_clock : zqfe) (c_lexer_date : zqkr) (c_lexer_instant : zqm8) (c_lexer_number : zqb7) (c_lexer_offset : zqij) (c_lexer_small : zq5z) (c_strings_Contains : zq68)
@[reducible] def lexer_form_X : Ctx := ⟨look tab, pick1 [(54, .spec (zq98 c_lexer_Name)), (73, .spec (zqff c_lexer_clock)), (72, .spec (zqks c_lexer_date)), (71, .spec (zqm9 c_lexer_instant)), (74, .spec (zqb8 c_lexer_number)), (69, .spec (zqik c_lexer_offset)), (68, .spec (zq60 c_lexer_small)), (70, .spec (zq69 c_strings_Contains))], false, false, false, false⟩
def zqo4 {β : Type} (k1 : zqnv β) (s : List UInt8) : Option β :=
  c_lexer_number s (fun rnumber rnumber2 =>
  cond rnumber2
  (cond (decide (0 ≤ 0) && decide (0 < (List.length s : Int)))
  (cond (!decide (((List.getD s (Int.toNat 0) 0).toNat : Int) = 48))
  (k1 1 rnumber true)
  (let t : Bool := (decide (s = ([48] : List UInt8)));
  k1 1 rnumber t))
  none)
  (k1 1 rnumber false))
def zqo5 {β : Type} (k1 : zqnv β) (s : List UInt8) : Option β := zqo4 c_lexer_number k1 s
theorem zqo6 (hΓ : ΓOk Tryz.prog (lexer_form_X c_lexer_Name c_lexer_clock c_lexer_date c_lexer_instant c_lexer_number c_lexer_offset c_lexer_small c_strings_Contains).Γ) : PieceOk Tryz.prog 83 0 lexer_form_p1_code zqnx zqny (lexer_form_p1_G (zqo5 c_lexer_number)) :=
  piece_exec (X := (lexer_form_X c_lexer_Name c_lexer_clock c_lexer_date c_lexer_instant c_lexer_number c_lexer_offset c_lexer_small c_strings_Contains)) (p := 7) (Λ := pick1 []) mixed tab_ok hΓ (by kernel_rfl) CutsOk_nil (fun d ks r h => Eq.trans (b := lexer_form_p1_G (zqo5 c_lexer_number) d ks) (by kernel_rfl) h)
def zqo7 {β : Type} (k1 : zqnz β) (k2 : zqo0 β) (s : List UInt8) (t23 : Bool) : Option β :=
  cond t23
  (c_lexer_offset s (fun roffset roffset2 =>
  k1 4 roffset roffset2))
  (c_strings_Contains s ([84] : List UInt8) (fun rContains =>
  cond rContains
  (c_lexer_instant s (fun rinstant rinstant2 =>
  k1 5 rinstant rinstant2))
  (c_strings_Contains s ([45] : List UInt8) (fun rContains2 =>
  cond rContains2
  (c_lexer_date s (fun rdate rdate2 =>
  k1 3 rdate rdate2))
  (c_strings_Contains s ([58] : List UInt8) (fun rContains3 =>
  cond rContains3
  (c_lexer_clock s (fun rclock rclock2 =>
  k1 2 rclock rclock2))
  (k2 s)))))))
def zqo8 {β : Type} (k1 : zqnz β) (k2 : zqo0 β) (s : List UInt8) (t23 : Bool) : Option β := zqo7 c_lexer_clock c_lexer_date c_lexer_instant c_lexer_offset c_strings_Contains k1 k2 s t23
theorem zqo9 (hΓ : ΓOk Tryz.prog (lexer_form_X c_lexer_Name c_lexer_clock c_lexer_date c_lexer_instant c_lexer_number c_lexer_offset c_lexer_small c_strings_Contains).Γ) : PieceOk Tryz.prog 83 0 lexer_form_p2_code zqo2 zqo3 (lexer_form_p2_G (zqo8 c_lexer_clock c_lexer_date c_lexer_instant c_lexer_offset c_strings_Contains)) :=
  piece_exec (X := (lexer_form_X c_lexer_Name c_lexer_clock c_lexer_date c_lexer_instant c_lexer_number c_lexer_offset c_lexer_small c_strings_Contains)) (p := 215) (Λ := pick1 []) mixed tab_ok hΓ (by kernel_rfl) CutsOk_nil (fun d ks r h => Eq.trans (b := lexer_form_p2_G (zqo8 c_lexer_clock c_lexer_date c_lexer_instant c_lexer_offset c_strings_Contains) d ks) (by kernel_rfl) h)
def zqoa (p1 : zqnw) (p2 : zqo1) {β : Type} (s : List UInt8) (k : (Int → Int → Bool → Option β)) : Option β :=
  cond (decide (0 ≤ 0) && decide (0 < (List.length s : Int)))
  (let c : Int := ((List.getD s (Int.toNat 0) 0).toNat : Int);
  c_lexer_small c (fun rsmall =>
  cond rsmall
  (c_lexer_Name s (fun rName =>
  k 0 0 rName))
  (cond (decide (c = 43))
  (p2 (fun t2 t3 t4 =>
  k t2 t3 t4) (fun s2 =>
  p1 (fun t2 t3 t4 =>
  k t2 t3 t4) s2) s true)
  (let t : Bool := (decide (c = 45));
  p2 (fun t2 t3 t4 =>
  k t2 t3 t4) (fun s2 =>
  p1 (fun t2 t3 t4 =>
  k t2 t3 t4) s2) s t))))
  none
theorem zqob (hΓ : ΓOk Tryz.prog (lexer_form_X c_lexer_Name c_lexer_clock c_lexer_date c_lexer_instant c_lexer_number c_lexer_offset c_lexer_small c_strings_Contains).Γ) (p1 : zqnw) (p2 : zqo1) (hp1 : PieceOk Tryz.prog 83 0 lexer_form_p1_code zqnx zqny (lexer_form_p1_G p1)) (hp2 : PieceOk Tryz.prog 83 0 lexer_form_p2_code zqo2 zqo3 (lexer_form_p2_G p2)) : SpecOk Tryz.prog 53 (zqnu (zqoa c_lexer_Name c_lexer_small p1 p2)) :=
  spec_exec (X := (lexer_form_X c_lexer_Name c_lexer_clock c_lexer_date c_lexer_instant c_lexer_number c_lexer_offset c_lexer_small c_strings_Contains)) (Λ := pick1 [(7, pieceCut zqnx zqny (lexer_form_p1_G p1)), (215, pieceCut zqo2 zqo3 (lexer_form_p2_G p2))]) (rs := [.tmp 2, .tmp 3, .tmp 4]) (c := bodyOf Tryz.f53) mixed tab_ok hΓ Tryz.func53 (by kernel_rfl) (by kernel_rfl) (by kernel_rfl) (by kernel_rfl) (CutsOk_cons (q := 7) (c' := lexer_form_p1_code) (by kernel_rfl) rfl hp1 (CutsOk_cons (q := 215) (c' := lexer_form_p2_code) (by kernel_rfl) rfl hp2 CutsOk_nil)) (fun x k r h => Eq.trans (b := (zqnu (zqoa c_lexer_Name c_lexer_small p1 p2)).run x k) (by kernel_rfl) h)
end
theorem zqocΓ : ΓOk Tryz.prog (pick1 [(54, .spec (zq98 zq9o)), (73, .spec (zqff zqfv)), (72, .spec (zqks zqkw)), (71, .spec (zqm9 zqmd)), (74, .spec (zqb8 zqbo)), (69, .spec (zqik zqix)), (68, .spec (zq60 zq64)), (70, .spec (zq69 zq6a))]) := (ΓOk_cons zq9p (ΓOk_cons zqfw (ΓOk_cons zqkx (ΓOk_cons zqme (ΓOk_cons zqbp (ΓOk_cons zqiy (ΓOk_cons zq65 (ΓOk_cons zq6b ΓOk_nil))))))))
def zqod : zqnw := zqo5 zqbo
theorem zqoe : PieceOk Tryz.prog 83 0 lexer_form_p1_code zqnx zqny (lexer_form_p1_G zqod) := zqo6 zq9o zqfv zqkw zqmd zqbo zqix zq64 zq6a zqocΓ
def zqof : zqo1 := zqo8 zqfv zqkw zqmd zqix zq6a
theorem zqog : PieceOk Tryz.prog 83 0 lexer_form_p2_code zqo2 zqo3 (lexer_form_p2_G zqof) := zqo9 zq9o zqfv zqkw zqmd zqbo zqix zq64 zq6a zqocΓ
def zqoh : zqnt := zqoa zq9o zq64 zqod zqof
theorem zqoi : SpecOk Tryz.prog 53 (zqnu zqoh) := zqob zq9o zqfv zqkw zqmd zqbo zqix zq64 zq6a zqocΓ zqod zqof zqoe zqog
abbrev zqoj := {β : Type} → (List (Int × List zq0)) → ((List UInt8) → Int → Option β) → Option β
def zqok (c : zqoj) : Spec :=
  ⟨[(false, [.data (.slice (.prod (.int .i64) (.slice zq1)))])], [], [(false, [.data .str]), (false, [.data (.int .i64)])], [], fun x k => c x.1.1.1 (fun r0 r1 => k (((r0, ()), (r1, ()), ()), ()))⟩
noncomputable def syntax_Text_p1_code : Code := codeAt 58 (bodyOf Tryz.f11)
abbrev zqol (β : Type) := (List UInt8) → Int → Option β
abbrev zqom (β : Type) := (List Int) → Option β
abbrev zqon := {β : Type} → zqol β → zqom β → (List (Int × List zq0)) → Int → Int → (List Int) → Option β
def zqoo : View := ⟨0, [4, 9, 10, 11], [(false, [.ptr 0 0]),  (false, [.data (.slice (.prod (.int .i64) (.slice zq1)))]), (false, [.data (.int .i64)]), (false, [.data (.int .i64)])], [.cells 55 [.bself 0, .rowh 1], .row 5 (.int .u8)]⟩
def zqop : List  (AExit × View) := [(.ret, ⟨0, [2, 3], [(false, [.data .str]), (false, [.data (.int .i64)])], []⟩), (.exit 0, ⟨0, [4], [(false, [.ptr 0 0])], [.cells 55 [.bself 0, .rowh 1], .row 5 (.int .u8)]⟩)]
@[reducible] def syntax_Text_p1_G (p : zqon) {β : Type} (d : zqoo.den) (ks : Outs.K β zqop) : Option β :=
  p (fun a0 a1 => ks.1 (((a0, ()), (a1, ()), ()), ())) (fun a0 => ks.2.1 (((), ()), ((), a0, ()))) d.1.2.1.1 d.1.2.2.1.1 d.1.2.2.2.1.1 d.2.2.1
section
variable (c_syntax_written : zqmf)
@[reducible] def syntax_Text_X : Ctx := ⟨look tab, pick1 [(21, .spec (zqmg c_syntax_written)), (23, .bld zq1y), (24, .bld zq22), (22, .bld zq1u)], false, false, false, false⟩
def zqoq {β : Type} (rec : (List (Int × List zq0)) → Int → Int → (List Int) → Option β) (k1 : zqol β) (k2 : zqom β) (t9 : List (Int × List zq0)) (t10 t11 : Int) (b1_ : List Int) : Option β :=
  cond (decide (t11 < t10))
  (cond (decide (0 ≤ t11) && decide (t11 < (List.length t9 : Int)))
  (let e : (Int × List zq0) := List.getD t9 (Int.toNat t11) (0, ([] : List zq0));
  c_syntax_written e (fun rwritten rwritten2 =>
  cond (!decide (rwritten2 = 0))
  (k1 ([] : List UInt8) rwritten2)
  (cond (decide (List.length rwritten + List.length ([10] : List UInt8) ≤ 9223372036854775807))
  (cond (decide (List.length b1_ + List.length (rwritten ++ ([10] : List UInt8)) ≤ 140737488355328))
  (let l : List Int := (b1_ ++ bytesI (rwritten ++ ([10] : List UInt8)));
  rec t9 t10 (IntKind.i64.wrap (t11 + 1)) l)
  none)
  none)))
  none)
  (k2 b1_)
def zqor {β : Type} : Nat → zqol β → zqom β →  (List (Int × List zq0)) → Int → Int → (List Int) → Option β
  | 0 => fun _ _ _ _ _ _ => none
  | i + 1 => fun k1 k2 t9 t10 t11 b1_ => zqoq c_syntax_written (zqor i k1 k2) k1 k2 t9 t10 t11 b1_
theorem zqos (hΓ : ΓOk Tryz.prog (syntax_Text_X c_syntax_written).Γ) (i : Nat) : PieceOk Tryz.prog 30 0 syntax_Text_p1_code zqoo zqop (syntax_Text_p1_G (zqor c_syntax_written i)) := by
  rw [show syntax_Text_p1_code = .loop (loopBody syntax_Text_p1_code) by kernel_rfl]
  exact piece_loop (X := (syntax_Text_X c_syntax_written)) (p := 1) (Λ := pick1 []) (G := fun i => @fun β d ks => syntax_Text_p1_G (zqor c_syntax_written i) d ks) mixed tab_ok hΓ rfl (by kernel_rfl) CutsOk_nil (fun _ _ => rfl) (fun i => @fun β d ks r h => Eq.trans (b := syntax_Text_p1_G (zqor c_syntax_written (i + 1)) d ks) (by kernel_rfl) h) i
def zqot (p1 : zqon) {β : Type} (l : List (Int × List zq0)) (k : ((List UInt8) → Int → Option β)) : Option β :=
  p1 (fun t2 t3 =>
  k t2 t3) (fun b1_ =>
  cond (decide (65536 < (List.length b1_ : Int)))
  (k ([] : List UInt8) 5)
  (cond (bytesOk b1_)
  (k (strOf b1_) 0)
  none)) l (List.length l : Int) 0 ([] : List Int)
theorem zqou (hΓ : ΓOk Tryz.prog (syntax_Text_X c_syntax_written).Γ) (p1 : zqon) (hp1 : PieceOk Tryz.prog 30 0 syntax_Text_p1_code zqoo zqop (syntax_Text_p1_G p1)) : SpecOk Tryz.prog 11 (zqok (zqot p1)) :=
  spec_exec (X := (syntax_Text_X c_syntax_written)) (Λ := pick1 [(58, pieceCut zqoo zqop (syntax_Text_p1_G p1))]) (rs := [.tmp 2, .tmp 3]) (c := bodyOf Tryz.f11) mixed tab_ok hΓ Tryz.func11 (by kernel_rfl) (by kernel_rfl) (by kernel_rfl) (by kernel_rfl) (CutsOk_cons (q := 58) (c' := syntax_Text_p1_code) (by kernel_rfl) rfl hp1 CutsOk_nil) (fun x k r h => Eq.trans (b := (zqok (zqot p1)).run x k) (by kernel_rfl) h)
end
theorem zqovΓ : ΓOk Tryz.prog (pick1 [(21, .spec (zqmg zqmw)), (23, .bld zq1y), (24, .bld zq22), (22, .bld zq1u)]) := (ΓOk_cons zqmx (ΓOk_bld zq1z (ΓOk_bld zq23 (ΓOk_bld zq1v ΓOk_nil))))
def zqow (m : Nat) : zqon := zqor zqmw m
theorem zqox {β : Type} (i : Nat) (k1 k2 t9 t10 t11 b1_) : (zqow (i + 1) k1 k2 t9 t10 t11 b1_ : Option β) = zqoq zqmw (zqow i k1 k2) k1 k2 t9 t10 t11 b1_ := rfl
def zqoy : zqon := zqow fuel
theorem zqoz : PieceOk Tryz.prog 30 0 syntax_Text_p1_code zqoo zqop (syntax_Text_p1_G zqoy) := zqos zqmw zqovΓ fuel
def zqp0 : zqoj := zqot zqoy
theorem zqp1 : SpecOk Tryz.prog 11 (zqok zqp0) := zqou zqmw zqovΓ zqoy zqoz
abbrev zqp2 := {β : Type} → (List UInt8) → (Int → Int → (List (Int × List zq0)) → Option β) → Option β
def zqp3 (c : zqp2) : Spec :=
  ⟨[(false, [.data .str])], [], [(false, [.rowh 0]), (false, [.data (.int .i64)]), (false, [.data (.int .i64)])], [.row 35 (.prod (.int .i64) (.slice zq1))], fun x k => c x.1.1.1 (fun r0 r1 r2 => k (((), (r0, ()), (r1, ()), ()), (r2, ())))⟩
noncomputable def ref07_Parse_p2_code : Code := codeAt 250 (bodyOf Tryz.f17)
noncomputable def ref07_Parse_p1_code : Code := codeAt 25 (loopBody ref07_Parse_p2_code)
abbrev zqp4 (β : Type) := Int → Int → (List (Int × List zq0)) → Option β
abbrev zqp5 (β : Type) := (List UInt8) → Int → Int → Int → (List (Int × List zq0)) → Option β
abbrev zqp6 (β : Type) := (List UInt8) → Int → Int → Int → (List (Int × List zq0)) → Option β
abbrev zqp7 := {β : Type} → zqp4 β → zqp5 β → zqp6 β → (List UInt8) → Int → Int → Int → (List (Int × List zq0)) → Option β
def zqp8 : View := ⟨0, [0, 5, 6, 7, 8], [(false, [.data .str]),  (false, [.rowh 0]), (false, [.data (.int .i64)]), (false, [.data (.int .i64)]), (false, [.data (.int .i64)])], [.row 35 (.prod (.int .i64) (.slice zq1))]⟩
def zqp9 : List  (AExit × View) := [(.ret, ⟨0, [2, 3, 4], [(false, [.rowh 0]), (false, [.data (.int .i64)]), (false, [.data (.int .i64)])], [.row 35 (.prod (.int .i64) (.slice zq1))]⟩), (.exit 1, ⟨0, [0, 5, 6, 7, 8], [(false, [.data .str]), (false, [.rowh 0]), (false, [.data (.int .i64)]), (false, [.data (.int .i64)]), (false, [.data (.int .i64)])], [.row 35 (.prod (.int .i64) (.slice zq1))]⟩), (.normal, ⟨0, [0, 5, 6, 7, 8], [(false, [.data .str]), (false, [.rowh 0]), (false, [.data (.int .i64)]), (false, [.data (.int .i64)]), (false, [.data (.int .i64)])], [.row 35 (.prod (.int .i64) (.slice zq1))]⟩)]
@[reducible] def ref07_Parse_p1_G (p : zqp7) {β : Type} (d : zqp8.den) (ks : Outs.K β zqp9) : Option β :=
  p (fun a0 a1 a2 => ks.1 (((), (a0, ()), (a1, ()), ()), (a2, ()))) (fun a0 a1 a2 a3 a4 => ks.2.1 (((a0, ()), (), (a1, ()), (a2, ()), (a3, ()), ()), (a4, ()))) (fun a0 a1 a2 a3 a4 => ks.2.2.1 (((a0, ()), (), (a1, ()), (a2, ()), (a3, ()), ()), (a4, ()))) d.1.1.1 d.1.2.2.1.1 d.1.2.2.2.1.1 d.1.2.2.2.2.1.1 d.2.1
abbrev zqpa (β : Type) := Int → Int → (List (Int × List zq0)) → Option β
abbrev zqpb (β : Type) := (List (Int × List zq0)) → Option β
abbrev zqpc := {β : Type} → zqpa β → zqpb β → (List UInt8) → Int → Int → Int → (List (Int × List zq0)) → Option β
def zqpd : View := ⟨0, [0, 5, 6, 7, 8], [(false, [.data .str]),  (false, [.rowh 0]), (false, [.data (.int .i64)]), (false, [.data (.int .i64)]), (false, [.data (.int .i64)])], [.row 35 (.prod (.int .i64) (.slice zq1))]⟩
def zqpe : List  (AExit × View) := [(.ret, ⟨0, [2, 3, 4], [(false, [.rowh 0]), (false, [.data (.int .i64)]), (false, [.data (.int .i64)])], [.row 35 (.prod (.int .i64) (.slice zq1))]⟩), (.exit 0, ⟨0, [5], [(false, [.rowh 0])], [.row 35 (.prod (.int .i64) (.slice zq1))]⟩)]
@[reducible] def ref07_Parse_p2_G (p : zqpc) {β : Type} (d : zqpd.den) (ks : Outs.K β zqpe) : Option β :=
  p (fun a0 a1 a2 => ks.1 (((), (a0, ()), (a1, ()), ()), (a2, ()))) (fun a0 => ks.2.1 (((), ()), (a0, ()))) d.1.1.1 d.1.2.2.1.1 d.1.2.2.2.1.1 d.1.2.2.2.2.1.1 d.2.1
section
variable (c_ref06_Line : zqmy) (c_ref07_Form : zqev)
@[reducible] def ref07_Parse_X : Ctx := ⟨look tab, pick1 [(28, .spec (zqmz c_ref06_Line)), (29, .spec (zqew c_ref07_Form))], false, false, false, false⟩
def zqpf {β : Type} (k1 : zqp4 β) (k2 : zqp5 β) (k3 : zqp6 β) (text : List UInt8) (from_ line i_ : Int) (out : List (Int × List zq0)) : Option β :=
  let line2 : Int := (IntKind.i64.wrap (line + 1));
  cond (decide (0 ≤ from_) && (decide (from_ ≤ i_) && decide (i_ ≤ (List.length text : Int))))
  (c_ref06_Line (List.drop (Int.toNat from_) (List.take (Int.toNat i_) text)) (fun rLine lrLine =>
  let from_2 : Int := (IntKind.i64.wrap (i_ + 1));
  cond (!decide (rLine = 0))
  (k1 line2 rLine ([] : List (Int × List zq0)))
  (cond (decide ((List.length lrLine : Int) = 0))
  (k2 text from_2 line2 i_ out)
  (c_ref07_Form lrLine (fun rForm =>
  cond (!rForm)
  (k1 line2 2 ([] : List (Int × List zq0)))
  (let l : List (Int × List zq0) := ([(line2, lrLine)] : List (Int × List zq0));
  cond (decide ((List.length out + List.length l) * 32 ≤ roomMax))
  (let l2 : List (Int × List zq0) := (out ++ l);
  k3 text from_2 line2 i_ l2)
  none))))))
  none
def zqpg {β : Type} (k1 : zqp4 β) (k2 : zqp5 β) (k3 : zqp6 β) (text : List UInt8) (from_ line i_ : Int) (out : List (Int × List zq0)) : Option β := zqpf c_ref06_Line c_ref07_Form k1 k2 k3 text from_ line i_ out
theorem zqph (hΓ : ΓOk Tryz.prog (ref07_Parse_X c_ref06_Line c_ref07_Form).Γ) : PieceOk Tryz.prog 71 0 ref07_Parse_p1_code zqp8 zqp9 (ref07_Parse_p1_G (zqpg c_ref06_Line c_ref07_Form)) :=
  piece_exec (X := (ref07_Parse_X c_ref06_Line c_ref07_Form)) (p := 25) (Λ := pick1 []) mixed tab_ok hΓ (by kernel_rfl) CutsOk_nil (fun d ks r h => Eq.trans (b := ref07_Parse_p1_G (zqpg c_ref06_Line c_ref07_Form) d ks) (by kernel_rfl) h)
def zqpi (p1 : zqp7) {β : Type} (rec : (List UInt8) → Int → Int → Int → (List (Int × List zq0)) → Option β) (k1 : zqpa β) (k2 : zqpb β) (text : List UInt8) (from_ : Int) (line : Int) (i_ : Int) (out : List (Int × List zq0)) : Option β :=
  cond (decide (i_ ≤ (List.length text : Int)))
  (cond (decide (i_ < (List.length text : Int)))
  (cond (decide (0 ≤ i_) && decide (i_ < (List.length text : Int)))
  (cond (!decide (((List.getD text (Int.toNat i_) 0).toNat : Int) = 10))
  (let i_2 : Int := (IntKind.i64.wrap (i_ + 1));
  rec text from_ line i_2 out)
  (cond (decide (i_ = (List.length text : Int)))
  (cond (decide (from_ = i_))
  (let i_2 : Int := (IntKind.i64.wrap (i_ + 1));
  rec text from_ line i_2 out)
  (p1 (fun t3 t4 t2 =>
  k1 t3 t4 t2) (fun text2 from_2 line2 i_2 out2 =>
  let i_3 : Int := (IntKind.i64.wrap (i_2 + 1));
  rec text2 from_2 line2 i_3 out2) (fun text2 from_2 line2 i_2 out2 =>
  let i_3 : Int := (IntKind.i64.wrap (i_2 + 1));
  rec text2 from_2 line2 i_3 out2) text from_ line i_ out))
  (p1 (fun t3 t4 t2 =>
  k1 t3 t4 t2) (fun text2 from_2 line2 i_2 out2 =>
  let i_3 : Int := (IntKind.i64.wrap (i_2 + 1));
  rec text2 from_2 line2 i_3 out2) (fun text2 from_2 line2 i_2 out2 =>
  let i_3 : Int := (IntKind.i64.wrap (i_2 + 1));
  rec text2 from_2 line2 i_3 out2) text from_ line i_ out)))
  none)
  (cond (decide (i_ = (List.length text : Int)))
  (cond (decide (from_ = i_))
  (let i_2 : Int := (IntKind.i64.wrap (i_ + 1));
  rec text from_ line i_2 out)
  (p1 (fun t3 t4 t2 =>
  k1 t3 t4 t2) (fun text2 from_2 line2 i_2 out2 =>
  let i_3 : Int := (IntKind.i64.wrap (i_2 + 1));
  rec text2 from_2 line2 i_3 out2) (fun text2 from_2 line2 i_2 out2 =>
  let i_3 : Int := (IntKind.i64.wrap (i_2 + 1));
  rec text2 from_2 line2 i_3 out2) text from_ line i_ out))
  (p1 (fun t3 t4 t2 =>
  k1 t3 t4 t2) (fun text2 from_2 line2 i_2 out2 =>
  let i_3 : Int := (IntKind.i64.wrap (i_2 + 1));
  rec text2 from_2 line2 i_3 out2) (fun text2 from_2 line2 i_2 out2 =>
  let i_3 : Int := (IntKind.i64.wrap (i_2 + 1));
  rec text2 from_2 line2 i_3 out2) text from_ line i_ out)))
  (k2 out)
def zqpj (p1 : zqp7) {β : Type} : Nat → zqpa β → zqpb β → (List UInt8) → Int → Int → Int → (List (Int × List zq0)) → Option β
  | 0 => fun _ _ _ _ _ _ _ => none
  | i + 1 => fun k1 k2 text from_ line i_ out => zqpi p1 (zqpj p1 i k1 k2) k1 k2 text from_ line i_ out
theorem zqpk (hΓ : ΓOk Tryz.prog (ref07_Parse_X c_ref06_Line c_ref07_Form).Γ) (p1 : zqp7) (hp1 : PieceOk Tryz.prog 71 0 ref07_Parse_p1_code zqp8 zqp9 (ref07_Parse_p1_G p1)) (i : Nat) : PieceOk Tryz.prog 71 0 ref07_Parse_p2_code zqpd zqpe (ref07_Parse_p2_G (zqpj p1 i)) := by
  rw [show ref07_Parse_p2_code = .loop (loopBody ref07_Parse_p2_code) by kernel_rfl]
  exact piece_loop (X := (ref07_Parse_X c_ref06_Line c_ref07_Form)) (p := 1) (Λ := pick1 [(25, pieceCut zqp8 zqp9 (ref07_Parse_p1_G p1))]) (G := fun i => @fun β d ks => ref07_Parse_p2_G (zqpj p1 i) d ks) mixed tab_ok hΓ rfl (by kernel_rfl) (CutsOk_cons (q := 25) (c' := ref07_Parse_p1_code) (by kernel_rfl) rfl hp1 CutsOk_nil) (fun _ _ => rfl) (fun i => @fun β d ks r h => Eq.trans (b := ref07_Parse_p2_G (zqpj p1 (i + 1)) d ks) (by kernel_rfl) h) i
def zqpl (p2 : zqpc) {β : Type} (text : List UInt8) (k : (Int → Int → (List (Int × List zq0)) → Option β)) : Option β :=
  cond (decide (65536 < (List.length text : Int)))
  (k 0 5 ([] : List (Int × List zq0)))
  (p2 (fun t3 t4 t2 =>
  k t3 t4 t2) (fun out =>
  k 0 0 out) text 0 0 0 ([] : List (Int × List zq0)))
theorem zqpm (hΓ : ΓOk Tryz.prog (ref07_Parse_X c_ref06_Line c_ref07_Form).Γ) (p2 : zqpc) (hp2 : PieceOk Tryz.prog 71 0 ref07_Parse_p2_code zqpd zqpe (ref07_Parse_p2_G p2)) : SpecOk Tryz.prog 17 (zqp3 (zqpl p2)) :=
  spec_exec (X := (ref07_Parse_X c_ref06_Line c_ref07_Form)) (Λ := pick1 [(250, pieceCut zqpd zqpe (ref07_Parse_p2_G p2))]) (rs := [.tmp 2, .tmp 3, .tmp 4]) (c := bodyOf Tryz.f17) mixed tab_ok hΓ Tryz.func17 (by kernel_rfl) (by kernel_rfl) (by kernel_rfl) (by kernel_rfl) (CutsOk_cons (q := 250) (c' := ref07_Parse_p2_code) (by kernel_rfl) rfl hp2 CutsOk_nil) (fun x k r h => Eq.trans (b := (zqp3 (zqpl p2)).run x k) (by kernel_rfl) h)
end
theorem zqpnΓ : ΓOk Tryz.prog (pick1 [(28, .spec (zqmz zqnr)), (29, .spec (zqew zqfc))]) := (ΓOk_cons zqns (ΓOk_cons zqfd ΓOk_nil))
def zqpo : zqp7 := zqpg zqnr zqfc
theorem zqpp : PieceOk Tryz.prog 71 0 ref07_Parse_p1_code zqp8 zqp9 (ref07_Parse_p1_G zqpo) := zqph zqnr zqfc zqpnΓ
def zqpq (m : Nat) : zqpc := zqpj zqpo m
theorem zqpr {β : Type} (i : Nat) (k1 k2 text from_ line i_ out) : (zqpq (i + 1) k1 k2 text from_ line i_ out : Option β) = zqpi zqpo (zqpq i k1 k2) k1 k2 text from_ line i_ out := rfl
def zqps : zqpc := zqpq fuel
theorem zqpt : PieceOk Tryz.prog 71 0 ref07_Parse_p2_code zqpd zqpe (ref07_Parse_p2_G zqps) := zqpk zqnr zqfc zqpnΓ zqpo zqpp fuel
def zqpu : zqp2 := zqpl zqps
theorem zqpv : SpecOk Tryz.prog 17 (zqp3 zqpu) := zqpm zqnr zqfc zqpnΓ zqps zqpt
abbrev zqpw := {β : Type} → (List UInt8) → (zq0 → Int → Option β) → Option β
def zqpx (c : zqpw) : Spec :=
  ⟨[(false, [.data .str])], [], [(true, [.data zq1]), (false, [.data (.int .i64)])], [], fun x k => c x.1.1.1 (fun r0 r1 => k (((r0, ()), (r1, ()), ()), ()))⟩
section
variable (c_lexer_form : zqnt)
@[reducible] def lexer_Token_X : Ctx := ⟨look tab, pick1 [(53, .spec (zqnu c_lexer_form))], false, false, false, false⟩
def zqpy {β : Type} (word : List UInt8) (k : (zq0 → Int → Option β)) : Option β :=
  cond (decide (word = ([] : List UInt8)))
  (k (0, (([] : List UInt8), 0)) 2)
  (c_lexer_form word (fun rform rform2 rform3 =>
  cond (!rform3)
  (k (0, (([] : List UInt8), 0)) 2)
  (let t : Bool := (decide (rform = 0));
  cond t
  (k (rform, (word, 0)) 0)
  (k (rform, (([] : List UInt8), rform2)) 0))))
theorem zqpz (hΓ : ΓOk Tryz.prog (lexer_Token_X c_lexer_form).Γ) : SpecOk Tryz.prog 33 (zqpx (zqpy c_lexer_form)) :=
  spec_exec (X := (lexer_Token_X c_lexer_form)) (Λ := pick1 []) (rs := [.cell 2 51, .tmp 3]) (c := bodyOf Tryz.f33) mixed tab_ok hΓ Tryz.func33 (by kernel_rfl) (by kernel_rfl) (by kernel_rfl) (by kernel_rfl) CutsOk_nil (fun x k r h => Eq.trans (b := (zqpx (zqpy c_lexer_form)).run x k) (by kernel_rfl) h)
end
theorem zqq0Γ : ΓOk Tryz.prog (pick1 [(53, .spec (zqnu zqoh))]) := (ΓOk_cons zqoi ΓOk_nil)
def zqq1 : zqpw := zqpy zqoh
theorem zqq2 : SpecOk Tryz.prog 33 (zqpx zqq1) := zqpz zqoh zqq0Γ
abbrev zqq3 := {β : Type} → Bool → (List Int × Int) → ((List UInt8) → (List Int × Int) → Option β) → Option β
def zqq4 (c : zqq3) : Spec :=
  ⟨[(false, [.ptr 0 0]), (false, [.data .bool])], [.cells 42 [.data (.prod (.slice (.int .i64)) (.int .i64))]], [(false, [.data .str])], [.cells 42 [.data (.prod (.slice (.int .i64)) (.int .i64))]], fun x k => c x.1.2.1.1 x.2.1.1 (fun r0 r1 => k (((r0, ()), ()), ((r1, ()), ())))⟩
noncomputable def law07_draw_p2_code : Code := codeAt 122 (bodyOf Tryz.f8)
noncomputable def law07_draw_p1_code : Code := codeAt 51 (loopBody law07_draw_p2_code)
abbrev zqq5 (β : Type) := Bool → (List UInt8) → Int → (List Int) → Int → (List (List UInt8)) → Option β
abbrev zqq6 := {β : Type} → zqq5 β → Bool → (List UInt8) → Int → (List UInt8) → (List Int) → Int → (List (List UInt8)) → Option β
def zqq7 : View := ⟨1, [0, 1, 5, 6, 7, 8], [(false, [.ptr 0 0]),  (false, [.data .bool]), (false, [.data .str]), (false, [.rowh 1]), (false, [.data (.int .i64)]), (false, [.data .str])], [.cells 42 [.data (.slice (.int .i64)), .data (.int .i64)], .row 9 .str]⟩
def zqq8 : List  (AExit × View) := [(.normal, ⟨1, [0, 1, 5, 6, 7], [(false, [.ptr 0 0]), (false, [.data .bool]), (false, [.data .str]), (false, [.rowh 1]), (false, [.data (.int .i64)])], [.cells 42 [.data (.slice (.int .i64)), .data (.int .i64)], .row 9 .str]⟩)]
@[reducible] def law07_draw_p1_G (p : zqq6) {β : Type} (d : zqq7.den) (ks : Outs.K β zqq8) : Option β :=
  p (fun a0 a1 a2 a3 a4 a5 => ks.1 (((), (a0, ()), (a1, ()), (), (a2, ()), ()), ((a3, a4, ()), a5, ()))) d.1.2.1.1 d.1.2.2.1.1 d.1.2.2.2.2.1.1 d.1.2.2.2.2.2.1.1 d.2.1.1 d.2.1.2.1 d.2.2.1
abbrev zqq9 (β : Type) := (List UInt8) → (List Int) → Int → Option β
abbrev zqqa := {β : Type} → zqq9 β → Bool → (List UInt8) → Int → (List Int) → Int → (List (List UInt8)) → Option β
def zqqb : View := ⟨1, [0, 1, 5, 6, 7], [(false, [.ptr 0 0]),  (false, [.data .bool]), (false, [.data .str]), (false, [.rowh 1]), (false, [.data (.int .i64)])], [.cells 42 [.data (.slice (.int .i64)), .data (.int .i64)], .row 9 .str]⟩
def zqqc : List  (AExit × View) := [(.exit 0, ⟨1, [5], [(false, [.data .str])], [.cells 42 [.data (.slice (.int .i64)), .data (.int .i64)]]⟩)]
@[reducible] def law07_draw_p2_G (p : zqqa) {β : Type} (d : zqqb.den) (ks : Outs.K β zqqc) : Option β :=
  p (fun a0 a1 a2 => ks.1 (((a0, ()), ()), ((a1, a2, ()), ()))) d.1.2.1.1 d.1.2.2.1.1 d.1.2.2.2.2.1.1 d.2.1.1 d.2.1.2.1 d.2.2.1
section
variable (c_law07_lines : zq11) (c_made_Dice_Bool : zq1f) (c_made_Dice_Next : zq18) (c_ref07_Parse : zqp2)
@[reducible] def law07_draw_X : Ctx := ⟨look tab, pick1 [(15, .spec (zq12 c_law07_lines)), (18, .spec (zq1g c_made_Dice_Bool)), (16, .spec (zq19 c_made_Dice_Next)), (17, .spec (zqp3 c_ref07_Parse))], false, false, false, false⟩
def zqqd {β : Type} (k1 : zqq5 β) (good : Bool) (out : List UInt8) (i_ : Int) (w : List UInt8) (d : List Int) (d2 : Int) (l : List (List UInt8)) : Option β :=
  cond (decide (List.length out + List.length w ≤ 9223372036854775807))
  (cond (decide (1 < i_))
  (cond (decide (List.length (out ++ w) + List.length ([10] : List UInt8) ≤ 9223372036854775807))
  (let out2 : List UInt8 := ((out ++ w) ++ ([10] : List UInt8));
  k1 good out2 i_ d d2 l)
  none)
  (c_made_Dice_Bool 2 (d, d2) (fun rBool mrBool =>
  cond rBool
  (cond (decide (List.length (out ++ w) + List.length ([10] : List UInt8) ≤ 9223372036854775807))
  (let out2 : List UInt8 := ((out ++ w) ++ ([10] : List UInt8));
  k1 good out2 i_ mrBool.1 mrBool.2 l)
  none)
  (k1 good (out ++ w) i_ mrBool.1 mrBool.2 l))))
  none
def zqqe {β : Type} (k1 : zqq5 β) (good : Bool) (out : List UInt8) (i_ : Int) (w : List UInt8) (d : List Int) (d2 : Int) (l : List (List UInt8)) : Option β := zqqd c_made_Dice_Bool k1 good out i_ w d d2 l
theorem zqqf (hΓ : ΓOk Tryz.prog (law07_draw_X c_law07_lines c_made_Dice_Bool c_made_Dice_Next c_ref07_Parse).Γ) : PieceOk Tryz.prog 49 1 law07_draw_p1_code zqq7 zqq8 (law07_draw_p1_G (zqqe c_made_Dice_Bool)) :=
  piece_exec (X := (law07_draw_X c_law07_lines c_made_Dice_Bool c_made_Dice_Next c_ref07_Parse)) (p := 51) (Λ := pick1 []) mixed tab_ok hΓ (by kernel_rfl) CutsOk_nil (fun d ks r h => Eq.trans (b := law07_draw_p1_G (zqqe c_made_Dice_Bool) d ks) (by kernel_rfl) h)
def zqqg (p1 : zqq6) {β : Type} (rec : Bool → (List UInt8) → Int → (List Int) → Int → (List (List UInt8)) → Option β) (k1 : zqq9 β) (good : Bool) (out : List UInt8) (i_ : Int) (d : List Int) (d2 : Int) (l : List (List UInt8)) : Option β :=
  cond (decide (0 < i_))
  (c_made_Dice_Next (List.length l : Int) (d, d2) (fun rNext mrNext =>
  cond (decide (0 ≤ rNext) && decide (rNext < (List.length l : Int)))
  (let w : List UInt8 := (List.getD l (Int.toNat rNext) ([] : List UInt8));
  c_ref07_Parse w (fun rParse rParse2 lrParse =>
  cond good
  (cond (!decide (rParse2 = 0))
  (let i_2 : Int := (IntKind.i64.wrap (i_ - 1));
  rec good out i_2 mrNext.1 mrNext.2 l)
  (p1 (fun good2 out2 i_2 d3 d4 l2 =>
  let i_3 : Int := (IntKind.i64.wrap (i_2 - 1));
  rec good2 out2 i_3 d3 d4 l2) good out i_ w mrNext.1 mrNext.2 l))
  (p1 (fun good2 out2 i_2 d3 d4 l2 =>
  let i_3 : Int := (IntKind.i64.wrap (i_2 - 1));
  rec good2 out2 i_3 d3 d4 l2) good out i_ w mrNext.1 mrNext.2 l)))
  none))
  (k1 out d d2)
def zqqh (p1 : zqq6) {β : Type} : Nat → zqq9 β → Bool → (List UInt8) → Int → (List Int) → Int → (List (List UInt8)) → Option β
  | 0 => fun _ _ _ _ _ _ _ => none
  | i + 1 => fun k1 good out i_ d d2 l => zqqg c_made_Dice_Next c_ref07_Parse p1 (zqqh p1 i k1) k1 good out i_ d d2 l
theorem zqqi (hΓ : ΓOk Tryz.prog (law07_draw_X c_law07_lines c_made_Dice_Bool c_made_Dice_Next c_ref07_Parse).Γ) (p1 : zqq6) (hp1 : PieceOk Tryz.prog 49 1 law07_draw_p1_code zqq7 zqq8 (law07_draw_p1_G p1)) (i : Nat) : PieceOk Tryz.prog 49 1 law07_draw_p2_code zqqb zqqc (law07_draw_p2_G (zqqh c_made_Dice_Next c_ref07_Parse p1 i)) := by
  rw [show law07_draw_p2_code = .loop (loopBody law07_draw_p2_code) by kernel_rfl]
  exact piece_loop (X := (law07_draw_X c_law07_lines c_made_Dice_Bool c_made_Dice_Next c_ref07_Parse)) (p := 1) (Λ := pick1 [(51, pieceCut zqq7 zqq8 (law07_draw_p1_G p1))]) (G := fun i => @fun β d ks => law07_draw_p2_G (zqqh c_made_Dice_Next c_ref07_Parse p1 i) d ks) mixed tab_ok hΓ rfl (by kernel_rfl) (CutsOk_cons (q := 51) (c' := law07_draw_p1_code) (by kernel_rfl) rfl hp1 CutsOk_nil) (fun _ _ => rfl) (fun i => @fun β d ks r h => Eq.trans (b := law07_draw_p2_G (zqqh c_made_Dice_Next c_ref07_Parse p1 (i + 1)) d ks) (by kernel_rfl) h) i
def zqqj (p2 : zqqa) {β : Type} (good : Bool) (d : (List Int × Int)) (k : ((List UInt8) → (List Int × Int) → Option β)) : Option β :=
  c_law07_lines  (fun lrlines =>
  c_made_Dice_Next 9 d (fun rNext mrNext =>
  p2 (fun out b0_ b0_2 =>
  k out (b0_, b0_2)) good ([] : List UInt8) rNext mrNext.1 mrNext.2 lrlines))
theorem zqqk (hΓ : ΓOk Tryz.prog (law07_draw_X c_law07_lines c_made_Dice_Bool c_made_Dice_Next c_ref07_Parse).Γ) (p2 : zqqa) (hp2 : PieceOk Tryz.prog 49 1 law07_draw_p2_code zqqb zqqc (law07_draw_p2_G p2)) : SpecOk Tryz.prog 8 (zqq4 (zqqj c_law07_lines c_made_Dice_Next p2)) :=
  spec_exec (X := (law07_draw_X c_law07_lines c_made_Dice_Bool c_made_Dice_Next c_ref07_Parse)) (Λ := pick1 [(122, pieceCut zqqb zqqc (law07_draw_p2_G p2))]) (rs := [.tmp 4]) (c := bodyOf Tryz.f8) mixed tab_ok hΓ Tryz.func8 (by kernel_rfl) (by kernel_rfl) (by kernel_rfl) (by kernel_rfl) (CutsOk_cons (q := 122) (c' := law07_draw_p2_code) (by kernel_rfl) rfl hp2 CutsOk_nil) (fun x k r h => Eq.trans (b := (zqq4 (zqqj c_law07_lines c_made_Dice_Next p2)).run x k) (by kernel_rfl) h)
end
theorem zqqlΓ : ΓOk Tryz.prog (pick1 [(15, .spec (zq12 zq16)), (18, .spec (zq1g zq1k)), (16, .spec (zq19 zq1d)), (17, .spec (zqp3 zqpu))]) := (ΓOk_cons zq17 (ΓOk_cons zq1l (ΓOk_cons zq1e (ΓOk_cons zqpv ΓOk_nil))))
def zqqm : zqq6 := zqqe zq1k
theorem zqqn : PieceOk Tryz.prog 49 1 law07_draw_p1_code zqq7 zqq8 (law07_draw_p1_G zqqm) := zqqf zq16 zq1k zq1d zqpu zqqlΓ
def zqqo (m : Nat) : zqqa := zqqh zq1d zqpu zqqm m
theorem zqqp {β : Type} (i : Nat) (k1 good out i_ d d2 l) : (zqqo (i + 1) k1 good out i_ d d2 l : Option β) = zqqg zq1d zqpu zqqm (zqqo i k1) k1 good out i_ d d2 l := rfl
def zqqq : zqqa := zqqo fuel
theorem zqqr : PieceOk Tryz.prog 49 1 law07_draw_p2_code zqqb zqqc (law07_draw_p2_G zqqq) := zqqi zq16 zq1k zq1d zqpu zqqlΓ zqqm zqqn fuel
def zqqs : zqq3 := zqqj zq16 zq1d zqqq
theorem zqqt : SpecOk Tryz.prog 8 (zqq4 zqqs) := zqqk zq16 zq1k zq1d zqpu zqqlΓ zqqq zqqr
abbrev zqqu := {β : Type} → (List UInt8) → (Int → (List zq0) → Option β) → Option β
def zqqv (c : zqqu) : Spec :=
  ⟨[(false, [.data .str])], [], [(false, [.rowh 0]), (false, [.data (.int .i64)])], [.row 51 zq1], fun x k => c x.1.1.1 (fun r0 r1 => k (((), (r0, ()), ()), (r1, ())))⟩
noncomputable def lexer_Line_p1_code : Code := codeAt 58 (bodyOf Tryz.f20)
noncomputable def lexer_Line_p2_code : Code := codeAt 506 (bodyOf Tryz.f20)
abbrev zqqw (β : Type) := Int → (List zq0) → Option β
abbrev zqqx (β : Type) := (List UInt8) → Option β
abbrev zqqy := {β : Type} → zqqw β → zqqx β → (List UInt8) → Int → Int → Option β
def zqqz : View := ⟨0, [0, 14, 15], [(false, [.data .str]),  (false, [.data (.int .i64)]), (false, [.data (.int .i64)])], []⟩
def zqr0 : List  (AExit × View) := [(.ret, ⟨0, [2, 3], [(false, [.rowh 0]), (false, [.data (.int .i64)])], [.row 51 zq1]⟩), (.exit 0, ⟨0, [0], [(false, [.data .str])], []⟩)]
@[reducible] def lexer_Line_p1_G (p : zqqy) {β : Type} (d : zqqz.den) (ks : Outs.K β zqr0) : Option β :=
  p (fun a0 a1 => ks.1 (((), (a0, ()), ()), (a1, ()))) (fun a0 => ks.2.1 (((a0, ()), ()), ())) d.1.1.1 d.1.2.1.1 d.1.2.2.1.1
abbrev zqr1 (β : Type) := Int → (List zq0) → Option β
abbrev zqr2 (β : Type) := (List zq0) → Option β
abbrev zqr3 := {β : Type} → zqr1 β → zqr2 β → Int → Int → (List zq0) → (List (List UInt8)) → Option β
def zqr4 : View := ⟨0, [5, 36, 37, 38], [(false, [.rowh 0]),  (false, [.rowh 1]), (false, [.data (.int .i64)]), (false, [.data (.int .i64)])], [.row 51 zq1, .row 9 .str]⟩
def zqr5 : List  (AExit × View) := [(.ret, ⟨0, [2, 3], [(false, [.rowh 0]), (false, [.data (.int .i64)])], [.row 51 zq1]⟩), (.exit 2, ⟨0, [5], [(false, [.rowh 0])], [.row 51 zq1]⟩)]
@[reducible] def lexer_Line_p2_G (p : zqr3) {β : Type} (d : zqr4.den) (ks : Outs.K β zqr5) : Option β :=
  p (fun a0 a1 => ks.1 (((), (a0, ()), ()), (a1, ()))) (fun a0 => ks.2.1 (((), ()), (a0, ()))) d.1.2.2.1.1 d.1.2.2.2.1.1 d.2.1 d.2.2.1
section
variable (c_lexer_Token : zqpw) (c_strings_Cut : zq26) (c_strings_Fields : zq2c)
@[reducible] def lexer_Line_X : Ctx := ⟨look tab, pick1 [(33, .spec (zqpx c_lexer_Token)), (31, .spec (zq27 c_strings_Cut)), (32, .spec (zq2d c_strings_Fields))], false, false, false, false⟩
def zqr6 {β : Type} (rec : (List UInt8) → Int → Int → Option β) (k1 : zqqw β) (k2 : zqqx β) (text : List UInt8) (t14 t15 : Int) : Option β :=
  cond (decide (t15 < t14))
  (cond (decide (0 ≤ t15) && decide (t15 < (List.length text : Int)))
  (cond (decide (((List.getD text (Int.toNat t15) 0).toNat : Int) < 32))
  (k1 2 ([] : List zq0))
  (cond (decide (0 ≤ t15) && decide (t15 < (List.length text : Int)))
  (cond (decide (126 < ((List.getD text (Int.toNat t15) 0).toNat : Int)))
  (k1 2 ([] : List zq0))
  (rec text t14 (IntKind.i64.wrap (t15 + 1))))
  none))
  none)
  (k2 text)
def zqr7 {β : Type} : Nat → zqqw β → zqqx β →  (List UInt8) → Int → Int → Option β
  | 0 => fun _ _ _ _ _ => none
  | i + 1 => fun k1 k2 text t14 t15 => zqr6 (zqr7 i k1 k2) k1 k2 text t14 t15
theorem zqr8 (hΓ : ΓOk Tryz.prog (lexer_Line_X c_lexer_Token c_strings_Cut c_strings_Fields).Γ) (i : Nat) : PieceOk Tryz.prog 56 0 lexer_Line_p1_code zqqz zqr0 (lexer_Line_p1_G (zqr7 i)) := by
  rw [show lexer_Line_p1_code = .loop (loopBody lexer_Line_p1_code) by kernel_rfl]
  exact piece_loop (X := (lexer_Line_X c_lexer_Token c_strings_Cut c_strings_Fields)) (p := 1) (Λ := pick1 []) (G := fun i => @fun β d ks => lexer_Line_p1_G (zqr7 i) d ks) mixed tab_ok hΓ rfl (by kernel_rfl) CutsOk_nil (fun _ _ => rfl) (fun i => @fun β d ks r h => Eq.trans (b := lexer_Line_p1_G (zqr7 (i + 1)) d ks) (by kernel_rfl) h) i
def zqr9 {β : Type} (rec : Int → Int → (List zq0) → (List (List UInt8)) → Option β) (k1 : zqr1 β) (k2 : zqr2 β) (t37 t38 : Int) (out : List zq0) (t36 : List (List UInt8)) : Option β :=
  cond (decide (t38 < t37))
  (cond (decide (0 ≤ t38) && decide (t38 < (List.length t36 : Int)))
  (let w : List UInt8 := (List.getD t36 (Int.toNat t38) ([] : List UInt8));
  c_lexer_Token w (fun rToken rToken2 =>
  cond (!decide (rToken2 = 0))
  (k1 rToken2 ([] : List zq0))
  (let l : List zq0 := ([rToken] : List zq0);
  cond (decide ((List.length out + List.length l) * 32 ≤ roomMax))
  (let l2 : List zq0 := (out ++ l);
  rec t37 (IntKind.i64.wrap (t38 + 1)) l2 t36)
  none)))
  none)
  (k2 out)
def zqra {β : Type} : Nat → zqr1 β → zqr2 β → Int → Int →  (List zq0) → (List (List UInt8)) → Option β
  | 0 => fun _ _ _ _ _ _ => none
  | i + 1 => fun k1 k2 t37 t38 out t36 => zqr9 c_lexer_Token (zqra i k1 k2) k1 k2 t37 t38 out t36
theorem zqrb (hΓ : ΓOk Tryz.prog (lexer_Line_X c_lexer_Token c_strings_Cut c_strings_Fields).Γ) (i : Nat) : PieceOk Tryz.prog 56 0 lexer_Line_p2_code zqr4 zqr5 (lexer_Line_p2_G (zqra c_lexer_Token i)) := by
  rw [show lexer_Line_p2_code = .loop (loopBody lexer_Line_p2_code) by kernel_rfl]
  exact piece_loop (X := (lexer_Line_X c_lexer_Token c_strings_Cut c_strings_Fields)) (p := 1) (Λ := pick1 []) (G := fun i => @fun β d ks => lexer_Line_p2_G (zqra c_lexer_Token i) d ks) mixed tab_ok hΓ rfl (by kernel_rfl) CutsOk_nil (fun _ _ => rfl) (fun i => @fun β d ks r h => Eq.trans (b := lexer_Line_p2_G (zqra c_lexer_Token (i + 1)) d ks) (by kernel_rfl) h) i
def zqrc (p1 : zqqy) (p2 : zqr3) {β : Type} (text : List UInt8) (k : (Int → (List zq0) → Option β)) : Option β :=
  cond (decide (512 < (List.length text : Int)))
  (k 5 ([] : List zq0))
  (p1 (fun t3 t2 =>
  k t3 t2) (fun text2 =>
  c_strings_Cut text2 ([35] : List UInt8) (fun rCut rCut2 rCut3 =>
  c_strings_Fields rCut (fun lrFields =>
  p2 (fun t3 t2 =>
  k t3 t2) (fun out =>
  k 0 out) (List.length lrFields : Int) 0 ([] : List zq0) lrFields))) text (List.length text : Int) 0)
theorem zqrd (hΓ : ΓOk Tryz.prog (lexer_Line_X c_lexer_Token c_strings_Cut c_strings_Fields).Γ) (p1 : zqqy) (p2 : zqr3) (hp1 : PieceOk Tryz.prog 56 0 lexer_Line_p1_code zqqz zqr0 (lexer_Line_p1_G p1)) (hp2 : PieceOk Tryz.prog 56 0 lexer_Line_p2_code zqr4 zqr5 (lexer_Line_p2_G p2)) : SpecOk Tryz.prog 20 (zqqv (zqrc c_strings_Cut c_strings_Fields p1 p2)) :=
  spec_exec (X := (lexer_Line_X c_lexer_Token c_strings_Cut c_strings_Fields)) (Λ := pick1 [(58, pieceCut zqqz zqr0 (lexer_Line_p1_G p1)), (506, pieceCut zqr4 zqr5 (lexer_Line_p2_G p2))]) (rs := [.tmp 2, .tmp 3]) (c := bodyOf Tryz.f20) mixed tab_ok hΓ Tryz.func20 (by kernel_rfl) (by kernel_rfl) (by kernel_rfl) (by kernel_rfl) (CutsOk_cons (q := 58) (c' := lexer_Line_p1_code) (by kernel_rfl) rfl hp1 (CutsOk_cons (q := 506) (c' := lexer_Line_p2_code) (by kernel_rfl) rfl hp2 CutsOk_nil)) (fun x k r h => Eq.trans (b := (zqqv (zqrc c_strings_Cut c_strings_Fields p1 p2)).run x k) (by kernel_rfl) h)
end
theorem zqreΓ : ΓOk Tryz.prog (pick1 [(33, .spec (zqpx zqq1)), (31, .spec (zq27 zq28)), (32, .spec (zq2d zq2e))]) := (ΓOk_cons zqq2 (ΓOk_cons zq29 (ΓOk_cons zq2f ΓOk_nil)))
def zqrf (m : Nat) : zqqy := zqr7 m
theorem zqrg {β : Type} (i : Nat) (k1 k2 text t14 t15) : (zqrf (i + 1) k1 k2 text t14 t15 : Option β) = zqr6 (zqrf i k1 k2) k1 k2 text t14 t15 := rfl
def zqrh : zqqy := zqrf fuel
theorem zqri : PieceOk Tryz.prog 56 0 lexer_Line_p1_code zqqz zqr0 (lexer_Line_p1_G zqrh) := zqr8 zqq1 zq28 zq2e zqreΓ fuel
def zqrj (m : Nat) : zqr3 := zqra zqq1 m
theorem zqrk {β : Type} (i : Nat) (k1 k2 t37 t38 out t36) : (zqrj (i + 1) k1 k2 t37 t38 out t36 : Option β) = zqr9 zqq1 (zqrj i k1 k2) k1 k2 t37 t38 out t36 := rfl
def zqrl : zqr3 := zqrj fuel
theorem zqrm : PieceOk Tryz.prog 56 0 lexer_Line_p2_code zqr4 zqr5 (lexer_Line_p2_G zqrl) := zqrb zqq1 zq28 zq2e zqreΓ fuel
def zqrn : zqqu := zqrc zq28 zq2e zqrh zqrl
theorem zqro : SpecOk Tryz.prog 20 (zqqv zqrn) := zqrd zqq1 zq28 zq2e zqreΓ zqrh zqrl zqri zqrm
abbrev zqrp := {β : Type} → (List UInt8) → (Int → Int → (List (Int × List zq0)) → Option β) → Option β
def zqrq (c : zqrp) : Spec :=
  ⟨[(false, [.data .str])], [], [(false, [.rowh 0]), (false, [.data (.int .i64)]), (false, [.data (.int .i64)])], [.row 35 (.prod (.int .i64) (.slice zq1))], fun x k => c x.1.1.1 (fun r0 r1 r2 => k (((), (r0, ()), (r1, ()), ()), (r2, ())))⟩
noncomputable def syntax_Parse_p2_code : Code := codeAt 58 (bodyOf Tryz.f9)
noncomputable def syntax_Parse_p1_code : Code := codeAt 231 (loopBody syntax_Parse_p2_code)
abbrev zqrr (β : Type) := Int → Int → (List (Int × List zq0)) → Option β
abbrev zqrs (β : Type) := Int → Int → (List (Int × List zq0)) → (List (List UInt8)) → Option β
abbrev zqrt := {β : Type} → zqrr β → zqrs β → Int → Int → Int → Int → (List (Int × List zq0)) → (List zq0) → (List (List UInt8)) → Option β
def zqru : View := ⟨0, [2, 5, 7, 8, 13, 14, 15], [(false, [.rowh 0]),  (false, [.data (.int .i64)]), (false, [.rowh 1]), (false, [.data (.int .i64)]), (false, [.rowh 2]), (false, [.data (.int .i64)]), (false, [.data (.int .i64)])], [.row 35 (.prod (.int .i64) (.slice zq1)), .row 51 zq1, .row 9 .str]⟩
def zqrv : List  (AExit × View) := [(.ret, ⟨0, [2, 3, 4], [(false, [.rowh 0]), (false, [.data (.int .i64)]), (false, [.data (.int .i64)])], [.row 35 (.prod (.int .i64) (.slice zq1))]⟩), (.normal, ⟨0, [2, 13, 14, 15], [(false, [.rowh 0]), (false, [.rowh 1]), (false, [.data (.int .i64)]), (false, [.data (.int .i64)])], [.row 35 (.prod (.int .i64) (.slice zq1)), .row 9 .str]⟩)]
@[reducible] def syntax_Parse_p1_G (p : zqrt) {β : Type} (d : zqru.den) (ks : Outs.K β zqrv) : Option β :=
  p (fun a0 a1 a2 => ks.1 (((), (a0, ()), (a1, ()), ()), (a2, ()))) (fun a0 a1 a2 a3 => ks.2.1 (((), (), (a0, ()), (a1, ()), ()), (a2, a3, ()))) d.1.2.1.1 d.1.2.2.2.1.1 d.1.2.2.2.2.2.1.1 d.1.2.2.2.2.2.2.1.1 d.2.1 d.2.2.1 d.2.2.2.1
abbrev zqrw (β : Type) := Int → Int → (List (Int × List zq0)) → Option β
abbrev zqrx (β : Type) := (List (Int × List zq0)) → Option β
abbrev zqry := {β : Type} → zqrw β → zqrx β → Int → Int → (List (Int × List zq0)) → (List (List UInt8)) → Option β
def zqrz : View := ⟨0, [2, 13, 14, 15], [(false, [.rowh 0]),  (false, [.rowh 1]), (false, [.data (.int .i64)]), (false, [.data (.int .i64)])], [.row 35 (.prod (.int .i64) (.slice zq1)), .row 9 .str]⟩
def zqs0 : List  (AExit × View) := [(.ret, ⟨0, [2, 3, 4], [(false, [.rowh 0]), (false, [.data (.int .i64)]), (false, [.data (.int .i64)])], [.row 35 (.prod (.int .i64) (.slice zq1))]⟩), (.exit 0, ⟨0, [2], [(false, [.rowh 0])], [.row 35 (.prod (.int .i64) (.slice zq1))]⟩)]
@[reducible] def syntax_Parse_p2_G (p : zqry) {β : Type} (d : zqrz.den) (ks : Outs.K β zqs0) : Option β :=
  p (fun a0 a1 a2 => ks.1 (((), (a0, ()), (a1, ()), ()), (a2, ()))) (fun a0 => ks.2.1 (((), ()), (a0, ()))) d.1.2.2.1.1 d.1.2.2.2.1.1 d.2.1 d.2.2.1
section
variable (c_lexer_Line : zqqu) (c_strings_Split : zq1o) (c_syntax_Form : zqhi)
@[reducible] def syntax_Parse_X : Ctx := ⟨look tab, pick1 [(20, .spec (zqqv c_lexer_Line)), (19, .spec (zq1p c_strings_Split)), (12, .spec (zqhj c_syntax_Form))], false, false, false, false⟩
def zqs1 {β : Type} (k1 : zqrr β) (k2 : zqrs β) (i_ e t14 t15 : Int) (l : List (Int × List zq0)) (t : List zq0) (t13 : List (List UInt8)) : Option β :=
  cond (!decide (e = 0))
  (let line : Int := (IntKind.i64.wrap (i_ + 1));
  k1 line e ([] : List (Int × List zq0)))
  (cond (decide (0 < (List.length t : Int)))
  (let l2 : List (Int × List zq0) := ([((IntKind.i64.wrap (i_ + 1)), t)] : List (Int × List zq0));
  cond (decide ((List.length l + List.length l2) * 32 ≤ roomMax))
  (let l3 : List (Int × List zq0) := (l ++ l2);
  k2 t14 t15 l3 t13)
  none)
  (k2 t14 t15 l t13))
def zqs2 {β : Type} (k1 : zqrr β) (k2 : zqrs β) (i_ e t14 t15 : Int) (l : List (Int × List zq0)) (t : List zq0) (t13 : List (List UInt8)) : Option β := zqs1 k1 k2 i_ e t14 t15 l t t13
theorem zqs3 (hΓ : ΓOk Tryz.prog (syntax_Parse_X c_lexer_Line c_strings_Split c_syntax_Form).Γ) : PieceOk Tryz.prog 54 0 syntax_Parse_p1_code zqru zqrv (syntax_Parse_p1_G (zqs2)) :=
  piece_exec (X := (syntax_Parse_X c_lexer_Line c_strings_Split c_syntax_Form)) (p := 231) (Λ := pick1 []) mixed tab_ok hΓ (by kernel_rfl) CutsOk_nil (fun d ks r h => Eq.trans (b := syntax_Parse_p1_G (zqs2) d ks) (by kernel_rfl) h)
def zqs4 (p1 : zqrt) {β : Type} (rec : Int → Int → (List (Int × List zq0)) → (List (List UInt8)) → Option β) (k1 : zqrw β) (k2 : zqrx β) (t14 : Int) (t15 : Int) (l : List (Int × List zq0)) (t13 : List (List UInt8)) : Option β :=
  cond (decide (t15 < t14))
  (cond (decide (0 ≤ t15) && decide (t15 < (List.length t13 : Int)))
  (let s : List UInt8 := (List.getD t13 (Int.toNat t15) ([] : List UInt8));
  c_lexer_Line s (fun rLine lrLine =>
  cond (decide (rLine = 0))
  (cond (decide (0 < (List.length lrLine : Int)))
  (c_syntax_Form lrLine (fun rForm =>
  cond (!rForm)
  (p1 (fun line e l2 =>
  k1 line e l2) (fun t142 t152 l2 t132 =>
  rec t142 (IntKind.i64.wrap (t152 + 1)) l2 t132) t15 2 t14 t15 l lrLine t13)
  (p1 (fun line e l2 =>
  k1 line e l2) (fun t142 t152 l2 t132 =>
  rec t142 (IntKind.i64.wrap (t152 + 1)) l2 t132) t15 rLine t14 t15 l lrLine t13)))
  (p1 (fun line e l2 =>
  k1 line e l2) (fun t142 t152 l2 t132 =>
  rec t142 (IntKind.i64.wrap (t152 + 1)) l2 t132) t15 rLine t14 t15 l lrLine t13))
  (p1 (fun line e l2 =>
  k1 line e l2) (fun t142 t152 l2 t132 =>
  rec t142 (IntKind.i64.wrap (t152 + 1)) l2 t132) t15 rLine t14 t15 l lrLine t13)))
  none)
  (k2 l)
def zqs5 (p1 : zqrt) {β : Type} : Nat → zqrw β → zqrx β → Int → Int → (List (Int × List zq0)) → (List (List UInt8)) → Option β
  | 0 => fun _ _ _ _ _ _ => none
  | i + 1 => fun k1 k2 t14 t15 l t13 => zqs4 c_lexer_Line c_syntax_Form p1 (zqs5 p1 i k1 k2) k1 k2 t14 t15 l t13
theorem zqs6 (hΓ : ΓOk Tryz.prog (syntax_Parse_X c_lexer_Line c_strings_Split c_syntax_Form).Γ) (p1 : zqrt) (hp1 : PieceOk Tryz.prog 54 0 syntax_Parse_p1_code zqru zqrv (syntax_Parse_p1_G p1)) (i : Nat) : PieceOk Tryz.prog 54 0 syntax_Parse_p2_code zqrz zqs0 (syntax_Parse_p2_G (zqs5 c_lexer_Line c_syntax_Form p1 i)) := by
  rw [show syntax_Parse_p2_code = .loop (loopBody syntax_Parse_p2_code) by kernel_rfl]
  exact piece_loop (X := (syntax_Parse_X c_lexer_Line c_strings_Split c_syntax_Form)) (p := 1) (Λ := pick1 [(231, pieceCut zqru zqrv (syntax_Parse_p1_G p1))]) (G := fun i => @fun β d ks => syntax_Parse_p2_G (zqs5 c_lexer_Line c_syntax_Form p1 i) d ks) mixed tab_ok hΓ rfl (by kernel_rfl) (CutsOk_cons (q := 231) (c' := syntax_Parse_p1_code) (by kernel_rfl) rfl hp1 CutsOk_nil) (fun _ _ => rfl) (fun i => @fun β d ks r h => Eq.trans (b := syntax_Parse_p2_G (zqs5 c_lexer_Line c_syntax_Form p1 (i + 1)) d ks) (by kernel_rfl) h) i
def zqs7 (p2 : zqry) {β : Type} (text : List UInt8) (k : (Int → Int → (List (Int × List zq0)) → Option β)) : Option β :=
  cond (decide (65536 < (List.length text : Int)))
  (k 0 5 ([] : List (Int × List zq0)))
  (c_strings_Split text ([10] : List UInt8) (fun lrSplit =>
  p2 (fun line e l =>
  k line e l) (fun l =>
  k 0 0 l) (List.length lrSplit : Int) 0 ([] : List (Int × List zq0)) lrSplit))
theorem zqs8 (hΓ : ΓOk Tryz.prog (syntax_Parse_X c_lexer_Line c_strings_Split c_syntax_Form).Γ) (p2 : zqry) (hp2 : PieceOk Tryz.prog 54 0 syntax_Parse_p2_code zqrz zqs0 (syntax_Parse_p2_G p2)) : SpecOk Tryz.prog 9 (zqrq (zqs7 c_strings_Split p2)) :=
  spec_exec (X := (syntax_Parse_X c_lexer_Line c_strings_Split c_syntax_Form)) (Λ := pick1 [(58, pieceCut zqrz zqs0 (syntax_Parse_p2_G p2))]) (rs := [.tmp 2, .tmp 3, .tmp 4]) (c := bodyOf Tryz.f9) mixed tab_ok hΓ Tryz.func9 (by kernel_rfl) (by kernel_rfl) (by kernel_rfl) (by kernel_rfl) (CutsOk_cons (q := 58) (c' := syntax_Parse_p2_code) (by kernel_rfl) rfl hp2 CutsOk_nil) (fun x k r h => Eq.trans (b := (zqrq (zqs7 c_strings_Split p2)).run x k) (by kernel_rfl) h)
end
theorem zqs9Γ : ΓOk Tryz.prog (pick1 [(20, .spec (zqqv zqrn)), (19, .spec (zq1p zq1q)), (12, .spec (zqhj zqih))]) := (ΓOk_cons zqro (ΓOk_cons zq1r (ΓOk_cons zqii ΓOk_nil)))
def zqsa : zqrt := zqs2
theorem zqsb : PieceOk Tryz.prog 54 0 syntax_Parse_p1_code zqru zqrv (syntax_Parse_p1_G zqsa) := zqs3 zqrn zq1q zqih zqs9Γ
def zqsc (m : Nat) : zqry := zqs5 zqrn zqih zqsa m
theorem zqsd {β : Type} (i : Nat) (k1 k2 t14 t15 l t13) : (zqsc (i + 1) k1 k2 t14 t15 l t13 : Option β) = zqs4 zqrn zqih zqsa (zqsc i k1 k2) k1 k2 t14 t15 l t13 := rfl
def zqse : zqry := zqsc fuel
theorem zqsf : PieceOk Tryz.prog 54 0 syntax_Parse_p2_code zqrz zqs0 (syntax_Parse_p2_G zqse) := zqs6 zqrn zq1q zqih zqs9Γ zqsa zqsb fuel
def zqsg : zqrp := zqs7 zq1q zqse
theorem zqsh : SpecOk Tryz.prog 9 (zqrq zqsg) := zqs8 zqrn zq1q zqih zqs9Γ zqse zqsf
abbrev zqsi := {β : Type} → (Bool → Option β) → Option β
def zqsj (c : zqsi) : Spec :=
  ⟨[], [], [(false, [.data .bool])], [], fun x k => c  (fun r0 => k (((r0, ()), ()), ()))⟩
section
variable (c_syntax_Form : zqhi) (c_syntax_Month : zqea) (c_syntax_Parse : zqrp) (c_syntax_Weekday : zqeh)
@[reducible] def law07_sane_X : Ctx := ⟨look tab, pick1 [(12, .spec (zqhj c_syntax_Form)), (13, .spec (zqeb c_syntax_Month)), (9, .spec (zqrq c_syntax_Parse)), (14, .spec (zqei c_syntax_Weekday))], false, false, false, false⟩
def zqsk {β : Type} (k : (Bool → Option β)) : Option β :=
  c_syntax_Parse ([35, 32, 120, 10, 122, 111, 110, 101, 32, 122, 32, 43, 48, 49, 58, 48, 48] : List UInt8) (fun rParse rParse2 lrParse =>
  c_syntax_Month ([109, 97, 114] : List UInt8) (fun rMonth rMonth2 =>
  c_syntax_Weekday ([115, 117, 110] : List UInt8) (fun rWeekday rWeekday2 =>
  cond (decide (rParse2 = 0))
  (cond (decide (rParse = 0))
  (cond (decide ((List.length lrParse : Int) = 1))
  (cond (decide (0 ≤ 0) && decide (0 < (List.length lrParse : Int)))
  (cond (decide (((List.getD lrParse (Int.toNat 0) (0, ([] : List zq0))).1) = 2))
  (cond (decide (0 ≤ 0) && decide (0 < (List.length lrParse : Int)))
  (c_syntax_Form ((List.getD lrParse (Int.toNat 0) (0, ([] : List zq0))).2) (fun rForm =>
  cond rForm
  (cond (decide (0 ≤ 0) && decide (0 < (List.length lrParse : Int)))
  (cond (decide (0 ≤ 0) && (decide (0 ≤ 1) && decide (1 ≤ (List.length ((List.getD lrParse (Int.toNat 0) (0, ([] : List zq0))).2) : Int))))
  (c_syntax_Form (List.drop (Int.toNat 0) (List.take (Int.toNat 1) ((List.getD lrParse (Int.toNat 0) (0, ([] : List zq0))).2))) (fun rForm2 =>
  cond (!rForm2)
  (cond rMonth2
  (cond rWeekday2
  (cond (decide (rMonth = 3))
  (let t : Bool := (decide (rWeekday = 6));
  k t)
  (k false))
  (k false))
  (k false))
  (k false)))
  none)
  none)
  (k false)))
  none)
  (k false))
  none)
  (k false))
  (k false))
  (k false))))
theorem zqsl (hΓ : ΓOk Tryz.prog (law07_sane_X c_syntax_Form c_syntax_Month c_syntax_Parse c_syntax_Weekday).Γ) : SpecOk Tryz.prog 6 (zqsj (zqsk c_syntax_Form c_syntax_Month c_syntax_Parse c_syntax_Weekday)) :=
  spec_exec (X := (law07_sane_X c_syntax_Form c_syntax_Month c_syntax_Parse c_syntax_Weekday)) (Λ := pick1 []) (rs := [.tmp 0]) (c := bodyOf Tryz.f6) mixed tab_ok hΓ Tryz.func6 (by kernel_rfl) (by kernel_rfl) (by kernel_rfl) (by kernel_rfl) CutsOk_nil (fun x k r h => Eq.trans (b := (zqsj (zqsk c_syntax_Form c_syntax_Month c_syntax_Parse c_syntax_Weekday)).run x k) (by kernel_rfl) h)
end
theorem zqsmΓ : ΓOk Tryz.prog (pick1 [(12, .spec (zqhj zqih)), (13, .spec (zqeb zqef)), (9, .spec (zqrq zqsg)), (14, .spec (zqei zqem))]) := (ΓOk_cons zqii (ΓOk_cons zqeg (ΓOk_cons zqsh (ΓOk_cons zqen ΓOk_nil))))
def zqsn : zqsi := zqsk zqih zqef zqsg zqem
theorem zqso : SpecOk Tryz.prog 6 (zqsj zqsn) := zqsl zqih zqef zqsg zqem zqsmΓ
abbrev zqsp := {β : Type} → (List Int) → (Bool → Option β) → Option β
def zqsq (c : zqsp) : Spec :=
  ⟨[(false, [.data (.slice (.int .i64))])], [], [(false, [.data .bool])], [], fun x k => c x.1.1.1 (fun r0 => k (((r0, ()), ()), ()))⟩
noncomputable def law07_SyntaxBack_p1_code : Code := codeAt 2042 (bodyOf Tryz.f4)
abbrev zqsr (β : Type) := Bool → Option β
abbrev zqss (β : Type) := Unit → Option β
abbrev zqst := {β : Type} → zqsr β → zqss β → Int → Int → (List (Int × List zq0)) → (List (Int × List zq0)) → Option β
def zqsu : View := ⟨0, [3, 8, 77, 78], [(false, [.rowh 0]),  (false, [.rowh 1]), (false, [.data (.int .i64)]), (false, [.data (.int .i64)])], [.row 35 (.prod (.int .i64) (.slice zq1)), .row 35 (.prod (.int .i64) (.slice zq1))]⟩
def zqsv : List  (AExit × View) := [(.ret, ⟨0, [2], [(false, [.data .bool])], []⟩), (.exit 0, ⟨0, [], [], []⟩)]
@[reducible] def law07_SyntaxBack_p1_G (p : zqst) {β : Type} (d : zqsu.den) (ks : Outs.K β zqsv) : Option β :=
  p (fun a0 => ks.1 (((a0, ()), ()), ())) (fun _ => ks.2.1 ((), ())) d.1.2.2.1.1 d.1.2.2.2.1.1 d.2.1 d.2.2.1
section
variable (c_law07_draw : zqq3) (c_law07_sane : zqsi) (c_law07_tokens : zqi) (c_made_Light : zq4) (c_made_Roll : zqb) (c_syntax_Form : zqhi) (c_syntax_Parse : zqrp) (c_syntax_Text : zqoj)
@[reducible] def law07_SyntaxBack_X : Ctx := ⟨look tab, pick1 [(8, .spec (zqq4 c_law07_draw)), (6, .spec (zqsj c_law07_sane)), (10, .spec (zqj c_law07_tokens)), (5, .spec (zq5 c_made_Light)), (7, .spec (zqc c_made_Roll)), (12, .spec (zqhj c_syntax_Form)), (9, .spec (zqrq c_syntax_Parse)), (11, .spec (zqok c_syntax_Text))], false, false, false, false⟩
def zqsw {β : Type} (rec : Int → Int → (List (Int × List zq0)) → (List (Int × List zq0)) → Option β) (k1 : zqsr β) (k2 : zqss β) (t77 t78 : Int) (l m : List (Int × List zq0)) : Option β :=
  cond (decide (t78 < t77))
  (cond (decide (0 ≤ t78) && decide (t78 < (List.length m : Int)))
  (cond (!decide (((List.getD m (Int.toNat t78) (0, ([] : List zq0))).1) = (IntKind.i64.wrap (t78 + 1))))
  (k1 false)
  (cond (decide (0 ≤ t78) && decide (t78 < (List.length m : Int)))
  (cond (decide (0 ≤ t78) && decide (t78 < (List.length l : Int)))
  (c_law07_tokens ((List.getD m (Int.toNat t78) (0, ([] : List zq0))).2) ((List.getD l (Int.toNat t78) (0, ([] : List zq0))).2) (fun rtokens =>
  cond (!rtokens)
  (k1 false)
  (cond (decide (0 ≤ t78) && decide (t78 < (List.length m : Int)))
  (c_syntax_Form ((List.getD m (Int.toNat t78) (0, ([] : List zq0))).2) (fun rForm =>
  cond (!rForm)
  (k1 false)
  (rec t77 (IntKind.i64.wrap (t78 + 1)) l m)))
  none)))
  none)
  none))
  none)
  (k2 ())
def zqsx {β : Type} : Nat → zqsr β → zqss β → Int → Int →  (List (Int × List zq0)) → (List (Int × List zq0)) → Option β
  | 0 => fun _ _ _ _ _ _ => none
  | i + 1 => fun k1 k2 t77 t78 l m => zqsw c_law07_tokens c_syntax_Form (zqsx i k1 k2) k1 k2 t77 t78 l m
theorem zqsy (hΓ : ΓOk Tryz.prog (law07_SyntaxBack_X c_law07_draw c_law07_sane c_law07_tokens c_made_Light c_made_Roll c_syntax_Form c_syntax_Parse c_syntax_Text).Γ) (i : Nat) : PieceOk Tryz.prog 114 0 law07_SyntaxBack_p1_code zqsu zqsv (law07_SyntaxBack_p1_G (zqsx c_law07_tokens c_syntax_Form i)) := by
  rw [show law07_SyntaxBack_p1_code = .loop (loopBody law07_SyntaxBack_p1_code) by kernel_rfl]
  exact piece_loop (X := (law07_SyntaxBack_X c_law07_draw c_law07_sane c_law07_tokens c_made_Light c_made_Roll c_syntax_Form c_syntax_Parse c_syntax_Text)) (p := 1) (Λ := pick1 []) (G := fun i => @fun β d ks => law07_SyntaxBack_p1_G (zqsx c_law07_tokens c_syntax_Form i) d ks) mixed tab_ok hΓ rfl (by kernel_rfl) CutsOk_nil (fun _ _ => rfl) (fun i => @fun β d ks r h => Eq.trans (b := law07_SyntaxBack_p1_G (zqsx c_law07_tokens c_syntax_Form (i + 1)) d ks) (by kernel_rfl) h) i
def zqsz (p1 : zqst) {β : Type} (t : List Int) (k : (Bool → Option β)) : Option β :=
  c_made_Light t (fun rLight =>
  cond (!rLight)
  (c_law07_sane  (fun rsane =>
  k rsane))
  (c_made_Roll t (fun mrRoll =>
  c_law07_draw true mrRoll (fun rdraw mrdraw =>
  c_syntax_Parse rdraw (fun rParse rParse2 lrParse =>
  c_syntax_Text lrParse (fun rText rText2 =>
  c_syntax_Parse rText (fun rParse3 rParse4 lrParse2 =>
  c_syntax_Text lrParse2 (fun rText3 rText4 =>
  cond (!decide (rParse2 = 0))
  (k false)
  (cond (!decide (rText2 = 0))
  (k false)
  (cond (!decide (rParse4 = 0))
  (k false)
  (cond (!decide (rText4 = 0))
  (k false)
  (cond (!decide (rParse = 0))
  (k false)
  (cond (!decide (rParse3 = 0))
  (k false)
  (cond (!decide ((List.length lrParse : Int) = (List.length lrParse2 : Int)))
  (k false)
  (cond (!decide (rText = rText3))
  (k false)
  (p1 (fun t2 =>
  k t2) (fun _ =>
  c_law07_sane  (fun rsane =>
  k rsane)) (List.length lrParse2 : Int) 0 lrParse lrParse2))))))))))))))))
theorem zqt0 (hΓ : ΓOk Tryz.prog (law07_SyntaxBack_X c_law07_draw c_law07_sane c_law07_tokens c_made_Light c_made_Roll c_syntax_Form c_syntax_Parse c_syntax_Text).Γ) (p1 : zqst) (hp1 : PieceOk Tryz.prog 114 0 law07_SyntaxBack_p1_code zqsu zqsv (law07_SyntaxBack_p1_G p1)) : SpecOk Tryz.prog 4 (zqsq (zqsz c_law07_draw c_law07_sane c_made_Light c_made_Roll c_syntax_Parse c_syntax_Text p1)) :=
  spec_exec (X := (law07_SyntaxBack_X c_law07_draw c_law07_sane c_law07_tokens c_made_Light c_made_Roll c_syntax_Form c_syntax_Parse c_syntax_Text)) (Λ := pick1 [(2042, pieceCut zqsu zqsv (law07_SyntaxBack_p1_G p1))]) (rs := [.tmp 2]) (c := bodyOf Tryz.f4) mixed tab_ok hΓ Tryz.func4 (by kernel_rfl) (by kernel_rfl) (by kernel_rfl) (by kernel_rfl) (CutsOk_cons (q := 2042) (c' := law07_SyntaxBack_p1_code) (by kernel_rfl) rfl hp1 CutsOk_nil) (fun x k r h => Eq.trans (b := (zqsq (zqsz c_law07_draw c_law07_sane c_made_Light c_made_Roll c_syntax_Parse c_syntax_Text p1)).run x k) (by kernel_rfl) h)
end
theorem zqt1Γ : ΓOk Tryz.prog (pick1 [(8, .spec (zqq4 zqqs)), (6, .spec (zqsj zqsn)), (10, .spec (zqj zqz)), (5, .spec (zq5 zq9)), (7, .spec (zqc zqg)), (12, .spec (zqhj zqih)), (9, .spec (zqrq zqsg)), (11, .spec (zqok zqp0))]) := (ΓOk_cons zqqt (ΓOk_cons zqso (ΓOk_cons zq10 (ΓOk_cons zqa (ΓOk_cons zqh (ΓOk_cons zqii (ΓOk_cons zqsh (ΓOk_cons zqp1 ΓOk_nil))))))))
def zqt2 (m : Nat) : zqst := zqsx zqz zqih m
theorem zqt3 {β : Type} (i : Nat) (k1 k2 t77 t78 l m) : (zqt2 (i + 1) k1 k2 t77 t78 l m : Option β) = zqsw zqz zqih (zqt2 i k1 k2) k1 k2 t77 t78 l m := rfl
def zqt4 : zqst := zqt2 fuel
theorem zqt5 : PieceOk Tryz.prog 114 0 law07_SyntaxBack_p1_code zqsu zqsv (law07_SyntaxBack_p1_G zqt4) := zqsy zqqs zqsn zqz zq9 zqg zqih zqsg zqp0 zqt1Γ fuel
def zqt6 : zqsp := zqsz zqqs zqsn zq9 zqg zqsg zqp0 zqt4
theorem zqt7 : SpecOk Tryz.prog 4 (zqsq zqt6) := zqt0 zqqs zqsn zqz zq9 zqg zqih zqsg zqp0 zqt1Γ zqt4 zqt5
end
end Go.Lift
namespace Go.Lift
open Go.RowKit Go.IntWalk
section
variable {β : Type}
theorem c_inb {i n : Int} {a b : Option β} (h : 0 ≤ i ∧ i < n) : cond (decide (0 ≤ i) && decide (i < n)) a b = a := by
  rw [decide_eq_true h.1, decide_eq_true h.2]; rfl
theorem c_room {n : Nat} {a b : Option β} (h : n ≤ 140737488355328) : cond (decide (n ≤ roomMax)) a b = a := by
  rw [decide_eq_true (p := n ≤ roomMax) h]; rfl
theorem c_pos {p : Prop} [Decidable p] {a b : Option β} (h : p) : cond (decide p) a b = a := by rw [decide_eq_true h]; rfl
theorem c_neg {p : Prop} [Decidable p] {a b : Option β} (h : ¬ p) : cond (decide p) a b = b := by rw [decide_eq_false h]; rfl
theorem c_npos {p : Prop} [Decidable p] {a b : Option β} (h : p) : cond (!decide p) a b = b := by rw [decide_eq_true h]; rfl
theorem c_nneg {p : Prop} [Decidable p] {a b : Option β} (h : ¬ p) : cond (!decide p) a b = a := by rw [decide_eq_false h]; rfl
theorem c_t {a b : Option β} : cond true a b = a := rfl
theorem c_f {a b : Option β} : cond false a b = b := rfl
theorem c_p2 {p q : Prop} [Decidable p] [Decidable q] {a b : Option β} (hp : p) (hq : q) : cond (decide p && decide q) a b = a := by rw [decide_eq_true hp, decide_eq_true hq]; rfl
def walk {α σ ε : Type} (g : Nat → α → σ → ε ⊕ σ) : List α → Nat → σ → ε ⊕ σ
  | [], _, s => .inr s
  | x :: r, j, s =>
    match g j x s with
    | .inl e => .inl e
    | .inr s' => walk g r (j + 1) s'
def sumK {ε σ : Type} (E : ε → Option β) (K : σ → Option β) : ε ⊕ σ → Option β
  | .inl e => E e
  | .inr s => K s
theorem walk_loop {α σ ε : Type} (F : Nat → Int → σ → Option β) (g : Nat → α → σ → ε ⊕ σ) (E : ε → Option β) (K : σ → Option β) (d : α) (xs : List α)
    (h1 : ∀ (m i : Nat) s, i < xs.length → F (m + 1) (i : Int) s = sumK E (fun s' => F m ((i : Int) + 1) s') (g i (xs.getD i d) s))
    (h2 : ∀ (m : Nat) s, F (m + 1) (xs.length : Int) s = K s) :
    ∀ (r : List α) (j fuel : Nat) (s : σ), xs.drop j = r → j + r.length = xs.length → r.length < fuel → F fuel (j : Int) s = sumK E K (walk g r j s)
  | r, j, 0, s, _, _, h => absurd h (Nat.not_lt_zero _)
  | [], j, m + 1, s, hd, hj, _ => by
    simp only [List.length_nil, Nat.add_zero] at hj
    subst hj
    rw [h2]; rfl
  | x :: r, j, m + 1, s, hd, hj, hm => by
    simp only [List.length_cons] at hj hm
    have h3 : j < xs.length := by omega
    have hx : xs.getD j d = x := by
      rw [List.drop_eq_getElem_cons h3] at hd
      injection hd with hd1 hd2
      simp [List.getD, h3, hd1]
    have hr : xs.drop (j + 1) = r := by
      rw [List.drop_eq_getElem_cons h3] at hd
      injection hd with hd1 hd2
    rw [h1 m j s h3, hx, walk]
    cases hg : g j x s with
    | inl e => rfl
    | inr s' =>
      simp only [sumK]
      exact walk_loop F g E K d xs h1 h2 r (j + 1) m s' hr (by omega) (by omega)
theorem walk_loop0 {α σ ε : Type} (F : Nat → Int → σ → Option β) (g : Nat → α → σ → ε ⊕ σ) (E : ε → Option β) (K : σ → Option β) (d : α) (xs : List α) (s : σ) (n : Nat) (hn : xs.length < n)
    (h1 : ∀ (m i : Nat) s, i < xs.length → F (m + 1) (i : Int) s = sumK E (fun s' => F m ((i : Int) + 1) s') (g i (xs.getD i d) s))
    (h2 : ∀ (m : Nat) s, F (m + 1) (xs.length : Int) s = K s) : F n 0 s = sumK E K (walk g xs 0 s) :=
  walk_loop F g E K d xs h1 h2 xs 0 n s rfl (by simp) hn
theorem check_loop {α : Type} (F : Nat → Int → Option β) (p : α → Bool) (E K : Option β) (d : α) (xs : List α) (n : Nat) (hn : xs.length < n)
    (h1 : ∀ (m i : Nat), i < xs.length → F (m + 1) (i : Int) = cond (p (xs.getD i d)) (F m ((i : Int) + 1)) E)
    (h2 : ∀ (m : Nat), F (m + 1) (xs.length : Int) = K) : F n 0 = cond (xs.all p) K E := by
  have h := walk_loop0 (ε := Unit) (fun m i (_ : Unit) => F m i) (fun _ x s => cond (p x) (.inr s) (.inl ())) (fun _ => E) (fun _ => K) d xs () n hn
    (fun m i s hi => by rw [h1 m i hi]; cases p (xs.getD i d) <;> rfl) (fun m s => h2 m)
  rw [h]
  have key : ∀ (l : List α) (j : Nat), sumK (fun _ => E) (fun _ => K) (walk (ε := Unit) (fun _ x (s : Unit) => cond (p x) (.inr s) (.inl ())) l j ()) = cond (l.all p) K E := by
    intro l
    induction l with
    | nil => intro j; rfl
    | cons x l ih =>
      intro j
      simp only [walk, List.all_cons]
      cases p x with
      | true => simpa using ih (j + 1)
      | false => rfl
  exact key xs 0
end
end Go.Lift
namespace Go.Lift
noncomputable section
set_option maxRecDepth 100000
set_option linter.unusedVariables false
abbrev STok := Int × (List UInt8 × Int)
structure GoodLn (w : List UInt8) (ts : List STok) : Prop where
  line : ∀ {β : Type} (k : Int → List STok → Option β), zqrn w k = k 0 ts
  form : ts = [] ∨ ∀ {β : Type} (k : Bool → Option β), zqih ts k = k true
  ref : ∃ out, ∀ {β : Type} (k : Int → Int → List (Int × List STok) → Option β), zqpu w k = k 0 0 out
  nonl : ∀ c ∈ w, c ≠ 10
  len : w.length ≤ 100
  few : ts.length ≤ 100
structure WrittenLn (ts : List STok) (s : List UInt8) : Prop where
  some_ : ts ≠ []
  written : ∀ {β : Type} (n : Int) (k : List UInt8 → Int → Option β), zqmw (n, ts) k = k s 0
  line : ∀ {β : Type} (k : Int → List STok → Option β), zqrn s k = k 0 ts
  nonl : ∀ c ∈ s, c ≠ 10
  len : s.length ≤ 100
def BadLn (w : List UInt8) : Prop := ∃ n e out, e ≠ 0 ∧ ∀ {β : Type} (k : Int → Int → List (Int × List STok) → Option β), zqpu w k = k n e out
def LnOk (w : List UInt8) : Prop := (∃ ts, GoodLn w ts ∧ (ts = [] ∨ ∃ s, WrittenLn ts s)) ∨ BadLn w
theorem ln0 : GoodLn [122, 111, 110, 101, 32, 97, 32, 43, 48, 49, 58, 48, 48] [(0, ([122, 111, 110, 101], 0)), (0, ([97], 0)), (4, ([], 3600))] := ⟨fun k => by kernel_rfl, .inr fun k => by kernel_rfl, ⟨[(1, [(0, ([122, 111, 110, 101], 0)), (0, ([97], 0)), (4, ([], 3600))])], fun k => by kernel_rfl⟩, by decide, by decide, by decide⟩
theorem wr0 : WrittenLn [(0, ([122, 111, 110, 101], 0)), (0, ([97], 0)), (4, ([], 3600))] [122, 111, 110, 101, 32, 97, 32, 43, 48, 49, 58, 48, 48] := ⟨by simp, fun n k => by kernel_rfl, fun k => by kernel_rfl, by decide, by decide⟩
theorem ok0 : LnOk [122, 111, 110, 101, 32, 97, 32, 43, 48, 49, 58, 48, 48] := .inl ⟨_, ln0, .inr ⟨_, wr0⟩⟩
theorem ok1 : LnOk [122, 111, 110, 101, 32, 97, 32, 48, 49, 58, 48, 48] := .inr ⟨1, 2, [], by decide, fun k => by kernel_rfl⟩
theorem ln2 : GoodLn [114, 117, 108, 101, 32, 50, 48, 50, 48, 32, 50, 48, 51, 48, 32, 109, 97, 114, 32, 108, 97, 115, 116, 32, 115, 117, 110, 32, 48, 50, 58, 48, 48, 32, 43, 48, 50, 58, 48, 48] [(0, ([114, 117, 108, 101], 0)), (1, ([], 2020)), (1, ([], 2030)), (0, ([109, 97, 114], 0)), (0, ([108, 97, 115, 116], 0)), (0, ([115, 117, 110], 0)), (2, ([], 7200)), (4, ([], 7200))] := ⟨fun k => by kernel_rfl, .inr fun k => by kernel_rfl, ⟨[(1, [(0, ([114, 117, 108, 101], 0)), (1, ([], 2020)), (1, ([], 2030)), (0, ([109, 97, 114], 0)), (0, ([108, 97, 115, 116], 0)), (0, ([115, 117, 110], 0)), (2, ([], 7200)), (4, ([], 7200))])], fun k => by kernel_rfl⟩, by decide, by decide, by decide⟩
theorem wr2 : WrittenLn [(0, ([114, 117, 108, 101], 0)), (1, ([], 2020)), (1, ([], 2030)), (0, ([109, 97, 114], 0)), (0, ([108, 97, 115, 116], 0)), (0, ([115, 117, 110], 0)), (2, ([], 7200)), (4, ([], 7200))] [114, 117, 108, 101, 32, 50, 48, 50, 48, 32, 50, 48, 51, 48, 32, 109, 97, 114, 32, 108, 97, 115, 116, 32, 115, 117, 110, 32, 48, 50, 58, 48, 48, 32, 43, 48, 50, 58, 48, 48] := ⟨by simp, fun n k => by kernel_rfl, fun k => by kernel_rfl, by decide, by decide⟩
theorem ok2 : LnOk [114, 117, 108, 101, 32, 50, 48, 50, 48, 32, 50, 48, 51, 48, 32, 109, 97, 114, 32, 108, 97, 115, 116, 32, 115, 117, 110, 32, 48, 50, 58, 48, 48, 32, 43, 48, 50, 58, 48, 48] := .inl ⟨_, ln2, .inr ⟨_, wr2⟩⟩
theorem ok3 : LnOk [114, 117, 108, 101, 32, 50, 48, 50, 48, 32, 109, 97, 114, 32, 108, 97, 115, 116, 32, 115, 117, 110, 32, 48, 50, 58, 48, 48, 32, 43, 48, 50, 58, 48, 48] := .inr ⟨1, 2, [], by decide, fun k => by kernel_rfl⟩
theorem ln4 : GoodLn [112, 101, 114, 115, 111, 110, 32, 112, 32, 97] [(0, ([112, 101, 114, 115, 111, 110], 0)), (0, ([112], 0)), (0, ([97], 0))] := ⟨fun k => by kernel_rfl, .inr fun k => by kernel_rfl, ⟨[(1, [(0, ([112, 101, 114, 115, 111, 110], 0)), (0, ([112], 0)), (0, ([97], 0))])], fun k => by kernel_rfl⟩, by decide, by decide, by decide⟩
theorem wr4 : WrittenLn [(0, ([112, 101, 114, 115, 111, 110], 0)), (0, ([112], 0)), (0, ([97], 0))] [112, 101, 114, 115, 111, 110, 32, 112, 32, 97] := ⟨by simp, fun n k => by kernel_rfl, fun k => by kernel_rfl, by decide, by decide⟩
theorem ok4 : LnOk [112, 101, 114, 115, 111, 110, 32, 112, 32, 97] := .inl ⟨_, ln4, .inr ⟨_, wr4⟩⟩
theorem ln5 : GoodLn [112, 101, 114, 115, 111, 110, 32, 112, 32, 97, 32, 119, 101, 101, 107, 32, 52, 48] [(0, ([112, 101, 114, 115, 111, 110], 0)), (0, ([112], 0)), (0, ([97], 0)), (0, ([119, 101, 101, 107], 0)), (1, ([], 40))] := ⟨fun k => by kernel_rfl, .inr fun k => by kernel_rfl, ⟨[(1, [(0, ([112, 101, 114, 115, 111, 110], 0)), (0, ([112], 0)), (0, ([97], 0)), (0, ([119, 101, 101, 107], 0)), (1, ([], 40))])], fun k => by kernel_rfl⟩, by decide, by decide, by decide⟩
theorem wr5 : WrittenLn [(0, ([112, 101, 114, 115, 111, 110], 0)), (0, ([112], 0)), (0, ([97], 0)), (0, ([119, 101, 101, 107], 0)), (1, ([], 40))] [112, 101, 114, 115, 111, 110, 32, 112, 32, 97, 32, 119, 101, 101, 107, 32, 52, 48] := ⟨by simp, fun n k => by kernel_rfl, fun k => by kernel_rfl, by decide, by decide⟩
theorem ok5 : LnOk [112, 101, 114, 115, 111, 110, 32, 112, 32, 97, 32, 119, 101, 101, 107, 32, 52, 48] := .inl ⟨_, ln5, .inr ⟨_, wr5⟩⟩
theorem ln6 : GoodLn [112, 101, 114, 115, 111, 110, 32, 112, 32, 97, 32, 114, 101, 115, 116, 32, 49, 49] [(0, ([112, 101, 114, 115, 111, 110], 0)), (0, ([112], 0)), (0, ([97], 0)), (0, ([114, 101, 115, 116], 0)), (1, ([], 11))] := ⟨fun k => by kernel_rfl, .inr fun k => by kernel_rfl, ⟨[(1, [(0, ([112, 101, 114, 115, 111, 110], 0)), (0, ([112], 0)), (0, ([97], 0)), (0, ([114, 101, 115, 116], 0)), (1, ([], 11))])], fun k => by kernel_rfl⟩, by decide, by decide, by decide⟩
theorem wr6 : WrittenLn [(0, ([112, 101, 114, 115, 111, 110], 0)), (0, ([112], 0)), (0, ([97], 0)), (0, ([114, 101, 115, 116], 0)), (1, ([], 11))] [112, 101, 114, 115, 111, 110, 32, 112, 32, 97, 32, 114, 101, 115, 116, 32, 49, 49] := ⟨by simp, fun n k => by kernel_rfl, fun k => by kernel_rfl, by decide, by decide⟩
theorem ok6 : LnOk [112, 101, 114, 115, 111, 110, 32, 112, 32, 97, 32, 114, 101, 115, 116, 32, 49, 49] := .inl ⟨_, ln6, .inr ⟨_, wr6⟩⟩
theorem ln7 : GoodLn [112, 101, 114, 115, 111, 110, 32, 112, 32, 97, 32, 119, 101, 101, 107, 32, 52, 48, 32, 114, 101, 115, 116, 32, 49, 49, 32, 99, 111, 110, 115, 101, 110, 116] [(0, ([112, 101, 114, 115, 111, 110], 0)), (0, ([112], 0)), (0, ([97], 0)), (0, ([119, 101, 101, 107], 0)), (1, ([], 40)), (0, ([114, 101, 115, 116], 0)), (1, ([], 11)), (0, ([99, 111, 110, 115, 101, 110, 116], 0))] := ⟨fun k => by kernel_rfl, .inr fun k => by kernel_rfl, ⟨[(1, [(0, ([112, 101, 114, 115, 111, 110], 0)), (0, ([112], 0)), (0, ([97], 0)), (0, ([119, 101, 101, 107], 0)), (1, ([], 40)), (0, ([114, 101, 115, 116], 0)), (1, ([], 11)), (0, ([99, 111, 110, 115, 101, 110, 116], 0))])], fun k => by kernel_rfl⟩, by decide, by decide, by decide⟩
theorem wr7 : WrittenLn [(0, ([112, 101, 114, 115, 111, 110], 0)), (0, ([112], 0)), (0, ([97], 0)), (0, ([119, 101, 101, 107], 0)), (1, ([], 40)), (0, ([114, 101, 115, 116], 0)), (1, ([], 11)), (0, ([99, 111, 110, 115, 101, 110, 116], 0))] [112, 101, 114, 115, 111, 110, 32, 112, 32, 97, 32, 119, 101, 101, 107, 32, 52, 48, 32, 114, 101, 115, 116, 32, 49, 49, 32, 99, 111, 110, 115, 101, 110, 116] := ⟨by simp, fun n k => by kernel_rfl, fun k => by kernel_rfl, by decide, by decide⟩
theorem ok7 : LnOk [112, 101, 114, 115, 111, 110, 32, 112, 32, 97, 32, 119, 101, 101, 107, 32, 52, 48, 32, 114, 101, 115, 116, 32, 49, 49, 32, 99, 111, 110, 115, 101, 110, 116] := .inl ⟨_, ln7, .inr ⟨_, wr7⟩⟩
theorem ok8 : LnOk [112, 101, 114, 115, 111, 110, 32, 112, 32, 97, 32, 114, 101, 115, 116, 32, 49, 49, 32, 119, 101, 101, 107, 32, 52, 48] := .inr ⟨1, 2, [], by decide, fun k => by kernel_rfl⟩
theorem ok9 : LnOk [112, 101, 114, 115, 111, 110, 32, 112, 32, 97, 32, 99, 111, 110, 115, 101, 110, 116, 32, 99, 111, 110, 115, 101, 110, 116] := .inr ⟨1, 2, [], by decide, fun k => by kernel_rfl⟩
theorem ok10 : LnOk [112, 101, 114, 115, 111, 110, 32, 112, 32, 97, 32, 119, 101, 101, 107] := .inr ⟨1, 2, [], by decide, fun k => by kernel_rfl⟩
theorem ok11 : LnOk [112, 101, 114, 115, 111, 110, 32, 112] := .inr ⟨1, 2, [], by decide, fun k => by kernel_rfl⟩
theorem ln12 : GoodLn [113, 117, 105, 101, 116, 32, 109, 111, 110, 32, 50, 50, 58, 48, 48, 32, 109, 111, 110, 32, 50, 52, 58, 48, 48] [(0, ([113, 117, 105, 101, 116], 0)), (0, ([109, 111, 110], 0)), (2, ([], 79200)), (0, ([109, 111, 110], 0)), (2, ([], 86400))] := ⟨fun k => by kernel_rfl, .inr fun k => by kernel_rfl, ⟨[(1, [(0, ([113, 117, 105, 101, 116], 0)), (0, ([109, 111, 110], 0)), (2, ([], 79200)), (0, ([109, 111, 110], 0)), (2, ([], 86400))])], fun k => by kernel_rfl⟩, by decide, by decide, by decide⟩
theorem wr12 : WrittenLn [(0, ([113, 117, 105, 101, 116], 0)), (0, ([109, 111, 110], 0)), (2, ([], 79200)), (0, ([109, 111, 110], 0)), (2, ([], 86400))] [113, 117, 105, 101, 116, 32, 109, 111, 110, 32, 50, 50, 58, 48, 48, 32, 109, 111, 110, 32, 50, 52, 58, 48, 48] := ⟨by simp, fun n k => by kernel_rfl, fun k => by kernel_rfl, by decide, by decide⟩
theorem ok12 : LnOk [113, 117, 105, 101, 116, 32, 109, 111, 110, 32, 50, 50, 58, 48, 48, 32, 109, 111, 110, 32, 50, 52, 58, 48, 48] := .inl ⟨_, ln12, .inr ⟨_, wr12⟩⟩
theorem ok13 : LnOk [113, 117, 105, 101, 116, 32, 109, 111, 110, 32, 50, 50, 58, 48, 48] := .inr ⟨1, 2, [], by decide, fun k => by kernel_rfl⟩
theorem ln14 : GoodLn [99, 97, 108, 101, 110, 100, 97, 114, 32, 99, 32, 97] [(0, ([99, 97, 108, 101, 110, 100, 97, 114], 0)), (0, ([99], 0)), (0, ([97], 0))] := ⟨fun k => by kernel_rfl, .inr fun k => by kernel_rfl, ⟨[(1, [(0, ([99, 97, 108, 101, 110, 100, 97, 114], 0)), (0, ([99], 0)), (0, ([97], 0))])], fun k => by kernel_rfl⟩, by decide, by decide, by decide⟩
theorem wr14 : WrittenLn [(0, ([99, 97, 108, 101, 110, 100, 97, 114], 0)), (0, ([99], 0)), (0, ([97], 0))] [99, 97, 108, 101, 110, 100, 97, 114, 32, 99, 32, 97] := ⟨by simp, fun n k => by kernel_rfl, fun k => by kernel_rfl, by decide, by decide⟩
theorem ok14 : LnOk [99, 97, 108, 101, 110, 100, 97, 114, 32, 99, 32, 97] := .inl ⟨_, ln14, .inr ⟨_, wr14⟩⟩
theorem ln15 : GoodLn [100, 97, 121, 115, 32, 50, 48, 50, 54, 45, 48, 49, 45, 48, 49] [(0, ([100, 97, 121, 115], 0)), (3, ([], 20454))] := ⟨fun k => by kernel_rfl, .inr fun k => by kernel_rfl, ⟨[(1, [(0, ([100, 97, 121, 115], 0)), (3, ([], 20454))])], fun k => by kernel_rfl⟩, by decide, by decide, by decide⟩
theorem wr15 : WrittenLn [(0, ([100, 97, 121, 115], 0)), (3, ([], 20454))] [100, 97, 121, 115, 32, 50, 48, 50, 54, 45, 48, 49, 45, 48, 49] := ⟨by simp, fun n k => by kernel_rfl, fun k => by kernel_rfl, by decide, by decide⟩
theorem ok15 : LnOk [100, 97, 121, 115, 32, 50, 48, 50, 54, 45, 48, 49, 45, 48, 49] := .inl ⟨_, ln15, .inr ⟨_, wr15⟩⟩
theorem ln16 : GoodLn [100, 97, 121, 115, 32, 50, 48, 50, 54, 45, 48, 49, 45, 48, 49, 32, 50, 48, 50, 54, 45, 48, 49, 45, 48, 50] [(0, ([100, 97, 121, 115], 0)), (3, ([], 20454)), (3, ([], 20455))] := ⟨fun k => by kernel_rfl, .inr fun k => by kernel_rfl, ⟨[(1, [(0, ([100, 97, 121, 115], 0)), (3, ([], 20454)), (3, ([], 20455))])], fun k => by kernel_rfl⟩, by decide, by decide, by decide⟩
theorem wr16 : WrittenLn [(0, ([100, 97, 121, 115], 0)), (3, ([], 20454)), (3, ([], 20455))] [100, 97, 121, 115, 32, 50, 48, 50, 54, 45, 48, 49, 45, 48, 49, 32, 50, 48, 50, 54, 45, 48, 49, 45, 48, 50] := ⟨by simp, fun n k => by kernel_rfl, fun k => by kernel_rfl, by decide, by decide⟩
theorem ok16 : LnOk [100, 97, 121, 115, 32, 50, 48, 50, 54, 45, 48, 49, 45, 48, 49, 32, 50, 48, 50, 54, 45, 48, 49, 45, 48, 50] := .inl ⟨_, ln16, .inr ⟨_, wr16⟩⟩
theorem ok17 : LnOk [100, 97, 121, 115] := .inr ⟨1, 2, [], by decide, fun k => by kernel_rfl⟩
theorem ok18 : LnOk [100, 97, 121, 115, 32, 50, 48, 50, 54, 45, 48, 49, 45, 48, 49, 32, 120] := .inr ⟨1, 2, [], by decide, fun k => by kernel_rfl⟩
theorem ln19 : GoodLn [115, 99, 104, 101, 100, 117, 108, 101, 32, 115] [(0, ([115, 99, 104, 101, 100, 117, 108, 101], 0)), (0, ([115], 0))] := ⟨fun k => by kernel_rfl, .inr fun k => by kernel_rfl, ⟨[(1, [(0, ([115, 99, 104, 101, 100, 117, 108, 101], 0)), (0, ([115], 0))])], fun k => by kernel_rfl⟩, by decide, by decide, by decide⟩
theorem wr19 : WrittenLn [(0, ([115, 99, 104, 101, 100, 117, 108, 101], 0)), (0, ([115], 0))] [115, 99, 104, 101, 100, 117, 108, 101, 32, 115] := ⟨by simp, fun n k => by kernel_rfl, fun k => by kernel_rfl, by decide, by decide⟩
theorem ok19 : LnOk [115, 99, 104, 101, 100, 117, 108, 101, 32, 115] := .inl ⟨_, ln19, .inr ⟨_, wr19⟩⟩
theorem ok20 : LnOk [115, 99, 104, 101, 100, 117, 108, 101] := .inr ⟨1, 2, [], by decide, fun k => by kernel_rfl⟩
theorem ln21 : GoodLn [108, 97, 121, 101, 114, 32, 108, 32, 97, 32, 50, 48, 50, 54, 45, 48, 49, 45, 48, 53, 32, 48, 57, 58, 48, 48, 32, 49, 32, 119, 101, 101, 107, 115] [(0, ([108, 97, 121, 101, 114], 0)), (0, ([108], 0)), (0, ([97], 0)), (3, ([], 20458)), (2, ([], 32400)), (1, ([], 1)), (0, ([119, 101, 101, 107, 115], 0))] := ⟨fun k => by kernel_rfl, .inr fun k => by kernel_rfl, ⟨[(1, [(0, ([108, 97, 121, 101, 114], 0)), (0, ([108], 0)), (0, ([97], 0)), (3, ([], 20458)), (2, ([], 32400)), (1, ([], 1)), (0, ([119, 101, 101, 107, 115], 0))])], fun k => by kernel_rfl⟩, by decide, by decide, by decide⟩
theorem wr21 : WrittenLn [(0, ([108, 97, 121, 101, 114], 0)), (0, ([108], 0)), (0, ([97], 0)), (3, ([], 20458)), (2, ([], 32400)), (1, ([], 1)), (0, ([119, 101, 101, 107, 115], 0))] [108, 97, 121, 101, 114, 32, 108, 32, 97, 32, 50, 48, 50, 54, 45, 48, 49, 45, 48, 53, 32, 48, 57, 58, 48, 48, 32, 49, 32, 119, 101, 101, 107, 115] := ⟨by simp, fun n k => by kernel_rfl, fun k => by kernel_rfl, by decide, by decide⟩
theorem ok21 : LnOk [108, 97, 121, 101, 114, 32, 108, 32, 97, 32, 50, 48, 50, 54, 45, 48, 49, 45, 48, 53, 32, 48, 57, 58, 48, 48, 32, 49, 32, 119, 101, 101, 107, 115] := .inl ⟨_, ln21, .inr ⟨_, wr21⟩⟩
theorem ok22 : LnOk [108, 97, 121, 101, 114, 32, 108, 32, 97, 32, 50, 48, 50, 54, 45, 48, 49, 45, 48, 53, 32, 49, 32, 119, 101, 101, 107, 115] := .inr ⟨1, 2, [], by decide, fun k => by kernel_rfl⟩
theorem ln23 : GoodLn [109, 101, 109, 98, 101, 114, 32, 112, 32, 113, 32, 114] [(0, ([109, 101, 109, 98, 101, 114], 0)), (0, ([112], 0)), (0, ([113], 0)), (0, ([114], 0))] := ⟨fun k => by kernel_rfl, .inr fun k => by kernel_rfl, ⟨[(1, [(0, ([109, 101, 109, 98, 101, 114], 0)), (0, ([112], 0)), (0, ([113], 0)), (0, ([114], 0))])], fun k => by kernel_rfl⟩, by decide, by decide, by decide⟩
theorem wr23 : WrittenLn [(0, ([109, 101, 109, 98, 101, 114], 0)), (0, ([112], 0)), (0, ([113], 0)), (0, ([114], 0))] [109, 101, 109, 98, 101, 114, 32, 112, 32, 113, 32, 114] := ⟨by simp, fun n k => by kernel_rfl, fun k => by kernel_rfl, by decide, by decide⟩
theorem ok23 : LnOk [109, 101, 109, 98, 101, 114, 32, 112, 32, 113, 32, 114] := .inl ⟨_, ln23, .inr ⟨_, wr23⟩⟩
theorem ok24 : LnOk [109, 101, 109, 98, 101, 114] := .inr ⟨1, 2, [], by decide, fun k => by kernel_rfl⟩
theorem ln25 : GoodLn [111, 110, 32, 109, 111, 110, 32, 48, 57, 58, 48, 48, 32, 102, 114, 105, 32, 49, 55, 58, 48, 48] [(0, ([111, 110], 0)), (0, ([109, 111, 110], 0)), (2, ([], 32400)), (0, ([102, 114, 105], 0)), (2, ([], 61200))] := ⟨fun k => by kernel_rfl, .inr fun k => by kernel_rfl, ⟨[(1, [(0, ([111, 110], 0)), (0, ([109, 111, 110], 0)), (2, ([], 32400)), (0, ([102, 114, 105], 0)), (2, ([], 61200))])], fun k => by kernel_rfl⟩, by decide, by decide, by decide⟩
theorem wr25 : WrittenLn [(0, ([111, 110], 0)), (0, ([109, 111, 110], 0)), (2, ([], 32400)), (0, ([102, 114, 105], 0)), (2, ([], 61200))] [111, 110, 32, 109, 111, 110, 32, 48, 57, 58, 48, 48, 32, 102, 114, 105, 32, 49, 55, 58, 48, 48] := ⟨by simp, fun n k => by kernel_rfl, fun k => by kernel_rfl, by decide, by decide⟩
theorem ok25 : LnOk [111, 110, 32, 109, 111, 110, 32, 48, 57, 58, 48, 48, 32, 102, 114, 105, 32, 49, 55, 58, 48, 48] := .inl ⟨_, ln25, .inr ⟨_, wr25⟩⟩
theorem ln26 : GoodLn [110, 111, 116, 32, 99] [(0, ([110, 111, 116], 0)), (0, ([99], 0))] := ⟨fun k => by kernel_rfl, .inr fun k => by kernel_rfl, ⟨[(1, [(0, ([110, 111, 116], 0)), (0, ([99], 0))])], fun k => by kernel_rfl⟩, by decide, by decide, by decide⟩
theorem wr26 : WrittenLn [(0, ([110, 111, 116], 0)), (0, ([99], 0))] [110, 111, 116, 32, 99] := ⟨by simp, fun n k => by kernel_rfl, fun k => by kernel_rfl, by decide, by decide⟩
theorem ok26 : LnOk [110, 111, 116, 32, 99] := .inl ⟨_, ln26, .inr ⟨_, wr26⟩⟩
theorem ln27 : GoodLn [111, 110, 108, 121, 32, 99] [(0, ([111, 110, 108, 121], 0)), (0, ([99], 0))] := ⟨fun k => by kernel_rfl, .inr fun k => by kernel_rfl, ⟨[(1, [(0, ([111, 110, 108, 121], 0)), (0, ([99], 0))])], fun k => by kernel_rfl⟩, by decide, by decide, by decide⟩
theorem wr27 : WrittenLn [(0, ([111, 110, 108, 121], 0)), (0, ([99], 0))] [111, 110, 108, 121, 32, 99] := ⟨by simp, fun n k => by kernel_rfl, fun k => by kernel_rfl, by decide, by decide⟩
theorem ok27 : LnOk [111, 110, 108, 121, 32, 99] := .inl ⟨_, ln27, .inr ⟨_, wr27⟩⟩
theorem ok28 : LnOk [111, 110, 108, 121, 32, 99, 32, 100] := .inr ⟨1, 2, [], by decide, fun k => by kernel_rfl⟩
theorem ln29 : GoodLn [108, 101, 97, 118, 101, 32, 112, 32, 50, 48, 50, 54, 45, 48, 49, 45, 48, 49, 84, 48, 48, 58, 48, 48, 58, 48, 48, 90, 32, 50, 48, 50, 54, 45, 48, 49, 45, 48, 50, 84, 48, 48, 58, 48, 48, 58, 48, 48, 90] [(0, ([108, 101, 97, 118, 101], 0)), (0, ([112], 0)), (5, ([], 1767225600)), (5, ([], 1767312000))] := ⟨fun k => by kernel_rfl, .inr fun k => by kernel_rfl, ⟨[(1, [(0, ([108, 101, 97, 118, 101], 0)), (0, ([112], 0)), (5, ([], 1767225600)), (5, ([], 1767312000))])], fun k => by kernel_rfl⟩, by decide, by decide, by decide⟩
theorem wr29 : WrittenLn [(0, ([108, 101, 97, 118, 101], 0)), (0, ([112], 0)), (5, ([], 1767225600)), (5, ([], 1767312000))] [108, 101, 97, 118, 101, 32, 112, 32, 50, 48, 50, 54, 45, 48, 49, 45, 48, 49, 84, 48, 48, 58, 48, 48, 58, 48, 48, 90, 32, 50, 48, 50, 54, 45, 48, 49, 45, 48, 50, 84, 48, 48, 58, 48, 48, 58, 48, 48, 90] := ⟨by simp, fun n k => by kernel_rfl, fun k => by kernel_rfl, by decide, by decide⟩
theorem ok29 : LnOk [108, 101, 97, 118, 101, 32, 112, 32, 50, 48, 50, 54, 45, 48, 49, 45, 48, 49, 84, 48, 48, 58, 48, 48, 58, 48, 48, 90, 32, 50, 48, 50, 54, 45, 48, 49, 45, 48, 50, 84, 48, 48, 58, 48, 48, 58, 48, 48, 90] := .inl ⟨_, ln29, .inr ⟨_, wr29⟩⟩
theorem ln30 : GoodLn [111, 118, 101, 114, 114, 105, 100, 101, 32, 110, 111, 98, 111, 100, 121, 32, 50, 48, 50, 54, 45, 48, 49, 45, 48, 49, 84, 48, 48, 58, 48, 48, 58, 48, 48, 90, 32, 50, 48, 50, 54, 45, 48, 49, 45, 48, 50, 84, 48, 48, 58, 48, 48, 58, 48, 48, 90] [(0, ([111, 118, 101, 114, 114, 105, 100, 101], 0)), (0, ([110, 111, 98, 111, 100, 121], 0)), (5, ([], 1767225600)), (5, ([], 1767312000))] := ⟨fun k => by kernel_rfl, .inr fun k => by kernel_rfl, ⟨[(1, [(0, ([111, 118, 101, 114, 114, 105, 100, 101], 0)), (0, ([110, 111, 98, 111, 100, 121], 0)), (5, ([], 1767225600)), (5, ([], 1767312000))])], fun k => by kernel_rfl⟩, by decide, by decide, by decide⟩
theorem wr30 : WrittenLn [(0, ([111, 118, 101, 114, 114, 105, 100, 101], 0)), (0, ([110, 111, 98, 111, 100, 121], 0)), (5, ([], 1767225600)), (5, ([], 1767312000))] [111, 118, 101, 114, 114, 105, 100, 101, 32, 110, 111, 98, 111, 100, 121, 32, 50, 48, 50, 54, 45, 48, 49, 45, 48, 49, 84, 48, 48, 58, 48, 48, 58, 48, 48, 90, 32, 50, 48, 50, 54, 45, 48, 49, 45, 48, 50, 84, 48, 48, 58, 48, 48, 58, 48, 48, 90] := ⟨by simp, fun n k => by kernel_rfl, fun k => by kernel_rfl, by decide, by decide⟩
theorem ok30 : LnOk [111, 118, 101, 114, 114, 105, 100, 101, 32, 110, 111, 98, 111, 100, 121, 32, 50, 48, 50, 54, 45, 48, 49, 45, 48, 49, 84, 48, 48, 58, 48, 48, 58, 48, 48, 90, 32, 50, 48, 50, 54, 45, 48, 49, 45, 48, 50, 84, 48, 48, 58, 48, 48, 58, 48, 48, 90] := .inl ⟨_, ln30, .inr ⟨_, wr30⟩⟩
theorem ln31 : GoodLn [115, 119, 97, 112, 32, 112, 32, 113, 32, 50, 48, 50, 54, 45, 48, 49, 45, 48, 49, 84, 48, 48, 58, 48, 48, 58, 48, 48, 90, 32, 50, 48, 50, 54, 45, 48, 49, 45, 48, 50, 84, 48, 48, 58, 48, 48, 58, 48, 48, 90] [(0, ([115, 119, 97, 112], 0)), (0, ([112], 0)), (0, ([113], 0)), (5, ([], 1767225600)), (5, ([], 1767312000))] := ⟨fun k => by kernel_rfl, .inr fun k => by kernel_rfl, ⟨[(1, [(0, ([115, 119, 97, 112], 0)), (0, ([112], 0)), (0, ([113], 0)), (5, ([], 1767225600)), (5, ([], 1767312000))])], fun k => by kernel_rfl⟩, by decide, by decide, by decide⟩
theorem wr31 : WrittenLn [(0, ([115, 119, 97, 112], 0)), (0, ([112], 0)), (0, ([113], 0)), (5, ([], 1767225600)), (5, ([], 1767312000))] [115, 119, 97, 112, 32, 112, 32, 113, 32, 50, 48, 50, 54, 45, 48, 49, 45, 48, 49, 84, 48, 48, 58, 48, 48, 58, 48, 48, 90, 32, 50, 48, 50, 54, 45, 48, 49, 45, 48, 50, 84, 48, 48, 58, 48, 48, 58, 48, 48, 90] := ⟨by simp, fun n k => by kernel_rfl, fun k => by kernel_rfl, by decide, by decide⟩
theorem ok31 : LnOk [115, 119, 97, 112, 32, 112, 32, 113, 32, 50, 48, 50, 54, 45, 48, 49, 45, 48, 49, 84, 48, 48, 58, 48, 48, 58, 48, 48, 90, 32, 50, 48, 50, 54, 45, 48, 49, 45, 48, 50, 84, 48, 48, 58, 48, 48, 58, 48, 48, 90] := .inl ⟨_, ln31, .inr ⟨_, wr31⟩⟩
theorem ok32 : LnOk [115, 119, 97, 112, 32, 112, 32, 50, 48, 50, 54, 45, 48, 49, 45, 48, 49, 84, 48, 48, 58, 48, 48, 58, 48, 48, 90, 32, 50, 48, 50, 54, 45, 48, 49, 45, 48, 50, 84, 48, 48, 58, 48, 48, 58, 48, 48, 90] := .inr ⟨1, 2, [], by decide, fun k => by kernel_rfl⟩
theorem ln33 : GoodLn [] [] := ⟨fun k => by kernel_rfl, .inl rfl, ⟨[], fun k => by kernel_rfl⟩, by decide, by decide, by decide⟩
theorem ok33 : LnOk [] := .inl ⟨_, ln33, .inl rfl⟩
theorem ln34 : GoodLn [32, 32, 32] [] := ⟨fun k => by kernel_rfl, .inl rfl, ⟨[], fun k => by kernel_rfl⟩, by decide, by decide, by decide⟩
theorem ok34 : LnOk [32, 32, 32] := .inl ⟨_, ln34, .inl rfl⟩
theorem ln35 : GoodLn [35, 32, 111, 110, 108, 121, 32, 116, 104, 105, 115] [] := ⟨fun k => by kernel_rfl, .inl rfl, ⟨[], fun k => by kernel_rfl⟩, by decide, by decide, by decide⟩
theorem ok35 : LnOk [35, 32, 111, 110, 108, 121, 32, 116, 104, 105, 115] := .inl ⟨_, ln35, .inl rfl⟩
theorem ln36 : GoodLn [122, 111, 110, 101, 32, 97, 32, 43, 48, 49, 58, 48, 48, 32, 35, 32, 119, 105, 116, 104, 32, 116, 104, 105, 115] [(0, ([122, 111, 110, 101], 0)), (0, ([97], 0)), (4, ([], 3600))] := ⟨fun k => by kernel_rfl, .inr fun k => by kernel_rfl, ⟨[(1, [(0, ([122, 111, 110, 101], 0)), (0, ([97], 0)), (4, ([], 3600))])], fun k => by kernel_rfl⟩, by decide, by decide, by decide⟩
theorem wr36 : WrittenLn [(0, ([122, 111, 110, 101], 0)), (0, ([97], 0)), (4, ([], 3600))] [122, 111, 110, 101, 32, 97, 32, 43, 48, 49, 58, 48, 48] := ⟨by simp, fun n k => by kernel_rfl, fun k => by kernel_rfl, by decide, by decide⟩
theorem ok36 : LnOk [122, 111, 110, 101, 32, 97, 32, 43, 48, 49, 58, 48, 48, 32, 35, 32, 119, 105, 116, 104, 32, 116, 104, 105, 115] := .inl ⟨_, ln36, .inr ⟨_, wr36⟩⟩
theorem ok37 : LnOk [117, 110, 107, 110, 111, 119, 110, 32, 97] := .inr ⟨1, 2, [], by decide, fun k => by kernel_rfl⟩
theorem ok38 : LnOk [49, 32, 97] := .inr ⟨1, 2, [], by decide, fun k => by kernel_rfl⟩
theorem ok39 : LnOk [122, 111, 110, 101] := .inr ⟨1, 2, [], by decide, fun k => by kernel_rfl⟩
def lnAll : List (List UInt8) := [[122, 111, 110, 101, 32, 97, 32, 43, 48, 49, 58, 48, 48], [122, 111, 110, 101, 32, 97, 32, 48, 49, 58, 48, 48], [114, 117, 108, 101, 32, 50, 48, 50, 48, 32, 50, 48, 51, 48, 32, 109, 97, 114, 32, 108, 97, 115, 116, 32, 115, 117, 110, 32, 48, 50, 58, 48, 48, 32, 43, 48, 50, 58, 48, 48], [114, 117, 108, 101, 32, 50, 48, 50, 48, 32, 109, 97, 114, 32, 108, 97, 115, 116, 32, 115, 117, 110, 32, 48, 50, 58, 48, 48, 32, 43, 48, 50, 58, 48, 48], [112, 101, 114, 115, 111, 110, 32, 112, 32, 97], [112, 101, 114, 115, 111, 110, 32, 112, 32, 97, 32, 119, 101, 101, 107, 32, 52, 48], [112, 101, 114, 115, 111, 110, 32, 112, 32, 97, 32, 114, 101, 115, 116, 32, 49, 49], [112, 101, 114, 115, 111, 110, 32, 112, 32, 97, 32, 119, 101, 101, 107, 32, 52, 48, 32, 114, 101, 115, 116, 32, 49, 49, 32, 99, 111, 110, 115, 101, 110, 116], [112, 101, 114, 115, 111, 110, 32, 112, 32, 97, 32, 114, 101, 115, 116, 32, 49, 49, 32, 119, 101, 101, 107, 32, 52, 48], [112, 101, 114, 115, 111, 110, 32, 112, 32, 97, 32, 99, 111, 110, 115, 101, 110, 116, 32, 99, 111, 110, 115, 101, 110, 116], [112, 101, 114, 115, 111, 110, 32, 112, 32, 97, 32, 119, 101, 101, 107], [112, 101, 114, 115, 111, 110, 32, 112], [113, 117, 105, 101, 116, 32, 109, 111, 110, 32, 50, 50, 58, 48, 48, 32, 109, 111, 110, 32, 50, 52, 58, 48, 48], [113, 117, 105, 101, 116, 32, 109, 111, 110, 32, 50, 50, 58, 48, 48], [99, 97, 108, 101, 110, 100, 97, 114, 32, 99, 32, 97], [100, 97, 121, 115, 32, 50, 48, 50, 54, 45, 48, 49, 45, 48, 49], [100, 97, 121, 115, 32, 50, 48, 50, 54, 45, 48, 49, 45, 48, 49, 32, 50, 48, 50, 54, 45, 48, 49, 45, 48, 50], [100, 97, 121, 115], [100, 97, 121, 115, 32, 50, 48, 50, 54, 45, 48, 49, 45, 48, 49, 32, 120], [115, 99, 104, 101, 100, 117, 108, 101, 32, 115], [115, 99, 104, 101, 100, 117, 108, 101], [108, 97, 121, 101, 114, 32, 108, 32, 97, 32, 50, 48, 50, 54, 45, 48, 49, 45, 48, 53, 32, 48, 57, 58, 48, 48, 32, 49, 32, 119, 101, 101, 107, 115], [108, 97, 121, 101, 114, 32, 108, 32, 97, 32, 50, 48, 50, 54, 45, 48, 49, 45, 48, 53, 32, 49, 32, 119, 101, 101, 107, 115], [109, 101, 109, 98, 101, 114, 32, 112, 32, 113, 32, 114], [109, 101, 109, 98, 101, 114], [111, 110, 32, 109, 111, 110, 32, 48, 57, 58, 48, 48, 32, 102, 114, 105, 32, 49, 55, 58, 48, 48], [110, 111, 116, 32, 99], [111, 110, 108, 121, 32, 99], [111, 110, 108, 121, 32, 99, 32, 100], [108, 101, 97, 118, 101, 32, 112, 32, 50, 48, 50, 54, 45, 48, 49, 45, 48, 49, 84, 48, 48, 58, 48, 48, 58, 48, 48, 90, 32, 50, 48, 50, 54, 45, 48, 49, 45, 48, 50, 84, 48, 48, 58, 48, 48, 58, 48, 48, 90], [111, 118, 101, 114, 114, 105, 100, 101, 32, 110, 111, 98, 111, 100, 121, 32, 50, 48, 50, 54, 45, 48, 49, 45, 48, 49, 84, 48, 48, 58, 48, 48, 58, 48, 48, 90, 32, 50, 48, 50, 54, 45, 48, 49, 45, 48, 50, 84, 48, 48, 58, 48, 48, 58, 48, 48, 90], [115, 119, 97, 112, 32, 112, 32, 113, 32, 50, 48, 50, 54, 45, 48, 49, 45, 48, 49, 84, 48, 48, 58, 48, 48, 58, 48, 48, 90, 32, 50, 48, 50, 54, 45, 48, 49, 45, 48, 50, 84, 48, 48, 58, 48, 48, 58, 48, 48, 90], [115, 119, 97, 112, 32, 112, 32, 50, 48, 50, 54, 45, 48, 49, 45, 48, 49, 84, 48, 48, 58, 48, 48, 58, 48, 48, 90, 32, 50, 48, 50, 54, 45, 48, 49, 45, 48, 50, 84, 48, 48, 58, 48, 48, 58, 48, 48, 90], [], [32, 32, 32], [35, 32, 111, 110, 108, 121, 32, 116, 104, 105, 115], [122, 111, 110, 101, 32, 97, 32, 43, 48, 49, 58, 48, 48, 32, 35, 32, 119, 105, 116, 104, 32, 116, 104, 105, 115], [117, 110, 107, 110, 111, 119, 110, 32, 97], [49, 32, 97], [122, 111, 110, 101]]
theorem lines_eq {β : Type} (k : List (List UInt8) → Option β) : zq16 k = k lnAll := by kernel_rfl
theorem lnAll_ok : ∀ w ∈ lnAll, LnOk w := by
  intro w hw
  unfold lnAll at hw
  simp only [List.mem_cons, List.not_mem_nil, or_false] at hw
  rcases hw with rfl | rfl | rfl | rfl | rfl | rfl | rfl | rfl | rfl | rfl | rfl | rfl | rfl | rfl | rfl | rfl | rfl | rfl | rfl | rfl | rfl | rfl | rfl | rfl | rfl | rfl | rfl | rfl | rfl | rfl | rfl | rfl | rfl | rfl | rfl | rfl | rfl | rfl | rfl | rfl
  · exact ok0
  · exact ok1
  · exact ok2
  · exact ok3
  · exact ok4
  · exact ok5
  · exact ok6
  · exact ok7
  · exact ok8
  · exact ok9
  · exact ok10
  · exact ok11
  · exact ok12
  · exact ok13
  · exact ok14
  · exact ok15
  · exact ok16
  · exact ok17
  · exact ok18
  · exact ok19
  · exact ok20
  · exact ok21
  · exact ok22
  · exact ok23
  · exact ok24
  · exact ok25
  · exact ok26
  · exact ok27
  · exact ok28
  · exact ok29
  · exact ok30
  · exact ok31
  · exact ok32
  · exact ok33
  · exact ok34
  · exact ok35
  · exact ok36
  · exact ok37
  · exact ok38
  · exact ok39
theorem empty_line {β : Type} (k : Int → List STok → Option β) : zqrn [] k = k 0 [] := by kernel_rfl
theorem sane07 {β : Type} (k : Bool → Option β) : zqsn k = k true := by kernel_rfl
end
end Go.Lift
namespace Go.Lift
set_option linter.unusedVariables false
set_option linter.unusedSimpArgs false
section
variable {b : UInt8}
theorem ix_no : ∀ {l : List UInt8}, (∀ c ∈ l, c ≠ b) → Lib.index l [b] = -1
  | [], _ => rfl
  | c :: l, h => by
    have h1 := ix_no (l := l) fun x hx => h x (by simp [hx])
    have h2 := h c (by simp)
    unfold Lib.index
    rw [h1]
    have : List.isPrefixOf [b] (c :: l) = false := by
      simp [List.isPrefixOf]
      exact fun e => h2 e.symm
    rw [this]
    rfl
theorem ix_at : ∀ {l : List UInt8} (r : List UInt8), (∀ c ∈ l, c ≠ b) → Lib.index (l ++ b :: r) [b] = (l.length : Int)
  | [], r, _ => by
    show Lib.index (b :: r) [b] = 0
    unfold Lib.index
    simp [List.isPrefixOf]
  | c :: l, r, h => by
    have h1 := ix_at (l := l) r fun x hx => h x (by simp [hx])
    have h2 := h c (by simp)
    rw [List.cons_append]
    unfold Lib.index
    rw [h1]
    have : List.isPrefixOf [b] (c :: (l ++ b :: r)) = false := by
      simp [List.isPrefixOf]
      exact fun e => h2 e.symm
    rw [this]
    have h3 : ((l.length : Int) == -1) = false := by rw [beq_eq_false_iff_ne]; omega
    simp [h3]
theorem split_no {l : List UInt8} (h : ∀ c ∈ l, c ≠ b) : splitL l [b] = [l] := by
  have hi := ix_no h
  unfold splitL
  rw [Lib.splitB_data]
  show Lib.splitK [b] 0 (Lib.count l [b]) l = [l]
  rw [Lib.count_miss hi]
  rfl
theorem split_at {l : List UInt8} (r : List UInt8) (h : ∀ c ∈ l, c ≠ b) : splitL (l ++ b :: r) [b] = l :: splitL r [b] := by
  have hi := ix_at r h
  have hd : (l ++ b :: r).drop (l.length + 1) = r := by
    rw [show l ++ b :: r = (l ++ [b]) ++ r by simp]
    exact List.drop_left' (by simp)
  unfold splitL
  rw [Lib.splitB_data, Lib.splitB_data]
  show Lib.splitK [b] 0 (Lib.count (l ++ b :: r) [b]) (l ++ b :: r) = l :: Lib.splitK [b] 0 (Lib.count r [b]) r
  rw [Lib.count_hit (i := l.length) (by simp) hi, Nat.add_comm]
  show Lib.splitK [b] 0 (Lib.count ((l ++ b :: r).drop (l.length + 1)) [b] + 1) (l ++ b :: r) = _
  rw [hd]
  rw [Lib.splitK, hi, if_neg (by rw [beq_iff_eq]; omega)]
  show (l ++ b :: r).take (l.length : Int).toNat :: Lib.splitK [b] 0 (Lib.count r [b]) ((l ++ b :: r).drop ((l.length : Int).toNat + 1)) = _
  rw [Int.toNat_natCast, hd, List.take_left]
end
end Go.Lift
namespace Go.Lift
open Go.RowKit Go.IntWalk
noncomputable section
set_option linter.unusedVariables false
set_option linter.unusedSimpArgs false
abbrev Dice := List Int × Int
def DiceOk (d : Dice) : Prop := 0 ≤ d.2 ∧ d.2 ≤ d.1.length ∧ d.1.length ≤ 500
theorem light_eq {β : Type} (l : List Int) (k : Bool → Option β) : zq9 l k = k (decide ((l.length : Int) ≤ 500)) := by
  simp only [zq9, zq6]
theorem roll_eq {β : Type} (l : List Int) (k : Dice → Option β) : zqg l k = k (l, 0) := by
  simp only [zqg, zqd]
theorem roll_ok {l : List Int} (h : (l.length : Int) ≤ 500) : DiceOk (l, 0) := ⟨by simp, by simp, by show l.length ≤ 500; omega⟩
theorem next_ok {n : Int} {d : Dice} (hd : DiceOk d) (hn : 1 ≤ n ∧ n ≤ 4611686018427387904) :
    ∃ x d', 0 ≤ x ∧ x < n ∧ DiceOk d' ∧ ∀ {β : Type} (k : Int → Dice → Option β), zq1d n d k = k x d' := by
  obtain ⟨h1, h2, h3⟩ := hd
  by_cases ha : (d.1.length : Int) ≤ d.2
  · exact ⟨0, d, by omega, by omega, ⟨h1, h2, h3⟩, fun k => by simp (disch := omega) only [zq1d, zq1a, c_pos]⟩
  · generalize hv : List.getD d.1 (Int.toNat d.2) (0 : Int) = v
    have hm1 := Int.tmod_lt_of_pos v (show 0 < n by omega)
    have hm2 : -n < Int.tmod v n := by
      have h5 := Int.tmod_lt_of_pos (-v) (show 0 < n by omega)
      rw [Int.neg_tmod] at h5
      omega
    have hd' : DiceOk (d.1, d.2 + 1) := ⟨by show (0 : Int) ≤ d.2 + 1; omega, by show d.2 + 1 ≤ (d.1.length : Int); omega, h3⟩
    by_cases hc : Int.tmod v n < 0
    · refine ⟨Int.tmod v n + n, (d.1, d.2 + 1), by omega, by omega, hd', fun k => ?_⟩
      simp (disch := omega) only [zq1d, zq1a, hv, c_pos, c_neg, c_inb, c_nneg, i64_in]
    · refine ⟨Int.tmod v n, (d.1, d.2 + 1), by omega, by omega, hd', fun k => ?_⟩
      simp (disch := omega) only [zq1d, zq1a, hv, c_pos, c_neg, c_inb, c_nneg, i64_in]
end
end Go.Lift
namespace Go.Lift
open Go.RowKit Go.IntWalk
noncomputable section
set_option linter.unusedVariables false
set_option linter.unusedSimpArgs false
set_option maxRecDepth 10000
abbrev Ln := List UInt8 × List STok
abbrev Stm := Int × List STok
structure Fine (p : Ln) : Prop where
  line : ∀ {β : Type} (k : Int → List STok → Option β), zqrn p.1 k = k 0 p.2
  form : p.2 = [] ∨ ∀ {β : Type} (k : Bool → Option β), zqih p.2 k = k true
  nonl : ∀ c ∈ p.1, c ≠ 10
  len : p.1.length ≤ 100
  few : p.2.length ≤ 100
theorem GoodLn.fine {w : List UInt8} {ts : List STok} (h : GoodLn w ts) : Fine (w, ts) := ⟨h.line, h.form, h.nonl, h.len, h.few⟩
theorem fine_nil : Fine ([], []) := ⟨empty_line, .inl rfl, by simp, by simp, by simp⟩
def flatL (ps : List Ln) : List UInt8 := ps.flatMap fun p => p.1 ++ [10]
theorem flatL_cons (p : Ln) (ps : List Ln) : flatL (p :: ps) = p.1 ++ 10 :: flatL ps := by simp [flatL]
theorem flatL_app (ps qs : List Ln) : flatL (ps ++ qs) = flatL ps ++ flatL qs := by simp [flatL]
theorem flatL_len : ∀ {ps : List Ln}, (∀ p ∈ ps, Fine p) → (flatL ps).length ≤ 101 * ps.length
  | [], _ => by simp [flatL]
  | p :: ps, h => by
    have h1 := (h p (List.mem_cons_self ..)).len
    have h2 := flatL_len (ps := ps) fun q hq => h q (List.mem_cons_of_mem _ hq)
    rw [flatL_cons, List.length_append, List.length_cons, List.length_cons]
    omega
theorem split_flat : ∀ {ps : List Ln} (r : List UInt8), (∀ p ∈ ps, Fine p) → splitL (flatL ps ++ r) [10] = ps.map (·.1) ++ splitL r [10]
  | [], r, _ => rfl
  | p :: ps, r, h => by
    rw [flatL_cons, List.append_assoc, List.cons_append, split_at _ (h p (List.mem_cons_self ..)).nonl, split_flat r fun q hq => h q (List.mem_cons_of_mem _ hq)]
    rfl
def stm : Nat → List Ln → List Stm
  | _, [] => []
  | n, p :: r => (if p.2 = [] then [] else [((n : Int) + 1, p.2)]) ++ stm (n + 1) r
theorem stm_app : ∀ (n : Nat) (ps qs : List Ln), stm n (ps ++ qs) = stm n ps ++ stm (n + ps.length) qs
  | n, [], qs => by simp [stm]
  | n, p :: ps, qs => by
    show (if p.2 = [] then [] else _) ++ stm (n + 1) (ps ++ qs) = _
    rw [stm_app (n + 1) ps qs]
    show _ = ((if p.2 = [] then [] else _) ++ stm (n + 1) ps) ++ _
    rw [List.append_assoc, List.length_cons, show n + 1 + ps.length = n + (ps.length + 1) by omega]
section
variable {β : Type}
theorem drop_getD {xs : List (List UInt8)} {i : Nat} {w : List UInt8} {r : List (List UInt8)} (h : xs.drop i = w :: r) : i < xs.length ∧ xs.getD i [] = w ∧ xs.drop (i + 1) = r := by
  have hi : i < xs.length := by
    rcases Nat.lt_or_ge i xs.length with g | g
    · exact g
    · rw [List.drop_of_length_le g] at h; cases h
  rw [List.drop_eq_getElem_cons hi] at h
  injection h with h1 h2
  exact ⟨hi, by simp [List.getD, hi, h1], h2⟩
theorem parse_good (k1 : zqrw β) (k2 : zqrx β) {xs : List (List UInt8)} (hx : xs.length ≤ 1000) {rest : List (List UInt8)} : ∀ (ps : List Ln) (i N : Nat) (acc : List Stm), (∀ p ∈ ps, Fine p) → xs.drop i = ps.map (·.1) ++ rest → acc.length ≤ i →
    zqsc (N + ps.length) k1 k2 (xs.length : Int) (i : Int) acc xs = zqsc N k1 k2 (xs.length : Int) ((i + ps.length : Nat) : Int) (acc ++ stm i ps) xs
  | [], i, N, acc, _, _, _ => by simp [stm]
  | p :: ps, i, N, acc, hf, hd, ha => by
    have hp := hf p (List.mem_cons_self ..)
    obtain ⟨hi, hw, hd'⟩ := drop_getD (w := p.1) (r := ps.map (·.1) ++ rest) hd
    have ih := parse_good k1 k2 hx (rest := rest) ps (i + 1) N (acc ++ (if p.2 = [] then [] else [((i : Int) + 1, p.2)])) (fun q hq => hf q (List.mem_cons_of_mem _ hq)) hd' (by rw [List.length_append]; split <;> simp only [List.length_cons, List.length_nil] <;> omega)
    have ew : IntKind.i64.wrap ((i : Int) + 1) = (i : Int) + 1 := i64_in _ (by omega)
    rw [List.length_cons, show N + (ps.length + 1) = (N + ps.length) + 1 by omega, zqsd]
    unfold zqs4
    refine (c_pos (by omega)).trans ?_
    refine (c_inb (by omega)).trans ?_
    dsimp only
    rw [Int.toNat_natCast, hw]
    refine (hp.line _).trans ?_
    refine c_t.trans ?_
    unfold zqsa zqs2 zqs1
    have last : zqsc (N + ps.length) k1 k2 (xs.length : Int) ((i : Int) + 1) (acc ++ (if p.2 = [] then [] else [((i : Int) + 1, p.2)])) xs = zqsc N k1 k2 (xs.length : Int) ((i + (ps.length + 1) : Nat) : Int) (acc ++ stm i (p :: ps)) xs := by
      rw [show i + (ps.length + 1) = i + 1 + ps.length by omega]
      show _ = zqsc N k1 k2 (xs.length : Int) ((i + 1 + ps.length : Nat) : Int) (acc ++ ((if p.2 = [] then [] else [((i : Int) + 1, p.2)]) ++ stm (i + 1) ps)) xs
      rw [← List.append_assoc]
      exact ih
    rcases hp.form with h0 | h0
    · rw [h0]
      refine c_f.trans ?_
      refine c_f.trans ?_
      refine c_f.trans ?_
      rw [h0, if_pos rfl, List.append_nil] at last
      dsimp only
      rw [ew]
      exact last
    · by_cases he : p.2 = []
      · rw [he]
        refine c_f.trans ?_
        refine c_f.trans ?_
        refine c_f.trans ?_
        rw [he, if_pos rfl, List.append_nil] at last
        dsimp only
        rw [ew]
        exact last
      · have hl : 0 < p.2.length := List.length_pos_iff.2 he
        refine (c_pos (by omega)).trans ?_
        refine (h0 _).trans ?_
        refine c_f.trans ?_
        refine c_f.trans ?_
        refine (c_pos (by omega)).trans ?_
        refine (c_room (by simp only [List.length_cons, List.length_nil]; omega)).trans ?_
        rw [if_neg he] at last
        dsimp only
        rw [ew]
        exact last
theorem parse_lines {text : List UInt8} {qs : List Ln} (hq : ∀ q ∈ qs, Fine q) (hs : splitL text [10] = qs.map (·.1)) (hl : text.length ≤ 65536) (hn : qs.length ≤ 1000) (k : Int → Int → List Stm → Option β) : zqsg text k = k 0 0 (stm 0 qs) := by
  unfold zqsg zqs7 zq1q splitF
  refine (c_neg (by omega)).trans ?_
  refine (c_p2 (by omega) (by simp)).trans ?_
  rw [hs]
  have hlen : (qs.map (·.1)).length = qs.length := List.length_map _
  unfold zqse
  have h := parse_good (fun line e l => k line e l) (fun l => k 0 0 l) (xs := qs.map (·.1)) (by omega) (rest := []) qs 0 (fuel - qs.length) [] hq (by simp) (by simp)
  have hfu : fuel - qs.length + qs.length = fuel := Nat.sub_add_cancel (Nat.le_of_lt (lt_fuel (by omega)))
  rw [hfu] at h
  refine h.trans ?_
  obtain ⟨m, hm⟩ : ∃ m, fuel - qs.length = m + 1 := ⟨fuel - qs.length - 1, by have := lt_fuel (n := qs.length) (by omega); omega⟩
  rw [hm, zqsd]
  unfold zqs4
  refine (c_neg (by rw [hlen]; omega)).trans ?_
  rfl
end
end
end Go.Lift
namespace Go.Lift
open Go.RowKit Go.IntWalk
noncomputable section
set_option linter.unusedVariables false
set_option linter.unusedSimpArgs false
set_option maxRecDepth 10000
def Good2 (p : Ln) : Prop := Fine p ∧ (p.2 = [] ∨ ∃ s, WrittenLn p.2 s)
def DrawnT (out : List UInt8) : Prop := ∃ ps : List Ln, (∀ p ∈ ps, Good2 p) ∧ ps.length ≤ 9 ∧ (out = flatL ps ∨ ∃ q, Good2 q ∧ out = flatL ps ++ q.1)
theorem draw_loop : ∀ (N : Nat) (i : Int) (d : Dice) (ps : List Ln), 0 ≤ i → i.toNat < N → DiceOk d → (∀ p ∈ ps, Good2 p) → (ps.length : Int) + i ≤ 9 →
    ∃ out d', DrawnT out ∧ DiceOk d' ∧ ∀ {β : Type} (k1 : zqq9 β), zqqo N k1 true (flatL ps) i d.1 d.2 lnAll = k1 out d'.1 d'.2
  | 0, _, _, _, _, hN, _, _, _ => absurd hN (by omega)
  | N + 1, i, d, ps, h0, hN, hd, hp, hl => by
    by_cases hi : 0 < i
    · obtain ⟨r, d1, hr0, hr1, hd1, f1⟩ := next_ok (n := (lnAll.length : Int)) hd (by decide)
      have hfl := flatL_len (ps := ps) fun p h => (hp p h).1
      have ew : IntKind.i64.wrap (i - 1) = i - 1 := i64_in _ (by omega)
      have hw := lnAll_ok _ (show lnAll.getD r.toNat [] ∈ lnAll by
        have : r.toNat < lnAll.length := by omega
        simp [List.getD, this])
      rcases hw with ⟨ts, hg, hwr⟩ | ⟨n, e, o, he, href⟩
      · obtain ⟨o, href⟩ := hg.ref
        generalize hwe : lnAll.getD r.toNat [] = w at hg href
        have hq : Good2 (w, ts) := ⟨hg.fine, hwr⟩
        have hwl := hg.len
        have hps : ∀ p ∈ ps ++ [(w, ts)], Good2 p := fun p h => by
          rcases List.mem_append.1 h with g | g
          · exact hp p g
          · rw [List.mem_singleton] at g; rw [g]; exact hq
        have hfe : (flatL ps ++ w) ++ [10] = flatL (ps ++ [(w, ts)]) := by rw [flatL_app, flatL_cons]; simp [flatL]
        have hfl2 : (flatL ps ++ w).length ≤ 2000 := by rw [List.length_append]; omega
        by_cases hi1 : 1 < i
        · obtain ⟨out, d', h1, h2, g⟩ := draw_loop N (i - 1) d1 (ps ++ [(w, ts)]) (by omega) (by omega) hd1 hps (by rw [List.length_append]; simp only [List.length_cons, List.length_nil]; omega)
          refine ⟨out, d', h1, h2, fun k1 => ?_⟩
          rw [zqqp]
          unfold zqqg
          refine (c_pos hi).trans ?_
          refine (f1 _).trans ?_
          refine (c_inb ⟨hr0, hr1⟩).trans ?_
          dsimp only
          rw [hwe]
          refine (href _).trans ?_
          refine c_t.trans ?_
          refine (c_npos rfl).trans ?_
          unfold zqqm zqqe zqqd
          refine (c_pos (by omega)).trans ?_
          refine (c_pos hi1).trans ?_
          refine (c_pos (by simp only [List.length_cons, List.length_nil]; omega)).trans ?_
          dsimp only
          rw [ew, hfe]
          exact g k1
        · obtain ⟨b, d2, hb0, hb1, hd2, f2⟩ := next_ok (n := 2) hd1 (by omega)
          have hi2 : i = 1 := by omega
          have fin : ∀ {β : Type} (k1 : zqq9 β) (o : List UInt8), zqqo N k1 true o (i - 1) d2.1 d2.2 lnAll = k1 o d2.1 d2.2 := fun k1 o => by
            obtain ⟨M, rfl⟩ : ∃ M, N = M + 1 := ⟨N - 1, by omega⟩
            rw [zqqp]
            unfold zqqg
            exact c_neg (by omega)
          have e1 : IntKind.i64.wrap ((2 : Int) - 1) = 1 := by decide
          by_cases hb : b = 1
          · refine ⟨flatL (ps ++ [(w, ts)]), d2, ⟨_, hps, by rw [List.length_append]; simp only [List.length_cons, List.length_nil]; omega, .inl rfl⟩, hd2, fun k1 => ?_⟩
            rw [zqqp]
            unfold zqqg
            refine (c_pos hi).trans ?_
            refine (f1 _).trans ?_
            refine (c_inb ⟨hr0, hr1⟩).trans ?_
            dsimp only
            rw [hwe]
            refine (href _).trans ?_
            refine c_t.trans ?_
            refine (c_npos rfl).trans ?_
            unfold zqqm zqqe zqqd
            refine (c_pos (by omega)).trans ?_
            refine (c_neg hi1).trans ?_
            unfold zq1k zq1h
            refine (f2 _).trans ?_
            rw [e1]
            refine (c_pos hb).trans ?_
            refine (c_pos (by simp only [List.length_cons, List.length_nil]; omega)).trans ?_
            dsimp only
            rw [ew, hfe]
            exact fin k1 _
          · refine ⟨flatL ps ++ w, d2, ⟨ps, hp, by omega, .inr ⟨(w, ts), hq, rfl⟩⟩, hd2, fun k1 => ?_⟩
            rw [zqqp]
            unfold zqqg
            refine (c_pos hi).trans ?_
            refine (f1 _).trans ?_
            refine (c_inb ⟨hr0, hr1⟩).trans ?_
            dsimp only
            rw [hwe]
            refine (href _).trans ?_
            refine c_t.trans ?_
            refine (c_npos rfl).trans ?_
            unfold zqqm zqqe zqqd
            refine (c_pos (by omega)).trans ?_
            refine (c_neg hi1).trans ?_
            unfold zq1k zq1h
            refine (f2 _).trans ?_
            rw [e1]
            refine (c_neg hb).trans ?_
            dsimp only
            rw [ew]
            exact fin k1 _
      · obtain ⟨out, d', h1, h2, g⟩ := draw_loop N (i - 1) d1 ps (by omega) (by omega) hd1 hp (by omega)
        refine ⟨out, d', h1, h2, fun k1 => ?_⟩
        rw [zqqp]
        unfold zqqg
        refine (c_pos hi).trans ?_
        refine (f1 _).trans ?_
        refine (c_inb ⟨hr0, hr1⟩).trans ?_
        refine (href _).trans ?_
        refine c_t.trans ?_
        refine (c_nneg he).trans ?_
        dsimp only
        rw [ew]
        exact g k1
    · refine ⟨flatL ps, d, ⟨ps, hp, by omega, .inl rfl⟩, hd, fun k1 => ?_⟩
      rw [zqqp]
      unfold zqqg
      exact c_neg hi
theorem draw_ok {d : Dice} (hd : DiceOk d) : ∃ out d', DrawnT out ∧ DiceOk d' ∧ ∀ {β : Type} (k : List UInt8 → Dice → Option β), zqqs true d k = k out d' := by
  obtain ⟨r, d1, hr0, hr1, hd1, f1⟩ := next_ok (n := 9) hd (by omega)
  obtain ⟨out, d2, h1, hd2, g⟩ := draw_loop fuel r d1 [] hr0 (lt_fuel (by omega)) hd1 (by simp) (by simp only [List.length_nil]; omega)
  refine ⟨out, d2, h1, hd2, fun k => ?_⟩
  unfold zqqs zqqj zqqq
  refine (lines_eq _).trans ?_
  refine (f1 _).trans ?_
  exact g _
end
end Go.Lift
namespace Go.Lift
open Go.RowKit Go.IntWalk
noncomputable section
set_option linter.unusedVariables false
set_option linter.unusedSimpArgs false
set_option maxRecDepth 10000
section
variable {β : Type}
theorem tokens_self (ts : List STok) (h : ts.length ≤ 1000) (k : Bool → Option β) : zqz ts ts k = k true := by
  unfold zqz zqs
  refine (c_npos rfl).trans ?_
  unfold zqx
  have hh := check_loop (fun m i => zqv m (fun t => k t) (fun _ => k true) ts ts (ts.length : Int) i) (fun _ => true) none (k true) ((0 : Int), (([] : List UInt8), (0 : Int))) ts fuel (lt_fuel (by omega))
    (fun m i hi => by
      rw [zqw]
      unfold zqp
      refine (c_pos (by omega)).trans ?_
      refine (c_inb (by omega)).trans ?_
      refine (c_inb (by omega)).trans ?_
      simp only [decide_true, Bool.and_true, Bool.not_true, cond_false, cond_true]
      rw [i64_in ((i : Int) + 1) (by omega)])
    (fun m => by
      rw [zqw]
      unfold zqp
      exact c_neg (by omega))
  have : ts.all (fun _ => true) = true := by simp
  rw [this] at hh
  exact hh
end
end
end Go.Lift
namespace Go.Lift
open Go.RowKit Go.IntWalk
noncomputable section
set_option linter.unusedVariables false
set_option linter.unusedSimpArgs false
set_option maxRecDepth 10000
structure WLn (w : Ln) : Prop where
  wr : WrittenLn w.2 w.1
  form : ∀ {β : Type} (k : Bool → Option β), zqih w.2 k = k true
  few : w.2.length ≤ 100
theorem WLn.fine {w : Ln} (h : WLn w) : Fine w := ⟨h.wr.line, .inr h.form, h.wr.nonl, h.wr.len, h.few⟩
theorem own_texts : ∀ (n : Nat) (qs : List Ln), (∀ q ∈ qs, Good2 q) → ∃ ws : List Ln, (∀ w ∈ ws, WLn w) ∧ (stm n qs).map (·.2) = ws.map (·.2) ∧ ws.length ≤ qs.length
  | _, [], _ => ⟨[], fun _ h => absurd h List.not_mem_nil, rfl, Nat.le_refl _⟩
  | n, q :: qs, h => by
    obtain ⟨ws, h1, h2, h3⟩ := own_texts (n + 1) qs fun p hp => h p (List.mem_cons_of_mem _ hp)
    have hq := h q (List.mem_cons_self ..)
    by_cases he : q.2 = []
    · refine ⟨ws, h1, ?_, by rw [List.length_cons]; omega⟩
      show ((if q.2 = [] then [] else [((n : Int) + 1, q.2)]) ++ stm (n + 1) qs).map (·.2) = _
      rw [if_pos he]
      exact h2
    · obtain ⟨s, hs⟩ := hq.2.resolve_left he
      refine ⟨(s, q.2) :: ws, fun w hw => ?_, ?_, by rw [List.length_cons, List.length_cons]; omega⟩
      · rcases List.mem_cons.1 hw with g | g
        · rw [g]
          exact ⟨hs, hq.1.form.resolve_left he, hq.1.few⟩
        · exact h1 w g
      · show ((if q.2 = [] then [] else [((n : Int) + 1, q.2)]) ++ stm (n + 1) qs).map (·.2) = _
        rw [if_neg he, List.map_append, h2]
        rfl
theorem stm_full : ∀ (n : Nat) (ws : List Ln), (∀ w ∈ ws, WLn w) → (stm n ws).length = ws.length ∧ ∀ i, i < ws.length → (stm n ws).getD i (0, []) = ((n : Int) + i + 1, (ws.getD i ([], [])).2)
  | _, [], _ => ⟨rfl, fun i h => absurd h (Nat.not_lt_zero _)⟩
  | n, w :: ws, h => by
    obtain ⟨h1, h2⟩ := stm_full (n + 1) ws fun p hp => h p (List.mem_cons_of_mem _ hp)
    have hne := (h w (List.mem_cons_self ..)).wr.some_
    have e : stm n (w :: ws) = ((n : Int) + 1, w.2) :: stm (n + 1) ws := by
      show (if w.2 = [] then [] else [((n : Int) + 1, w.2)]) ++ stm (n + 1) ws = _
      rw [if_neg hne]
      rfl
    rw [e]
    refine ⟨by rw [List.length_cons, List.length_cons, h1], fun i hi => ?_⟩
    cases i with
    | zero => simp
    | succ i =>
      have := h2 i (by rw [List.length_cons] at hi; omega)
      rw [List.getD_cons_succ, List.getD_cons_succ, this]
      congr 1
      omega
theorem flat_take {ws : List Ln} {i : Nat} (hi : i < ws.length) : flatL (ws.take (i + 1)) = flatL (ws.take i) ++ ((ws.getD i ([], [])).1 ++ [10]) := by
  have e : ws.take (i + 1) = ws.take i ++ [ws.getD i ([], [])] := by
    rw [List.take_add_one, List.getElem?_eq_getElem hi]
    simp [List.getD, hi]
  rw [e, flatL_app]
  simp [flatL]
theorem bytesI_app (a b : List UInt8) : bytesI (a ++ b) = bytesI a ++ bytesI b := by simp [bytesI]
theorem bytesI_len (a : List UInt8) : (bytesI a).length = a.length := by simp [bytesI]
theorem bytesI_ok (a : List UInt8) : bytesOk (bytesI a) = true := by
  unfold bytesOk bytesI
  rw [List.all_eq_true]
  intro n hn
  obtain ⟨c, _, rfl⟩ := List.mem_map.1 hn
  have := c.toNat_lt
  simp
  omega
section
variable {β : Type}
theorem text_eq {ws : List Ln} (hw : ∀ w ∈ ws, WLn w) (hl : ws.length ≤ 100) {l : List Stm} (hm : l.map (·.2) = ws.map (·.2)) (k : List UInt8 → Int → Option β) : zqp0 l k = k (flatL ws) 0 := by
  have hlen : l.length = ws.length := by have := congrArg List.length hm; simpa using this
  have hat : ∀ i, i < l.length → (l.getD i (0, [])).2 = (ws.getD i ([], [])).2 := fun i hi => by
    have h1 : (l.map (·.2))[i]? = (ws.map (·.2))[i]? := by rw [hm]
    rw [List.getElem?_map, List.getElem?_map, List.getElem?_eq_getElem hi, List.getElem?_eq_getElem (by omega)] at h1
    have h2 : (l[i]).2 = (ws[i]'(by omega)).2 := by simpa using h1
    rw [show l.getD i (0, []) = l[i] by simp [List.getD, hi], show ws.getD i ([], []) = ws[i]'(by omega) by simp [List.getD, show i < ws.length by omega]]
    exact h2
  have hfine : ∀ w ∈ ws, Fine w := fun w h => (hw w h).fine
  have hfl := flatL_len hfine
  have loop : ∀ (N i : Nat), i ≤ l.length → l.length - i < N → ∀ (k1 : zqol β) (k2 : zqom β), zqow N k1 k2 l (l.length : Int) (i : Int) (bytesI (flatL (ws.take i))) = k2 (bytesI (flatL ws)) := by
    intro N
    induction N with
    | zero => intro i _ h; omega
    | succ N ih =>
      intro i hi hN k1 k2
      rw [zqox]
      unfold zqoq
      by_cases hlt : i < l.length
      · have hwi : ws.getD i ([], []) ∈ ws := by
          have : i < ws.length := by omega
          simp [List.getD, this]
        have hx := hw _ hwi
        have ht := flatL_len (ps := ws.take i) fun p hp => hfine p (List.mem_of_mem_take hp)
        have htl : (ws.take i).length ≤ 100 := by rw [List.length_take]; omega
        have hxl := hx.wr.len
        refine (c_pos (by omega)).trans ?_
        refine (c_inb (by omega)).trans ?_
        dsimp only
        rw [Int.toNat_natCast]
        have e : l.getD i ((0 : Int), ([] : List STok)) = ((l.getD i (0, [])).1, (ws.getD i ([], [])).2) := by rw [← hat i hlt]
        rw [e]
        refine (hx.wr.written _ _).trans ?_
        refine (c_npos rfl).trans ?_
        refine (c_pos (by simp only [List.length_cons, List.length_nil]; omega)).trans ?_
        refine (c_pos (by rw [bytesI_len]; simp only [List.length_append, List.length_cons, List.length_nil]; omega)).trans ?_
        rw [i64_in ((i : Int) + 1) (by omega), ← bytesI_app, ← flat_take (by omega)]
        exact ih (i + 1) (by omega) (by omega) k1 k2
      · refine (c_neg (by omega)).trans ?_
        rw [List.take_of_length_le (by omega)]
  unfold zqp0 zqot zqoy
  have h0 := loop fuel 0 (by omega) (lt_fuel (by omega)) (fun t2 t3 => k t2 t3) (fun b1_ =>
    cond (decide ((65536 : Int) < (List.length b1_ : Int)))
    (k ([] : List UInt8) 5)
    (cond (bytesOk b1_)
    (k (strOf b1_) 0)
    none))
  refine h0.trans ?_
  refine (c_neg (by rw [bytesI_len]; omega)).trans ?_
  rw [bytesI_ok, strOf_bytesI]
  rfl
theorem back_p1 {ws : List Ln} (hw : ∀ w ∈ ws, WLn w) (hl : ws.length ≤ 100) {l m : List Stm} (hml : m.length = ws.length) (hll : l.length = ws.length) (hm : ∀ i, i < ws.length → m.getD i (0, []) = ((i : Int) + 1, (ws.getD i ([], [])).2)) (hlt : ∀ i, i < ws.length → (l.getD i (0, [])).2 = (ws.getD i ([], [])).2) (k1 : zqsr β) (k2 : zqss β) :
    zqt4 k1 k2 (m.length : Int) 0 l m = k2 () := by
  unfold zqt4
  have hh := check_loop (fun M i => zqt2 M k1 k2 (m.length : Int) i l m) (fun _ => true) none (k2 ()) ((0 : Int), ([] : List STok)) m fuel (lt_fuel (by omega))
    (fun M i hi => by
      have hwi : ws.getD i ([], []) ∈ ws := by
        have : i < ws.length := by omega
        simp [List.getD, this]
      have hx := hw _ hwi
      have hfew := hx.few
      rw [zqt3]
      unfold zqsw
      refine (c_pos (by omega)).trans ?_
      refine (c_inb (by omega)).trans ?_
      rw [Int.toNat_natCast, i64_in ((i : Int) + 1) (by omega), hm i (by omega), hlt i (by omega)]
      refine (c_npos rfl).trans ?_
      refine (c_inb (by omega)).trans ?_
      refine (c_inb (by omega)).trans ?_
      refine (tokens_self _ (by show (ws.getD i ([], [])).2.length ≤ 1000; omega) _).trans ?_
      refine c_f.trans ?_
      refine (c_inb (by omega)).trans ?_
      refine (hx.form _).trans ?_
      exact c_f)
    (fun M => by
      rw [zqt3]
      unfold zqsw
      exact c_neg (by omega))
  have : m.all (fun _ => true) = true := by simp
  rw [this] at hh
  exact hh
theorem drawn_lines {b : List UInt8} (h : DrawnT b) : ∃ us : List Ln, (∀ u ∈ us, Good2 u) ∧ us.length ≤ 10 ∧ splitL b [10] = us.map (·.1) ∧ b.length ≤ 1100 := by
  obtain ⟨ps, hp, hl, h⟩ := h
  have hf : ∀ p ∈ ps, Fine p := fun p g => (hp p g).1
  have hfl := flatL_len hf
  rcases h with rfl | ⟨q, hq, rfl⟩
  · refine ⟨ps ++ [([], [])], fun u hu => ?_, by simp; omega, ?_, by omega⟩
    · rcases List.mem_append.1 hu with g | g
      · exact hp u g
      · rw [List.mem_singleton] at g; rw [g]; exact ⟨fine_nil, .inl rfl⟩
    · have := split_flat [] hf
      rw [List.append_nil] at this
      rw [this, split_no (by simp)]
      simp
  · refine ⟨ps ++ [q], fun u hu => ?_, by simp; omega, ?_, by rw [List.length_append]; have := hq.1.len; omega⟩
    · rcases List.mem_append.1 hu with g | g
      · exact hp u g
      · rw [List.mem_singleton] at g; rw [g]; exact hq
    · rw [split_flat _ hf, split_no hq.1.nonl]
      simp
theorem syntaxBack (t : List Int) (k : Bool → Option β) : zqt6 t k = k true := by
  unfold zqt6 zqsz
  refine (light_eq t _).trans ?_
  by_cases hl : (t.length : Int) ≤ 500
  · rw [decide_eq_true hl]
    refine c_f.trans ?_
    refine (roll_eq t _).trans ?_
    obtain ⟨a, d1, ha, hd1, f1⟩ := draw_ok (roll_ok hl)
    refine (f1 _).trans ?_
    obtain ⟨us, hu, hul, hs, hal⟩ := drawn_lines ha
    obtain ⟨ws, hw, hws, hwl⟩ := own_texts 0 us hu
    have hfine : ∀ w ∈ ws, Fine w := fun w h => (hw w h).fine
    have hfl := flatL_len hfine
    obtain ⟨m1, m2⟩ := stm_full 0 ws hw
    have hq : ∀ q ∈ ws ++ [(([] : List UInt8), ([] : List STok))], Fine q := fun q h => (List.mem_append.1 h).elim (hfine q) fun g => by rw [List.mem_singleton] at g; rw [g]; exact fine_nil
    have hsp : splitL (flatL ws) [10] = (ws ++ [(([] : List UInt8), ([] : List STok))]).map (·.1) := by
      have := split_flat [] hfine
      rw [List.append_nil] at this
      rw [this, split_no (by simp)]
      simp
    have hst : stm 0 (ws ++ [(([] : List UInt8), ([] : List STok))]) = stm 0 ws := by
      rw [stm_app]
      simp [stm]
    have hmap : (stm 0 ws).map (·.2) = ws.map (·.2) := by
      refine List.ext_getElem (by simp [m1]) fun i h1 h2 => ?_
      rw [List.length_map] at h1 h2
      have := m2 i h2
      rw [show (stm 0 ws).getD i (0, []) = (stm 0 ws)[i] by simp [List.getD, h1], show ws.getD i ([], []) = ws[i] by simp [List.getD, h2]] at this
      rw [List.getElem_map, List.getElem_map, this]
    have hlen : (stm 0 us).length = ws.length := by have := congrArg List.length hws; simpa using this
    refine (parse_lines (fun u h => (hu u h).1) hs (by omega) (by omega) _).trans ?_
    refine (text_eq hw (by omega) hws _).trans ?_
    refine (parse_lines hq hsp (by omega) (by rw [List.length_append]; simp only [List.length_cons, List.length_nil]; omega) _).trans ?_
    rw [hst]
    refine (text_eq hw (by omega) hmap _).trans ?_
    refine (c_npos rfl).trans ?_
    refine (c_npos rfl).trans ?_
    refine (c_npos rfl).trans ?_
    refine (c_npos rfl).trans ?_
    refine (c_npos rfl).trans ?_
    refine (c_npos rfl).trans ?_
    refine (c_npos (by omega)).trans ?_
    refine (c_npos rfl).trans ?_
    refine (back_p1 hw (by omega) m1 hlen (fun i hi => by have := m2 i hi; rw [this]; congr 1; omega) (fun i hi => ?_) _ _).trans ?_
    · have h1 : ((stm 0 us).map (·.2))[i]? = (ws.map (·.2))[i]? := by rw [hws]
      rw [List.getElem?_map, List.getElem?_map, List.getElem?_eq_getElem (by omega), List.getElem?_eq_getElem hi] at h1
      have h2 : ((stm 0 us)[i]'(by omega)).2 = (ws[i]).2 := by simpa using h1
      rw [show (stm 0 us).getD i (0, []) = (stm 0 us)[i]'(by omega) by simp [List.getD, show i < (stm 0 us).length by omega], show ws.getD i ([], []) = ws[i] by simp [List.getD, hi]]
      exact h2
    · exact sane07 _
  · rw [decide_eq_false hl]
    refine c_t.trans ?_
    exact sane07 _
end
end
end Go.Lift
