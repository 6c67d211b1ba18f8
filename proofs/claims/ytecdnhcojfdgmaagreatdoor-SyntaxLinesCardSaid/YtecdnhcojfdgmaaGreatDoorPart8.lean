/- Part8: Fn1, LBase, LSynLines, LStr, LDice, LSynParse, LSynDraw, LSyntaxLines. -/
import Derived.Test.YtecdnhcojfdgmaaGreatDoorProg
import Derived.KernelRfl
import Derived.Test.YtecdnhcojfdgmaaGreatDoorPart7
set_option linter.unusedVariables false
set_option linter.unusedSimpArgs false
namespace Go.Lift
open Go.Proofs
noncomputable section
set_option maxRecDepth 100000
set_option linter.unusedVariables false
abbrev zqlw := {β : Type} → (List UInt8) → (Int → Bool → Option β) → Option β
def zqlx (c : zqlw) : Spec :=
  ⟨[(false, [.data .str])], [], [(false, [.data (.int .i64)]), (false, [.data .bool])], [], fun x k => c x.1.1.1 (fun r0 r1 => k (((r0, ()), (r1, ()), ()), ()))⟩
section
variable (c_lexer_clock : zqf2) (c_lexer_date : zqkf)
@[reducible] def lexer_instant_X : Ctx := ⟨look tab, pick1 [(73, .spec (zqf3 c_lexer_clock)), (72, .spec (zqkg c_lexer_date))], false, false, false, false⟩
def zqly {β : Type} (s : List UInt8) (k : (Int → Bool → Option β)) : Option β :=
  cond (!decide ((List.length s : Int) = 20))
  (k 0 false)
  (cond (decide (0 ≤ 10) && decide (10 < (List.length s : Int)))
  (cond (!decide (((List.getD s (Int.toNat 10) 0).toNat : Int) = 84))
  (k 0 false)
  (cond (decide (0 ≤ 19) && decide (19 < (List.length s : Int)))
  (cond (!decide (((List.getD s (Int.toNat 19) 0).toNat : Int) = 90))
  (k 0 false)
  (cond (decide (0 ≤ 0) && (decide (0 ≤ 10) && decide (10 ≤ (List.length s : Int))))
  (c_lexer_date (List.drop (Int.toNat 0) (List.take (Int.toNat 10) s)) (fun rdate rdate2 =>
  cond (decide (0 ≤ 11) && (decide (11 ≤ 19) && decide (19 ≤ (List.length s : Int))))
  (c_lexer_clock (List.drop (Int.toNat 11) (List.take (Int.toNat 19) s)) (fun rclock rclock2 =>
  cond rdate2
  (cond rclock2
  (let t : Int := (IntKind.i64.wrap ((IntKind.i64.wrap (rdate * 86400)) + rclock));
  let t2 : Bool := (decide (rclock < 86400));
  k t t2)
  (let t : Int := (IntKind.i64.wrap ((IntKind.i64.wrap (rdate * 86400)) + rclock));
  k t false))
  (let t : Int := (IntKind.i64.wrap ((IntKind.i64.wrap (rdate * 86400)) + rclock));
  k t false)))
  none))
  none))
  none))
  none)
theorem zqlz (hΓ : ΓOk Tryz.prog (lexer_instant_X c_lexer_clock c_lexer_date).Γ) : SpecOk Tryz.prog 71 (zqlx (zqly c_lexer_clock c_lexer_date)) :=
  spec_exec (X := (lexer_instant_X c_lexer_clock c_lexer_date)) (Λ := pick1 []) (rs := [.tmp 2, .tmp 3]) (c := bodyOf Tryz.f71) mixed tab_ok hΓ Tryz.func71 (by kernel_rfl) (by kernel_rfl) (by kernel_rfl) (by kernel_rfl) CutsOk_nil (fun x k r h => Eq.trans (b := (zqlx (zqly c_lexer_clock c_lexer_date)).run x k) (by kernel_rfl) h)
end
theorem zqm0Γ : ΓOk Tryz.prog (pick1 [(73, .spec (zqf3 zqfj)), (72, .spec (zqkg zqkk))]) := (ΓOk_cons zqfk (ΓOk_cons zqkl ΓOk_nil))
def zqm1 : zqlw := zqly zqfj zqkk
theorem zqm2 : SpecOk Tryz.prog 71 (zqlx zqm1) := zqlz zqfj zqkk zqm0Γ
abbrev zqm3 := {β : Type} → (Int × List zq0) → ((List UInt8) → Int → Option β) → Option β
def zqm4 (c : zqm3) : Spec :=
  ⟨[(true, [.data (.prod (.int .i64) (.slice zq1))])], [], [(false, [.data .str]), (false, [.data (.int .i64)])], [], fun x k => c x.1.1.1 (fun r0 r1 => k (((r0, ()), (r1, ()), ()), ()))⟩
noncomputable def syntax_written_p1_code : Code := codeAt 122 (bodyOf Tryz.f21)
abbrev zqm5 (β : Type) := (List UInt8) → Int → Option β
abbrev zqm6 (β : Type) := (List (List UInt8)) → Option β
abbrev zqm7 := {β : Type} → zqm5 β → zqm6 β → (List zq0) → Int → Int → (List (List UInt8)) → Option β
def zqm8 : View := ⟨0, [4, 15, 16, 17], [(false, [.rowh 0]),  (false, [.data (.slice zq1)]), (false, [.data (.int .i64)]), (false, [.data (.int .i64)])], [.row 9 .str]⟩
def zqm9 : List  (AExit × View) := [(.ret, ⟨0, [2, 3], [(false, [.data .str]), (false, [.data (.int .i64)])], []⟩), (.exit 0, ⟨0, [4], [(false, [.rowh 0])], [.row 9 .str]⟩)]
@[reducible] def syntax_written_p1_G (p : zqm7) {β : Type} (d : zqm8.den) (ks : Outs.K β zqm9) : Option β :=
  p (fun a0 a1 => ks.1 (((a0, ()), (a1, ()), ()), ())) (fun a0 => ks.2.1 (((), ()), (a0, ()))) d.1.2.1.1 d.1.2.2.1.1 d.1.2.2.2.1.1 d.2.1
section
variable (c_lexer_Text : zqkm) (c_syntax_Form : zqh6)
@[reducible] def syntax_written_X : Ctx := ⟨look tab, pick1 [(34, .spec (zqkn c_lexer_Text)), (12, .spec (zqh7 c_syntax_Form)), (35, .bld zq26)], false, false, false, false⟩
def zqma {β : Type} (rec : (List zq0) → Int → Int → (List (List UInt8)) → Option β) (k1 : zqm5 β) (k2 : zqm6 β) (t15 : List zq0) (t16 t17 : Int) (words : List (List UInt8)) : Option β :=
  cond (decide (t17 < t16))
  (cond (decide (0 ≤ t17) && decide (t17 < (List.length t15 : Int)))
  (let e : zq0 := List.getD t15 (Int.toNat t17) (0, (([] : List UInt8), 0));
  c_lexer_Text e (fun rText rText2 =>
  cond (!decide (rText2 = 0))
  (k1 ([] : List UInt8) 8)
  (let l : List (List UInt8) := ([rText] : List (List UInt8));
  cond (decide ((List.length words + List.length l) * 16 ≤ roomMax))
  (let l2 : List (List UInt8) := (words ++ l);
  rec t15 t16 (IntKind.i64.wrap (t17 + 1)) l2)
  none)))
  none)
  (k2 words)
def zqmb {β : Type} : Nat → zqm5 β → zqm6 β →  (List zq0) → Int → Int → (List (List UInt8)) → Option β
  | 0 => fun _ _ _ _ _ _ => none
  | i + 1 => fun k1 k2 t15 t16 t17 words => zqma c_lexer_Text (zqmb i k1 k2) k1 k2 t15 t16 t17 words
theorem zqmc (hΓ : ΓOk Tryz.prog (syntax_written_X c_lexer_Text c_syntax_Form).Γ) (i : Nat) : PieceOk Tryz.prog 39 0 syntax_written_p1_code zqm8 zqm9 (syntax_written_p1_G (zqmb c_lexer_Text i)) := by
  rw [show syntax_written_p1_code = .loop (loopBody syntax_written_p1_code) by kernel_rfl]
  exact piece_loop (X := (syntax_written_X c_lexer_Text c_syntax_Form)) (p := 1) (Λ := pick1 []) (G := fun i => @fun β d ks => syntax_written_p1_G (zqmb c_lexer_Text i) d ks) mixed tab_ok hΓ rfl (by kernel_rfl) CutsOk_nil (fun _ _ => rfl) (fun i => @fun β d ks r h => Eq.trans (b := syntax_written_p1_G (zqmb c_lexer_Text (i + 1)) d ks) (by kernel_rfl) h) i
def zqmd (p1 : zqm7) {β : Type} (s : (Int × List zq0)) (k : ((List UInt8) → Int → Option β)) : Option β :=
  c_syntax_Form s.2 (fun rForm =>
  cond (!rForm)
  (k ([] : List UInt8) 8)
  (p1 (fun t2 t3 =>
  k t2 t3) (fun words =>
  cond (decide (List.length words ≤ 140737488355328) && decide (List.length (Lib.join words ([32] : List UInt8)) ≤ 140737488355328))
  (let out : List UInt8 := (Lib.join words ([32] : List UInt8));
  cond (decide (512 < (List.length out : Int)))
  (k ([] : List UInt8) 5)
  (k out 0))
  none) s.2 (List.length s.2 : Int) 0 ([] : List (List UInt8))))
theorem zqme (hΓ : ΓOk Tryz.prog (syntax_written_X c_lexer_Text c_syntax_Form).Γ) (p1 : zqm7) (hp1 : PieceOk Tryz.prog 39 0 syntax_written_p1_code zqm8 zqm9 (syntax_written_p1_G p1)) : SpecOk Tryz.prog 21 (zqm4 (zqmd c_syntax_Form p1)) :=
  spec_exec (X := (syntax_written_X c_lexer_Text c_syntax_Form)) (Λ := pick1 [(122, pieceCut zqm8 zqm9 (syntax_written_p1_G p1))]) (rs := [.tmp 2, .tmp 3]) (c := bodyOf Tryz.f21) mixed tab_ok hΓ Tryz.func21 (by kernel_rfl) (by kernel_rfl) (by kernel_rfl) (by kernel_rfl) (CutsOk_cons (q := 122) (c' := syntax_written_p1_code) (by kernel_rfl) rfl hp1 CutsOk_nil) (fun x k r h => Eq.trans (b := (zqm4 (zqmd c_syntax_Form p1)).run x k) (by kernel_rfl) h)
end
theorem zqmfΓ : ΓOk Tryz.prog (pick1 [(34, .spec (zqkn zqkr)), (12, .spec (zqh7 zqi5)), (35, .bld zq26)]) := (ΓOk_cons zqks (ΓOk_cons zqi6 (ΓOk_bld zq27 ΓOk_nil)))
def zqmg (m : Nat) : zqm7 := zqmb zqkr m
theorem zqmh {β : Type} (i : Nat) (k1 k2 t15 t16 t17 words) : (zqmg (i + 1) k1 k2 t15 t16 t17 words : Option β) = zqma zqkr (zqmg i k1 k2) k1 k2 t15 t16 t17 words := rfl
def zqmi : zqm7 := zqmg fuel
theorem zqmj : PieceOk Tryz.prog 39 0 syntax_written_p1_code zqm8 zqm9 (syntax_written_p1_G zqmi) := zqmc zqkr zqi5 zqmfΓ fuel
def zqmk : zqm3 := zqmd zqi5 zqmi
theorem zqml : SpecOk Tryz.prog 21 (zqm4 zqmk) := zqme zqkr zqi5 zqmfΓ zqmi zqmj
abbrev zqmm := {β : Type} → (List UInt8) → (Int → (List zq0) → Option β) → Option β
def zqmn (c : zqmm) : Spec :=
  ⟨[(false, [.data .str])], [], [(false, [.rowh 0]), (false, [.data (.int .i64)])], [.row 51 zq1], fun x k => c x.1.1.1 (fun r0 r1 => k (((), (r0, ()), ()), (r1, ())))⟩
noncomputable def ref06_Line_p1_code : Code := codeAt 122 (bodyOf Tryz.f28)
noncomputable def ref06_Line_p2_code : Code := codeAt 1018 (bodyOf Tryz.f28)
abbrev zqmo (β : Type) := Int → (List zq0) → Option β
abbrev zqmp (β : Type) := (List UInt8) → Int → Option β
abbrev zqmq := {β : Type} → zqmo β → zqmp β → (List UInt8) → Int → Int → Option β
def zqmr : View := ⟨0, [0, 4, 5], [(false, [.data .str]),  (false, [.data (.int .i64)]), (false, [.data (.int .i64)])], []⟩
def zqms : List  (AExit × View) := [(.ret, ⟨0, [2, 3], [(false, [.rowh 0]), (false, [.data (.int .i64)])], [.row 51 zq1]⟩), (.exit 0, ⟨0, [0, 4], [(false, [.data .str]), (false, [.data (.int .i64)])], []⟩)]
@[reducible] def ref06_Line_p1_G (p : zqmq) {β : Type} (d : zqmr.den) (ks : Outs.K β zqms) : Option β :=
  p (fun a0 a1 => ks.1 (((), (a0, ()), ()), (a1, ()))) (fun a0 a1 => ks.2.1 (((a0, ()), (a1, ()), ()), ())) d.1.1.1 d.1.2.1.1 d.1.2.2.1.1
abbrev zqmt (β : Type) := Int → (List zq0) → Option β
abbrev zqmu (β : Type) := (List zq0) → Option β
abbrev zqmv := {β : Type} → zqmt β → zqmu β → Int → (List zq0) → (List (List UInt8)) → Option β
def zqmw : View := ⟨0, [6, 7, 8], [(false, [.rowh 0]),  (false, [.rowh 1]), (false, [.data (.int .i64)])], [.row 51 zq1, .row 9 .str]⟩
def zqmx : List  (AExit × View) := [(.ret, ⟨0, [2, 3], [(false, [.rowh 0]), (false, [.data (.int .i64)])], [.row 51 zq1]⟩), (.exit 2, ⟨0, [6], [(false, [.rowh 0])], [.row 51 zq1]⟩)]
@[reducible] def ref06_Line_p2_G (p : zqmv) {β : Type} (d : zqmw.den) (ks : Outs.K β zqmx) : Option β :=
  p (fun a0 a1 => ks.1 (((), (a0, ()), ()), (a1, ()))) (fun a0 => ks.2.1 (((), ()), (a0, ()))) d.1.2.2.1.1 d.2.1 d.2.2.1
section
variable (c_ref06_Token : zqkt) (c_ref06_Words : zq35)
@[reducible] def ref06_Line_X : Ctx := ⟨look tab, pick1 [(42, .spec (zqku c_ref06_Token)), (41, .spec (zq36 c_ref06_Words))], false, false, false, false⟩
def zqmy {β : Type} (rec : (List UInt8) → Int → Int → Option β) (k1 : zqmo β) (k2 : zqmp β) (text : List UInt8) (end_ i_ : Int) : Option β :=
  cond (decide (i_ < (List.length text : Int)))
  (cond (decide (0 ≤ i_) && decide (i_ < (List.length text : Int)))
  (cond (decide (((List.getD text (Int.toNat i_) 0).toNat : Int) < 32))
  (k1 2 ([] : List zq0))
  (cond (decide (0 ≤ i_) && decide (i_ < (List.length text : Int)))
  (cond (decide (126 < ((List.getD text (Int.toNat i_) 0).toNat : Int)))
  (k1 2 ([] : List zq0))
  (cond (decide (0 ≤ i_) && decide (i_ < (List.length text : Int)))
  (cond (decide (((List.getD text (Int.toNat i_) 0).toNat : Int) = 35))
  (let end_2 : Int := (if i_ < end_ then i_ else end_);
  let i_2 : Int := (IntKind.i64.wrap (i_ + 1));
  rec text end_2 i_2)
  (let i_2 : Int := (IntKind.i64.wrap (i_ + 1));
  rec text end_ i_2))
  none))
  none))
  none)
  (k2 text end_)
def zqmz {β : Type} : Nat → zqmo β → zqmp β →  (List UInt8) → Int → Int → Option β
  | 0 => fun _ _ _ _ _ => none
  | i + 1 => fun k1 k2 text end_ i_ => zqmy (zqmz i k1 k2) k1 k2 text end_ i_
theorem zqn0 (hΓ : ΓOk Tryz.prog (ref06_Line_X c_ref06_Token c_ref06_Words).Γ) (i : Nat) : PieceOk Tryz.prog 65 0 ref06_Line_p1_code zqmr zqms (ref06_Line_p1_G (zqmz i)) := by
  rw [show ref06_Line_p1_code = .loop (loopBody ref06_Line_p1_code) by kernel_rfl]
  exact piece_loop (X := (ref06_Line_X c_ref06_Token c_ref06_Words)) (p := 1) (Λ := pick1 []) (G := fun i => @fun β d ks => ref06_Line_p1_G (zqmz i) d ks) mixed tab_ok hΓ rfl (by kernel_rfl) CutsOk_nil (fun _ _ => rfl) (fun i => @fun β d ks r h => Eq.trans (b := ref06_Line_p1_G (zqmz (i + 1)) d ks) (by kernel_rfl) h) i
def zqn1 {β : Type} (rec : Int → (List zq0) → (List (List UInt8)) → Option β) (k1 : zqmt β) (k2 : zqmu β) (i_ : Int) (out : List zq0) (l : List (List UInt8)) : Option β :=
  cond (decide (i_ < (List.length l : Int)))
  (cond (decide (0 ≤ i_) && decide (i_ < (List.length l : Int)))
  (c_ref06_Token (List.getD l (Int.toNat i_) ([] : List UInt8)) (fun rToken rToken2 =>
  cond (!decide (rToken2 = 0))
  (k1 rToken2 ([] : List zq0))
  (let l2 : List zq0 := ([rToken] : List zq0);
  cond (decide ((List.length out + List.length l2) * 32 ≤ roomMax))
  (let l3 : List zq0 := (out ++ l2);
  let i_2 : Int := (IntKind.i64.wrap (i_ + 1));
  rec i_2 l3 l)
  none)))
  none)
  (k2 out)
def zqn2 {β : Type} : Nat → zqmt β → zqmu β → Int →  (List zq0) → (List (List UInt8)) → Option β
  | 0 => fun _ _ _ _ _ => none
  | i + 1 => fun k1 k2 i_ out l => zqn1 c_ref06_Token (zqn2 i k1 k2) k1 k2 i_ out l
theorem zqn3 (hΓ : ΓOk Tryz.prog (ref06_Line_X c_ref06_Token c_ref06_Words).Γ) (i : Nat) : PieceOk Tryz.prog 65 0 ref06_Line_p2_code zqmw zqmx (ref06_Line_p2_G (zqn2 c_ref06_Token i)) := by
  rw [show ref06_Line_p2_code = .loop (loopBody ref06_Line_p2_code) by kernel_rfl]
  exact piece_loop (X := (ref06_Line_X c_ref06_Token c_ref06_Words)) (p := 1) (Λ := pick1 []) (G := fun i => @fun β d ks => ref06_Line_p2_G (zqn2 c_ref06_Token i) d ks) mixed tab_ok hΓ rfl (by kernel_rfl) CutsOk_nil (fun _ _ => rfl) (fun i => @fun β d ks r h => Eq.trans (b := ref06_Line_p2_G (zqn2 c_ref06_Token (i + 1)) d ks) (by kernel_rfl) h) i
def zqn4 (p1 : zqmq) (p2 : zqmv) {β : Type} (text : List UInt8) (k : (Int → (List zq0) → Option β)) : Option β :=
  cond (decide (512 < (List.length text : Int)))
  (k 5 ([] : List zq0))
  (p1 (fun t3 t2 =>
  k t3 t2) (fun text2 end_ =>
  cond (decide (0 ≤ 0) && (decide (0 ≤ end_) && decide (end_ ≤ (List.length text2 : Int))))
  (c_ref06_Words (List.drop (Int.toNat 0) (List.take (Int.toNat end_) text2)) (fun lrWords =>
  p2 (fun t3 t2 =>
  k t3 t2) (fun out =>
  k 0 out) 0 ([] : List zq0) lrWords))
  none) text (List.length text : Int) 0)
theorem zqn5 (hΓ : ΓOk Tryz.prog (ref06_Line_X c_ref06_Token c_ref06_Words).Γ) (p1 : zqmq) (p2 : zqmv) (hp1 : PieceOk Tryz.prog 65 0 ref06_Line_p1_code zqmr zqms (ref06_Line_p1_G p1)) (hp2 : PieceOk Tryz.prog 65 0 ref06_Line_p2_code zqmw zqmx (ref06_Line_p2_G p2)) : SpecOk Tryz.prog 28 (zqmn (zqn4 c_ref06_Words p1 p2)) :=
  spec_exec (X := (ref06_Line_X c_ref06_Token c_ref06_Words)) (Λ := pick1 [(122, pieceCut zqmr zqms (ref06_Line_p1_G p1)), (1018, pieceCut zqmw zqmx (ref06_Line_p2_G p2))]) (rs := [.tmp 2, .tmp 3]) (c := bodyOf Tryz.f28) mixed tab_ok hΓ Tryz.func28 (by kernel_rfl) (by kernel_rfl) (by kernel_rfl) (by kernel_rfl) (CutsOk_cons (q := 122) (c' := ref06_Line_p1_code) (by kernel_rfl) rfl hp1 (CutsOk_cons (q := 1018) (c' := ref06_Line_p2_code) (by kernel_rfl) rfl hp2 CutsOk_nil)) (fun x k r h => Eq.trans (b := (zqmn (zqn4 c_ref06_Words p1 p2)).run x k) (by kernel_rfl) h)
end
theorem zqn6Γ : ΓOk Tryz.prog (pick1 [(42, .spec (zqku zqlu)), (41, .spec (zq36 zq3u))]) := (ΓOk_cons zqlv (ΓOk_cons zq3v ΓOk_nil))
def zqn7 (m : Nat) : zqmq := zqmz m
theorem zqn8 {β : Type} (i : Nat) (k1 k2 text end_ i_) : (zqn7 (i + 1) k1 k2 text end_ i_ : Option β) = zqmy (zqn7 i k1 k2) k1 k2 text end_ i_ := rfl
def zqn9 : zqmq := zqn7 fuel
theorem zqna : PieceOk Tryz.prog 65 0 ref06_Line_p1_code zqmr zqms (ref06_Line_p1_G zqn9) := zqn0 zqlu zq3u zqn6Γ fuel
def zqnb (m : Nat) : zqmv := zqn2 zqlu m
theorem zqnc {β : Type} (i : Nat) (k1 k2 i_ out l) : (zqnb (i + 1) k1 k2 i_ out l : Option β) = zqn1 zqlu (zqnb i k1 k2) k1 k2 i_ out l := rfl
def zqnd : zqmv := zqnb fuel
theorem zqne : PieceOk Tryz.prog 65 0 ref06_Line_p2_code zqmw zqmx (ref06_Line_p2_G zqnd) := zqn3 zqlu zq3u zqn6Γ fuel
def zqnf : zqmm := zqn4 zq3u zqn9 zqnd
theorem zqng : SpecOk Tryz.prog 28 (zqmn zqnf) := zqn5 zqlu zq3u zqn6Γ zqn9 zqnd zqna zqne
abbrev zqnh := {β : Type} → (List UInt8) → (Int → Int → Bool → Option β) → Option β
def zqni (c : zqnh) : Spec :=
  ⟨[(false, [.data .str])], [], [(false, [.data (.int .i64)]), (false, [.data (.int .i64)]), (false, [.data .bool])], [], fun x k => c x.1.1.1 (fun r0 r1 r2 => k (((r0, ()), (r1, ()), (r2, ()), ()), ()))⟩
noncomputable def lexer_form_p1_code : Code := codeAt 7 (bodyOf Tryz.f53)
noncomputable def lexer_form_p2_code : Code := codeAt 215 (bodyOf Tryz.f53)
abbrev zqnj (β : Type) := Int → Int → Bool → Option β
abbrev zqnk := {β : Type} → zqnj β → (List UInt8) → Option β
def zqnl : View := ⟨0, [0], [(false, [.data .str])], []⟩
def zqnm : List  (AExit × View) := [(.ret, ⟨0, [2, 3, 4], [(false, [.data (.int .i64)]), (false, [.data (.int .i64)]), (false, [.data .bool])], []⟩)]
@[reducible] def lexer_form_p1_G (p : zqnk) {β : Type} (d : zqnl.den) (ks : Outs.K β zqnm) : Option β :=
  p (fun a0 a1 a2 => ks.1 (((a0, ()), (a1, ()), (a2, ()), ()), ())) d.1.1.1
abbrev zqnn (β : Type) := Int → Int → Bool → Option β
abbrev zqno (β : Type) := (List UInt8) → Option β
abbrev zqnp := {β : Type} → zqnn β → zqno β → (List UInt8) → Bool → Option β
def zqnq : View := ⟨0, [0, 23], [(false, [.data .str]),  (false, [.data .bool])], []⟩
def zqnr : List  (AExit × View) := [(.ret, ⟨0, [2, 3, 4], [(false, [.data (.int .i64)]), (false, [.data (.int .i64)]), (false, [.data .bool])], []⟩), (.normal, ⟨0, [0], [(false, [.data .str])], []⟩)]
@[reducible] def lexer_form_p2_G (p : zqnp) {β : Type} (d : zqnq.den) (ks : Outs.K β zqnr) : Option β :=
  p (fun a0 a1 a2 => ks.1 (((a0, ()), (a1, ()), (a2, ()), ()), ())) (fun a0 => ks.2.1 (((a0, ()), ()), ())) d.1.1.1 d.1.2.1.1
section
variable (c_lexer_Name : zq8v) (c_lexer_clock : zqf2) (c_lexer_date : zqkf) (c_lexer_instant : zqlw) (c_lexer_number : zqav) (c_lexer_offset : zqi7) (c_lexer_small : zq5n) (c_strings_Contains : zq5w)
@[reducible] def lexer_form_X : Ctx := ⟨look tab, pick1 [(54, .spec (zq8w c_lexer_Name)), (73, .spec (zqf3 c_lexer_clock)), (72, .spec (zqkg c_lexer_date)), (71, .spec (zqlx c_lexer_instant)), (74, .spec (zqaw c_lexer_number)), (69, .spec (zqi8 c_lexer_offset)), (68, .spec (zq5o c_lexer_small)), (70, .spec (zq5x c_strings_Contains))], false, false, false, false⟩
def zqns {β : Type} (k1 : zqnj β) (s : List UInt8) : Option β :=
  c_lexer_number s (fun rnumber rnumber2 =>
  cond rnumber2
  (cond (decide (0 ≤ 0) && decide (0 < (List.length s : Int)))
  (cond (!decide (((List.getD s (Int.toNat 0) 0).toNat : Int) = 48))
  (k1 1 rnumber true)
  (let t : Bool := (decide (s = ([48] : List UInt8)));
  k1 1 rnumber t))
  none)
  (k1 1 rnumber false))
def zqnt {β : Type} (k1 : zqnj β) (s : List UInt8) : Option β := zqns c_lexer_number k1 s
theorem zqnu (hΓ : ΓOk Tryz.prog (lexer_form_X c_lexer_Name c_lexer_clock c_lexer_date c_lexer_instant c_lexer_number c_lexer_offset c_lexer_small c_strings_Contains).Γ) : PieceOk Tryz.prog 83 0 lexer_form_p1_code zqnl zqnm (lexer_form_p1_G (zqnt c_lexer_number)) :=
  piece_exec (X := (lexer_form_X c_lexer_Name c_lexer_clock c_lexer_date c_lexer_instant c_lexer_number c_lexer_offset c_lexer_small c_strings_Contains)) (p := 7) (Λ := pick1 []) mixed tab_ok hΓ (by kernel_rfl) CutsOk_nil (fun d ks r h => Eq.trans (b := lexer_form_p1_G (zqnt c_lexer_number) d ks) (by kernel_rfl) h)
def zqnv {β : Type} (k1 : zqnn β) (k2 : zqno β) (s : List UInt8) (t23 : Bool) : Option β :=
  cond t23
  (c_lexer_offset s (fun roffset roffset2 =>
  k1 4 roffset roffset2))
  (c_strings_Contains s ([84] : List UInt8) (fun rContains =>
  cond rContains
  (c_lexer_instant s (fun rinstant rinstant2 =>
  k1 5 rinstant rinstant2))
  (c_strings_Contains s ([45] : List UInt8) (fun rContains2 =>
  cond rContains2
  (c_lexer_date s (fun rdate rdate2 =>
  k1 3 rdate rdate2))
  (c_strings_Contains s ([58] : List UInt8) (fun rContains3 =>
  cond rContains3
  (c_lexer_clock s (fun rclock rclock2 =>
  k1 2 rclock rclock2))
  (k2 s)))))))
def zqnw {β : Type} (k1 : zqnn β) (k2 : zqno β) (s : List UInt8) (t23 : Bool) : Option β := zqnv c_lexer_clock c_lexer_date c_lexer_instant c_lexer_offset c_strings_Contains k1 k2 s t23
theorem zqnx (hΓ : ΓOk Tryz.prog (lexer_form_X c_lexer_Name c_lexer_clock c_lexer_date c_lexer_instant c_lexer_number c_lexer_offset c_lexer_small c_strings_Contains).Γ) : PieceOk Tryz.prog 83 0 lexer_form_p2_code zqnq zqnr (lexer_form_p2_G (zqnw c_lexer_clock c_lexer_date c_lexer_instant c_lexer_offset c_strings_Contains)) :=
  piece_exec (X := (lexer_form_X c_lexer_Name c_lexer_clock c_lexer_date c_lexer_instant c_lexer_number c_lexer_offset c_lexer_small c_strings_Contains)) (p := 215) (Λ := pick1 []) mixed tab_ok hΓ (by kernel_rfl) CutsOk_nil (fun d ks r h => Eq.trans (b := lexer_form_p2_G (zqnw c_lexer_clock c_lexer_date c_lexer_instant c_lexer_offset c_strings_Contains) d ks) (by kernel_rfl) h)
def zqny (p1 : zqnk) (p2 : zqnp) {β : Type} (s : List UInt8) (k : (Int → Int → Bool → Option β)) : Option β :=
  cond (decide (0 ≤ 0) && decide (0 < (List.length s : Int)))
  (let c : Int := ((List.getD s (Int.toNat 0) 0).toNat : Int);
  c_lexer_small c (fun rsmall =>
  cond rsmall
  (c_lexer_Name s (fun rName =>
  k 0 0 rName))
  (cond (decide (c = 43))
  (p2 (fun t2 t3 t4 =>
  k t2 t3 t4) (fun s2 =>
  p1 (fun t2 t3 t4 =>
  k t2 t3 t4) s2) s true)
  (let t : Bool := (decide (c = 45));
  p2 (fun t2 t3 t4 =>
  k t2 t3 t4) (fun s2 =>
  p1 (fun t2 t3 t4 =>
  k t2 t3 t4) s2) s t))))
  none
theorem zqnz (hΓ : ΓOk Tryz.prog (lexer_form_X c_lexer_Name c_lexer_clock c_lexer_date c_lexer_instant c_lexer_number c_lexer_offset c_lexer_small c_strings_Contains).Γ) (p1 : zqnk) (p2 : zqnp) (hp1 : PieceOk Tryz.prog 83 0 lexer_form_p1_code zqnl zqnm (lexer_form_p1_G p1)) (hp2 : PieceOk Tryz.prog 83 0 lexer_form_p2_code zqnq zqnr (lexer_form_p2_G p2)) : SpecOk Tryz.prog 53 (zqni (zqny c_lexer_Name c_lexer_small p1 p2)) :=
  spec_exec (X := (lexer_form_X c_lexer_Name c_lexer_clock c_lexer_date c_lexer_instant c_lexer_number c_lexer_offset c_lexer_small c_strings_Contains)) (Λ := pick1 [(7, pieceCut zqnl zqnm (lexer_form_p1_G p1)), (215, pieceCut zqnq zqnr (lexer_form_p2_G p2))]) (rs := [.tmp 2, .tmp 3, .tmp 4]) (c := bodyOf Tryz.f53) mixed tab_ok hΓ Tryz.func53 (by kernel_rfl) (by kernel_rfl) (by kernel_rfl) (by kernel_rfl) (CutsOk_cons (q := 7) (c' := lexer_form_p1_code) (by kernel_rfl) rfl hp1 (CutsOk_cons (q := 215) (c' := lexer_form_p2_code) (by kernel_rfl) rfl hp2 CutsOk_nil)) (fun x k r h => Eq.trans (b := (zqni (zqny c_lexer_Name c_lexer_small p1 p2)).run x k) (by kernel_rfl) h)
end
theorem zqo0Γ : ΓOk Tryz.prog (pick1 [(54, .spec (zq8w zq9c)), (73, .spec (zqf3 zqfj)), (72, .spec (zqkg zqkk)), (71, .spec (zqlx zqm1)), (74, .spec (zqaw zqbc)), (69, .spec (zqi8 zqil)), (68, .spec (zq5o zq5s)), (70, .spec (zq5x zq5y))]) := (ΓOk_cons zq9d (ΓOk_cons zqfk (ΓOk_cons zqkl (ΓOk_cons zqm2 (ΓOk_cons zqbd (ΓOk_cons zqim (ΓOk_cons zq5t (ΓOk_cons zq5z ΓOk_nil))))))))
def zqo1 : zqnk := zqnt zqbc
theorem zqo2 : PieceOk Tryz.prog 83 0 lexer_form_p1_code zqnl zqnm (lexer_form_p1_G zqo1) := zqnu zq9c zqfj zqkk zqm1 zqbc zqil zq5s zq5y zqo0Γ
def zqo3 : zqnp := zqnw zqfj zqkk zqm1 zqil zq5y
theorem zqo4 : PieceOk Tryz.prog 83 0 lexer_form_p2_code zqnq zqnr (lexer_form_p2_G zqo3) := zqnx zq9c zqfj zqkk zqm1 zqbc zqil zq5s zq5y zqo0Γ
def zqo5 : zqnh := zqny zq9c zq5s zqo1 zqo3
theorem zqo6 : SpecOk Tryz.prog 53 (zqni zqo5) := zqnz zq9c zqfj zqkk zqm1 zqbc zqil zq5s zq5y zqo0Γ zqo1 zqo3 zqo2 zqo4
abbrev zqo7 := {β : Type} → (List UInt8) → (Int → Int → (List (Int × List zq0)) → Option β) → Option β
def zqo8 (c : zqo7) : Spec :=
  ⟨[(false, [.data .str])], [], [(false, [.rowh 0]), (false, [.data (.int .i64)]), (false, [.data (.int .i64)])], [.row 35 (.prod (.int .i64) (.slice zq1))], fun x k => c x.1.1.1 (fun r0 r1 r2 => k (((), (r0, ()), (r1, ()), ()), (r2, ())))⟩
noncomputable def ref07_Parse_p2_code : Code := codeAt 250 (bodyOf Tryz.f17)
noncomputable def ref07_Parse_p1_code : Code := codeAt 25 (loopBody ref07_Parse_p2_code)
abbrev zqo9 (β : Type) := Int → Int → (List (Int × List zq0)) → Option β
abbrev zqoa (β : Type) := (List UInt8) → Int → Int → Int → (List (Int × List zq0)) → Option β
abbrev zqob (β : Type) := (List UInt8) → Int → Int → Int → (List (Int × List zq0)) → Option β
abbrev zqoc := {β : Type} → zqo9 β → zqoa β → zqob β → (List UInt8) → Int → Int → Int → (List (Int × List zq0)) → Option β
def zqod : View := ⟨0, [0, 5, 6, 7, 8], [(false, [.data .str]),  (false, [.rowh 0]), (false, [.data (.int .i64)]), (false, [.data (.int .i64)]), (false, [.data (.int .i64)])], [.row 35 (.prod (.int .i64) (.slice zq1))]⟩
def zqoe : List  (AExit × View) := [(.ret, ⟨0, [2, 3, 4], [(false, [.rowh 0]), (false, [.data (.int .i64)]), (false, [.data (.int .i64)])], [.row 35 (.prod (.int .i64) (.slice zq1))]⟩), (.exit 1, ⟨0, [0, 5, 6, 7, 8], [(false, [.data .str]), (false, [.rowh 0]), (false, [.data (.int .i64)]), (false, [.data (.int .i64)]), (false, [.data (.int .i64)])], [.row 35 (.prod (.int .i64) (.slice zq1))]⟩), (.normal, ⟨0, [0, 5, 6, 7, 8], [(false, [.data .str]), (false, [.rowh 0]), (false, [.data (.int .i64)]), (false, [.data (.int .i64)]), (false, [.data (.int .i64)])], [.row 35 (.prod (.int .i64) (.slice zq1))]⟩)]
@[reducible] def ref07_Parse_p1_G (p : zqoc) {β : Type} (d : zqod.den) (ks : Outs.K β zqoe) : Option β :=
  p (fun a0 a1 a2 => ks.1 (((), (a0, ()), (a1, ()), ()), (a2, ()))) (fun a0 a1 a2 a3 a4 => ks.2.1 (((a0, ()), (), (a1, ()), (a2, ()), (a3, ()), ()), (a4, ()))) (fun a0 a1 a2 a3 a4 => ks.2.2.1 (((a0, ()), (), (a1, ()), (a2, ()), (a3, ()), ()), (a4, ()))) d.1.1.1 d.1.2.2.1.1 d.1.2.2.2.1.1 d.1.2.2.2.2.1.1 d.2.1
abbrev zqof (β : Type) := Int → Int → (List (Int × List zq0)) → Option β
abbrev zqog (β : Type) := (List (Int × List zq0)) → Option β
abbrev zqoh := {β : Type} → zqof β → zqog β → (List UInt8) → Int → Int → Int → (List (Int × List zq0)) → Option β
def zqoi : View := ⟨0, [0, 5, 6, 7, 8], [(false, [.data .str]),  (false, [.rowh 0]), (false, [.data (.int .i64)]), (false, [.data (.int .i64)]), (false, [.data (.int .i64)])], [.row 35 (.prod (.int .i64) (.slice zq1))]⟩
def zqoj : List  (AExit × View) := [(.ret, ⟨0, [2, 3, 4], [(false, [.rowh 0]), (false, [.data (.int .i64)]), (false, [.data (.int .i64)])], [.row 35 (.prod (.int .i64) (.slice zq1))]⟩), (.exit 0, ⟨0, [5], [(false, [.rowh 0])], [.row 35 (.prod (.int .i64) (.slice zq1))]⟩)]
@[reducible] def ref07_Parse_p2_G (p : zqoh) {β : Type} (d : zqoi.den) (ks : Outs.K β zqoj) : Option β :=
  p (fun a0 a1 a2 => ks.1 (((), (a0, ()), (a1, ()), ()), (a2, ()))) (fun a0 => ks.2.1 (((), ()), (a0, ()))) d.1.1.1 d.1.2.2.1.1 d.1.2.2.2.1.1 d.1.2.2.2.2.1.1 d.2.1
section
variable (c_ref06_Line : zqmm) (c_ref07_Form : zqej)
@[reducible] def ref07_Parse_X : Ctx := ⟨look tab, pick1 [(28, .spec (zqmn c_ref06_Line)), (29, .spec (zqek c_ref07_Form))], false, false, false, false⟩
def zqok {β : Type} (k1 : zqo9 β) (k2 : zqoa β) (k3 : zqob β) (text : List UInt8) (from_ line i_ : Int) (out : List (Int × List zq0)) : Option β :=
  let line2 : Int := (IntKind.i64.wrap (line + 1));
  cond (decide (0 ≤ from_) && (decide (from_ ≤ i_) && decide (i_ ≤ (List.length text : Int))))
  (c_ref06_Line (List.drop (Int.toNat from_) (List.take (Int.toNat i_) text)) (fun rLine lrLine =>
  let from_2 : Int := (IntKind.i64.wrap (i_ + 1));
  cond (!decide (rLine = 0))
  (k1 line2 rLine ([] : List (Int × List zq0)))
  (cond (decide ((List.length lrLine : Int) = 0))
  (k2 text from_2 line2 i_ out)
  (c_ref07_Form lrLine (fun rForm =>
  cond (!rForm)
  (k1 line2 2 ([] : List (Int × List zq0)))
  (let l : List (Int × List zq0) := ([(line2, lrLine)] : List (Int × List zq0));
  cond (decide ((List.length out + List.length l) * 32 ≤ roomMax))
  (let l2 : List (Int × List zq0) := (out ++ l);
  k3 text from_2 line2 i_ l2)
  none))))))
  none
def zqol {β : Type} (k1 : zqo9 β) (k2 : zqoa β) (k3 : zqob β) (text : List UInt8) (from_ line i_ : Int) (out : List (Int × List zq0)) : Option β := zqok c_ref06_Line c_ref07_Form k1 k2 k3 text from_ line i_ out
theorem zqom (hΓ : ΓOk Tryz.prog (ref07_Parse_X c_ref06_Line c_ref07_Form).Γ) : PieceOk Tryz.prog 71 0 ref07_Parse_p1_code zqod zqoe (ref07_Parse_p1_G (zqol c_ref06_Line c_ref07_Form)) :=
  piece_exec (X := (ref07_Parse_X c_ref06_Line c_ref07_Form)) (p := 25) (Λ := pick1 []) mixed tab_ok hΓ (by kernel_rfl) CutsOk_nil (fun d ks r h => Eq.trans (b := ref07_Parse_p1_G (zqol c_ref06_Line c_ref07_Form) d ks) (by kernel_rfl) h)
def zqon (p1 : zqoc) {β : Type} (rec : (List UInt8) → Int → Int → Int → (List (Int × List zq0)) → Option β) (k1 : zqof β) (k2 : zqog β) (text : List UInt8) (from_ : Int) (line : Int) (i_ : Int) (out : List (Int × List zq0)) : Option β :=
  cond (decide (i_ ≤ (List.length text : Int)))
  (cond (decide (i_ < (List.length text : Int)))
  (cond (decide (0 ≤ i_) && decide (i_ < (List.length text : Int)))
  (cond (!decide (((List.getD text (Int.toNat i_) 0).toNat : Int) = 10))
  (let i_2 : Int := (IntKind.i64.wrap (i_ + 1));
  rec text from_ line i_2 out)
  (cond (decide (i_ = (List.length text : Int)))
  (cond (decide (from_ = i_))
  (let i_2 : Int := (IntKind.i64.wrap (i_ + 1));
  rec text from_ line i_2 out)
  (p1 (fun t3 t4 t2 =>
  k1 t3 t4 t2) (fun text2 from_2 line2 i_2 out2 =>
  let i_3 : Int := (IntKind.i64.wrap (i_2 + 1));
  rec text2 from_2 line2 i_3 out2) (fun text2 from_2 line2 i_2 out2 =>
  let i_3 : Int := (IntKind.i64.wrap (i_2 + 1));
  rec text2 from_2 line2 i_3 out2) text from_ line i_ out))
  (p1 (fun t3 t4 t2 =>
  k1 t3 t4 t2) (fun text2 from_2 line2 i_2 out2 =>
  let i_3 : Int := (IntKind.i64.wrap (i_2 + 1));
  rec text2 from_2 line2 i_3 out2) (fun text2 from_2 line2 i_2 out2 =>
  let i_3 : Int := (IntKind.i64.wrap (i_2 + 1));
  rec text2 from_2 line2 i_3 out2) text from_ line i_ out)))
  none)
  (cond (decide (i_ = (List.length text : Int)))
  (cond (decide (from_ = i_))
  (let i_2 : Int := (IntKind.i64.wrap (i_ + 1));
  rec text from_ line i_2 out)
  (p1 (fun t3 t4 t2 =>
  k1 t3 t4 t2) (fun text2 from_2 line2 i_2 out2 =>
  let i_3 : Int := (IntKind.i64.wrap (i_2 + 1));
  rec text2 from_2 line2 i_3 out2) (fun text2 from_2 line2 i_2 out2 =>
  let i_3 : Int := (IntKind.i64.wrap (i_2 + 1));
  rec text2 from_2 line2 i_3 out2) text from_ line i_ out))
  (p1 (fun t3 t4 t2 =>
  k1 t3 t4 t2) (fun text2 from_2 line2 i_2 out2 =>
  let i_3 : Int := (IntKind.i64.wrap (i_2 + 1));
  rec text2 from_2 line2 i_3 out2) (fun text2 from_2 line2 i_2 out2 =>
  let i_3 : Int := (IntKind.i64.wrap (i_2 + 1));
  rec text2 from_2 line2 i_3 out2) text from_ line i_ out)))
  (k2 out)
def zqoo (p1 : zqoc) {β : Type} : Nat → zqof β → zqog β → (List UInt8) → Int → Int → Int → (List (Int × List zq0)) → Option β
  | 0 => fun _ _ _ _ _ _ _ => none
  | i + 1 => fun k1 k2 text from_ line i_ out => zqon p1 (zqoo p1 i k1 k2) k1 k2 text from_ line i_ out
theorem zqop (hΓ : ΓOk Tryz.prog (ref07_Parse_X c_ref06_Line c_ref07_Form).Γ) (p1 : zqoc) (hp1 : PieceOk Tryz.prog 71 0 ref07_Parse_p1_code zqod zqoe (ref07_Parse_p1_G p1)) (i : Nat) : PieceOk Tryz.prog 71 0 ref07_Parse_p2_code zqoi zqoj (ref07_Parse_p2_G (zqoo p1 i)) := by
  rw [show ref07_Parse_p2_code = .loop (loopBody ref07_Parse_p2_code) by kernel_rfl]
  exact piece_loop (X := (ref07_Parse_X c_ref06_Line c_ref07_Form)) (p := 1) (Λ := pick1 [(25, pieceCut zqod zqoe (ref07_Parse_p1_G p1))]) (G := fun i => @fun β d ks => ref07_Parse_p2_G (zqoo p1 i) d ks) mixed tab_ok hΓ rfl (by kernel_rfl) (CutsOk_cons (q := 25) (c' := ref07_Parse_p1_code) (by kernel_rfl) rfl hp1 CutsOk_nil) (fun _ _ => rfl) (fun i => @fun β d ks r h => Eq.trans (b := ref07_Parse_p2_G (zqoo p1 (i + 1)) d ks) (by kernel_rfl) h) i
def zqoq (p2 : zqoh) {β : Type} (text : List UInt8) (k : (Int → Int → (List (Int × List zq0)) → Option β)) : Option β :=
  cond (decide (65536 < (List.length text : Int)))
  (k 0 5 ([] : List (Int × List zq0)))
  (p2 (fun t3 t4 t2 =>
  k t3 t4 t2) (fun out =>
  k 0 0 out) text 0 0 0 ([] : List (Int × List zq0)))
theorem zqor (hΓ : ΓOk Tryz.prog (ref07_Parse_X c_ref06_Line c_ref07_Form).Γ) (p2 : zqoh) (hp2 : PieceOk Tryz.prog 71 0 ref07_Parse_p2_code zqoi zqoj (ref07_Parse_p2_G p2)) : SpecOk Tryz.prog 17 (zqo8 (zqoq p2)) :=
  spec_exec (X := (ref07_Parse_X c_ref06_Line c_ref07_Form)) (Λ := pick1 [(250, pieceCut zqoi zqoj (ref07_Parse_p2_G p2))]) (rs := [.tmp 2, .tmp 3, .tmp 4]) (c := bodyOf Tryz.f17) mixed tab_ok hΓ Tryz.func17 (by kernel_rfl) (by kernel_rfl) (by kernel_rfl) (by kernel_rfl) (CutsOk_cons (q := 250) (c' := ref07_Parse_p2_code) (by kernel_rfl) rfl hp2 CutsOk_nil) (fun x k r h => Eq.trans (b := (zqo8 (zqoq p2)).run x k) (by kernel_rfl) h)
end
theorem zqosΓ : ΓOk Tryz.prog (pick1 [(28, .spec (zqmn zqnf)), (29, .spec (zqek zqf0))]) := (ΓOk_cons zqng (ΓOk_cons zqf1 ΓOk_nil))
def zqot : zqoc := zqol zqnf zqf0
theorem zqou : PieceOk Tryz.prog 71 0 ref07_Parse_p1_code zqod zqoe (ref07_Parse_p1_G zqot) := zqom zqnf zqf0 zqosΓ
def zqov (m : Nat) : zqoh := zqoo zqot m
theorem zqow {β : Type} (i : Nat) (k1 k2 text from_ line i_ out) : (zqov (i + 1) k1 k2 text from_ line i_ out : Option β) = zqon zqot (zqov i k1 k2) k1 k2 text from_ line i_ out := rfl
def zqox : zqoh := zqov fuel
theorem zqoy : PieceOk Tryz.prog 71 0 ref07_Parse_p2_code zqoi zqoj (ref07_Parse_p2_G zqox) := zqop zqnf zqf0 zqosΓ zqot zqou fuel
def zqoz : zqo7 := zqoq zqox
theorem zqp0 : SpecOk Tryz.prog 17 (zqo8 zqoz) := zqor zqnf zqf0 zqosΓ zqox zqoy
abbrev zqp1 := {β : Type} → (List UInt8) → (zq0 → Int → Option β) → Option β
def zqp2 (c : zqp1) : Spec :=
  ⟨[(false, [.data .str])], [], [(true, [.data zq1]), (false, [.data (.int .i64)])], [], fun x k => c x.1.1.1 (fun r0 r1 => k (((r0, ()), (r1, ()), ()), ()))⟩
section
variable (c_lexer_form : zqnh)
@[reducible] def lexer_Token_X : Ctx := ⟨look tab, pick1 [(53, .spec (zqni c_lexer_form))], false, false, false, false⟩
def zqp3 {β : Type} (word : List UInt8) (k : (zq0 → Int → Option β)) : Option β :=
  cond (decide (word = ([] : List UInt8)))
  (k (0, (([] : List UInt8), 0)) 2)
  (c_lexer_form word (fun rform rform2 rform3 =>
  cond (!rform3)
  (k (0, (([] : List UInt8), 0)) 2)
  (let t : Bool := (decide (rform = 0));
  cond t
  (k (rform, (word, 0)) 0)
  (k (rform, (([] : List UInt8), rform2)) 0))))
theorem zqp4 (hΓ : ΓOk Tryz.prog (lexer_Token_X c_lexer_form).Γ) : SpecOk Tryz.prog 33 (zqp2 (zqp3 c_lexer_form)) :=
  spec_exec (X := (lexer_Token_X c_lexer_form)) (Λ := pick1 []) (rs := [.cell 2 51, .tmp 3]) (c := bodyOf Tryz.f33) mixed tab_ok hΓ Tryz.func33 (by kernel_rfl) (by kernel_rfl) (by kernel_rfl) (by kernel_rfl) CutsOk_nil (fun x k r h => Eq.trans (b := (zqp2 (zqp3 c_lexer_form)).run x k) (by kernel_rfl) h)
end
theorem zqp5Γ : ΓOk Tryz.prog (pick1 [(53, .spec (zqni zqo5))]) := (ΓOk_cons zqo6 ΓOk_nil)
def zqp6 : zqp1 := zqp3 zqo5
theorem zqp7 : SpecOk Tryz.prog 33 (zqp2 zqp6) := zqp4 zqo5 zqp5Γ
abbrev zqp8 := {β : Type} → Bool → (List Int × Int) → ((List UInt8) → (List Int × Int) → Option β) → Option β
def zqp9 (c : zqp8) : Spec :=
  ⟨[(false, [.ptr 0 0]), (false, [.data .bool])], [.cells 42 [.data (.prod (.slice (.int .i64)) (.int .i64))]], [(false, [.data .str])], [.cells 42 [.data (.prod (.slice (.int .i64)) (.int .i64))]], fun x k => c x.1.2.1.1 x.2.1.1 (fun r0 r1 => k (((r0, ()), ()), ((r1, ()), ())))⟩
noncomputable def law07_draw_p2_code : Code := codeAt 122 (bodyOf Tryz.f8)
noncomputable def law07_draw_p1_code : Code := codeAt 51 (loopBody law07_draw_p2_code)
abbrev zqpa (β : Type) := Bool → (List UInt8) → Int → (List Int) → Int → (List (List UInt8)) → Option β
abbrev zqpb := {β : Type} → zqpa β → Bool → (List UInt8) → Int → (List UInt8) → (List Int) → Int → (List (List UInt8)) → Option β
def zqpc : View := ⟨1, [0, 1, 5, 6, 7, 8], [(false, [.ptr 0 0]),  (false, [.data .bool]), (false, [.data .str]), (false, [.rowh 1]), (false, [.data (.int .i64)]), (false, [.data .str])], [.cells 42 [.data (.slice (.int .i64)), .data (.int .i64)], .row 9 .str]⟩
def zqpd : List  (AExit × View) := [(.normal, ⟨1, [0, 1, 5, 6, 7], [(false, [.ptr 0 0]), (false, [.data .bool]), (false, [.data .str]), (false, [.rowh 1]), (false, [.data (.int .i64)])], [.cells 42 [.data (.slice (.int .i64)), .data (.int .i64)], .row 9 .str]⟩)]
@[reducible] def law07_draw_p1_G (p : zqpb) {β : Type} (d : zqpc.den) (ks : Outs.K β zqpd) : Option β :=
  p (fun a0 a1 a2 a3 a4 a5 => ks.1 (((), (a0, ()), (a1, ()), (), (a2, ()), ()), ((a3, a4, ()), a5, ()))) d.1.2.1.1 d.1.2.2.1.1 d.1.2.2.2.2.1.1 d.1.2.2.2.2.2.1.1 d.2.1.1 d.2.1.2.1 d.2.2.1
abbrev zqpe (β : Type) := (List UInt8) → (List Int) → Int → Option β
abbrev zqpf := {β : Type} → zqpe β → Bool → (List UInt8) → Int → (List Int) → Int → (List (List UInt8)) → Option β
def zqpg : View := ⟨1, [0, 1, 5, 6, 7], [(false, [.ptr 0 0]),  (false, [.data .bool]), (false, [.data .str]), (false, [.rowh 1]), (false, [.data (.int .i64)])], [.cells 42 [.data (.slice (.int .i64)), .data (.int .i64)], .row 9 .str]⟩
def zqph : List  (AExit × View) := [(.exit 0, ⟨1, [5], [(false, [.data .str])], [.cells 42 [.data (.slice (.int .i64)), .data (.int .i64)]]⟩)]
@[reducible] def law07_draw_p2_G (p : zqpf) {β : Type} (d : zqpg.den) (ks : Outs.K β zqph) : Option β :=
  p (fun a0 a1 a2 => ks.1 (((a0, ()), ()), ((a1, a2, ()), ()))) d.1.2.1.1 d.1.2.2.1.1 d.1.2.2.2.2.1.1 d.2.1.1 d.2.1.2.1 d.2.2.1
section
variable (c_law07_lines : zq11) (c_made_Dice_Bool : zq1f) (c_made_Dice_Next : zq18) (c_ref07_Parse : zqo7)
@[reducible] def law07_draw_X : Ctx := ⟨look tab, pick1 [(15, .spec (zq12 c_law07_lines)), (18, .spec (zq1g c_made_Dice_Bool)), (16, .spec (zq19 c_made_Dice_Next)), (17, .spec (zqo8 c_ref07_Parse))], false, false, false, false⟩
def zqpi {β : Type} (k1 : zqpa β) (good : Bool) (out : List UInt8) (i_ : Int) (w : List UInt8) (d : List Int) (d2 : Int) (l : List (List UInt8)) : Option β :=
  cond (decide (List.length out + List.length w ≤ 9223372036854775807))
  (cond (decide (1 < i_))
  (cond (decide (List.length (out ++ w) + List.length ([10] : List UInt8) ≤ 9223372036854775807))
  (let out2 : List UInt8 := ((out ++ w) ++ ([10] : List UInt8));
  k1 good out2 i_ d d2 l)
  none)
  (c_made_Dice_Bool 2 (d, d2) (fun rBool mrBool =>
  cond rBool
  (cond (decide (List.length (out ++ w) + List.length ([10] : List UInt8) ≤ 9223372036854775807))
  (let out2 : List UInt8 := ((out ++ w) ++ ([10] : List UInt8));
  k1 good out2 i_ mrBool.1 mrBool.2 l)
  none)
  (k1 good (out ++ w) i_ mrBool.1 mrBool.2 l))))
  none
def zqpj {β : Type} (k1 : zqpa β) (good : Bool) (out : List UInt8) (i_ : Int) (w : List UInt8) (d : List Int) (d2 : Int) (l : List (List UInt8)) : Option β := zqpi c_made_Dice_Bool k1 good out i_ w d d2 l
theorem zqpk (hΓ : ΓOk Tryz.prog (law07_draw_X c_law07_lines c_made_Dice_Bool c_made_Dice_Next c_ref07_Parse).Γ) : PieceOk Tryz.prog 49 1 law07_draw_p1_code zqpc zqpd (law07_draw_p1_G (zqpj c_made_Dice_Bool)) :=
  piece_exec (X := (law07_draw_X c_law07_lines c_made_Dice_Bool c_made_Dice_Next c_ref07_Parse)) (p := 51) (Λ := pick1 []) mixed tab_ok hΓ (by kernel_rfl) CutsOk_nil (fun d ks r h => Eq.trans (b := law07_draw_p1_G (zqpj c_made_Dice_Bool) d ks) (by kernel_rfl) h)
def zqpl (p1 : zqpb) {β : Type} (rec : Bool → (List UInt8) → Int → (List Int) → Int → (List (List UInt8)) → Option β) (k1 : zqpe β) (good : Bool) (out : List UInt8) (i_ : Int) (d : List Int) (d2 : Int) (l : List (List UInt8)) : Option β :=
  cond (decide (0 < i_))
  (c_made_Dice_Next (List.length l : Int) (d, d2) (fun rNext mrNext =>
  cond (decide (0 ≤ rNext) && decide (rNext < (List.length l : Int)))
  (let w : List UInt8 := (List.getD l (Int.toNat rNext) ([] : List UInt8));
  c_ref07_Parse w (fun rParse rParse2 lrParse =>
  cond good
  (cond (!decide (rParse2 = 0))
  (let i_2 : Int := (IntKind.i64.wrap (i_ - 1));
  rec good out i_2 mrNext.1 mrNext.2 l)
  (p1 (fun good2 out2 i_2 d3 d4 l2 =>
  let i_3 : Int := (IntKind.i64.wrap (i_2 - 1));
  rec good2 out2 i_3 d3 d4 l2) good out i_ w mrNext.1 mrNext.2 l))
  (p1 (fun good2 out2 i_2 d3 d4 l2 =>
  let i_3 : Int := (IntKind.i64.wrap (i_2 - 1));
  rec good2 out2 i_3 d3 d4 l2) good out i_ w mrNext.1 mrNext.2 l)))
  none))
  (k1 out d d2)
def zqpm (p1 : zqpb) {β : Type} : Nat → zqpe β → Bool → (List UInt8) → Int → (List Int) → Int → (List (List UInt8)) → Option β
  | 0 => fun _ _ _ _ _ _ _ => none
  | i + 1 => fun k1 good out i_ d d2 l => zqpl c_made_Dice_Next c_ref07_Parse p1 (zqpm p1 i k1) k1 good out i_ d d2 l
theorem zqpn (hΓ : ΓOk Tryz.prog (law07_draw_X c_law07_lines c_made_Dice_Bool c_made_Dice_Next c_ref07_Parse).Γ) (p1 : zqpb) (hp1 : PieceOk Tryz.prog 49 1 law07_draw_p1_code zqpc zqpd (law07_draw_p1_G p1)) (i : Nat) : PieceOk Tryz.prog 49 1 law07_draw_p2_code zqpg zqph (law07_draw_p2_G (zqpm c_made_Dice_Next c_ref07_Parse p1 i)) := by
  rw [show law07_draw_p2_code = .loop (loopBody law07_draw_p2_code) by kernel_rfl]
  exact piece_loop (X := (law07_draw_X c_law07_lines c_made_Dice_Bool c_made_Dice_Next c_ref07_Parse)) (p := 1) (Λ := pick1 [(51, pieceCut zqpc zqpd (law07_draw_p1_G p1))]) (G := fun i => @fun β d ks => law07_draw_p2_G (zqpm c_made_Dice_Next c_ref07_Parse p1 i) d ks) mixed tab_ok hΓ rfl (by kernel_rfl) (CutsOk_cons (q := 51) (c' := law07_draw_p1_code) (by kernel_rfl) rfl hp1 CutsOk_nil) (fun _ _ => rfl) (fun i => @fun β d ks r h => Eq.trans (b := law07_draw_p2_G (zqpm c_made_Dice_Next c_ref07_Parse p1 (i + 1)) d ks) (by kernel_rfl) h) i
def zqpo (p2 : zqpf) {β : Type} (good : Bool) (d : (List Int × Int)) (k : ((List UInt8) → (List Int × Int) → Option β)) : Option β :=
  c_law07_lines  (fun lrlines =>
  c_made_Dice_Next 9 d (fun rNext mrNext =>
  p2 (fun out b0_ b0_2 =>
  k out (b0_, b0_2)) good ([] : List UInt8) rNext mrNext.1 mrNext.2 lrlines))
theorem zqpp (hΓ : ΓOk Tryz.prog (law07_draw_X c_law07_lines c_made_Dice_Bool c_made_Dice_Next c_ref07_Parse).Γ) (p2 : zqpf) (hp2 : PieceOk Tryz.prog 49 1 law07_draw_p2_code zqpg zqph (law07_draw_p2_G p2)) : SpecOk Tryz.prog 8 (zqp9 (zqpo c_law07_lines c_made_Dice_Next p2)) :=
  spec_exec (X := (law07_draw_X c_law07_lines c_made_Dice_Bool c_made_Dice_Next c_ref07_Parse)) (Λ := pick1 [(122, pieceCut zqpg zqph (law07_draw_p2_G p2))]) (rs := [.tmp 4]) (c := bodyOf Tryz.f8) mixed tab_ok hΓ Tryz.func8 (by kernel_rfl) (by kernel_rfl) (by kernel_rfl) (by kernel_rfl) (CutsOk_cons (q := 122) (c' := law07_draw_p2_code) (by kernel_rfl) rfl hp2 CutsOk_nil) (fun x k r h => Eq.trans (b := (zqp9 (zqpo c_law07_lines c_made_Dice_Next p2)).run x k) (by kernel_rfl) h)
end
theorem zqpqΓ : ΓOk Tryz.prog (pick1 [(15, .spec (zq12 zq16)), (18, .spec (zq1g zq1k)), (16, .spec (zq19 zq1d)), (17, .spec (zqo8 zqoz))]) := (ΓOk_cons zq17 (ΓOk_cons zq1l (ΓOk_cons zq1e (ΓOk_cons zqp0 ΓOk_nil))))
def zqpr : zqpb := zqpj zq1k
theorem zqps : PieceOk Tryz.prog 49 1 law07_draw_p1_code zqpc zqpd (law07_draw_p1_G zqpr) := zqpk zq16 zq1k zq1d zqoz zqpqΓ
def zqpt (m : Nat) : zqpf := zqpm zq1d zqoz zqpr m
theorem zqpu {β : Type} (i : Nat) (k1 good out i_ d d2 l) : (zqpt (i + 1) k1 good out i_ d d2 l : Option β) = zqpl zq1d zqoz zqpr (zqpt i k1) k1 good out i_ d d2 l := rfl
def zqpv : zqpf := zqpt fuel
theorem zqpw : PieceOk Tryz.prog 49 1 law07_draw_p2_code zqpg zqph (law07_draw_p2_G zqpv) := zqpn zq16 zq1k zq1d zqoz zqpqΓ zqpr zqps fuel
def zqpx : zqp8 := zqpo zq16 zq1d zqpv
theorem zqpy : SpecOk Tryz.prog 8 (zqp9 zqpx) := zqpp zq16 zq1k zq1d zqoz zqpqΓ zqpv zqpw
abbrev zqpz := {β : Type} → (List UInt8) → (Int → (List zq0) → Option β) → Option β
def zqq0 (c : zqpz) : Spec :=
  ⟨[(false, [.data .str])], [], [(false, [.rowh 0]), (false, [.data (.int .i64)])], [.row 51 zq1], fun x k => c x.1.1.1 (fun r0 r1 => k (((), (r0, ()), ()), (r1, ())))⟩
noncomputable def lexer_Line_p1_code : Code := codeAt 58 (bodyOf Tryz.f20)
noncomputable def lexer_Line_p2_code : Code := codeAt 506 (bodyOf Tryz.f20)
abbrev zqq1 (β : Type) := Int → (List zq0) → Option β
abbrev zqq2 (β : Type) := (List UInt8) → Option β
abbrev zqq3 := {β : Type} → zqq1 β → zqq2 β → (List UInt8) → Int → Int → Option β
def zqq4 : View := ⟨0, [0, 14, 15], [(false, [.data .str]),  (false, [.data (.int .i64)]), (false, [.data (.int .i64)])], []⟩
def zqq5 : List  (AExit × View) := [(.ret, ⟨0, [2, 3], [(false, [.rowh 0]), (false, [.data (.int .i64)])], [.row 51 zq1]⟩), (.exit 0, ⟨0, [0], [(false, [.data .str])], []⟩)]
@[reducible] def lexer_Line_p1_G (p : zqq3) {β : Type} (d : zqq4.den) (ks : Outs.K β zqq5) : Option β :=
  p (fun a0 a1 => ks.1 (((), (a0, ()), ()), (a1, ()))) (fun a0 => ks.2.1 (((a0, ()), ()), ())) d.1.1.1 d.1.2.1.1 d.1.2.2.1.1
abbrev zqq6 (β : Type) := Int → (List zq0) → Option β
abbrev zqq7 (β : Type) := (List zq0) → Option β
abbrev zqq8 := {β : Type} → zqq6 β → zqq7 β → Int → Int → (List zq0) → (List (List UInt8)) → Option β
def zqq9 : View := ⟨0, [5, 36, 37, 38], [(false, [.rowh 0]),  (false, [.rowh 1]), (false, [.data (.int .i64)]), (false, [.data (.int .i64)])], [.row 51 zq1, .row 9 .str]⟩
def zqqa : List  (AExit × View) := [(.ret, ⟨0, [2, 3], [(false, [.rowh 0]), (false, [.data (.int .i64)])], [.row 51 zq1]⟩), (.exit 2, ⟨0, [5], [(false, [.rowh 0])], [.row 51 zq1]⟩)]
@[reducible] def lexer_Line_p2_G (p : zqq8) {β : Type} (d : zqq9.den) (ks : Outs.K β zqqa) : Option β :=
  p (fun a0 a1 => ks.1 (((), (a0, ()), ()), (a1, ()))) (fun a0 => ks.2.1 (((), ()), (a0, ()))) d.1.2.2.1.1 d.1.2.2.2.1.1 d.2.1 d.2.2.1
section
variable (c_lexer_Token : zqp1) (c_strings_Cut : zq1u) (c_strings_Fields : zq20)
@[reducible] def lexer_Line_X : Ctx := ⟨look tab, pick1 [(33, .spec (zqp2 c_lexer_Token)), (31, .spec (zq1v c_strings_Cut)), (32, .spec (zq21 c_strings_Fields))], false, false, false, false⟩
def zqqb {β : Type} (rec : (List UInt8) → Int → Int → Option β) (k1 : zqq1 β) (k2 : zqq2 β) (text : List UInt8) (t14 t15 : Int) : Option β :=
  cond (decide (t15 < t14))
  (cond (decide (0 ≤ t15) && decide (t15 < (List.length text : Int)))
  (cond (decide (((List.getD text (Int.toNat t15) 0).toNat : Int) < 32))
  (k1 2 ([] : List zq0))
  (cond (decide (0 ≤ t15) && decide (t15 < (List.length text : Int)))
  (cond (decide (126 < ((List.getD text (Int.toNat t15) 0).toNat : Int)))
  (k1 2 ([] : List zq0))
  (rec text t14 (IntKind.i64.wrap (t15 + 1))))
  none))
  none)
  (k2 text)
def zqqc {β : Type} : Nat → zqq1 β → zqq2 β →  (List UInt8) → Int → Int → Option β
  | 0 => fun _ _ _ _ _ => none
  | i + 1 => fun k1 k2 text t14 t15 => zqqb (zqqc i k1 k2) k1 k2 text t14 t15
theorem zqqd (hΓ : ΓOk Tryz.prog (lexer_Line_X c_lexer_Token c_strings_Cut c_strings_Fields).Γ) (i : Nat) : PieceOk Tryz.prog 56 0 lexer_Line_p1_code zqq4 zqq5 (lexer_Line_p1_G (zqqc i)) := by
  rw [show lexer_Line_p1_code = .loop (loopBody lexer_Line_p1_code) by kernel_rfl]
  exact piece_loop (X := (lexer_Line_X c_lexer_Token c_strings_Cut c_strings_Fields)) (p := 1) (Λ := pick1 []) (G := fun i => @fun β d ks => lexer_Line_p1_G (zqqc i) d ks) mixed tab_ok hΓ rfl (by kernel_rfl) CutsOk_nil (fun _ _ => rfl) (fun i => @fun β d ks r h => Eq.trans (b := lexer_Line_p1_G (zqqc (i + 1)) d ks) (by kernel_rfl) h) i
def zqqe {β : Type} (rec : Int → Int → (List zq0) → (List (List UInt8)) → Option β) (k1 : zqq6 β) (k2 : zqq7 β) (t37 t38 : Int) (out : List zq0) (t36 : List (List UInt8)) : Option β :=
  cond (decide (t38 < t37))
  (cond (decide (0 ≤ t38) && decide (t38 < (List.length t36 : Int)))
  (let w : List UInt8 := (List.getD t36 (Int.toNat t38) ([] : List UInt8));
  c_lexer_Token w (fun rToken rToken2 =>
  cond (!decide (rToken2 = 0))
  (k1 rToken2 ([] : List zq0))
  (let l : List zq0 := ([rToken] : List zq0);
  cond (decide ((List.length out + List.length l) * 32 ≤ roomMax))
  (let l2 : List zq0 := (out ++ l);
  rec t37 (IntKind.i64.wrap (t38 + 1)) l2 t36)
  none)))
  none)
  (k2 out)
def zqqf {β : Type} : Nat → zqq6 β → zqq7 β → Int → Int →  (List zq0) → (List (List UInt8)) → Option β
  | 0 => fun _ _ _ _ _ _ => none
  | i + 1 => fun k1 k2 t37 t38 out t36 => zqqe c_lexer_Token (zqqf i k1 k2) k1 k2 t37 t38 out t36
theorem zqqg (hΓ : ΓOk Tryz.prog (lexer_Line_X c_lexer_Token c_strings_Cut c_strings_Fields).Γ) (i : Nat) : PieceOk Tryz.prog 56 0 lexer_Line_p2_code zqq9 zqqa (lexer_Line_p2_G (zqqf c_lexer_Token i)) := by
  rw [show lexer_Line_p2_code = .loop (loopBody lexer_Line_p2_code) by kernel_rfl]
  exact piece_loop (X := (lexer_Line_X c_lexer_Token c_strings_Cut c_strings_Fields)) (p := 1) (Λ := pick1 []) (G := fun i => @fun β d ks => lexer_Line_p2_G (zqqf c_lexer_Token i) d ks) mixed tab_ok hΓ rfl (by kernel_rfl) CutsOk_nil (fun _ _ => rfl) (fun i => @fun β d ks r h => Eq.trans (b := lexer_Line_p2_G (zqqf c_lexer_Token (i + 1)) d ks) (by kernel_rfl) h) i
def zqqh (p1 : zqq3) (p2 : zqq8) {β : Type} (text : List UInt8) (k : (Int → (List zq0) → Option β)) : Option β :=
  cond (decide (512 < (List.length text : Int)))
  (k 5 ([] : List zq0))
  (p1 (fun t3 t2 =>
  k t3 t2) (fun text2 =>
  c_strings_Cut text2 ([35] : List UInt8) (fun rCut rCut2 rCut3 =>
  c_strings_Fields rCut (fun lrFields =>
  p2 (fun t3 t2 =>
  k t3 t2) (fun out =>
  k 0 out) (List.length lrFields : Int) 0 ([] : List zq0) lrFields))) text (List.length text : Int) 0)
theorem zqqi (hΓ : ΓOk Tryz.prog (lexer_Line_X c_lexer_Token c_strings_Cut c_strings_Fields).Γ) (p1 : zqq3) (p2 : zqq8) (hp1 : PieceOk Tryz.prog 56 0 lexer_Line_p1_code zqq4 zqq5 (lexer_Line_p1_G p1)) (hp2 : PieceOk Tryz.prog 56 0 lexer_Line_p2_code zqq9 zqqa (lexer_Line_p2_G p2)) : SpecOk Tryz.prog 20 (zqq0 (zqqh c_strings_Cut c_strings_Fields p1 p2)) :=
  spec_exec (X := (lexer_Line_X c_lexer_Token c_strings_Cut c_strings_Fields)) (Λ := pick1 [(58, pieceCut zqq4 zqq5 (lexer_Line_p1_G p1)), (506, pieceCut zqq9 zqqa (lexer_Line_p2_G p2))]) (rs := [.tmp 2, .tmp 3]) (c := bodyOf Tryz.f20) mixed tab_ok hΓ Tryz.func20 (by kernel_rfl) (by kernel_rfl) (by kernel_rfl) (by kernel_rfl) (CutsOk_cons (q := 58) (c' := lexer_Line_p1_code) (by kernel_rfl) rfl hp1 (CutsOk_cons (q := 506) (c' := lexer_Line_p2_code) (by kernel_rfl) rfl hp2 CutsOk_nil)) (fun x k r h => Eq.trans (b := (zqq0 (zqqh c_strings_Cut c_strings_Fields p1 p2)).run x k) (by kernel_rfl) h)
end
theorem zqqjΓ : ΓOk Tryz.prog (pick1 [(33, .spec (zqp2 zqp6)), (31, .spec (zq1v zq1w)), (32, .spec (zq21 zq22))]) := (ΓOk_cons zqp7 (ΓOk_cons zq1x (ΓOk_cons zq23 ΓOk_nil)))
def zqqk (m : Nat) : zqq3 := zqqc m
theorem zqql {β : Type} (i : Nat) (k1 k2 text t14 t15) : (zqqk (i + 1) k1 k2 text t14 t15 : Option β) = zqqb (zqqk i k1 k2) k1 k2 text t14 t15 := rfl
def zqqm : zqq3 := zqqk fuel
theorem zqqn : PieceOk Tryz.prog 56 0 lexer_Line_p1_code zqq4 zqq5 (lexer_Line_p1_G zqqm) := zqqd zqp6 zq1w zq22 zqqjΓ fuel
def zqqo (m : Nat) : zqq8 := zqqf zqp6 m
theorem zqqp {β : Type} (i : Nat) (k1 k2 t37 t38 out t36) : (zqqo (i + 1) k1 k2 t37 t38 out t36 : Option β) = zqqe zqp6 (zqqo i k1 k2) k1 k2 t37 t38 out t36 := rfl
def zqqq : zqq8 := zqqo fuel
theorem zqqr : PieceOk Tryz.prog 56 0 lexer_Line_p2_code zqq9 zqqa (lexer_Line_p2_G zqqq) := zqqg zqp6 zq1w zq22 zqqjΓ fuel
def zqqs : zqpz := zqqh zq1w zq22 zqqm zqqq
theorem zqqt : SpecOk Tryz.prog 20 (zqq0 zqqs) := zqqi zqp6 zq1w zq22 zqqjΓ zqqm zqqq zqqn zqqr
abbrev zqqu := {β : Type} → (List UInt8) → (Int → Int → (List (Int × List zq0)) → Option β) → Option β
def zqqv (c : zqqu) : Spec :=
  ⟨[(false, [.data .str])], [], [(false, [.rowh 0]), (false, [.data (.int .i64)]), (false, [.data (.int .i64)])], [.row 35 (.prod (.int .i64) (.slice zq1))], fun x k => c x.1.1.1 (fun r0 r1 r2 => k (((), (r0, ()), (r1, ()), ()), (r2, ())))⟩
noncomputable def syntax_Parse_p2_code : Code := codeAt 58 (bodyOf Tryz.f9)
noncomputable def syntax_Parse_p1_code : Code := codeAt 231 (loopBody syntax_Parse_p2_code)
abbrev zqqw (β : Type) := Int → Int → (List (Int × List zq0)) → Option β
abbrev zqqx (β : Type) := Int → Int → (List (Int × List zq0)) → (List (List UInt8)) → Option β
abbrev zqqy := {β : Type} → zqqw β → zqqx β → Int → Int → Int → Int → (List (Int × List zq0)) → (List zq0) → (List (List UInt8)) → Option β
def zqqz : View := ⟨0, [2, 5, 7, 8, 13, 14, 15], [(false, [.rowh 0]),  (false, [.data (.int .i64)]), (false, [.rowh 1]), (false, [.data (.int .i64)]), (false, [.rowh 2]), (false, [.data (.int .i64)]), (false, [.data (.int .i64)])], [.row 35 (.prod (.int .i64) (.slice zq1)), .row 51 zq1, .row 9 .str]⟩
def zqr0 : List  (AExit × View) := [(.ret, ⟨0, [2, 3, 4], [(false, [.rowh 0]), (false, [.data (.int .i64)]), (false, [.data (.int .i64)])], [.row 35 (.prod (.int .i64) (.slice zq1))]⟩), (.normal, ⟨0, [2, 13, 14, 15], [(false, [.rowh 0]), (false, [.rowh 1]), (false, [.data (.int .i64)]), (false, [.data (.int .i64)])], [.row 35 (.prod (.int .i64) (.slice zq1)), .row 9 .str]⟩)]
@[reducible] def syntax_Parse_p1_G (p : zqqy) {β : Type} (d : zqqz.den) (ks : Outs.K β zqr0) : Option β :=
  p (fun a0 a1 a2 => ks.1 (((), (a0, ()), (a1, ()), ()), (a2, ()))) (fun a0 a1 a2 a3 => ks.2.1 (((), (), (a0, ()), (a1, ()), ()), (a2, a3, ()))) d.1.2.1.1 d.1.2.2.2.1.1 d.1.2.2.2.2.2.1.1 d.1.2.2.2.2.2.2.1.1 d.2.1 d.2.2.1 d.2.2.2.1
abbrev zqr1 (β : Type) := Int → Int → (List (Int × List zq0)) → Option β
abbrev zqr2 (β : Type) := (List (Int × List zq0)) → Option β
abbrev zqr3 := {β : Type} → zqr1 β → zqr2 β → Int → Int → (List (Int × List zq0)) → (List (List UInt8)) → Option β
def zqr4 : View := ⟨0, [2, 13, 14, 15], [(false, [.rowh 0]),  (false, [.rowh 1]), (false, [.data (.int .i64)]), (false, [.data (.int .i64)])], [.row 35 (.prod (.int .i64) (.slice zq1)), .row 9 .str]⟩
def zqr5 : List  (AExit × View) := [(.ret, ⟨0, [2, 3, 4], [(false, [.rowh 0]), (false, [.data (.int .i64)]), (false, [.data (.int .i64)])], [.row 35 (.prod (.int .i64) (.slice zq1))]⟩), (.exit 0, ⟨0, [2], [(false, [.rowh 0])], [.row 35 (.prod (.int .i64) (.slice zq1))]⟩)]
@[reducible] def syntax_Parse_p2_G (p : zqr3) {β : Type} (d : zqr4.den) (ks : Outs.K β zqr5) : Option β :=
  p (fun a0 a1 a2 => ks.1 (((), (a0, ()), (a1, ()), ()), (a2, ()))) (fun a0 => ks.2.1 (((), ()), (a0, ()))) d.1.2.2.1.1 d.1.2.2.2.1.1 d.2.1 d.2.2.1
section
variable (c_lexer_Line : zqpz) (c_strings_Split : zq1o) (c_syntax_Form : zqh6)
@[reducible] def syntax_Parse_X : Ctx := ⟨look tab, pick1 [(20, .spec (zqq0 c_lexer_Line)), (19, .spec (zq1p c_strings_Split)), (12, .spec (zqh7 c_syntax_Form))], false, false, false, false⟩
def zqr6 {β : Type} (k1 : zqqw β) (k2 : zqqx β) (i_ e t14 t15 : Int) (l : List (Int × List zq0)) (t : List zq0) (t13 : List (List UInt8)) : Option β :=
  cond (!decide (e = 0))
  (let line : Int := (IntKind.i64.wrap (i_ + 1));
  k1 line e ([] : List (Int × List zq0)))
  (cond (decide (0 < (List.length t : Int)))
  (let l2 : List (Int × List zq0) := ([((IntKind.i64.wrap (i_ + 1)), t)] : List (Int × List zq0));
  cond (decide ((List.length l + List.length l2) * 32 ≤ roomMax))
  (let l3 : List (Int × List zq0) := (l ++ l2);
  k2 t14 t15 l3 t13)
  none)
  (k2 t14 t15 l t13))
def zqr7 {β : Type} (k1 : zqqw β) (k2 : zqqx β) (i_ e t14 t15 : Int) (l : List (Int × List zq0)) (t : List zq0) (t13 : List (List UInt8)) : Option β := zqr6 k1 k2 i_ e t14 t15 l t t13
theorem zqr8 (hΓ : ΓOk Tryz.prog (syntax_Parse_X c_lexer_Line c_strings_Split c_syntax_Form).Γ) : PieceOk Tryz.prog 54 0 syntax_Parse_p1_code zqqz zqr0 (syntax_Parse_p1_G (zqr7)) :=
  piece_exec (X := (syntax_Parse_X c_lexer_Line c_strings_Split c_syntax_Form)) (p := 231) (Λ := pick1 []) mixed tab_ok hΓ (by kernel_rfl) CutsOk_nil (fun d ks r h => Eq.trans (b := syntax_Parse_p1_G (zqr7) d ks) (by kernel_rfl) h)
def zqr9 (p1 : zqqy) {β : Type} (rec : Int → Int → (List (Int × List zq0)) → (List (List UInt8)) → Option β) (k1 : zqr1 β) (k2 : zqr2 β) (t14 : Int) (t15 : Int) (l : List (Int × List zq0)) (t13 : List (List UInt8)) : Option β :=
  cond (decide (t15 < t14))
  (cond (decide (0 ≤ t15) && decide (t15 < (List.length t13 : Int)))
  (let s : List UInt8 := (List.getD t13 (Int.toNat t15) ([] : List UInt8));
  c_lexer_Line s (fun rLine lrLine =>
  cond (decide (rLine = 0))
  (cond (decide (0 < (List.length lrLine : Int)))
  (c_syntax_Form lrLine (fun rForm =>
  cond (!rForm)
  (p1 (fun line e l2 =>
  k1 line e l2) (fun t142 t152 l2 t132 =>
  rec t142 (IntKind.i64.wrap (t152 + 1)) l2 t132) t15 2 t14 t15 l lrLine t13)
  (p1 (fun line e l2 =>
  k1 line e l2) (fun t142 t152 l2 t132 =>
  rec t142 (IntKind.i64.wrap (t152 + 1)) l2 t132) t15 rLine t14 t15 l lrLine t13)))
  (p1 (fun line e l2 =>
  k1 line e l2) (fun t142 t152 l2 t132 =>
  rec t142 (IntKind.i64.wrap (t152 + 1)) l2 t132) t15 rLine t14 t15 l lrLine t13))
  (p1 (fun line e l2 =>
  k1 line e l2) (fun t142 t152 l2 t132 =>
  rec t142 (IntKind.i64.wrap (t152 + 1)) l2 t132) t15 rLine t14 t15 l lrLine t13)))
  none)
  (k2 l)
def zqra (p1 : zqqy) {β : Type} : Nat → zqr1 β → zqr2 β → Int → Int → (List (Int × List zq0)) → (List (List UInt8)) → Option β
  | 0 => fun _ _ _ _ _ _ => none
  | i + 1 => fun k1 k2 t14 t15 l t13 => zqr9 c_lexer_Line c_syntax_Form p1 (zqra p1 i k1 k2) k1 k2 t14 t15 l t13
theorem zqrb (hΓ : ΓOk Tryz.prog (syntax_Parse_X c_lexer_Line c_strings_Split c_syntax_Form).Γ) (p1 : zqqy) (hp1 : PieceOk Tryz.prog 54 0 syntax_Parse_p1_code zqqz zqr0 (syntax_Parse_p1_G p1)) (i : Nat) : PieceOk Tryz.prog 54 0 syntax_Parse_p2_code zqr4 zqr5 (syntax_Parse_p2_G (zqra c_lexer_Line c_syntax_Form p1 i)) := by
  rw [show syntax_Parse_p2_code = .loop (loopBody syntax_Parse_p2_code) by kernel_rfl]
  exact piece_loop (X := (syntax_Parse_X c_lexer_Line c_strings_Split c_syntax_Form)) (p := 1) (Λ := pick1 [(231, pieceCut zqqz zqr0 (syntax_Parse_p1_G p1))]) (G := fun i => @fun β d ks => syntax_Parse_p2_G (zqra c_lexer_Line c_syntax_Form p1 i) d ks) mixed tab_ok hΓ rfl (by kernel_rfl) (CutsOk_cons (q := 231) (c' := syntax_Parse_p1_code) (by kernel_rfl) rfl hp1 CutsOk_nil) (fun _ _ => rfl) (fun i => @fun β d ks r h => Eq.trans (b := syntax_Parse_p2_G (zqra c_lexer_Line c_syntax_Form p1 (i + 1)) d ks) (by kernel_rfl) h) i
def zqrc (p2 : zqr3) {β : Type} (text : List UInt8) (k : (Int → Int → (List (Int × List zq0)) → Option β)) : Option β :=
  cond (decide (65536 < (List.length text : Int)))
  (k 0 5 ([] : List (Int × List zq0)))
  (c_strings_Split text ([10] : List UInt8) (fun lrSplit =>
  p2 (fun line e l =>
  k line e l) (fun l =>
  k 0 0 l) (List.length lrSplit : Int) 0 ([] : List (Int × List zq0)) lrSplit))
theorem zqrd (hΓ : ΓOk Tryz.prog (syntax_Parse_X c_lexer_Line c_strings_Split c_syntax_Form).Γ) (p2 : zqr3) (hp2 : PieceOk Tryz.prog 54 0 syntax_Parse_p2_code zqr4 zqr5 (syntax_Parse_p2_G p2)) : SpecOk Tryz.prog 9 (zqqv (zqrc c_strings_Split p2)) :=
  spec_exec (X := (syntax_Parse_X c_lexer_Line c_strings_Split c_syntax_Form)) (Λ := pick1 [(58, pieceCut zqr4 zqr5 (syntax_Parse_p2_G p2))]) (rs := [.tmp 2, .tmp 3, .tmp 4]) (c := bodyOf Tryz.f9) mixed tab_ok hΓ Tryz.func9 (by kernel_rfl) (by kernel_rfl) (by kernel_rfl) (by kernel_rfl) (CutsOk_cons (q := 58) (c' := syntax_Parse_p2_code) (by kernel_rfl) rfl hp2 CutsOk_nil) (fun x k r h => Eq.trans (b := (zqqv (zqrc c_strings_Split p2)).run x k) (by kernel_rfl) h)
end
theorem zqreΓ : ΓOk Tryz.prog (pick1 [(20, .spec (zqq0 zqqs)), (19, .spec (zq1p zq1q)), (12, .spec (zqh7 zqi5))]) := (ΓOk_cons zqqt (ΓOk_cons zq1r (ΓOk_cons zqi6 ΓOk_nil)))
def zqrf : zqqy := zqr7
theorem zqrg : PieceOk Tryz.prog 54 0 syntax_Parse_p1_code zqqz zqr0 (syntax_Parse_p1_G zqrf) := zqr8 zqqs zq1q zqi5 zqreΓ
def zqrh (m : Nat) : zqr3 := zqra zqqs zqi5 zqrf m
theorem zqri {β : Type} (i : Nat) (k1 k2 t14 t15 l t13) : (zqrh (i + 1) k1 k2 t14 t15 l t13 : Option β) = zqr9 zqqs zqi5 zqrf (zqrh i k1 k2) k1 k2 t14 t15 l t13 := rfl
def zqrj : zqr3 := zqrh fuel
theorem zqrk : PieceOk Tryz.prog 54 0 syntax_Parse_p2_code zqr4 zqr5 (syntax_Parse_p2_G zqrj) := zqrb zqqs zq1q zqi5 zqreΓ zqrf zqrg fuel
def zqrl : zqqu := zqrc zq1q zqrj
theorem zqrm : SpecOk Tryz.prog 9 (zqqv zqrl) := zqrd zqqs zq1q zqi5 zqreΓ zqrj zqrk
abbrev zqrn := {β : Type} → (Bool → Option β) → Option β
def zqro (c : zqrn) : Spec :=
  ⟨[], [], [(false, [.data .bool])], [], fun x k => c  (fun r0 => k (((r0, ()), ()), ()))⟩
section
variable (c_syntax_Form : zqh6) (c_syntax_Month : zqdy) (c_syntax_Parse : zqqu) (c_syntax_Weekday : zqe5)
@[reducible] def law07_sane_X : Ctx := ⟨look tab, pick1 [(12, .spec (zqh7 c_syntax_Form)), (13, .spec (zqdz c_syntax_Month)), (9, .spec (zqqv c_syntax_Parse)), (14, .spec (zqe6 c_syntax_Weekday))], false, false, false, false⟩
def zqrp {β : Type} (k : (Bool → Option β)) : Option β :=
  c_syntax_Parse ([35, 32, 120, 10, 122, 111, 110, 101, 32, 122, 32, 43, 48, 49, 58, 48, 48] : List UInt8) (fun rParse rParse2 lrParse =>
  c_syntax_Month ([109, 97, 114] : List UInt8) (fun rMonth rMonth2 =>
  c_syntax_Weekday ([115, 117, 110] : List UInt8) (fun rWeekday rWeekday2 =>
  cond (decide (rParse2 = 0))
  (cond (decide (rParse = 0))
  (cond (decide ((List.length lrParse : Int) = 1))
  (cond (decide (0 ≤ 0) && decide (0 < (List.length lrParse : Int)))
  (cond (decide (((List.getD lrParse (Int.toNat 0) (0, ([] : List zq0))).1) = 2))
  (cond (decide (0 ≤ 0) && decide (0 < (List.length lrParse : Int)))
  (c_syntax_Form ((List.getD lrParse (Int.toNat 0) (0, ([] : List zq0))).2) (fun rForm =>
  cond rForm
  (cond (decide (0 ≤ 0) && decide (0 < (List.length lrParse : Int)))
  (cond (decide (0 ≤ 0) && (decide (0 ≤ 1) && decide (1 ≤ (List.length ((List.getD lrParse (Int.toNat 0) (0, ([] : List zq0))).2) : Int))))
  (c_syntax_Form (List.drop (Int.toNat 0) (List.take (Int.toNat 1) ((List.getD lrParse (Int.toNat 0) (0, ([] : List zq0))).2))) (fun rForm2 =>
  cond (!rForm2)
  (cond rMonth2
  (cond rWeekday2
  (cond (decide (rMonth = 3))
  (let t : Bool := (decide (rWeekday = 6));
  k t)
  (k false))
  (k false))
  (k false))
  (k false)))
  none)
  none)
  (k false)))
  none)
  (k false))
  none)
  (k false))
  (k false))
  (k false))))
theorem zqrq (hΓ : ΓOk Tryz.prog (law07_sane_X c_syntax_Form c_syntax_Month c_syntax_Parse c_syntax_Weekday).Γ) : SpecOk Tryz.prog 6 (zqro (zqrp c_syntax_Form c_syntax_Month c_syntax_Parse c_syntax_Weekday)) :=
  spec_exec (X := (law07_sane_X c_syntax_Form c_syntax_Month c_syntax_Parse c_syntax_Weekday)) (Λ := pick1 []) (rs := [.tmp 0]) (c := bodyOf Tryz.f6) mixed tab_ok hΓ Tryz.func6 (by kernel_rfl) (by kernel_rfl) (by kernel_rfl) (by kernel_rfl) CutsOk_nil (fun x k r h => Eq.trans (b := (zqro (zqrp c_syntax_Form c_syntax_Month c_syntax_Parse c_syntax_Weekday)).run x k) (by kernel_rfl) h)
end
theorem zqrrΓ : ΓOk Tryz.prog (pick1 [(12, .spec (zqh7 zqi5)), (13, .spec (zqdz zqe3)), (9, .spec (zqqv zqrl)), (14, .spec (zqe6 zqea))]) := (ΓOk_cons zqi6 (ΓOk_cons zqe4 (ΓOk_cons zqrm (ΓOk_cons zqeb ΓOk_nil))))
def zqrs : zqrn := zqrp zqi5 zqe3 zqrl zqea
theorem zqrt : SpecOk Tryz.prog 6 (zqro zqrs) := zqrq zqi5 zqe3 zqrl zqea zqrrΓ
abbrev zqru := {β : Type} → (List Int) → (Bool → Option β) → Option β
def zqrv (c : zqru) : Spec :=
  ⟨[(false, [.data (.slice (.int .i64))])], [], [(false, [.data .bool])], [], fun x k => c x.1.1.1 (fun r0 => k (((r0, ()), ()), ()))⟩
noncomputable def law07_SyntaxLines_p1_code : Code := codeAt 8186 (bodyOf Tryz.f3)
noncomputable def law07_SyntaxLines_p2_code : Code := codeAt 32762 (bodyOf Tryz.f3)
noncomputable def law07_SyntaxLines_p3_code : Code := codeAt 63 (bodyOf Tryz.f3)
abbrev zqrw (β : Type) := Int → Int → Int → Int → Int → (List (Int × List zq0)) → (List (Int × List zq0)) → Option β
abbrev zqrx := {β : Type} → zqrw β → (List UInt8) → Int → Int → Int → Int → Int → Int → (List (Int × List zq0)) → (List (Int × List zq0)) → Option β
def zqry : View := ⟨0, [4, 6, 8, 9, 11, 13, 14, 15, 16], [(false, [.data .str]),  (false, [.rowh 0]), (false, [.data (.int .i64)]), (false, [.rowh 1]), (false, [.data (.int .i64)]), (false, [.data (.int .i64)]), (false, [.data (.int .i64)]), (false, [.data (.int .i64)]), (false, [.data (.int .i64)])], [.row 35 (.prod (.int .i64) (.slice zq1)), .row 35 (.prod (.int .i64) (.slice zq1))]⟩
def zqrz : List  (AExit × View) := [(.exit 0, ⟨0, [6, 8, 9, 11, 13, 14, 15], [(false, [.rowh 0]), (false, [.data (.int .i64)]), (false, [.rowh 1]), (false, [.data (.int .i64)]), (false, [.data (.int .i64)]), (false, [.data (.int .i64)]), (false, [.data (.int .i64)])], [.row 35 (.prod (.int .i64) (.slice zq1)), .row 35 (.prod (.int .i64) (.slice zq1))]⟩)]
@[reducible] def law07_SyntaxLines_p1_G (p : zqrx) {β : Type} (d : zqry.den) (ks : Outs.K β zqrz) : Option β :=
  p (fun a0 a1 a2 a3 a4 a5 a6 => ks.1 (((), (a0, ()), (), (a1, ()), (a2, ()), (a3, ()), (a4, ()), ()), (a5, a6, ()))) d.1.1.1 d.1.2.2.1.1 d.1.2.2.2.2.1.1 d.1.2.2.2.2.2.1.1 d.1.2.2.2.2.2.2.1.1 d.1.2.2.2.2.2.2.2.1.1 d.1.2.2.2.2.2.2.2.2.1.1 d.2.1 d.2.2.1
abbrev zqs0 (β : Type) := Bool → Option β
abbrev zqs1 (β : Type) := Unit → Option β
abbrev zqs2 := {β : Type} → zqs0 β → zqs1 β → Int → Int → (List (Int × List zq0)) → (List (Int × List zq0)) → Option β
def zqs3 : View := ⟨0, [6, 9, 101, 102], [(false, [.rowh 0]),  (false, [.rowh 1]), (false, [.data (.int .i64)]), (false, [.data (.int .i64)])], [.row 35 (.prod (.int .i64) (.slice zq1)), .row 35 (.prod (.int .i64) (.slice zq1))]⟩
def zqs4 : List  (AExit × View) := [(.ret, ⟨0, [2], [(false, [.data .bool])], []⟩), (.exit 2, ⟨0, [], [], []⟩)]
@[reducible] def law07_SyntaxLines_p2_G (p : zqs2) {β : Type} (d : zqs3.den) (ks : Outs.K β zqs4) : Option β :=
  p (fun a0 => ks.1 (((a0, ()), ()), ())) (fun _ => ks.2.1 ((), ())) d.1.2.2.1.1 d.1.2.2.2.1.1 d.2.1 d.2.2.1
abbrev zqs5 (β : Type) := Bool → Option β
abbrev zqs6 := {β : Type} → zqs5 β → (List UInt8) → (List UInt8) → Option β
def zqs7 : View := ⟨0, [4, 5], [(false, [.data .str]),  (false, [.data .str])], []⟩
def zqs8 : List  (AExit × View) := [(.ret, ⟨0, [2], [(false, [.data .bool])], []⟩)]
@[reducible] def law07_SyntaxLines_p3_G (p : zqs6) {β : Type} (d : zqs7.den) (ks : Outs.K β zqs8) : Option β :=
  p (fun a0 => ks.1 (((a0, ()), ()), ())) d.1.1.1 d.1.2.1.1
section
variable (c_law07_draw : zqp8) (c_law07_sane : zqrn) (c_law07_tokens : zqi) (c_made_Light : zq4) (c_made_Roll : zqb) (c_syntax_Parse : zqqu)
@[reducible] def law07_SyntaxLines_X : Ctx := ⟨look tab, pick1 [(8, .spec (zqp9 c_law07_draw)), (6, .spec (zqro c_law07_sane)), (10, .spec (zqj c_law07_tokens)), (5, .spec (zq5 c_made_Light)), (7, .spec (zqc c_made_Roll)), (9, .spec (zqqv c_syntax_Parse))], false, false, false, false⟩
def zqs9 {β : Type} (rec : (List UInt8) → Int → Int → Int → Int → Int → Int → (List (Int × List zq0)) → (List (Int × List zq0)) → Option β) (k1 : zqrw β) (a : List UInt8) (e f line g n i_ : Int) (l m : List (Int × List zq0)) : Option β :=
  cond (decide (i_ < (List.length a : Int)))
  (cond (decide (0 ≤ i_) && decide (i_ < (List.length a : Int)))
  (cond (decide (((List.getD a (Int.toNat i_) 0).toNat : Int) = 10))
  (let n2 : Int := (IntKind.i64.wrap (n + 1));
  let i_2 : Int := (IntKind.i64.wrap (i_ + 1));
  rec a e f line g n2 i_2 l m)
  (let i_2 : Int := (IntKind.i64.wrap (i_ + 1));
  rec a e f line g n i_2 l m))
  none)
  (k1 e f line g n l m)
def zqsa {β : Type} : Nat → zqrw β →  (List UInt8) → Int → Int → Int → Int → Int → Int → (List (Int × List zq0)) → (List (Int × List zq0)) → Option β
  | 0 => fun _ _ _ _ _ _ _ _ _ _ => none
  | i + 1 => fun k1 a e f line g n i_ l m => zqs9 (zqsa i k1) k1 a e f line g n i_ l m
theorem zqsb (hΓ : ΓOk Tryz.prog (law07_SyntaxLines_X c_law07_draw c_law07_sane c_law07_tokens c_made_Light c_made_Roll c_syntax_Parse).Γ) (i : Nat) : PieceOk Tryz.prog 146 0 law07_SyntaxLines_p1_code zqry zqrz (law07_SyntaxLines_p1_G (zqsa i)) := by
  rw [show law07_SyntaxLines_p1_code = .loop (loopBody law07_SyntaxLines_p1_code) by kernel_rfl]
  exact piece_loop (X := (law07_SyntaxLines_X c_law07_draw c_law07_sane c_law07_tokens c_made_Light c_made_Roll c_syntax_Parse)) (p := 1) (Λ := pick1 []) (G := fun i => @fun β d ks => law07_SyntaxLines_p1_G (zqsa i) d ks) mixed tab_ok hΓ rfl (by kernel_rfl) CutsOk_nil (fun _ _ => rfl) (fun i => @fun β d ks r h => Eq.trans (b := law07_SyntaxLines_p1_G (zqsa (i + 1)) d ks) (by kernel_rfl) h) i
def zqsc {β : Type} (rec : Int → Int → (List (Int × List zq0)) → (List (Int × List zq0)) → Option β) (k1 : zqs0 β) (k2 : zqs1 β) (t101 t102 : Int) (l m : List (Int × List zq0)) : Option β :=
  cond (decide (t102 < t101))
  (cond (decide (0 ≤ t102) && decide (t102 < (List.length l : Int)))
  (cond (decide (0 ≤ t102) && decide (t102 < (List.length m : Int)))
  (c_law07_tokens ((List.getD l (Int.toNat t102) (0, ([] : List zq0))).2) ((List.getD m (Int.toNat t102) (0, ([] : List zq0))).2) (fun rtokens =>
  cond (!rtokens)
  (k1 false)
  (cond (decide (0 ≤ t102) && decide (t102 < (List.length m : Int)))
  (cond (decide (0 ≤ t102) && decide (t102 < (List.length l : Int)))
  (cond (!decide (((List.getD m (Int.toNat t102) (0, ([] : List zq0))).1) = ((List.getD l (Int.toNat t102) (0, ([] : List zq0))).1)))
  (cond (decide (0 ≤ t102) && decide (t102 < (List.length m : Int)))
  (cond (decide (0 ≤ t102) && decide (t102 < (List.length l : Int)))
  (cond (!decide (((List.getD m (Int.toNat t102) (0, ([] : List zq0))).1) = (IntKind.i64.wrap (((List.getD l (Int.toNat t102) (0, ([] : List zq0))).1) + 2))))
  (k1 false)
  (rec t101 (IntKind.i64.wrap (t102 + 1)) l m))
  none)
  none)
  (rec t101 (IntKind.i64.wrap (t102 + 1)) l m))
  none)
  none)))
  none)
  none)
  (k2 ())
def zqsd {β : Type} : Nat → zqs0 β → zqs1 β → Int → Int →  (List (Int × List zq0)) → (List (Int × List zq0)) → Option β
  | 0 => fun _ _ _ _ _ _ => none
  | i + 1 => fun k1 k2 t101 t102 l m => zqsc c_law07_tokens (zqsd i k1 k2) k1 k2 t101 t102 l m
theorem zqse (hΓ : ΓOk Tryz.prog (law07_SyntaxLines_X c_law07_draw c_law07_sane c_law07_tokens c_made_Light c_made_Roll c_syntax_Parse).Γ) (i : Nat) : PieceOk Tryz.prog 146 0 law07_SyntaxLines_p2_code zqs3 zqs4 (law07_SyntaxLines_p2_G (zqsd c_law07_tokens i)) := by
  rw [show law07_SyntaxLines_p2_code = .loop (loopBody law07_SyntaxLines_p2_code) by kernel_rfl]
  exact piece_loop (X := (law07_SyntaxLines_X c_law07_draw c_law07_sane c_law07_tokens c_made_Light c_made_Roll c_syntax_Parse)) (p := 1) (Λ := pick1 []) (G := fun i => @fun β d ks => law07_SyntaxLines_p2_G (zqsd c_law07_tokens i) d ks) mixed tab_ok hΓ rfl (by kernel_rfl) CutsOk_nil (fun _ _ => rfl) (fun i => @fun β d ks r h => Eq.trans (b := law07_SyntaxLines_p2_G (zqsd c_law07_tokens (i + 1)) d ks) (by kernel_rfl) h) i
def zqsf (p1 : zqrx) (p2 : zqs2) {β : Type} (k1 : zqs5 β) (a : List UInt8) (b : List UInt8) : Option β :=
  cond (decide (List.length a + List.length b ≤ 9223372036854775807))
  (c_syntax_Parse (a ++ b) (fun rParse rParse2 lrParse =>
  cond (decide (List.length a + List.length ([10, 32, 32, 35, 32, 110, 111, 116, 104, 105, 110, 103, 10] : List UInt8) ≤ 9223372036854775807))
  (cond (decide (List.length (a ++ ([10, 32, 32, 35, 32, 110, 111, 116, 104, 105, 110, 103, 10] : List UInt8)) + List.length b ≤ 9223372036854775807))
  (c_syntax_Parse ((a ++ ([10, 32, 32, 35, 32, 110, 111, 116, 104, 105, 110, 103, 10] : List UInt8)) ++ b) (fun rParse3 rParse4 lrParse2 =>
  cond (decide (List.length a + List.length ([119, 114, 111, 110, 103, 32, 108, 105, 110, 101, 32, 104, 101, 114, 101, 32, 55, 10] : List UInt8) ≤ 9223372036854775807))
  (cond (decide (List.length (a ++ ([119, 114, 111, 110, 103, 32, 108, 105, 110, 101, 32, 104, 101, 114, 101, 32, 55, 10] : List UInt8)) + List.length b ≤ 9223372036854775807))
  (c_syntax_Parse ((a ++ ([119, 114, 111, 110, 103, 32, 108, 105, 110, 101, 32, 104, 101, 114, 101, 32, 55, 10] : List UInt8)) ++ b) (fun rParse5 rParse6 lrParse3 =>
  p1 (fun e f line g n l m =>
  cond (!decide (e = 0))
  (k1 false)
  (cond (!decide (f = 0))
  (k1 false)
  (cond (!decide (g = 2))
  (k1 false)
  (cond (!decide (line = n))
  (k1 false)
  (cond (!decide ((List.length l : Int) = (List.length m : Int)))
  (k1 false)
  (p2 (fun t2 =>
  k1 t2) (fun _ =>
  c_law07_sane  (fun rsane =>
  k1 rsane)) (List.length l : Int) 0 l m)))))) a rParse2 rParse4 rParse5 rParse6 1 0 lrParse lrParse2))
  none)
  none))
  none)
  none))
  none
def zqsg (p1 : zqrx) (p2 : zqs2) {β : Type} (k1 : zqs5 β) (a : List UInt8) (b : List UInt8) : Option β := zqsf c_law07_sane c_syntax_Parse p1 p2 k1 a b
theorem zqsh (hΓ : ΓOk Tryz.prog (law07_SyntaxLines_X c_law07_draw c_law07_sane c_law07_tokens c_made_Light c_made_Roll c_syntax_Parse).Γ) (p1 : zqrx) (p2 : zqs2) (hp1 : PieceOk Tryz.prog 146 0 law07_SyntaxLines_p1_code zqry zqrz (law07_SyntaxLines_p1_G p1)) (hp2 : PieceOk Tryz.prog 146 0 law07_SyntaxLines_p2_code zqs3 zqs4 (law07_SyntaxLines_p2_G p2)) : PieceOk Tryz.prog 146 0 law07_SyntaxLines_p3_code zqs7 zqs8 (law07_SyntaxLines_p3_G (zqsg c_law07_sane c_syntax_Parse p1 p2)) :=
  piece_exec (X := (law07_SyntaxLines_X c_law07_draw c_law07_sane c_law07_tokens c_made_Light c_made_Roll c_syntax_Parse)) (p := 63) (Λ := pick1 [(8186, pieceCut zqry zqrz (law07_SyntaxLines_p1_G p1)), (32762, pieceCut zqs3 zqs4 (law07_SyntaxLines_p2_G p2))]) mixed tab_ok hΓ (by kernel_rfl) (CutsOk_cons (q := 8186) (c' := law07_SyntaxLines_p1_code) (by kernel_rfl) rfl hp1 (CutsOk_cons (q := 32762) (c' := law07_SyntaxLines_p2_code) (by kernel_rfl) rfl hp2 CutsOk_nil)) (fun d ks r h => Eq.trans (b := law07_SyntaxLines_p3_G (zqsg c_law07_sane c_syntax_Parse p1 p2) d ks) (by kernel_rfl) h)
def zqsi (p3 : zqs6) {β : Type} (t : List Int) (k : (Bool → Option β)) : Option β :=
  c_made_Light t (fun rLight =>
  cond (!rLight)
  (c_law07_sane  (fun rsane =>
  k rsane))
  (c_made_Roll t (fun mrRoll =>
  c_law07_draw true mrRoll (fun rdraw mrdraw =>
  c_law07_draw true mrdraw (fun rdraw2 mrdraw2 =>
  cond (!decide (rdraw = ([] : List UInt8)))
  (cond (decide (0 ≤ (IntKind.i64.wrap ((List.length rdraw : Int) - 1))) && decide ((IntKind.i64.wrap ((List.length rdraw : Int) - 1)) < (List.length rdraw : Int)))
  (cond (!decide (((List.getD rdraw (Int.toNat (IntKind.i64.wrap ((List.length rdraw : Int) - 1))) 0).toNat : Int) = 10))
  (cond (decide (List.length rdraw + List.length ([10] : List UInt8) ≤ 9223372036854775807))
  (let a : List UInt8 := (rdraw ++ ([10] : List UInt8));
  p3 (fun t2 =>
  k t2) a rdraw2)
  none)
  (p3 (fun t2 =>
  k t2) rdraw rdraw2))
  none)
  (p3 (fun t2 =>
  k t2) rdraw rdraw2))))))
theorem zqsj (hΓ : ΓOk Tryz.prog (law07_SyntaxLines_X c_law07_draw c_law07_sane c_law07_tokens c_made_Light c_made_Roll c_syntax_Parse).Γ) (p3 : zqs6) (hp3 : PieceOk Tryz.prog 146 0 law07_SyntaxLines_p3_code zqs7 zqs8 (law07_SyntaxLines_p3_G p3)) : SpecOk Tryz.prog 3 (zqrv (zqsi c_law07_draw c_law07_sane c_made_Light c_made_Roll p3)) :=
  spec_exec (X := (law07_SyntaxLines_X c_law07_draw c_law07_sane c_law07_tokens c_made_Light c_made_Roll c_syntax_Parse)) (Λ := pick1 [(63, pieceCut zqs7 zqs8 (law07_SyntaxLines_p3_G p3))]) (rs := [.tmp 2]) (c := bodyOf Tryz.f3) mixed tab_ok hΓ Tryz.func3 (by kernel_rfl) (by kernel_rfl) (by kernel_rfl) (by kernel_rfl) (CutsOk_cons (q := 63) (c' := law07_SyntaxLines_p3_code) (by kernel_rfl) rfl hp3 CutsOk_nil) (fun x k r h => Eq.trans (b := (zqrv (zqsi c_law07_draw c_law07_sane c_made_Light c_made_Roll p3)).run x k) (by kernel_rfl) h)
end
theorem zqskΓ : ΓOk Tryz.prog (pick1 [(8, .spec (zqp9 zqpx)), (6, .spec (zqro zqrs)), (10, .spec (zqj zqz)), (5, .spec (zq5 zq9)), (7, .spec (zqc zqg)), (9, .spec (zqqv zqrl))]) := (ΓOk_cons zqpy (ΓOk_cons zqrt (ΓOk_cons zq10 (ΓOk_cons zqa (ΓOk_cons zqh (ΓOk_cons zqrm ΓOk_nil))))))
def zqsl (m : Nat) : zqrx := zqsa m
theorem zqsm {β : Type} (i : Nat) (k1 a e f line g n i_ l m) : (zqsl (i + 1) k1 a e f line g n i_ l m : Option β) = zqs9 (zqsl i k1) k1 a e f line g n i_ l m := rfl
def zqsn : zqrx := zqsl fuel
theorem zqso : PieceOk Tryz.prog 146 0 law07_SyntaxLines_p1_code zqry zqrz (law07_SyntaxLines_p1_G zqsn) := zqsb zqpx zqrs zqz zq9 zqg zqrl zqskΓ fuel
def zqsp (m : Nat) : zqs2 := zqsd zqz m
theorem zqsq {β : Type} (i : Nat) (k1 k2 t101 t102 l m) : (zqsp (i + 1) k1 k2 t101 t102 l m : Option β) = zqsc zqz (zqsp i k1 k2) k1 k2 t101 t102 l m := rfl
def zqsr : zqs2 := zqsp fuel
theorem zqss : PieceOk Tryz.prog 146 0 law07_SyntaxLines_p2_code zqs3 zqs4 (law07_SyntaxLines_p2_G zqsr) := zqse zqpx zqrs zqz zq9 zqg zqrl zqskΓ fuel
def zqst : zqs6 := zqsg zqrs zqrl zqsn zqsr
theorem zqsu : PieceOk Tryz.prog 146 0 law07_SyntaxLines_p3_code zqs7 zqs8 (law07_SyntaxLines_p3_G zqst) := zqsh zqpx zqrs zqz zq9 zqg zqrl zqskΓ zqsn zqsr zqso zqss
def zqsv : zqru := zqsi zqpx zqrs zq9 zqg zqst
theorem zqsw : SpecOk Tryz.prog 3 (zqrv zqsv) := zqsj zqpx zqrs zqz zq9 zqg zqrl zqskΓ zqst zqsu
end
end Go.Lift
namespace Go.Lift
open Go.RowKit Go.IntWalk
section
variable {β : Type}
theorem c_inb {i n : Int} {a b : Option β} (h : 0 ≤ i ∧ i < n) : cond (decide (0 ≤ i) && decide (i < n)) a b = a := by
  rw [decide_eq_true h.1, decide_eq_true h.2]; rfl
theorem c_room {n : Nat} {a b : Option β} (h : n ≤ 140737488355328) : cond (decide (n ≤ roomMax)) a b = a := by
  rw [decide_eq_true (p := n ≤ roomMax) h]; rfl
theorem c_pos {p : Prop} [Decidable p] {a b : Option β} (h : p) : cond (decide p) a b = a := by rw [decide_eq_true h]; rfl
theorem c_neg {p : Prop} [Decidable p] {a b : Option β} (h : ¬ p) : cond (decide p) a b = b := by rw [decide_eq_false h]; rfl
theorem c_npos {p : Prop} [Decidable p] {a b : Option β} (h : p) : cond (!decide p) a b = b := by rw [decide_eq_true h]; rfl
theorem c_nneg {p : Prop} [Decidable p] {a b : Option β} (h : ¬ p) : cond (!decide p) a b = a := by rw [decide_eq_false h]; rfl
theorem c_t {a b : Option β} : cond true a b = a := rfl
theorem c_f {a b : Option β} : cond false a b = b := rfl
theorem c_p2 {p q : Prop} [Decidable p] [Decidable q] {a b : Option β} (hp : p) (hq : q) : cond (decide p && decide q) a b = a := by rw [decide_eq_true hp, decide_eq_true hq]; rfl
def walk {α σ ε : Type} (g : Nat → α → σ → ε ⊕ σ) : List α → Nat → σ → ε ⊕ σ
  | [], _, s => .inr s
  | x :: r, j, s =>
    match g j x s with
    | .inl e => .inl e
    | .inr s' => walk g r (j + 1) s'
def sumK {ε σ : Type} (E : ε → Option β) (K : σ → Option β) : ε ⊕ σ → Option β
  | .inl e => E e
  | .inr s => K s
theorem walk_loop {α σ ε : Type} (F : Nat → Int → σ → Option β) (g : Nat → α → σ → ε ⊕ σ) (E : ε → Option β) (K : σ → Option β) (d : α) (xs : List α)
    (h1 : ∀ (m i : Nat) s, i < xs.length → F (m + 1) (i : Int) s = sumK E (fun s' => F m ((i : Int) + 1) s') (g i (xs.getD i d) s))
    (h2 : ∀ (m : Nat) s, F (m + 1) (xs.length : Int) s = K s) :
    ∀ (r : List α) (j fuel : Nat) (s : σ), xs.drop j = r → j + r.length = xs.length → r.length < fuel → F fuel (j : Int) s = sumK E K (walk g r j s)
  | r, j, 0, s, _, _, h => absurd h (Nat.not_lt_zero _)
  | [], j, m + 1, s, hd, hj, _ => by
    simp only [List.length_nil, Nat.add_zero] at hj
    subst hj
    rw [h2]; rfl
  | x :: r, j, m + 1, s, hd, hj, hm => by
    simp only [List.length_cons] at hj hm
    have h3 : j < xs.length := by omega
    have hx : xs.getD j d = x := by
      rw [List.drop_eq_getElem_cons h3] at hd
      injection hd with hd1 hd2
      simp [List.getD, h3, hd1]
    have hr : xs.drop (j + 1) = r := by
      rw [List.drop_eq_getElem_cons h3] at hd
      injection hd with hd1 hd2
    rw [h1 m j s h3, hx, walk]
    cases hg : g j x s with
    | inl e => rfl
    | inr s' =>
      simp only [sumK]
      exact walk_loop F g E K d xs h1 h2 r (j + 1) m s' hr (by omega) (by omega)
theorem walk_loop0 {α σ ε : Type} (F : Nat → Int → σ → Option β) (g : Nat → α → σ → ε ⊕ σ) (E : ε → Option β) (K : σ → Option β) (d : α) (xs : List α) (s : σ) (n : Nat) (hn : xs.length < n)
    (h1 : ∀ (m i : Nat) s, i < xs.length → F (m + 1) (i : Int) s = sumK E (fun s' => F m ((i : Int) + 1) s') (g i (xs.getD i d) s))
    (h2 : ∀ (m : Nat) s, F (m + 1) (xs.length : Int) s = K s) : F n 0 s = sumK E K (walk g xs 0 s) :=
  walk_loop F g E K d xs h1 h2 xs 0 n s rfl (by simp) hn
theorem check_loop {α : Type} (F : Nat → Int → Option β) (p : α → Bool) (E K : Option β) (d : α) (xs : List α) (n : Nat) (hn : xs.length < n)
    (h1 : ∀ (m i : Nat), i < xs.length → F (m + 1) (i : Int) = cond (p (xs.getD i d)) (F m ((i : Int) + 1)) E)
    (h2 : ∀ (m : Nat), F (m + 1) (xs.length : Int) = K) : F n 0 = cond (xs.all p) K E := by
  have h := walk_loop0 (ε := Unit) (fun m i (_ : Unit) => F m i) (fun _ x s => cond (p x) (.inr s) (.inl ())) (fun _ => E) (fun _ => K) d xs () n hn
    (fun m i s hi => by rw [h1 m i hi]; cases p (xs.getD i d) <;> rfl) (fun m s => h2 m)
  rw [h]
  have key : ∀ (l : List α) (j : Nat), sumK (fun _ => E) (fun _ => K) (walk (ε := Unit) (fun _ x (s : Unit) => cond (p x) (.inr s) (.inl ())) l j ()) = cond (l.all p) K E := by
    intro l
    induction l with
    | nil => intro j; rfl
    | cons x l ih =>
      intro j
      simp only [walk, List.all_cons]
      cases p x with
      | true => simpa using ih (j + 1)
      | false => rfl
  exact key xs 0
theorem fold_loopI {α σ : Type} (I : Nat → σ → Prop) (F : Nat → Int → σ → Option β) (g : σ → α → σ) (K : σ → Option β) (d : α) (xs : List α) (s : σ) (n : Nat) (hn : xs.length < n) (h0 : I 0 s)
    (hI : ∀ (i : Nat) s, i < xs.length → I i s → I (i + 1) (g s (xs.getD i d)))
    (h1 : ∀ (m i : Nat) s, i < xs.length → I i s → F (m + 1) (i : Int) s = F m ((i : Int) + 1) (g s (xs.getD i d)))
    (h2 : ∀ (m : Nat) s, I xs.length s → F (m + 1) (xs.length : Int) s = K s) : F n 0 s = K (xs.foldl g s) := by
  have key : ∀ (r : List α) (j fuel : Nat) (s : σ), xs.drop j = r → j + r.length = xs.length → r.length < fuel → I j s → F fuel (j : Int) s = K (r.foldl g s) := by
    intro r
    induction r with
    | nil =>
      intro j fuel s hd hj hf hs
      obtain ⟨m, rfl⟩ : ∃ m, fuel = m + 1 := ⟨fuel - 1, by omega⟩
      simp only [List.length_nil, Nat.add_zero] at hj
      subst hj
      exact h2 m s hs
    | cons x r ih =>
      intro j fuel s hd hj hf hs
      obtain ⟨m, rfl⟩ : ∃ m, fuel = m + 1 := ⟨fuel - 1, by omega⟩
      simp only [List.length_cons] at hj hf
      have h3 : j < xs.length := by omega
      have hx : xs.getD j d = x := by
        rw [List.drop_eq_getElem_cons h3] at hd
        injection hd with hd1 hd2
        simp [List.getD, h3, hd1]
      have hr : xs.drop (j + 1) = r := by
        rw [List.drop_eq_getElem_cons h3] at hd
        injection hd with hd1 hd2
      rw [h1 m j s h3 hs, hx]
      have := hI j s h3 hs
      rw [hx] at this
      exact ih (j + 1) m (g s x) hr (by omega) (by omega) this
  exact key xs 0 n s rfl (by simp) hn h0
end
end Go.Lift
namespace Go.Lift
noncomputable section
set_option maxRecDepth 100000
set_option linter.unusedVariables false
abbrev STok := Int × (List UInt8 × Int)
structure GoodLn (w : List UInt8) (ts : List STok) : Prop where
  line : ∀ {β : Type} (k : Int → List STok → Option β), zqqs w k = k 0 ts
  form : ts = [] ∨ ∀ {β : Type} (k : Bool → Option β), zqi5 ts k = k true
  ref : ∃ out, ∀ {β : Type} (k : Int → Int → List (Int × List STok) → Option β), zqoz w k = k 0 0 out
  nonl : ∀ c ∈ w, c ≠ 10
  len : w.length ≤ 100
  few : ts.length ≤ 100
structure WrittenLn (ts : List STok) (s : List UInt8) : Prop where
  some_ : ts ≠ []
  written : ∀ {β : Type} (n : Int) (k : List UInt8 → Int → Option β), zqmk (n, ts) k = k s 0
  line : ∀ {β : Type} (k : Int → List STok → Option β), zqqs s k = k 0 ts
  nonl : ∀ c ∈ s, c ≠ 10
  len : s.length ≤ 100
def BadLn (w : List UInt8) : Prop := ∃ n e out, e ≠ 0 ∧ ∀ {β : Type} (k : Int → Int → List (Int × List STok) → Option β), zqoz w k = k n e out
def LnOk (w : List UInt8) : Prop := (∃ ts, GoodLn w ts ∧ (ts = [] ∨ ∃ s, WrittenLn ts s)) ∨ BadLn w
theorem ln0 : GoodLn [122, 111, 110, 101, 32, 97, 32, 43, 48, 49, 58, 48, 48] [(0, ([122, 111, 110, 101], 0)), (0, ([97], 0)), (4, ([], 3600))] := ⟨fun k => by kernel_rfl, .inr fun k => by kernel_rfl, ⟨[(1, [(0, ([122, 111, 110, 101], 0)), (0, ([97], 0)), (4, ([], 3600))])], fun k => by kernel_rfl⟩, by decide, by decide, by decide⟩
theorem wr0 : WrittenLn [(0, ([122, 111, 110, 101], 0)), (0, ([97], 0)), (4, ([], 3600))] [122, 111, 110, 101, 32, 97, 32, 43, 48, 49, 58, 48, 48] := ⟨by simp, fun n k => by kernel_rfl, fun k => by kernel_rfl, by decide, by decide⟩
theorem ok0 : LnOk [122, 111, 110, 101, 32, 97, 32, 43, 48, 49, 58, 48, 48] := .inl ⟨_, ln0, .inr ⟨_, wr0⟩⟩
theorem ok1 : LnOk [122, 111, 110, 101, 32, 97, 32, 48, 49, 58, 48, 48] := .inr ⟨1, 2, [], by decide, fun k => by kernel_rfl⟩
theorem ln2 : GoodLn [114, 117, 108, 101, 32, 50, 48, 50, 48, 32, 50, 48, 51, 48, 32, 109, 97, 114, 32, 108, 97, 115, 116, 32, 115, 117, 110, 32, 48, 50, 58, 48, 48, 32, 43, 48, 50, 58, 48, 48] [(0, ([114, 117, 108, 101], 0)), (1, ([], 2020)), (1, ([], 2030)), (0, ([109, 97, 114], 0)), (0, ([108, 97, 115, 116], 0)), (0, ([115, 117, 110], 0)), (2, ([], 7200)), (4, ([], 7200))] := ⟨fun k => by kernel_rfl, .inr fun k => by kernel_rfl, ⟨[(1, [(0, ([114, 117, 108, 101], 0)), (1, ([], 2020)), (1, ([], 2030)), (0, ([109, 97, 114], 0)), (0, ([108, 97, 115, 116], 0)), (0, ([115, 117, 110], 0)), (2, ([], 7200)), (4, ([], 7200))])], fun k => by kernel_rfl⟩, by decide, by decide, by decide⟩
theorem wr2 : WrittenLn [(0, ([114, 117, 108, 101], 0)), (1, ([], 2020)), (1, ([], 2030)), (0, ([109, 97, 114], 0)), (0, ([108, 97, 115, 116], 0)), (0, ([115, 117, 110], 0)), (2, ([], 7200)), (4, ([], 7200))] [114, 117, 108, 101, 32, 50, 48, 50, 48, 32, 50, 48, 51, 48, 32, 109, 97, 114, 32, 108, 97, 115, 116, 32, 115, 117, 110, 32, 48, 50, 58, 48, 48, 32, 43, 48, 50, 58, 48, 48] := ⟨by simp, fun n k => by kernel_rfl, fun k => by kernel_rfl, by decide, by decide⟩
theorem ok2 : LnOk [114, 117, 108, 101, 32, 50, 48, 50, 48, 32, 50, 48, 51, 48, 32, 109, 97, 114, 32, 108, 97, 115, 116, 32, 115, 117, 110, 32, 48, 50, 58, 48, 48, 32, 43, 48, 50, 58, 48, 48] := .inl ⟨_, ln2, .inr ⟨_, wr2⟩⟩
theorem ok3 : LnOk [114, 117, 108, 101, 32, 50, 48, 50, 48, 32, 109, 97, 114, 32, 108, 97, 115, 116, 32, 115, 117, 110, 32, 48, 50, 58, 48, 48, 32, 43, 48, 50, 58, 48, 48] := .inr ⟨1, 2, [], by decide, fun k => by kernel_rfl⟩
theorem ln4 : GoodLn [112, 101, 114, 115, 111, 110, 32, 112, 32, 97] [(0, ([112, 101, 114, 115, 111, 110], 0)), (0, ([112], 0)), (0, ([97], 0))] := ⟨fun k => by kernel_rfl, .inr fun k => by kernel_rfl, ⟨[(1, [(0, ([112, 101, 114, 115, 111, 110], 0)), (0, ([112], 0)), (0, ([97], 0))])], fun k => by kernel_rfl⟩, by decide, by decide, by decide⟩
theorem wr4 : WrittenLn [(0, ([112, 101, 114, 115, 111, 110], 0)), (0, ([112], 0)), (0, ([97], 0))] [112, 101, 114, 115, 111, 110, 32, 112, 32, 97] := ⟨by simp, fun n k => by kernel_rfl, fun k => by kernel_rfl, by decide, by decide⟩
theorem ok4 : LnOk [112, 101, 114, 115, 111, 110, 32, 112, 32, 97] := .inl ⟨_, ln4, .inr ⟨_, wr4⟩⟩
theorem ln5 : GoodLn [112, 101, 114, 115, 111, 110, 32, 112, 32, 97, 32, 119, 101, 101, 107, 32, 52, 48] [(0, ([112, 101, 114, 115, 111, 110], 0)), (0, ([112], 0)), (0, ([97], 0)), (0, ([119, 101, 101, 107], 0)), (1, ([], 40))] := ⟨fun k => by kernel_rfl, .inr fun k => by kernel_rfl, ⟨[(1, [(0, ([112, 101, 114, 115, 111, 110], 0)), (0, ([112], 0)), (0, ([97], 0)), (0, ([119, 101, 101, 107], 0)), (1, ([], 40))])], fun k => by kernel_rfl⟩, by decide, by decide, by decide⟩
theorem wr5 : WrittenLn [(0, ([112, 101, 114, 115, 111, 110], 0)), (0, ([112], 0)), (0, ([97], 0)), (0, ([119, 101, 101, 107], 0)), (1, ([], 40))] [112, 101, 114, 115, 111, 110, 32, 112, 32, 97, 32, 119, 101, 101, 107, 32, 52, 48] := ⟨by simp, fun n k => by kernel_rfl, fun k => by kernel_rfl, by decide, by decide⟩
theorem ok5 : LnOk [112, 101, 114, 115, 111, 110, 32, 112, 32, 97, 32, 119, 101, 101, 107, 32, 52, 48] := .inl ⟨_, ln5, .inr ⟨_, wr5⟩⟩
theorem ln6 : GoodLn [112, 101, 114, 115, 111, 110, 32, 112, 32, 97, 32, 114, 101, 115, 116, 32, 49, 49] [(0, ([112, 101, 114, 115, 111, 110], 0)), (0, ([112], 0)), (0, ([97], 0)), (0, ([114, 101, 115, 116], 0)), (1, ([], 11))] := ⟨fun k => by kernel_rfl, .inr fun k => by kernel_rfl, ⟨[(1, [(0, ([112, 101, 114, 115, 111, 110], 0)), (0, ([112], 0)), (0, ([97], 0)), (0, ([114, 101, 115, 116], 0)), (1, ([], 11))])], fun k => by kernel_rfl⟩, by decide, by decide, by decide⟩
theorem wr6 : WrittenLn [(0, ([112, 101, 114, 115, 111, 110], 0)), (0, ([112], 0)), (0, ([97], 0)), (0, ([114, 101, 115, 116], 0)), (1, ([], 11))] [112, 101, 114, 115, 111, 110, 32, 112, 32, 97, 32, 114, 101, 115, 116, 32, 49, 49] := ⟨by simp, fun n k => by kernel_rfl, fun k => by kernel_rfl, by decide, by decide⟩
theorem ok6 : LnOk [112, 101, 114, 115, 111, 110, 32, 112, 32, 97, 32, 114, 101, 115, 116, 32, 49, 49] := .inl ⟨_, ln6, .inr ⟨_, wr6⟩⟩
theorem ln7 : GoodLn [112, 101, 114, 115, 111, 110, 32, 112, 32, 97, 32, 119, 101, 101, 107, 32, 52, 48, 32, 114, 101, 115, 116, 32, 49, 49, 32, 99, 111, 110, 115, 101, 110, 116] [(0, ([112, 101, 114, 115, 111, 110], 0)), (0, ([112], 0)), (0, ([97], 0)), (0, ([119, 101, 101, 107], 0)), (1, ([], 40)), (0, ([114, 101, 115, 116], 0)), (1, ([], 11)), (0, ([99, 111, 110, 115, 101, 110, 116], 0))] := ⟨fun k => by kernel_rfl, .inr fun k => by kernel_rfl, ⟨[(1, [(0, ([112, 101, 114, 115, 111, 110], 0)), (0, ([112], 0)), (0, ([97], 0)), (0, ([119, 101, 101, 107], 0)), (1, ([], 40)), (0, ([114, 101, 115, 116], 0)), (1, ([], 11)), (0, ([99, 111, 110, 115, 101, 110, 116], 0))])], fun k => by kernel_rfl⟩, by decide, by decide, by decide⟩
theorem wr7 : WrittenLn [(0, ([112, 101, 114, 115, 111, 110], 0)), (0, ([112], 0)), (0, ([97], 0)), (0, ([119, 101, 101, 107], 0)), (1, ([], 40)), (0, ([114, 101, 115, 116], 0)), (1, ([], 11)), (0, ([99, 111, 110, 115, 101, 110, 116], 0))] [112, 101, 114, 115, 111, 110, 32, 112, 32, 97, 32, 119, 101, 101, 107, 32, 52, 48, 32, 114, 101, 115, 116, 32, 49, 49, 32, 99, 111, 110, 115, 101, 110, 116] := ⟨by simp, fun n k => by kernel_rfl, fun k => by kernel_rfl, by decide, by decide⟩
theorem ok7 : LnOk [112, 101, 114, 115, 111, 110, 32, 112, 32, 97, 32, 119, 101, 101, 107, 32, 52, 48, 32, 114, 101, 115, 116, 32, 49, 49, 32, 99, 111, 110, 115, 101, 110, 116] := .inl ⟨_, ln7, .inr ⟨_, wr7⟩⟩
theorem ok8 : LnOk [112, 101, 114, 115, 111, 110, 32, 112, 32, 97, 32, 114, 101, 115, 116, 32, 49, 49, 32, 119, 101, 101, 107, 32, 52, 48] := .inr ⟨1, 2, [], by decide, fun k => by kernel_rfl⟩
theorem ok9 : LnOk [112, 101, 114, 115, 111, 110, 32, 112, 32, 97, 32, 99, 111, 110, 115, 101, 110, 116, 32, 99, 111, 110, 115, 101, 110, 116] := .inr ⟨1, 2, [], by decide, fun k => by kernel_rfl⟩
theorem ok10 : LnOk [112, 101, 114, 115, 111, 110, 32, 112, 32, 97, 32, 119, 101, 101, 107] := .inr ⟨1, 2, [], by decide, fun k => by kernel_rfl⟩
theorem ok11 : LnOk [112, 101, 114, 115, 111, 110, 32, 112] := .inr ⟨1, 2, [], by decide, fun k => by kernel_rfl⟩
theorem ln12 : GoodLn [113, 117, 105, 101, 116, 32, 109, 111, 110, 32, 50, 50, 58, 48, 48, 32, 109, 111, 110, 32, 50, 52, 58, 48, 48] [(0, ([113, 117, 105, 101, 116], 0)), (0, ([109, 111, 110], 0)), (2, ([], 79200)), (0, ([109, 111, 110], 0)), (2, ([], 86400))] := ⟨fun k => by kernel_rfl, .inr fun k => by kernel_rfl, ⟨[(1, [(0, ([113, 117, 105, 101, 116], 0)), (0, ([109, 111, 110], 0)), (2, ([], 79200)), (0, ([109, 111, 110], 0)), (2, ([], 86400))])], fun k => by kernel_rfl⟩, by decide, by decide, by decide⟩
theorem wr12 : WrittenLn [(0, ([113, 117, 105, 101, 116], 0)), (0, ([109, 111, 110], 0)), (2, ([], 79200)), (0, ([109, 111, 110], 0)), (2, ([], 86400))] [113, 117, 105, 101, 116, 32, 109, 111, 110, 32, 50, 50, 58, 48, 48, 32, 109, 111, 110, 32, 50, 52, 58, 48, 48] := ⟨by simp, fun n k => by kernel_rfl, fun k => by kernel_rfl, by decide, by decide⟩
theorem ok12 : LnOk [113, 117, 105, 101, 116, 32, 109, 111, 110, 32, 50, 50, 58, 48, 48, 32, 109, 111, 110, 32, 50, 52, 58, 48, 48] := .inl ⟨_, ln12, .inr ⟨_, wr12⟩⟩
theorem ok13 : LnOk [113, 117, 105, 101, 116, 32, 109, 111, 110, 32, 50, 50, 58, 48, 48] := .inr ⟨1, 2, [], by decide, fun k => by kernel_rfl⟩
theorem ln14 : GoodLn [99, 97, 108, 101, 110, 100, 97, 114, 32, 99, 32, 97] [(0, ([99, 97, 108, 101, 110, 100, 97, 114], 0)), (0, ([99], 0)), (0, ([97], 0))] := ⟨fun k => by kernel_rfl, .inr fun k => by kernel_rfl, ⟨[(1, [(0, ([99, 97, 108, 101, 110, 100, 97, 114], 0)), (0, ([99], 0)), (0, ([97], 0))])], fun k => by kernel_rfl⟩, by decide, by decide, by decide⟩
theorem wr14 : WrittenLn [(0, ([99, 97, 108, 101, 110, 100, 97, 114], 0)), (0, ([99], 0)), (0, ([97], 0))] [99, 97, 108, 101, 110, 100, 97, 114, 32, 99, 32, 97] := ⟨by simp, fun n k => by kernel_rfl, fun k => by kernel_rfl, by decide, by decide⟩
theorem ok14 : LnOk [99, 97, 108, 101, 110, 100, 97, 114, 32, 99, 32, 97] := .inl ⟨_, ln14, .inr ⟨_, wr14⟩⟩
theorem ln15 : GoodLn [100, 97, 121, 115, 32, 50, 48, 50, 54, 45, 48, 49, 45, 48, 49] [(0, ([100, 97, 121, 115], 0)), (3, ([], 20454))] := ⟨fun k => by kernel_rfl, .inr fun k => by kernel_rfl, ⟨[(1, [(0, ([100, 97, 121, 115], 0)), (3, ([], 20454))])], fun k => by kernel_rfl⟩, by decide, by decide, by decide⟩
theorem wr15 : WrittenLn [(0, ([100, 97, 121, 115], 0)), (3, ([], 20454))] [100, 97, 121, 115, 32, 50, 48, 50, 54, 45, 48, 49, 45, 48, 49] := ⟨by simp, fun n k => by kernel_rfl, fun k => by kernel_rfl, by decide, by decide⟩
theorem ok15 : LnOk [100, 97, 121, 115, 32, 50, 48, 50, 54, 45, 48, 49, 45, 48, 49] := .inl ⟨_, ln15, .inr ⟨_, wr15⟩⟩
theorem ln16 : GoodLn [100, 97, 121, 115, 32, 50, 48, 50, 54, 45, 48, 49, 45, 48, 49, 32, 50, 48, 50, 54, 45, 48, 49, 45, 48, 50] [(0, ([100, 97, 121, 115], 0)), (3, ([], 20454)), (3, ([], 20455))] := ⟨fun k => by kernel_rfl, .inr fun k => by kernel_rfl, ⟨[(1, [(0, ([100, 97, 121, 115], 0)), (3, ([], 20454)), (3, ([], 20455))])], fun k => by kernel_rfl⟩, by decide, by decide, by decide⟩
theorem wr16 : WrittenLn [(0, ([100, 97, 121, 115], 0)), (3, ([], 20454)), (3, ([], 20455))] [100, 97, 121, 115, 32, 50, 48, 50, 54, 45, 48, 49, 45, 48, 49, 32, 50, 48, 50, 54, 45, 48, 49, 45, 48, 50] := ⟨by simp, fun n k => by kernel_rfl, fun k => by kernel_rfl, by decide, by decide⟩
theorem ok16 : LnOk [100, 97, 121, 115, 32, 50, 48, 50, 54, 45, 48, 49, 45, 48, 49, 32, 50, 48, 50, 54, 45, 48, 49, 45, 48, 50] := .inl ⟨_, ln16, .inr ⟨_, wr16⟩⟩
theorem ok17 : LnOk [100, 97, 121, 115] := .inr ⟨1, 2, [], by decide, fun k => by kernel_rfl⟩
theorem ok18 : LnOk [100, 97, 121, 115, 32, 50, 48, 50, 54, 45, 48, 49, 45, 48, 49, 32, 120] := .inr ⟨1, 2, [], by decide, fun k => by kernel_rfl⟩
theorem ln19 : GoodLn [115, 99, 104, 101, 100, 117, 108, 101, 32, 115] [(0, ([115, 99, 104, 101, 100, 117, 108, 101], 0)), (0, ([115], 0))] := ⟨fun k => by kernel_rfl, .inr fun k => by kernel_rfl, ⟨[(1, [(0, ([115, 99, 104, 101, 100, 117, 108, 101], 0)), (0, ([115], 0))])], fun k => by kernel_rfl⟩, by decide, by decide, by decide⟩
theorem wr19 : WrittenLn [(0, ([115, 99, 104, 101, 100, 117, 108, 101], 0)), (0, ([115], 0))] [115, 99, 104, 101, 100, 117, 108, 101, 32, 115] := ⟨by simp, fun n k => by kernel_rfl, fun k => by kernel_rfl, by decide, by decide⟩
theorem ok19 : LnOk [115, 99, 104, 101, 100, 117, 108, 101, 32, 115] := .inl ⟨_, ln19, .inr ⟨_, wr19⟩⟩
theorem ok20 : LnOk [115, 99, 104, 101, 100, 117, 108, 101] := .inr ⟨1, 2, [], by decide, fun k => by kernel_rfl⟩
theorem ln21 : GoodLn [108, 97, 121, 101, 114, 32, 108, 32, 97, 32, 50, 48, 50, 54, 45, 48, 49, 45, 48, 53, 32, 48, 57, 58, 48, 48, 32, 49, 32, 119, 101, 101, 107, 115] [(0, ([108, 97, 121, 101, 114], 0)), (0, ([108], 0)), (0, ([97], 0)), (3, ([], 20458)), (2, ([], 32400)), (1, ([], 1)), (0, ([119, 101, 101, 107, 115], 0))] := ⟨fun k => by kernel_rfl, .inr fun k => by kernel_rfl, ⟨[(1, [(0, ([108, 97, 121, 101, 114], 0)), (0, ([108], 0)), (0, ([97], 0)), (3, ([], 20458)), (2, ([], 32400)), (1, ([], 1)), (0, ([119, 101, 101, 107, 115], 0))])], fun k => by kernel_rfl⟩, by decide, by decide, by decide⟩
theorem wr21 : WrittenLn [(0, ([108, 97, 121, 101, 114], 0)), (0, ([108], 0)), (0, ([97], 0)), (3, ([], 20458)), (2, ([], 32400)), (1, ([], 1)), (0, ([119, 101, 101, 107, 115], 0))] [108, 97, 121, 101, 114, 32, 108, 32, 97, 32, 50, 48, 50, 54, 45, 48, 49, 45, 48, 53, 32, 48, 57, 58, 48, 48, 32, 49, 32, 119, 101, 101, 107, 115] := ⟨by simp, fun n k => by kernel_rfl, fun k => by kernel_rfl, by decide, by decide⟩
theorem ok21 : LnOk [108, 97, 121, 101, 114, 32, 108, 32, 97, 32, 50, 48, 50, 54, 45, 48, 49, 45, 48, 53, 32, 48, 57, 58, 48, 48, 32, 49, 32, 119, 101, 101, 107, 115] := .inl ⟨_, ln21, .inr ⟨_, wr21⟩⟩
theorem ok22 : LnOk [108, 97, 121, 101, 114, 32, 108, 32, 97, 32, 50, 48, 50, 54, 45, 48, 49, 45, 48, 53, 32, 49, 32, 119, 101, 101, 107, 115] := .inr ⟨1, 2, [], by decide, fun k => by kernel_rfl⟩
theorem ln23 : GoodLn [109, 101, 109, 98, 101, 114, 32, 112, 32, 113, 32, 114] [(0, ([109, 101, 109, 98, 101, 114], 0)), (0, ([112], 0)), (0, ([113], 0)), (0, ([114], 0))] := ⟨fun k => by kernel_rfl, .inr fun k => by kernel_rfl, ⟨[(1, [(0, ([109, 101, 109, 98, 101, 114], 0)), (0, ([112], 0)), (0, ([113], 0)), (0, ([114], 0))])], fun k => by kernel_rfl⟩, by decide, by decide, by decide⟩
theorem wr23 : WrittenLn [(0, ([109, 101, 109, 98, 101, 114], 0)), (0, ([112], 0)), (0, ([113], 0)), (0, ([114], 0))] [109, 101, 109, 98, 101, 114, 32, 112, 32, 113, 32, 114] := ⟨by simp, fun n k => by kernel_rfl, fun k => by kernel_rfl, by decide, by decide⟩
theorem ok23 : LnOk [109, 101, 109, 98, 101, 114, 32, 112, 32, 113, 32, 114] := .inl ⟨_, ln23, .inr ⟨_, wr23⟩⟩
theorem ok24 : LnOk [109, 101, 109, 98, 101, 114] := .inr ⟨1, 2, [], by decide, fun k => by kernel_rfl⟩
theorem ln25 : GoodLn [111, 110, 32, 109, 111, 110, 32, 48, 57, 58, 48, 48, 32, 102, 114, 105, 32, 49, 55, 58, 48, 48] [(0, ([111, 110], 0)), (0, ([109, 111, 110], 0)), (2, ([], 32400)), (0, ([102, 114, 105], 0)), (2, ([], 61200))] := ⟨fun k => by kernel_rfl, .inr fun k => by kernel_rfl, ⟨[(1, [(0, ([111, 110], 0)), (0, ([109, 111, 110], 0)), (2, ([], 32400)), (0, ([102, 114, 105], 0)), (2, ([], 61200))])], fun k => by kernel_rfl⟩, by decide, by decide, by decide⟩
theorem wr25 : WrittenLn [(0, ([111, 110], 0)), (0, ([109, 111, 110], 0)), (2, ([], 32400)), (0, ([102, 114, 105], 0)), (2, ([], 61200))] [111, 110, 32, 109, 111, 110, 32, 48, 57, 58, 48, 48, 32, 102, 114, 105, 32, 49, 55, 58, 48, 48] := ⟨by simp, fun n k => by kernel_rfl, fun k => by kernel_rfl, by decide, by decide⟩
theorem ok25 : LnOk [111, 110, 32, 109, 111, 110, 32, 48, 57, 58, 48, 48, 32, 102, 114, 105, 32, 49, 55, 58, 48, 48] := .inl ⟨_, ln25, .inr ⟨_, wr25⟩⟩
theorem ln26 : GoodLn [110, 111, 116, 32, 99] [(0, ([110, 111, 116], 0)), (0, ([99], 0))] := ⟨fun k => by kernel_rfl, .inr fun k => by kernel_rfl, ⟨[(1, [(0, ([110, 111, 116], 0)), (0, ([99], 0))])], fun k => by kernel_rfl⟩, by decide, by decide, by decide⟩
theorem wr26 : WrittenLn [(0, ([110, 111, 116], 0)), (0, ([99], 0))] [110, 111, 116, 32, 99] := ⟨by simp, fun n k => by kernel_rfl, fun k => by kernel_rfl, by decide, by decide⟩
theorem ok26 : LnOk [110, 111, 116, 32, 99] := .inl ⟨_, ln26, .inr ⟨_, wr26⟩⟩
theorem ln27 : GoodLn [111, 110, 108, 121, 32, 99] [(0, ([111, 110, 108, 121], 0)), (0, ([99], 0))] := ⟨fun k => by kernel_rfl, .inr fun k => by kernel_rfl, ⟨[(1, [(0, ([111, 110, 108, 121], 0)), (0, ([99], 0))])], fun k => by kernel_rfl⟩, by decide, by decide, by decide⟩
theorem wr27 : WrittenLn [(0, ([111, 110, 108, 121], 0)), (0, ([99], 0))] [111, 110, 108, 121, 32, 99] := ⟨by simp, fun n k => by kernel_rfl, fun k => by kernel_rfl, by decide, by decide⟩
theorem ok27 : LnOk [111, 110, 108, 121, 32, 99] := .inl ⟨_, ln27, .inr ⟨_, wr27⟩⟩
theorem ok28 : LnOk [111, 110, 108, 121, 32, 99, 32, 100] := .inr ⟨1, 2, [], by decide, fun k => by kernel_rfl⟩
theorem ln29 : GoodLn [108, 101, 97, 118, 101, 32, 112, 32, 50, 48, 50, 54, 45, 48, 49, 45, 48, 49, 84, 48, 48, 58, 48, 48, 58, 48, 48, 90, 32, 50, 48, 50, 54, 45, 48, 49, 45, 48, 50, 84, 48, 48, 58, 48, 48, 58, 48, 48, 90] [(0, ([108, 101, 97, 118, 101], 0)), (0, ([112], 0)), (5, ([], 1767225600)), (5, ([], 1767312000))] := ⟨fun k => by kernel_rfl, .inr fun k => by kernel_rfl, ⟨[(1, [(0, ([108, 101, 97, 118, 101], 0)), (0, ([112], 0)), (5, ([], 1767225600)), (5, ([], 1767312000))])], fun k => by kernel_rfl⟩, by decide, by decide, by decide⟩
theorem wr29 : WrittenLn [(0, ([108, 101, 97, 118, 101], 0)), (0, ([112], 0)), (5, ([], 1767225600)), (5, ([], 1767312000))] [108, 101, 97, 118, 101, 32, 112, 32, 50, 48, 50, 54, 45, 48, 49, 45, 48, 49, 84, 48, 48, 58, 48, 48, 58, 48, 48, 90, 32, 50, 48, 50, 54, 45, 48, 49, 45, 48, 50, 84, 48, 48, 58, 48, 48, 58, 48, 48, 90] := ⟨by simp, fun n k => by kernel_rfl, fun k => by kernel_rfl, by decide, by decide⟩
theorem ok29 : LnOk [108, 101, 97, 118, 101, 32, 112, 32, 50, 48, 50, 54, 45, 48, 49, 45, 48, 49, 84, 48, 48, 58, 48, 48, 58, 48, 48, 90, 32, 50, 48, 50, 54, 45, 48, 49, 45, 48, 50, 84, 48, 48, 58, 48, 48, 58, 48, 48, 90] := .inl ⟨_, ln29, .inr ⟨_, wr29⟩⟩
theorem ln30 : GoodLn [111, 118, 101, 114, 114, 105, 100, 101, 32, 110, 111, 98, 111, 100, 121, 32, 50, 48, 50, 54, 45, 48, 49, 45, 48, 49, 84, 48, 48, 58, 48, 48, 58, 48, 48, 90, 32, 50, 48, 50, 54, 45, 48, 49, 45, 48, 50, 84, 48, 48, 58, 48, 48, 58, 48, 48, 90] [(0, ([111, 118, 101, 114, 114, 105, 100, 101], 0)), (0, ([110, 111, 98, 111, 100, 121], 0)), (5, ([], 1767225600)), (5, ([], 1767312000))] := ⟨fun k => by kernel_rfl, .inr fun k => by kernel_rfl, ⟨[(1, [(0, ([111, 118, 101, 114, 114, 105, 100, 101], 0)), (0, ([110, 111, 98, 111, 100, 121], 0)), (5, ([], 1767225600)), (5, ([], 1767312000))])], fun k => by kernel_rfl⟩, by decide, by decide, by decide⟩
theorem wr30 : WrittenLn [(0, ([111, 118, 101, 114, 114, 105, 100, 101], 0)), (0, ([110, 111, 98, 111, 100, 121], 0)), (5, ([], 1767225600)), (5, ([], 1767312000))] [111, 118, 101, 114, 114, 105, 100, 101, 32, 110, 111, 98, 111, 100, 121, 32, 50, 48, 50, 54, 45, 48, 49, 45, 48, 49, 84, 48, 48, 58, 48, 48, 58, 48, 48, 90, 32, 50, 48, 50, 54, 45, 48, 49, 45, 48, 50, 84, 48, 48, 58, 48, 48, 58, 48, 48, 90] := ⟨by simp, fun n k => by kernel_rfl, fun k => by kernel_rfl, by decide, by decide⟩
theorem ok30 : LnOk [111, 118, 101, 114, 114, 105, 100, 101, 32, 110, 111, 98, 111, 100, 121, 32, 50, 48, 50, 54, 45, 48, 49, 45, 48, 49, 84, 48, 48, 58, 48, 48, 58, 48, 48, 90, 32, 50, 48, 50, 54, 45, 48, 49, 45, 48, 50, 84, 48, 48, 58, 48, 48, 58, 48, 48, 90] := .inl ⟨_, ln30, .inr ⟨_, wr30⟩⟩
theorem ln31 : GoodLn [115, 119, 97, 112, 32, 112, 32, 113, 32, 50, 48, 50, 54, 45, 48, 49, 45, 48, 49, 84, 48, 48, 58, 48, 48, 58, 48, 48, 90, 32, 50, 48, 50, 54, 45, 48, 49, 45, 48, 50, 84, 48, 48, 58, 48, 48, 58, 48, 48, 90] [(0, ([115, 119, 97, 112], 0)), (0, ([112], 0)), (0, ([113], 0)), (5, ([], 1767225600)), (5, ([], 1767312000))] := ⟨fun k => by kernel_rfl, .inr fun k => by kernel_rfl, ⟨[(1, [(0, ([115, 119, 97, 112], 0)), (0, ([112], 0)), (0, ([113], 0)), (5, ([], 1767225600)), (5, ([], 1767312000))])], fun k => by kernel_rfl⟩, by decide, by decide, by decide⟩
theorem wr31 : WrittenLn [(0, ([115, 119, 97, 112], 0)), (0, ([112], 0)), (0, ([113], 0)), (5, ([], 1767225600)), (5, ([], 1767312000))] [115, 119, 97, 112, 32, 112, 32, 113, 32, 50, 48, 50, 54, 45, 48, 49, 45, 48, 49, 84, 48, 48, 58, 48, 48, 58, 48, 48, 90, 32, 50, 48, 50, 54, 45, 48, 49, 45, 48, 50, 84, 48, 48, 58, 48, 48, 58, 48, 48, 90] := ⟨by simp, fun n k => by kernel_rfl, fun k => by kernel_rfl, by decide, by decide⟩
theorem ok31 : LnOk [115, 119, 97, 112, 32, 112, 32, 113, 32, 50, 48, 50, 54, 45, 48, 49, 45, 48, 49, 84, 48, 48, 58, 48, 48, 58, 48, 48, 90, 32, 50, 48, 50, 54, 45, 48, 49, 45, 48, 50, 84, 48, 48, 58, 48, 48, 58, 48, 48, 90] := .inl ⟨_, ln31, .inr ⟨_, wr31⟩⟩
theorem ok32 : LnOk [115, 119, 97, 112, 32, 112, 32, 50, 48, 50, 54, 45, 48, 49, 45, 48, 49, 84, 48, 48, 58, 48, 48, 58, 48, 48, 90, 32, 50, 48, 50, 54, 45, 48, 49, 45, 48, 50, 84, 48, 48, 58, 48, 48, 58, 48, 48, 90] := .inr ⟨1, 2, [], by decide, fun k => by kernel_rfl⟩
theorem ln33 : GoodLn [] [] := ⟨fun k => by kernel_rfl, .inl rfl, ⟨[], fun k => by kernel_rfl⟩, by decide, by decide, by decide⟩
theorem ok33 : LnOk [] := .inl ⟨_, ln33, .inl rfl⟩
theorem ln34 : GoodLn [32, 32, 32] [] := ⟨fun k => by kernel_rfl, .inl rfl, ⟨[], fun k => by kernel_rfl⟩, by decide, by decide, by decide⟩
theorem ok34 : LnOk [32, 32, 32] := .inl ⟨_, ln34, .inl rfl⟩
theorem ln35 : GoodLn [35, 32, 111, 110, 108, 121, 32, 116, 104, 105, 115] [] := ⟨fun k => by kernel_rfl, .inl rfl, ⟨[], fun k => by kernel_rfl⟩, by decide, by decide, by decide⟩
theorem ok35 : LnOk [35, 32, 111, 110, 108, 121, 32, 116, 104, 105, 115] := .inl ⟨_, ln35, .inl rfl⟩
theorem ln36 : GoodLn [122, 111, 110, 101, 32, 97, 32, 43, 48, 49, 58, 48, 48, 32, 35, 32, 119, 105, 116, 104, 32, 116, 104, 105, 115] [(0, ([122, 111, 110, 101], 0)), (0, ([97], 0)), (4, ([], 3600))] := ⟨fun k => by kernel_rfl, .inr fun k => by kernel_rfl, ⟨[(1, [(0, ([122, 111, 110, 101], 0)), (0, ([97], 0)), (4, ([], 3600))])], fun k => by kernel_rfl⟩, by decide, by decide, by decide⟩
theorem wr36 : WrittenLn [(0, ([122, 111, 110, 101], 0)), (0, ([97], 0)), (4, ([], 3600))] [122, 111, 110, 101, 32, 97, 32, 43, 48, 49, 58, 48, 48] := ⟨by simp, fun n k => by kernel_rfl, fun k => by kernel_rfl, by decide, by decide⟩
theorem ok36 : LnOk [122, 111, 110, 101, 32, 97, 32, 43, 48, 49, 58, 48, 48, 32, 35, 32, 119, 105, 116, 104, 32, 116, 104, 105, 115] := .inl ⟨_, ln36, .inr ⟨_, wr36⟩⟩
theorem ok37 : LnOk [117, 110, 107, 110, 111, 119, 110, 32, 97] := .inr ⟨1, 2, [], by decide, fun k => by kernel_rfl⟩
theorem ok38 : LnOk [49, 32, 97] := .inr ⟨1, 2, [], by decide, fun k => by kernel_rfl⟩
theorem ok39 : LnOk [122, 111, 110, 101] := .inr ⟨1, 2, [], by decide, fun k => by kernel_rfl⟩
def lnAll : List (List UInt8) := [[122, 111, 110, 101, 32, 97, 32, 43, 48, 49, 58, 48, 48], [122, 111, 110, 101, 32, 97, 32, 48, 49, 58, 48, 48], [114, 117, 108, 101, 32, 50, 48, 50, 48, 32, 50, 48, 51, 48, 32, 109, 97, 114, 32, 108, 97, 115, 116, 32, 115, 117, 110, 32, 48, 50, 58, 48, 48, 32, 43, 48, 50, 58, 48, 48], [114, 117, 108, 101, 32, 50, 48, 50, 48, 32, 109, 97, 114, 32, 108, 97, 115, 116, 32, 115, 117, 110, 32, 48, 50, 58, 48, 48, 32, 43, 48, 50, 58, 48, 48], [112, 101, 114, 115, 111, 110, 32, 112, 32, 97], [112, 101, 114, 115, 111, 110, 32, 112, 32, 97, 32, 119, 101, 101, 107, 32, 52, 48], [112, 101, 114, 115, 111, 110, 32, 112, 32, 97, 32, 114, 101, 115, 116, 32, 49, 49], [112, 101, 114, 115, 111, 110, 32, 112, 32, 97, 32, 119, 101, 101, 107, 32, 52, 48, 32, 114, 101, 115, 116, 32, 49, 49, 32, 99, 111, 110, 115, 101, 110, 116], [112, 101, 114, 115, 111, 110, 32, 112, 32, 97, 32, 114, 101, 115, 116, 32, 49, 49, 32, 119, 101, 101, 107, 32, 52, 48], [112, 101, 114, 115, 111, 110, 32, 112, 32, 97, 32, 99, 111, 110, 115, 101, 110, 116, 32, 99, 111, 110, 115, 101, 110, 116], [112, 101, 114, 115, 111, 110, 32, 112, 32, 97, 32, 119, 101, 101, 107], [112, 101, 114, 115, 111, 110, 32, 112], [113, 117, 105, 101, 116, 32, 109, 111, 110, 32, 50, 50, 58, 48, 48, 32, 109, 111, 110, 32, 50, 52, 58, 48, 48], [113, 117, 105, 101, 116, 32, 109, 111, 110, 32, 50, 50, 58, 48, 48], [99, 97, 108, 101, 110, 100, 97, 114, 32, 99, 32, 97], [100, 97, 121, 115, 32, 50, 48, 50, 54, 45, 48, 49, 45, 48, 49], [100, 97, 121, 115, 32, 50, 48, 50, 54, 45, 48, 49, 45, 48, 49, 32, 50, 48, 50, 54, 45, 48, 49, 45, 48, 50], [100, 97, 121, 115], [100, 97, 121, 115, 32, 50, 48, 50, 54, 45, 48, 49, 45, 48, 49, 32, 120], [115, 99, 104, 101, 100, 117, 108, 101, 32, 115], [115, 99, 104, 101, 100, 117, 108, 101], [108, 97, 121, 101, 114, 32, 108, 32, 97, 32, 50, 48, 50, 54, 45, 48, 49, 45, 48, 53, 32, 48, 57, 58, 48, 48, 32, 49, 32, 119, 101, 101, 107, 115], [108, 97, 121, 101, 114, 32, 108, 32, 97, 32, 50, 48, 50, 54, 45, 48, 49, 45, 48, 53, 32, 49, 32, 119, 101, 101, 107, 115], [109, 101, 109, 98, 101, 114, 32, 112, 32, 113, 32, 114], [109, 101, 109, 98, 101, 114], [111, 110, 32, 109, 111, 110, 32, 48, 57, 58, 48, 48, 32, 102, 114, 105, 32, 49, 55, 58, 48, 48], [110, 111, 116, 32, 99], [111, 110, 108, 121, 32, 99], [111, 110, 108, 121, 32, 99, 32, 100], [108, 101, 97, 118, 101, 32, 112, 32, 50, 48, 50, 54, 45, 48, 49, 45, 48, 49, 84, 48, 48, 58, 48, 48, 58, 48, 48, 90, 32, 50, 48, 50, 54, 45, 48, 49, 45, 48, 50, 84, 48, 48, 58, 48, 48, 58, 48, 48, 90], [111, 118, 101, 114, 114, 105, 100, 101, 32, 110, 111, 98, 111, 100, 121, 32, 50, 48, 50, 54, 45, 48, 49, 45, 48, 49, 84, 48, 48, 58, 48, 48, 58, 48, 48, 90, 32, 50, 48, 50, 54, 45, 48, 49, 45, 48, 50, 84, 48, 48, 58, 48, 48, 58, 48, 48, 90], [115, 119, 97, 112, 32, 112, 32, 113, 32, 50, 48, 50, 54, 45, 48, 49, 45, 48, 49, 84, 48, 48, 58, 48, 48, 58, 48, 48, 90, 32, 50, 48, 50, 54, 45, 48, 49, 45, 48, 50, 84, 48, 48, 58, 48, 48, 58, 48, 48, 90], [115, 119, 97, 112, 32, 112, 32, 50, 48, 50, 54, 45, 48, 49, 45, 48, 49, 84, 48, 48, 58, 48, 48, 58, 48, 48, 90, 32, 50, 48, 50, 54, 45, 48, 49, 45, 48, 50, 84, 48, 48, 58, 48, 48, 58, 48, 48, 90], [], [32, 32, 32], [35, 32, 111, 110, 108, 121, 32, 116, 104, 105, 115], [122, 111, 110, 101, 32, 97, 32, 43, 48, 49, 58, 48, 48, 32, 35, 32, 119, 105, 116, 104, 32, 116, 104, 105, 115], [117, 110, 107, 110, 111, 119, 110, 32, 97], [49, 32, 97], [122, 111, 110, 101]]
theorem lines_eq {β : Type} (k : List (List UInt8) → Option β) : zq16 k = k lnAll := by kernel_rfl
theorem lnAll_ok : ∀ w ∈ lnAll, LnOk w := by
  intro w hw
  unfold lnAll at hw
  simp only [List.mem_cons, List.not_mem_nil, or_false] at hw
  rcases hw with rfl | rfl | rfl | rfl | rfl | rfl | rfl | rfl | rfl | rfl | rfl | rfl | rfl | rfl | rfl | rfl | rfl | rfl | rfl | rfl | rfl | rfl | rfl | rfl | rfl | rfl | rfl | rfl | rfl | rfl | rfl | rfl | rfl | rfl | rfl | rfl | rfl | rfl | rfl | rfl
  · exact ok0
  · exact ok1
  · exact ok2
  · exact ok3
  · exact ok4
  · exact ok5
  · exact ok6
  · exact ok7
  · exact ok8
  · exact ok9
  · exact ok10
  · exact ok11
  · exact ok12
  · exact ok13
  · exact ok14
  · exact ok15
  · exact ok16
  · exact ok17
  · exact ok18
  · exact ok19
  · exact ok20
  · exact ok21
  · exact ok22
  · exact ok23
  · exact ok24
  · exact ok25
  · exact ok26
  · exact ok27
  · exact ok28
  · exact ok29
  · exact ok30
  · exact ok31
  · exact ok32
  · exact ok33
  · exact ok34
  · exact ok35
  · exact ok36
  · exact ok37
  · exact ok38
  · exact ok39
theorem wrong_line {β : Type} (k : Int → List STok → Option β) : zqqs [119, 114, 111, 110, 103, 32, 108, 105, 110, 101, 32, 104, 101, 114, 101, 32, 55] k = k 0 [(0, ([119, 114, 111, 110, 103], 0)), (0, ([108, 105, 110, 101], 0)), (0, ([104, 101, 114, 101], 0)), (1, ([], 7))] := by kernel_rfl
theorem wrong_form {β : Type} (k : Bool → Option β) : zqi5 [(0, ([119, 114, 111, 110, 103], 0)), (0, ([108, 105, 110, 101], 0)), (0, ([104, 101, 114, 101], 0)), (1, ([], 7))] k = k false := by kernel_rfl
theorem nothing_line {β : Type} (k : Int → List STok → Option β) : zqqs [32, 32, 35, 32, 110, 111, 116, 104, 105, 110, 103] k = k 0 [] := by kernel_rfl
theorem empty_line {β : Type} (k : Int → List STok → Option β) : zqqs [] k = k 0 [] := by kernel_rfl
theorem sane07 {β : Type} (k : Bool → Option β) : zqrs k = k true := by kernel_rfl
end
end Go.Lift
namespace Go.Lift
set_option linter.unusedVariables false
set_option linter.unusedSimpArgs false
section
variable {b : UInt8}
theorem ix_no : ∀ {l : List UInt8}, (∀ c ∈ l, c ≠ b) → Lib.index l [b] = -1
  | [], _ => rfl
  | c :: l, h => by
    have h1 := ix_no (l := l) fun x hx => h x (by simp [hx])
    have h2 := h c (by simp)
    unfold Lib.index
    rw [h1]
    have : List.isPrefixOf [b] (c :: l) = false := by
      simp [List.isPrefixOf]
      exact fun e => h2 e.symm
    rw [this]
    rfl
theorem ix_at : ∀ {l : List UInt8} (r : List UInt8), (∀ c ∈ l, c ≠ b) → Lib.index (l ++ b :: r) [b] = (l.length : Int)
  | [], r, _ => by
    show Lib.index (b :: r) [b] = 0
    unfold Lib.index
    simp [List.isPrefixOf]
  | c :: l, r, h => by
    have h1 := ix_at (l := l) r fun x hx => h x (by simp [hx])
    have h2 := h c (by simp)
    rw [List.cons_append]
    unfold Lib.index
    rw [h1]
    have : List.isPrefixOf [b] (c :: (l ++ b :: r)) = false := by
      simp [List.isPrefixOf]
      exact fun e => h2 e.symm
    rw [this]
    have h3 : ((l.length : Int) == -1) = false := by rw [beq_eq_false_iff_ne]; omega
    simp [h3]
theorem split_no {l : List UInt8} (h : ∀ c ∈ l, c ≠ b) : splitL l [b] = [l] := by
  have hi := ix_no h
  unfold splitL
  rw [Lib.splitB_data]
  show Lib.splitK [b] 0 (Lib.count l [b]) l = [l]
  rw [Lib.count_miss hi]
  rfl
theorem split_at {l : List UInt8} (r : List UInt8) (h : ∀ c ∈ l, c ≠ b) : splitL (l ++ b :: r) [b] = l :: splitL r [b] := by
  have hi := ix_at r h
  have hd : (l ++ b :: r).drop (l.length + 1) = r := by
    rw [show l ++ b :: r = (l ++ [b]) ++ r by simp]
    exact List.drop_left' (by simp)
  unfold splitL
  rw [Lib.splitB_data, Lib.splitB_data]
  show Lib.splitK [b] 0 (Lib.count (l ++ b :: r) [b]) (l ++ b :: r) = l :: Lib.splitK [b] 0 (Lib.count r [b]) r
  rw [Lib.count_hit (i := l.length) (by simp) hi, Nat.add_comm]
  show Lib.splitK [b] 0 (Lib.count ((l ++ b :: r).drop (l.length + 1)) [b] + 1) (l ++ b :: r) = _
  rw [hd]
  rw [Lib.splitK, hi, if_neg (by rw [beq_iff_eq]; omega)]
  show (l ++ b :: r).take (l.length : Int).toNat :: Lib.splitK [b] 0 (Lib.count r [b]) ((l ++ b :: r).drop ((l.length : Int).toNat + 1)) = _
  rw [Int.toNat_natCast, hd, List.take_left]
end
end Go.Lift
namespace Go.Lift
open Go.RowKit Go.IntWalk
noncomputable section
set_option linter.unusedVariables false
set_option linter.unusedSimpArgs false
abbrev Dice := List Int × Int
def DiceOk (d : Dice) : Prop := 0 ≤ d.2 ∧ d.2 ≤ d.1.length ∧ d.1.length ≤ 500
theorem light_eq {β : Type} (l : List Int) (k : Bool → Option β) : zq9 l k = k (decide ((l.length : Int) ≤ 500)) := by
  simp only [zq9, zq6]
theorem roll_eq {β : Type} (l : List Int) (k : Dice → Option β) : zqg l k = k (l, 0) := by
  simp only [zqg, zqd]
theorem roll_ok {l : List Int} (h : (l.length : Int) ≤ 500) : DiceOk (l, 0) := ⟨by simp, by simp, by show l.length ≤ 500; omega⟩
theorem next_ok {n : Int} {d : Dice} (hd : DiceOk d) (hn : 1 ≤ n ∧ n ≤ 4611686018427387904) :
    ∃ x d', 0 ≤ x ∧ x < n ∧ DiceOk d' ∧ ∀ {β : Type} (k : Int → Dice → Option β), zq1d n d k = k x d' := by
  obtain ⟨h1, h2, h3⟩ := hd
  by_cases ha : (d.1.length : Int) ≤ d.2
  · exact ⟨0, d, by omega, by omega, ⟨h1, h2, h3⟩, fun k => by simp (disch := omega) only [zq1d, zq1a, c_pos]⟩
  · generalize hv : List.getD d.1 (Int.toNat d.2) (0 : Int) = v
    have hm1 := Int.tmod_lt_of_pos v (show 0 < n by omega)
    have hm2 : -n < Int.tmod v n := by
      have h5 := Int.tmod_lt_of_pos (-v) (show 0 < n by omega)
      rw [Int.neg_tmod] at h5
      omega
    have hd' : DiceOk (d.1, d.2 + 1) := ⟨by show (0 : Int) ≤ d.2 + 1; omega, by show d.2 + 1 ≤ (d.1.length : Int); omega, h3⟩
    by_cases hc : Int.tmod v n < 0
    · refine ⟨Int.tmod v n + n, (d.1, d.2 + 1), by omega, by omega, hd', fun k => ?_⟩
      simp (disch := omega) only [zq1d, zq1a, hv, c_pos, c_neg, c_inb, c_nneg, i64_in]
    · refine ⟨Int.tmod v n, (d.1, d.2 + 1), by omega, by omega, hd', fun k => ?_⟩
      simp (disch := omega) only [zq1d, zq1a, hv, c_pos, c_neg, c_inb, c_nneg, i64_in]
end
end Go.Lift
namespace Go.Lift
open Go.RowKit Go.IntWalk
noncomputable section
set_option linter.unusedVariables false
set_option linter.unusedSimpArgs false
set_option maxRecDepth 10000
abbrev Ln := List UInt8 × List STok
abbrev Stm := Int × List STok
structure Fine (p : Ln) : Prop where
  line : ∀ {β : Type} (k : Int → List STok → Option β), zqqs p.1 k = k 0 p.2
  form : p.2 = [] ∨ ∀ {β : Type} (k : Bool → Option β), zqi5 p.2 k = k true
  nonl : ∀ c ∈ p.1, c ≠ 10
  len : p.1.length ≤ 100
  few : p.2.length ≤ 100
theorem GoodLn.fine {w : List UInt8} {ts : List STok} (h : GoodLn w ts) : Fine (w, ts) := ⟨h.line, h.form, h.nonl, h.len, h.few⟩
theorem fine_nil : Fine ([], []) := ⟨empty_line, .inl rfl, by simp, by simp, by simp⟩
theorem fine_nothing : Fine ([32, 32, 35, 32, 110, 111, 116, 104, 105, 110, 103], []) := ⟨nothing_line, .inl rfl, by decide, by decide, by decide⟩
def flatL (ps : List Ln) : List UInt8 := ps.flatMap fun p => p.1 ++ [10]
theorem flatL_cons (p : Ln) (ps : List Ln) : flatL (p :: ps) = p.1 ++ 10 :: flatL ps := by simp [flatL]
theorem flatL_app (ps qs : List Ln) : flatL (ps ++ qs) = flatL ps ++ flatL qs := by simp [flatL]
theorem flatL_len : ∀ {ps : List Ln}, (∀ p ∈ ps, Fine p) → (flatL ps).length ≤ 101 * ps.length
  | [], _ => by simp [flatL]
  | p :: ps, h => by
    have h1 := (h p (List.mem_cons_self ..)).len
    have h2 := flatL_len (ps := ps) fun q hq => h q (List.mem_cons_of_mem _ hq)
    rw [flatL_cons, List.length_append, List.length_cons, List.length_cons]
    omega
theorem split_flat : ∀ {ps : List Ln} (r : List UInt8), (∀ p ∈ ps, Fine p) → splitL (flatL ps ++ r) [10] = ps.map (·.1) ++ splitL r [10]
  | [], r, _ => rfl
  | p :: ps, r, h => by
    rw [flatL_cons, List.append_assoc, List.cons_append, split_at _ (h p (List.mem_cons_self ..)).nonl, split_flat r fun q hq => h q (List.mem_cons_of_mem _ hq)]
    rfl
def stm : Nat → List Ln → List Stm
  | _, [] => []
  | n, p :: r => (if p.2 = [] then [] else [((n : Int) + 1, p.2)]) ++ stm (n + 1) r
theorem stm_len : ∀ (n : Nat) (ps : List Ln), (stm n ps).length ≤ ps.length
  | _, [] => Nat.le_refl _
  | n, p :: ps => by
    have := stm_len (n + 1) ps
    unfold stm
    rw [List.length_append, List.length_cons]
    split <;> simp only [List.length_cons, List.length_nil] <;> omega
theorem stm_app : ∀ (n : Nat) (ps qs : List Ln), stm n (ps ++ qs) = stm n ps ++ stm (n + ps.length) qs
  | n, [], qs => by simp [stm]
  | n, p :: ps, qs => by
    show (if p.2 = [] then [] else _) ++ stm (n + 1) (ps ++ qs) = _
    rw [stm_app (n + 1) ps qs]
    show _ = ((if p.2 = [] then [] else _) ++ stm (n + 1) ps) ++ _
    rw [List.append_assoc, List.length_cons, show n + 1 + ps.length = n + (ps.length + 1) by omega]
section
variable {β : Type}
theorem drop_getD {xs : List (List UInt8)} {i : Nat} {w : List UInt8} {r : List (List UInt8)} (h : xs.drop i = w :: r) : i < xs.length ∧ xs.getD i [] = w ∧ xs.drop (i + 1) = r := by
  have hi : i < xs.length := by
    rcases Nat.lt_or_ge i xs.length with g | g
    · exact g
    · rw [List.drop_of_length_le g] at h; cases h
  rw [List.drop_eq_getElem_cons hi] at h
  injection h with h1 h2
  exact ⟨hi, by simp [List.getD, hi, h1], h2⟩
theorem parse_good (k1 : zqr1 β) (k2 : zqr2 β) {xs : List (List UInt8)} (hx : xs.length ≤ 1000) {rest : List (List UInt8)} : ∀ (ps : List Ln) (i N : Nat) (acc : List Stm), (∀ p ∈ ps, Fine p) → xs.drop i = ps.map (·.1) ++ rest → acc.length ≤ i →
    zqrh (N + ps.length) k1 k2 (xs.length : Int) (i : Int) acc xs = zqrh N k1 k2 (xs.length : Int) ((i + ps.length : Nat) : Int) (acc ++ stm i ps) xs
  | [], i, N, acc, _, _, _ => by simp [stm]
  | p :: ps, i, N, acc, hf, hd, ha => by
    have hp := hf p (List.mem_cons_self ..)
    obtain ⟨hi, hw, hd'⟩ := drop_getD (w := p.1) (r := ps.map (·.1) ++ rest) hd
    have ih := parse_good k1 k2 hx (rest := rest) ps (i + 1) N (acc ++ (if p.2 = [] then [] else [((i : Int) + 1, p.2)])) (fun q hq => hf q (List.mem_cons_of_mem _ hq)) hd' (by rw [List.length_append]; split <;> simp only [List.length_cons, List.length_nil] <;> omega)
    have ew : IntKind.i64.wrap ((i : Int) + 1) = (i : Int) + 1 := i64_in _ (by omega)
    rw [List.length_cons, show N + (ps.length + 1) = (N + ps.length) + 1 by omega, zqri]
    unfold zqr9
    refine (c_pos (by omega)).trans ?_
    refine (c_inb (by omega)).trans ?_
    dsimp only
    rw [Int.toNat_natCast, hw]
    refine (hp.line _).trans ?_
    refine c_t.trans ?_
    unfold zqrf zqr7 zqr6
    have last : zqrh (N + ps.length) k1 k2 (xs.length : Int) ((i : Int) + 1) (acc ++ (if p.2 = [] then [] else [((i : Int) + 1, p.2)])) xs = zqrh N k1 k2 (xs.length : Int) ((i + (ps.length + 1) : Nat) : Int) (acc ++ stm i (p :: ps)) xs := by
      rw [show i + (ps.length + 1) = i + 1 + ps.length by omega]
      show _ = zqrh N k1 k2 (xs.length : Int) ((i + 1 + ps.length : Nat) : Int) (acc ++ ((if p.2 = [] then [] else [((i : Int) + 1, p.2)]) ++ stm (i + 1) ps)) xs
      rw [← List.append_assoc]
      exact ih
    rcases hp.form with h0 | h0
    · rw [h0]
      refine c_f.trans ?_
      refine c_f.trans ?_
      refine c_f.trans ?_
      rw [h0, if_pos rfl, List.append_nil] at last
      dsimp only
      rw [ew]
      exact last
    · by_cases he : p.2 = []
      · rw [he]
        refine c_f.trans ?_
        refine c_f.trans ?_
        refine c_f.trans ?_
        rw [he, if_pos rfl, List.append_nil] at last
        dsimp only
        rw [ew]
        exact last
      · have hl : 0 < p.2.length := List.length_pos_iff.2 he
        refine (c_pos (by omega)).trans ?_
        refine (h0 _).trans ?_
        refine c_f.trans ?_
        refine c_f.trans ?_
        refine (c_pos (by omega)).trans ?_
        refine (c_room (by simp only [List.length_cons, List.length_nil]; omega)).trans ?_
        rw [if_neg he] at last
        dsimp only
        rw [ew]
        exact last
theorem parse_lines {text : List UInt8} {qs : List Ln} (hq : ∀ q ∈ qs, Fine q) (hs : splitL text [10] = qs.map (·.1)) (hl : text.length ≤ 65536) (hn : qs.length ≤ 1000) (k : Int → Int → List Stm → Option β) : zqrl text k = k 0 0 (stm 0 qs) := by
  unfold zqrl zqrc zq1q splitF
  refine (c_neg (by omega)).trans ?_
  refine (c_p2 (by omega) (by simp)).trans ?_
  rw [hs]
  have hlen : (qs.map (·.1)).length = qs.length := List.length_map _
  unfold zqrj
  have h := parse_good (fun line e l => k line e l) (fun l => k 0 0 l) (xs := qs.map (·.1)) (by omega) (rest := []) qs 0 (fuel - qs.length) [] hq (by simp) (by simp)
  have hfu : fuel - qs.length + qs.length = fuel := Nat.sub_add_cancel (Nat.le_of_lt (lt_fuel (by omega)))
  rw [hfu] at h
  refine h.trans ?_
  obtain ⟨m, hm⟩ : ∃ m, fuel - qs.length = m + 1 := ⟨fuel - qs.length - 1, by have := lt_fuel (n := qs.length) (by omega); omega⟩
  rw [hm, zqri]
  unfold zqr9
  refine (c_neg (by rw [hlen]; omega)).trans ?_
  rfl
theorem parse_wrong {text : List UInt8} {ps : List Ln} {r : List (List UInt8)} (hp : ∀ p ∈ ps, Fine p) (hs : splitL text [10] = ps.map (·.1) ++ [119, 114, 111, 110, 103, 32, 108, 105, 110, 101, 32, 104, 101, 114, 101, 32, 55] :: r) (hl : text.length ≤ 65536) (hn : ps.length + r.length ≤ 900) (k : Int → Int → List Stm → Option β) : zqrl text k = k ((ps.length : Int) + 1) 2 [] := by
  unfold zqrl zqrc zq1q splitF
  refine (c_neg (by omega)).trans ?_
  refine (c_p2 (by omega) (by simp)).trans ?_
  rw [hs]
  generalize hxs : ps.map (·.1) ++ [119, 114, 111, 110, 103, 32, 108, 105, 110, 101, 32, 104, 101, 114, 101, 32, 55] :: r = xs
  have hlen : xs.length = ps.length + (r.length + 1) := by rw [← hxs]; simp
  unfold zqrj
  have h := parse_good (fun line e l => k line e l) (fun l => k 0 0 l) (xs := xs) (by omega) (rest := [119, 114, 111, 110, 103, 32, 108, 105, 110, 101, 32, 104, 101, 114, 101, 32, 55] :: r) ps 0 (fuel - ps.length) [] hp (by rw [← hxs]; rfl) (by simp)
  have hfu : fuel - ps.length + ps.length = fuel := Nat.sub_add_cancel (Nat.le_of_lt (lt_fuel (by omega)))
  rw [hfu] at h
  refine h.trans ?_
  obtain ⟨m, hm⟩ : ∃ m, fuel - ps.length = m + 1 := ⟨fuel - ps.length - 1, by have := lt_fuel (n := ps.length) (by omega); omega⟩
  have hg : xs.getD ps.length [] = [119, 114, 111, 110, 103, 32, 108, 105, 110, 101, 32, 104, 101, 114, 101, 32, 55] := by
    rw [← hxs]
    simp [List.getD]
  rw [hm, zqri]
  unfold zqr9
  rw [show 0 + ps.length = ps.length by omega]
  refine (c_pos (by omega)).trans ?_
  refine (c_inb (by omega)).trans ?_
  dsimp only
  rw [Int.toNat_natCast, hg]
  refine (wrong_line _).trans ?_
  refine c_t.trans ?_
  refine c_t.trans ?_
  refine (wrong_form _).trans ?_
  refine c_t.trans ?_
  unfold zqrf zqr7 zqr6
  refine c_t.trans ?_
  dsimp only
  rw [i64_in ((ps.length : Int) + 1) (by omega)]
end
end
end Go.Lift
namespace Go.Lift
open Go.RowKit Go.IntWalk
noncomputable section
set_option linter.unusedVariables false
set_option linter.unusedSimpArgs false
set_option maxRecDepth 10000
def Good2 (p : Ln) : Prop := Fine p ∧ (p.2 = [] ∨ ∃ s, WrittenLn p.2 s)
def DrawnT (out : List UInt8) : Prop := ∃ ps : List Ln, (∀ p ∈ ps, Good2 p) ∧ ps.length ≤ 9 ∧ (out = flatL ps ∨ ∃ q, Good2 q ∧ out = flatL ps ++ q.1)
theorem draw_loop : ∀ (N : Nat) (i : Int) (d : Dice) (ps : List Ln), 0 ≤ i → i.toNat < N → DiceOk d → (∀ p ∈ ps, Good2 p) → (ps.length : Int) + i ≤ 9 →
    ∃ out d', DrawnT out ∧ DiceOk d' ∧ ∀ {β : Type} (k1 : zqpe β), zqpt N k1 true (flatL ps) i d.1 d.2 lnAll = k1 out d'.1 d'.2
  | 0, _, _, _, _, hN, _, _, _ => absurd hN (by omega)
  | N + 1, i, d, ps, h0, hN, hd, hp, hl => by
    by_cases hi : 0 < i
    · obtain ⟨r, d1, hr0, hr1, hd1, f1⟩ := next_ok (n := (lnAll.length : Int)) hd (by decide)
      have hfl := flatL_len (ps := ps) fun p h => (hp p h).1
      have ew : IntKind.i64.wrap (i - 1) = i - 1 := i64_in _ (by omega)
      have hw := lnAll_ok _ (show lnAll.getD r.toNat [] ∈ lnAll by
        have : r.toNat < lnAll.length := by omega
        simp [List.getD, this])
      rcases hw with ⟨ts, hg, hwr⟩ | ⟨n, e, o, he, href⟩
      · obtain ⟨o, href⟩ := hg.ref
        generalize hwe : lnAll.getD r.toNat [] = w at hg href
        have hq : Good2 (w, ts) := ⟨hg.fine, hwr⟩
        have hwl := hg.len
        have hps : ∀ p ∈ ps ++ [(w, ts)], Good2 p := fun p h => by
          rcases List.mem_append.1 h with g | g
          · exact hp p g
          · rw [List.mem_singleton] at g; rw [g]; exact hq
        have hfe : (flatL ps ++ w) ++ [10] = flatL (ps ++ [(w, ts)]) := by rw [flatL_app, flatL_cons]; simp [flatL]
        have hfl2 : (flatL ps ++ w).length ≤ 2000 := by rw [List.length_append]; omega
        by_cases hi1 : 1 < i
        · obtain ⟨out, d', h1, h2, g⟩ := draw_loop N (i - 1) d1 (ps ++ [(w, ts)]) (by omega) (by omega) hd1 hps (by rw [List.length_append]; simp only [List.length_cons, List.length_nil]; omega)
          refine ⟨out, d', h1, h2, fun k1 => ?_⟩
          rw [zqpu]
          unfold zqpl
          refine (c_pos hi).trans ?_
          refine (f1 _).trans ?_
          refine (c_inb ⟨hr0, hr1⟩).trans ?_
          dsimp only
          rw [hwe]
          refine (href _).trans ?_
          refine c_t.trans ?_
          refine (c_npos rfl).trans ?_
          unfold zqpr zqpj zqpi
          refine (c_pos (by omega)).trans ?_
          refine (c_pos hi1).trans ?_
          refine (c_pos (by simp only [List.length_cons, List.length_nil]; omega)).trans ?_
          dsimp only
          rw [ew, hfe]
          exact g k1
        · obtain ⟨b, d2, hb0, hb1, hd2, f2⟩ := next_ok (n := 2) hd1 (by omega)
          have hi2 : i = 1 := by omega
          have fin : ∀ {β : Type} (k1 : zqpe β) (o : List UInt8), zqpt N k1 true o (i - 1) d2.1 d2.2 lnAll = k1 o d2.1 d2.2 := fun k1 o => by
            obtain ⟨M, rfl⟩ : ∃ M, N = M + 1 := ⟨N - 1, by omega⟩
            rw [zqpu]
            unfold zqpl
            exact c_neg (by omega)
          have e1 : IntKind.i64.wrap ((2 : Int) - 1) = 1 := by decide
          by_cases hb : b = 1
          · refine ⟨flatL (ps ++ [(w, ts)]), d2, ⟨_, hps, by rw [List.length_append]; simp only [List.length_cons, List.length_nil]; omega, .inl rfl⟩, hd2, fun k1 => ?_⟩
            rw [zqpu]
            unfold zqpl
            refine (c_pos hi).trans ?_
            refine (f1 _).trans ?_
            refine (c_inb ⟨hr0, hr1⟩).trans ?_
            dsimp only
            rw [hwe]
            refine (href _).trans ?_
            refine c_t.trans ?_
            refine (c_npos rfl).trans ?_
            unfold zqpr zqpj zqpi
            refine (c_pos (by omega)).trans ?_
            refine (c_neg hi1).trans ?_
            unfold zq1k zq1h
            refine (f2 _).trans ?_
            rw [e1]
            refine (c_pos hb).trans ?_
            refine (c_pos (by simp only [List.length_cons, List.length_nil]; omega)).trans ?_
            dsimp only
            rw [ew, hfe]
            exact fin k1 _
          · refine ⟨flatL ps ++ w, d2, ⟨ps, hp, by omega, .inr ⟨(w, ts), hq, rfl⟩⟩, hd2, fun k1 => ?_⟩
            rw [zqpu]
            unfold zqpl
            refine (c_pos hi).trans ?_
            refine (f1 _).trans ?_
            refine (c_inb ⟨hr0, hr1⟩).trans ?_
            dsimp only
            rw [hwe]
            refine (href _).trans ?_
            refine c_t.trans ?_
            refine (c_npos rfl).trans ?_
            unfold zqpr zqpj zqpi
            refine (c_pos (by omega)).trans ?_
            refine (c_neg hi1).trans ?_
            unfold zq1k zq1h
            refine (f2 _).trans ?_
            rw [e1]
            refine (c_neg hb).trans ?_
            dsimp only
            rw [ew]
            exact fin k1 _
      · obtain ⟨out, d', h1, h2, g⟩ := draw_loop N (i - 1) d1 ps (by omega) (by omega) hd1 hp (by omega)
        refine ⟨out, d', h1, h2, fun k1 => ?_⟩
        rw [zqpu]
        unfold zqpl
        refine (c_pos hi).trans ?_
        refine (f1 _).trans ?_
        refine (c_inb ⟨hr0, hr1⟩).trans ?_
        refine (href _).trans ?_
        refine c_t.trans ?_
        refine (c_nneg he).trans ?_
        dsimp only
        rw [ew]
        exact g k1
    · refine ⟨flatL ps, d, ⟨ps, hp, by omega, .inl rfl⟩, hd, fun k1 => ?_⟩
      rw [zqpu]
      unfold zqpl
      exact c_neg hi
theorem draw_ok {d : Dice} (hd : DiceOk d) : ∃ out d', DrawnT out ∧ DiceOk d' ∧ ∀ {β : Type} (k : List UInt8 → Dice → Option β), zqpx true d k = k out d' := by
  obtain ⟨r, d1, hr0, hr1, hd1, f1⟩ := next_ok (n := 9) hd (by omega)
  obtain ⟨out, d2, h1, hd2, g⟩ := draw_loop fuel r d1 [] hr0 (lt_fuel (by omega)) hd1 (by simp) (by simp only [List.length_nil]; omega)
  refine ⟨out, d2, h1, hd2, fun k => ?_⟩
  unfold zqpx zqpo zqpv
  refine (lines_eq _).trans ?_
  refine (f1 _).trans ?_
  exact g _
end
end Go.Lift
namespace Go.Lift
open Go.RowKit Go.IntWalk
noncomputable section
set_option linter.unusedVariables false
set_option linter.unusedSimpArgs false
set_option maxRecDepth 10000
theorem text_lines {b : List UInt8} (h : DrawnT b) : ∃ us : List Ln, (∀ u ∈ us, Fine u) ∧ us.length ≤ 10 ∧ splitL b [10] = us.map (·.1) ∧ b.length ≤ 1100 := by
  obtain ⟨ps, hp, hl, h⟩ := h
  have hf : ∀ p ∈ ps, Fine p := fun p g => (hp p g).1
  have hfl := flatL_len hf
  rcases h with rfl | ⟨q, hq, rfl⟩
  · refine ⟨ps ++ [([], [])], fun u hu => ?_, by simp; omega, ?_, by omega⟩
    · rcases List.mem_append.1 hu with g | g
      · exact hf u g
      · rw [List.mem_singleton] at g; rw [g]; exact fine_nil
    · have := split_flat [] hf
      rw [List.append_nil] at this
      rw [this, split_no (by simp)]
      simp
  · have hq := hq.1
    refine ⟨ps ++ [q], fun u hu => ?_, by simp; omega, ?_, by rw [List.length_append]; have := hq.len; omega⟩
    · rcases List.mem_append.1 hu with g | g
      · exact hf u g
      · rw [List.mem_singleton] at g; rw [g]; exact hq
    · rw [split_flat _ hf, split_no hq.nonl]
      simp
theorem flat_last : ∀ {ps : List Ln}, ps ≠ [] → ∃ o, flatL ps = o ++ [10]
  | [], h => absurd rfl h
  | [p], _ => ⟨p.1, by simp [flatL]⟩
  | p :: q :: ps, _ => by
    obtain ⟨o, ho⟩ := flat_last (ps := q :: ps) (by simp)
    exact ⟨p.1 ++ 10 :: o, by rw [flatL_cons, ho]; simp⟩
def shS (s : Stm) : Stm := (s.1 + 2, s.2)
theorem stm_shift : ∀ (n : Nat) (us : List Ln), stm (n + 2) us = (stm n us).map shS
  | _, [] => rfl
  | n, u :: us => by
    show (if u.2 = [] then [] else [(((n + 2 : Nat) : Int) + 1, u.2)]) ++ stm (n + 2 + 1) us = ((if u.2 = [] then [] else [((n : Int) + 1, u.2)]) ++ stm (n + 1) us).map shS
    rw [List.map_append, ← stm_shift (n + 1) us, show n + 2 + 1 = n + 1 + 2 by omega]
    congr 1
    by_cases h : u.2 = []
    · rw [if_pos h, if_pos h]; rfl
    · rw [if_neg h, if_neg h]
      show [(((n + 2 : Nat) : Int) + 1, u.2)] = [((n : Int) + 1 + 2, u.2)]
      congr 2
theorem stm_mem : ∀ {n : Nat} {us : List Ln} {s : Stm}, (∀ u ∈ us, Fine u) → s ∈ stm n us → s.2.length ≤ 100 ∧ (n : Int) + 1 ≤ s.1 ∧ s.1 ≤ n + us.length
  | _, [], s, _, h => by cases h
  | n, u :: us, s, hf, h => by
    unfold stm at h
    rw [List.length_cons]
    rcases List.mem_append.1 h with g | g
    · by_cases e : u.2 = []
      · rw [if_pos e] at g; cases g
      · rw [if_neg e, List.mem_singleton] at g
        rw [g]
        exact ⟨(hf u (List.mem_cons_self ..)).few, Int.le_refl _, by show (n : Int) + 1 ≤ _; omega⟩
    · have := stm_mem (fun v hv => hf v (List.mem_cons_of_mem _ hv)) g
      exact ⟨this.1, by omega, by omega⟩
section
variable {β : Type}
theorem tokens_self (ts : List STok) (h : ts.length ≤ 1000) (k : Bool → Option β) : zqz ts ts k = k true := by
  unfold zqz zqs
  refine (c_npos rfl).trans ?_
  unfold zqx
  have hh := check_loop (fun m i => zqv m (fun t => k t) (fun _ => k true) ts ts (ts.length : Int) i) (fun _ => true) none (k true) ((0 : Int), (([] : List UInt8), (0 : Int))) ts fuel (lt_fuel (by omega))
    (fun m i hi => by
      rw [zqw]
      unfold zqp
      refine (c_pos (by omega)).trans ?_
      refine (c_inb (by omega)).trans ?_
      refine (c_inb (by omega)).trans ?_
      simp only [decide_true, Bool.and_true, Bool.not_true, cond_false, cond_true]
      rw [i64_in ((i : Int) + 1) (by omega)])
    (fun m => by
      rw [zqw]
      unfold zqp
      exact c_neg (by omega))
  have : ts.all (fun _ => true) = true := by simp
  rw [this] at hh
  exact hh
def nlStep (n : Int) (c : UInt8) : Int := if (c.toNat : Int) = 10 then n + 1 else n
theorem nl_no : ∀ {w : List UInt8} (n : Int), (∀ c ∈ w, c ≠ 10) → w.foldl nlStep n = n
  | [], _, _ => rfl
  | c :: w, n, h => by
    have hc : c ≠ 10 := h c (List.mem_cons_self ..)
    have : ¬ (c.toNat : Int) = 10 := fun e => hc (UInt8.toNat_inj.1 (by show c.toNat = 10; omega))
    rw [List.foldl_cons]
    show w.foldl nlStep (nlStep n c) = n
    unfold nlStep
    rw [if_neg this]
    exact nl_no n fun d hd => h d (List.mem_cons_of_mem _ hd)
theorem nl_flat : ∀ {ps : List Ln} (n : Int), (∀ p ∈ ps, Fine p) → (flatL ps).foldl nlStep n = n + ps.length
  | [], n, _ => by simp [flatL]
  | p :: ps, n, h => by
    rw [flatL_cons, List.foldl_append, nl_no n (h p (List.mem_cons_self ..)).nonl, List.foldl_cons]
    show (flatL ps).foldl nlStep (nlStep n 10) = _
    have : nlStep n 10 = n + 1 := by unfold nlStep; rw [if_pos (by decide)]
    rw [this, nl_flat (n + 1) fun q hq => h q (List.mem_cons_of_mem _ hq), List.length_cons]
    omega
theorem lines_p1 {a : List UInt8} (ha : a.length ≤ 2000) (k1 : zqrw β) (e f line g : Int) (l m : List Stm) : zqsn k1 a e f line g 1 0 l m = k1 e f line g (a.foldl nlStep 1) l m := by
  unfold zqsn
  exact fold_loopI (fun i (n : Int) => 1 ≤ n ∧ n ≤ i + 1) (fun M i n => zqsl M k1 a e f line g n i l m) nlStep (fun n => k1 e f line g n l m) 0 a 1 fuel (lt_fuel (by omega)) (by omega)
    (fun i n hi h => by unfold nlStep; split <;> omega)
    (fun M i n hi h => by
      rw [zqsm]
      unfold zqs9 nlStep
      refine (c_pos (by omega)).trans ?_
      refine (c_inb (by omega)).trans ?_
      rw [Int.toNat_natCast, i64_in ((i : Int) + 1) (by omega), i64_in (n + 1) (by omega)]
      by_cases hc : ((a.getD i 0).toNat : Int) = 10
      · rw [if_pos hc]
        exact c_pos hc
      · rw [if_neg hc]
        exact c_neg hc)
    (fun M n h => by
      rw [zqsm]
      unfold zqs9
      exact c_neg (by omega))
theorem lines_p2 {l m : List Stm} (hlm : m.length = l.length) (hl : l.length ≤ 1000) (h : ∀ i, i < l.length → (m.getD i (0, [])).2 = (l.getD i (0, [])).2 ∧ (l.getD i (0, [])).2.length ≤ 100 ∧ (0 ≤ (l.getD i (0, [])).1 ∧ (l.getD i (0, [])).1 ≤ 1000) ∧ ((m.getD i (0, [])).1 = (l.getD i (0, [])).1 ∨ (m.getD i (0, [])).1 = (l.getD i (0, [])).1 + 2)) (k1 : zqs0 β) (k2 : zqs1 β) :
    zqsr k1 k2 (l.length : Int) 0 l m = k2 () := by
  unfold zqsr
  have hh := check_loop (fun M i => zqsp M k1 k2 (l.length : Int) i l m) (fun _ => true) none (k2 ()) ((0 : Int), ([] : List STok)) l fuel (lt_fuel (by omega))
    (fun M i hi => by
      obtain ⟨h1, h2, h3, h4⟩ := h i hi
      rw [zqsq]
      unfold zqsc
      refine (c_pos (by omega)).trans ?_
      refine (c_inb (by omega)).trans ?_
      refine (c_inb (by omega)).trans ?_
      rw [Int.toNat_natCast, h1]
      refine (tokens_self _ (by omega) _).trans ?_
      refine c_f.trans ?_
      refine (c_inb (by omega)).trans ?_
      refine (c_inb (by omega)).trans ?_
      rw [i64_in ((i : Int) + 1) (by omega), i64_in ((l.getD i ((0 : Int), ([] : List STok))).1 + 2) (by omega)]
      by_cases e : (m.getD i (0, [])).1 = (l.getD i (0, [])).1
      · exact c_npos e
      · refine (c_nneg e).trans ?_
        refine (c_inb (by omega)).trans ?_
        refine (c_inb (by omega)).trans ?_
        exact c_npos (h4.resolve_left e))
    (fun M => by
      rw [zqsq]
      unfold zqsc
      exact c_neg (by omega))
  have : l.all (fun _ => true) = true := by simp
  rw [this] at hh
  exact hh
theorem lines_p3 {A : List Ln} (hA : ∀ p ∈ A, Fine p) (hAl : A.length ≤ 10) {b : List UInt8} (hb : DrawnT b) (k : Bool → Option β) : zqst (fun t2 => k t2) (flatL A) b = k true := by
  obtain ⟨us, hu, hul, hs, hbl⟩ := text_lines hb
  have hfl := flatL_len hA
  have s1 : splitL (flatL A ++ b) [10] = (A ++ us).map (·.1) := by rw [split_flat _ hA, hs, List.map_append]
  have hE : ∀ p ∈ A ++ ([([], []), ([32, 32, 35, 32, 110, 111, 116, 104, 105, 110, 103], [])] ++ us), Fine p := fun p h => by
    rcases List.mem_append.1 h with g | g
    · exact hA p g
    · rcases List.mem_append.1 g with g | g
      · simp only [List.mem_cons, List.not_mem_nil, or_false] at g
        rcases g with rfl | rfl
        · exact fine_nil
        · exact fine_nothing
      · exact hu p g
  have hAU : ∀ p ∈ A ++ us, Fine p := fun p h => (List.mem_append.1 h).elim (hA p) (hu p)
  have e2 : (flatL A ++ [10, 32, 32, 35, 32, 110, 111, 116, 104, 105, 110, 103, 10]) ++ b = flatL (A ++ [([], []), ([32, 32, 35, 32, 110, 111, 116, 104, 105, 110, 103], [])]) ++ b := by rw [flatL_app]; simp [flatL]
  have hA2 : ∀ p ∈ A ++ [(([] : List UInt8), ([] : List STok)), ([32, 32, 35, 32, 110, 111, 116, 104, 105, 110, 103], [])], Fine p := fun p h => by
    rcases List.mem_append.1 h with g | g
    · exact hA p g
    · simp only [List.mem_cons, List.not_mem_nil, or_false] at g
      rcases g with rfl | rfl
      · exact fine_nil
      · exact fine_nothing
  have s2 : splitL ((flatL A ++ [10, 32, 32, 35, 32, 110, 111, 116, 104, 105, 110, 103, 10]) ++ b) [10] = (A ++ (([([], []), ([32, 32, 35, 32, 110, 111, 116, 104, 105, 110, 103], [])] : List Ln) ++ us)).map (fun (p : Ln) => p.1) := by
    rw [e2, split_flat _ hA2, hs, ← List.map_append, List.append_assoc]
  have s3 : splitL ((flatL A ++ [119, 114, 111, 110, 103, 32, 108, 105, 110, 101, 32, 104, 101, 114, 101, 32, 55, 10]) ++ b) [10] = A.map (·.1) ++ [119, 114, 111, 110, 103, 32, 108, 105, 110, 101, 32, 104, 101, 114, 101, 32, 55] :: us.map (·.1) := by
    have hw := split_at (b := 10) (l := [119, 114, 111, 110, 103, 32, 108, 105, 110, 101, 32, 104, 101, 114, 101, 32, 55]) b (by decide)
    rw [hs] at hw
    rw [List.append_assoc, split_flat _ hA, show ([119, 114, 111, 110, 103, 32, 108, 105, 110, 101, 32, 104, 101, 114, 101, 32, 55, 10] : List UInt8) ++ b = [119, 114, 111, 110, 103, 32, 108, 105, 110, 101, 32, 104, 101, 114, 101, 32, 55] ++ 10 :: b from rfl, hw]
  unfold zqst zqsg zqsf
  refine (c_pos (by omega)).trans ?_
  refine (parse_lines hAU s1 (by rw [List.length_append]; omega) (by rw [List.length_append]; omega) _).trans ?_
  refine (c_pos (by simp only [List.length_cons, List.length_nil]; omega)).trans ?_
  refine (c_pos (by simp only [List.length_append, List.length_cons, List.length_nil]; omega)).trans ?_
  refine (parse_lines hE s2 (by simp only [List.length_append, List.length_cons, List.length_nil]; omega) (by simp only [List.length_append, List.length_cons, List.length_nil]; omega) _).trans ?_
  refine (c_pos (by simp only [List.length_cons, List.length_nil]; omega)).trans ?_
  refine (c_pos (by simp only [List.length_append, List.length_cons, List.length_nil]; omega)).trans ?_
  refine (parse_wrong hA s3 (by simp only [List.length_append, List.length_cons, List.length_nil]; omega) (by rw [List.length_map]; omega) _).trans ?_
  refine (lines_p1 (by omega) _ _ _ _ _ _ _).trans ?_
  rw [nl_flat 1 hA]
  refine (c_npos rfl).trans ?_
  refine (c_npos rfl).trans ?_
  refine (c_npos rfl).trans ?_
  refine (c_npos (by omega)).trans ?_
  have q1 : stm 0 (A ++ us) = stm 0 A ++ stm A.length us := by rw [stm_app, Nat.zero_add]
  have q2 : stm 0 (A ++ ([([], []), ([32, 32, 35, 32, 110, 111, 116, 104, 105, 110, 103], [])] ++ us)) = stm 0 A ++ (stm A.length us).map shS := by
    rw [stm_app, Nat.zero_add, ← stm_shift]
    rfl
  rw [q1, q2]
  have hlen : (stm 0 A ++ (stm A.length us).map shS).length = (stm 0 A ++ stm A.length us).length := by simp
  refine (c_npos (by omega)).trans ?_
  have hl1 := stm_len 0 A
  have hl2 := stm_len A.length us
  have hgA : ∀ s ∈ stm 0 A, s.2.length ≤ 100 ∧ (0 ≤ s.1 ∧ s.1 ≤ 1000) := fun s hs => by have := stm_mem hA hs; exact ⟨this.1, by omega, by omega⟩
  have hgU : ∀ s ∈ stm A.length us, s.2.length ≤ 100 ∧ (0 ≤ s.1 ∧ s.1 ≤ 1000) := fun s hs => by have := stm_mem hu hs; exact ⟨this.1, by omega, by omega⟩
  refine (lines_p2 hlen (by rw [List.length_append]; omega) (fun i hi => ?_) _ _).trans ?_
  · rw [List.length_append] at hi
    by_cases h : i < (stm 0 A).length
    · have e1 : (stm 0 A ++ (stm A.length us).map shS).getD i (0, []) = (stm 0 A)[i] := by simp [List.getD, List.getElem?_append_left h, h]
      have e2 : (stm 0 A ++ stm A.length us).getD i (0, []) = (stm 0 A)[i] := by simp [List.getD, List.getElem?_append_left h, h]
      rw [e1, e2]
      have := hgA _ (List.getElem_mem h)
      exact ⟨rfl, this.1, this.2, Or.inl rfl⟩
    · obtain ⟨j, rfl⟩ : ∃ j, i = (stm 0 A).length + j := ⟨i - (stm 0 A).length, by omega⟩
      have hj : j < (stm A.length us).length := by omega
      have e1 : (stm 0 A ++ (stm A.length us).map shS).getD ((stm 0 A).length + j) (0, []) = shS (stm A.length us)[j] := by simp [List.getD, List.getElem?_append_right, hj]
      have e2 : (stm 0 A ++ stm A.length us).getD ((stm 0 A).length + j) (0, []) = (stm A.length us)[j] := by simp [List.getD, List.getElem?_append_right, hj]
      rw [e1, e2]
      have := hgU _ (List.getElem_mem hj)
      exact ⟨rfl, this.1, this.2, Or.inr rfl⟩
  · exact sane07 _
theorem syntaxLines (t : List Int) (k : Bool → Option β) : zqsv t k = k true := by
  unfold zqsv zqsi
  refine (light_eq t _).trans ?_
  by_cases hl : (t.length : Int) ≤ 500
  · rw [decide_eq_true hl]
    refine c_f.trans ?_
    refine (roll_eq t _).trans ?_
    obtain ⟨a, d1, ha, hd1, f1⟩ := draw_ok (roll_ok hl)
    obtain ⟨b, d2, hb, hd2, f2⟩ := draw_ok hd1
    refine (f1 _).trans ?_
    refine (f2 _).trans ?_
    obtain ⟨ps, hp, hpl, h⟩ := ha
    have hf : ∀ p ∈ ps, Fine p := fun p g => (hp p g).1
    have hfl := flatL_len hf
    have fin : ∀ o : List UInt8, a = o ++ [10] → a.length ≤ 2000 → ∀ {x y : Option β}, cond (decide (0 ≤ IntKind.i64.wrap ((a.length : Int) - 1)) && decide (IntKind.i64.wrap ((a.length : Int) - 1) < (a.length : Int))) (cond (!decide (((a.getD (IntKind.i64.wrap ((a.length : Int) - 1)).toNat 0).toNat : Int) = 10)) x y) none = y := by
      intro o ho hle x y
      have hlen : a.length = o.length + 1 := by rw [ho]; simp
      rw [i64_in ((a.length : Int) - 1) (by omega)]
      refine (c_inb (by omega)).trans ?_
      have : a.getD ((a.length : Int) - 1).toNat 0 = 10 := by
        rw [show ((a.length : Int) - 1).toNat = o.length by omega, ho]
        simp [List.getD]
      rw [this]
      exact c_npos (by decide)
    rcases h with h | ⟨q, hq, h⟩
    · by_cases he : ps = []
      · have ha0 : a = [] := by rw [h, he]; rfl
        refine (c_npos ha0).trans ?_
        rw [h]
        exact lines_p3 hf (by omega) hb k
      · obtain ⟨o, ho⟩ := flat_last he
        refine (c_nneg (by rw [h, ho]; simp)).trans ?_
        refine (fin o (h.trans ho) (by rw [h]; omega)).trans ?_
        rw [h]
        exact lines_p3 hf (by omega) hb k
    · by_cases hq0 : q.1 = []
      · have h : a = flatL ps := by rw [h, hq0, List.append_nil]
        by_cases he : ps = []
        · have ha0 : a = [] := by rw [h, he]; rfl
          refine (c_npos ha0).trans ?_
          rw [h]
          exact lines_p3 hf (by omega) hb k
        · obtain ⟨o, ho⟩ := flat_last he
          refine (c_nneg (by rw [h, ho]; simp)).trans ?_
          refine (fin o (h.trans ho) (by rw [h]; omega)).trans ?_
          rw [h]
          exact lines_p3 hf (by omega) hb k
      · have hqf := hq.1
        have hql := hqf.len
        have hlen : a.length = (flatL ps).length + q.1.length := by rw [h, List.length_append]
        have hqp : 0 < q.1.length := List.length_pos_iff.2 hq0
        refine (c_nneg (by rw [h]; simp [hq0])).trans ?_
        rw [i64_in ((a.length : Int) - 1) (by omega)]
        refine (c_inb (by omega)).trans ?_
        have hlast : a.getD ((a.length : Int) - 1).toNat 0 ∈ q.1 := by
          have e : ((a.length : Int) - 1).toNat = (flatL ps).length + (q.1.length - 1) := by omega
          rw [e, h, List.getD_eq_getElem?_getD, List.getElem?_append_right (by omega), show (flatL ps).length + (q.1.length - 1) - (flatL ps).length = q.1.length - 1 by omega, List.getElem?_eq_getElem (by omega)]
          exact List.getElem_mem _
        have hne := hqf.nonl _ hlast
        refine (c_nneg (fun e => hne (UInt8.toNat_inj.1 (by show _ = 10; omega)))).trans ?_
        refine (c_pos (by simp only [List.length_cons, List.length_nil]; omega)).trans ?_
        have e : a ++ [10] = flatL (ps ++ [q]) := by rw [h, flatL_app]; simp [flatL]
        rw [e]
        exact lines_p3 (fun p hp' => (List.mem_append.1 hp').elim (hf p) fun g => by rw [List.mem_singleton] at g; rw [g]; exact hqf) (by rw [List.length_append]; simp only [List.length_cons, List.length_nil]; omega) hb k
  · rw [decide_eq_false hl]
    refine c_t.trans ?_
    exact sane07 _
end
end
end Go.Lift
