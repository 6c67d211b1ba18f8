/- constraint.Valid and constraint.direct in plain Lean. -/
import Derived.Test.YtamnjokpncjbfaaFn1
import Derived.Test.YtamnjokpncjbfaaLBase
import Derived.Test.YtamnjokpncjbfaaLMat
import Derived.Test.YtamnjokpncjbfaaLClose
namespace Go.Lift
open Go.RowKit Go.IntWalk
noncomputable section
set_option linter.unusedVariables false
set_option linter.unusedSimpArgs false
set_option maxRecDepth 10000

abbrev Diff := Int × (Int × Int)
section
variable {β : Type}
theorem constraint_in_eq (n low high : Int) (k : Bool → Option β) : constraint_in n low high k = k (decide (low ≤ n) && decide (n ≤ high)) := by
  unfold constraint_in constraint_in_s
  by_cases h : low ≤ n <;> simp [h]

def diffOk (n : Nat) (d : Diff) : Bool := decide (0 ≤ d.1 ∧ d.1 < n ∧ 0 ≤ d.2.1 ∧ d.2.1 < n ∧ -17179869184 ≤ d.2.2 ∧ d.2.2 ≤ 17179869184)

theorem Valid_f1_eq {n : Nat} (hn : n ≤ 100) (d : Diff) (k : Bool → Int → Option β) : constraint_Valid_f1 d (n : Int) k = k (!diffOk n d) (n : Int) := by
  have e1 : IntKind.i64.wrap ((n : Int) - 1) = n - 1 := i64_in _ (by omega)
  unfold constraint_Valid_f1 constraint_Valid_f1_s
  simp only [constraint_in_eq, e1]
  unfold diffOk
  by_cases h1 : 0 ≤ d.1 ∧ d.1 ≤ (n : Int) - 1
  · rw [decide_eq_true h1.1, decide_eq_true h1.2]
    simp only [Bool.and_self, Bool.not_true, cond_false]
    by_cases h2 : 0 ≤ d.2.1 ∧ d.2.1 ≤ (n : Int) - 1
    · rw [decide_eq_true h2.1, decide_eq_true h2.2]
      simp only [Bool.and_self, Bool.not_true, cond_false]
      congr 1
      congr 1
      rw [← Bool.decide_and]
      exact decide_eq_decide.2 (by omega)
    · rw [show (decide (0 ≤ d.2.1) && decide (d.2.1 ≤ (n : Int) - 1)) = false by rw [← Bool.decide_and]; exact decide_eq_false h2]
      simp only [Bool.not_false, cond_true]
      congr 1
      rw [decide_eq_false (by omega)]
      rfl
  · rw [show (decide (0 ≤ d.1) && decide (d.1 ≤ (n : Int) - 1)) = false by rw [← Bool.decide_and]; exact decide_eq_false h1]
    simp only [Bool.not_false, cond_true]
    congr 1
    rw [decide_eq_false (by omega)]
    rfl

theorem any_eq {n : Nat} (hn : n ≤ 100) {l : List Diff} (hl : l.length ≤ 100000) (k : Bool → Int → Option β) :
    slices_ContainsFunc_api_Diff_api_Diff_vconstraint_Valid_f1 l (n : Int) k = k (!l.all (diffOk n)) (n : Int) := by
  unfold slices_ContainsFunc_api_Diff_api_Diff_vconstraint_Valid_f1 slices_ContainsFunc_api_Diff_api_Diff_vconstraint_Valid_f1_s
  unfold slices_IndexFunc_api_Diff_api_Diff_vconstraint_Valid_f1 slices_IndexFunc_api_Diff_api_Diff_vconstraint_Valid_f1_s
  unfold slices_IndexFunc_api_Diff_api_Diff_vconstraint_Valid_f1_p1
  refine (check_loop (fun f j => slices_IndexFunc_api_Diff_api_Diff_vconstraint_Valid_f1_p1_n f (fun (t4 : Int) (b0_2 : Int) => k (decide ((0 : Int) ≤ t4)) b0_2) (fun (b0_2 : Int) => k (decide ((0 : Int) ≤ -1)) b0_2) l (l.length : Int) j (n : Int)) (diffOk n) (k true (n : Int)) (k false (n : Int)) ((0 : Int), ((0 : Int), (0 : Int))) l fuel (lt_fuel (by omega))
    (fun f j hj => ?_) (fun f => ?_)).trans ?_
  · have e1 : IntKind.i64.wrap ((j : Int) + 1) = j + 1 := i64_in _ (by omega)
    rw [slices_IndexFunc_api_Diff_api_Diff_vconstraint_Valid_f1_p1_step]
    unfold slices_IndexFunc_api_Diff_api_Diff_vconstraint_Valid_f1_p1_s
    refine (c_pos (by omega)).trans ?_
    refine (c_inb (by omega)).trans ?_
    simp only [Int.toNat_natCast, e1]
    refine (Valid_f1_eq hn _ _).trans ?_
    cases h : diffOk n (l.getD j ((0 : Int), ((0 : Int), (0 : Int)))) with
    | true => simp
    | false => simp
  · rw [slices_IndexFunc_api_Diff_api_Diff_vconstraint_Valid_f1_p1_step]
    unfold slices_IndexFunc_api_Diff_api_Diff_vconstraint_Valid_f1_p1_s
    refine (c_neg (by omega)).trans ?_
    simp
  · cases l.all (diffOk n) <;> rfl

def validD (n : Nat) (l : List Diff) : Bool := decide (l.length ≤ 4000) && l.all (diffOk n)

theorem Valid_eq {n : Nat} (h1 : 1 ≤ n) (hn : n ≤ 41) {l : List Diff} (k : Bool → Option β) : constraint_Valid (n : Int) l k = k (validD n l) := by
  unfold constraint_Valid constraint_Valid_s
  refine (constraint_in_eq _ _ _ _).trans ?_
  rw [decide_eq_true (show (1 : Int) ≤ n by omega), decide_eq_true (show (n : Int) ≤ 41 by omega)]
  simp only [Bool.and_self, Bool.not_true, cond_false]
  unfold validD
  by_cases hl : l.length ≤ 4000
  · refine (c_neg (by omega)).trans ?_
    refine (any_eq (by omega) (by omega) _).trans ?_
    rw [decide_eq_true hl]
    simp
  · refine (c_pos (by omega)).trans ?_
    rw [decide_eq_false hl]
    rfl
end
end
end Go.Lift
