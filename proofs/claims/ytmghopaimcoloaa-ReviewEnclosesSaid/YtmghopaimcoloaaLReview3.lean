/- Chapter 42: the examples. -/
import Derived.Test.YtmghopaimcoloaaFn0
import Derived.Test.YtmghopaimcoloaaLBase
import Derived.Test.YtmghopaimcoloaaLDice
import Derived.Test.YtmghopaimcoloaaLReview
import Derived.Test.YtmghopaimcoloaaLReview2
namespace Go.Lift
open Go.RowKit Go.IntWalk
noncomputable section
set_option linter.unusedVariables false
set_option linter.unusedSimpArgs false
set_option maxRecDepth 10000

theorem so1 : sortInts [1, 2] = [1, 2] := by simp [sortInts, List.mergeSort, List.MergeSort.Internal.splitInTwo]
theorem so2 : sortInts [3, 2] = [2, 3] := by simp [sortInts, List.mergeSort, List.MergeSort.Internal.splitInTwo]

section
variable {β : Type}
theorem mean42 (k : Rg → Rg → Int → Option β) : review_Mean [(1, 3), (2, 2)] k = k (3, 2) (5, 2) 0 := by kernel_rfl
theorem sum42 (k : Rg → Int → Option β) : review_Sum [(1, 3), (2, 2)] k = k (3, 5) 0 := by kernel_rfl
theorem rank42 (k : Rg → Int → Option β) : review_Rank [(1, 3), (2, 2)] 1 2 k = k (1, 2) 0 := by
  have hr : rankAt (([(1, 3), (2, 2)] : List Rg).length : Int) 1 2 = 1 := by decide
  have h : RgsOk [(1, 3), (2, 2)] := ⟨by simp, by simp⟩
  rw [vRank h (by omega) (by omega) (by simp) (by rw [hr]; simp) k, hr]
  show k ((sortInts [1, 2]).getD 0 0, (sortInts [3, 2]).getD 0 0) 0 = _
  rw [so1, so2]
  rfl

theorem sane42g {c1 : T_review_Mean} {c2 : T_review_Rank} {c3 : T_review_Sum} {k : Bool → Option β} (h1 : ∀ k, (c1 [(1, 3), (2, 2)] k : Option β) = k (3, 2) (5, 2) 0) (h2 : ∀ k, (c2 [(1, 3), (2, 2)] 1 2 k : Option β) = k (1, 2) 0) (h3 : ∀ k, (c3 [(1, 3), (2, 2)] k : Option β) = k (3, 5) 0) :
    law42_sane_s c1 c2 c3 k = k true := by
  unfold law42_sane_s
  refine (h3 _).trans ?_
  refine (h1 _).trans ?_
  refine (h2 _).trans ?_
  rfl

theorem sane42 (k : Bool → Option β) : law42_sane k = k true := by
  unfold law42_sane
  exact sane42g (fun k => mean42 k) (fun k => rank42 k) (fun k => sum42 k)
end
end
end Go.Lift
