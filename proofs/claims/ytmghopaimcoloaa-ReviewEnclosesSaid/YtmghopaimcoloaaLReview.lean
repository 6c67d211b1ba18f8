/- Chapter 42's functions on ranges, in plain Lean. -/
import Derived.Test.YtmghopaimcoloaaFn0
import Derived.Test.YtmghopaimcoloaaLBase
import Derived.Test.YtmghopaimcoloaaLDice
namespace Go.Lift
open Go.RowKit Go.IntWalk
noncomputable section
set_option linter.unusedVariables false
set_option linter.unusedSimpArgs false
set_option maxRecDepth 10000

abbrev Rg := Int × Int
abbrev rd0 : Rg := (0, 0)
/-- Ranges that pass their check, and are few. -/
structure RgsOk (l : List Rg) : Prop where
  few : l.length ≤ 200
  ok : ∀ r ∈ l, 0 ≤ r.1 ∧ r.1 ≤ r.2 ∧ r.2 ≤ 1000000

theorem RgsOk.getD {l : List Rg} (h : RgsOk l) {i : Nat} (hi : i < l.length) : 0 ≤ (l.getD i rd0).1 ∧ (l.getD i rd0).1 ≤ (l.getD i rd0).2 ∧ (l.getD i rd0).2 ≤ 1000000 := by
  have : l.getD i rd0 = l[i] := by simp [List.getD, hi]
  rw [this]
  exact h.ok _ (List.getElem_mem hi)

theorem RgsOk.append {a b : List Rg} (ha : RgsOk a) (hb : RgsOk b) (h : a.length + b.length ≤ 200) : RgsOk (a ++ b) :=
  ⟨by simpa using h, fun r hr => (List.mem_append.1 hr).elim (ha.ok r) (hb.ok r)⟩

section
variable {β : Type}
theorem vin_t {n lo hi : Int} {k : Bool → Option β} (h : lo ≤ n ∧ n ≤ hi) : review_in n lo hi k = k true := by
  simp (disch := omega) only [review_in, review_in_s, c_pos]
  rw [decide_eq_true h.2]

theorem vindex {l : List Rg} (h : RgsOk l) (k1 : slices_IndexFunc_api_Range_api_Range_vreview_check_f1_p1_K1 β) (k2 : slices_IndexFunc_api_Range_api_Range_vreview_check_f1_p1_K2 β) :
    slices_IndexFunc_api_Range_api_Range_vreview_check_f1_p1 k1 k2 l (l.length : Int) 0 = k2 () := by
  have hf := h.few
  refine fold_loop (σ := Unit) (fun m i _ => slices_IndexFunc_api_Range_api_Range_vreview_check_f1_p1_n m k1 k2 l (l.length : Int) i) (fun _ _ => ()) (fun _ => k2 ()) rd0 l () fuel (lt_fuel (by omega)) (fun m i s hi => ?_) (fun m s => ?_)
  · obtain ⟨e, hee, h1, h2, h3⟩ : ∃ e, l.getD i rd0 = e ∧ 0 ≤ e.1 ∧ e.1 ≤ e.2 ∧ e.2 ≤ 1000000 := ⟨_, rfl, h.getD hi⟩
    simp only [slices_IndexFunc_api_Range_api_Range_vreview_check_f1_p1_step, slices_IndexFunc_api_Range_api_Range_vreview_check_f1_p1_s, review_check_f1, review_check_f1_s, Int.toNat_natCast, hee]
    rw [decide_eq_false (show ¬ (1099511627776 : Int) < e.2 by omega)]
    simp (disch := omega) only [c_pos, c_inb, vin_t, c_f, c_t, Bool.not_true, i64_in]
  · simp only [slices_IndexFunc_api_Range_api_Range_vreview_check_f1_p1_step, slices_IndexFunc_api_Range_api_Range_vreview_check_f1_p1_s]
    rw [c_neg (by omega)]

theorem vcheck {l : List Rg} (h : RgsOk l) (k : Int → Option β) : review_check l k = k 0 := by
  have hf := h.few
  unfold review_check review_check_s
  refine (c_neg (by omega)).trans ?_
  unfold slices_ContainsFunc_api_Range_api_Range_vreview_check_f1 slices_ContainsFunc_api_Range_api_Range_vreview_check_f1_s slices_IndexFunc_api_Range_api_Range_vreview_check_f1 slices_IndexFunc_api_Range_api_Range_vreview_check_f1_s
  exact vindex h _ _

def lows (l : List Rg) : List Int := l.map (·.1)
def highs (l : List Rg) : List Int := l.map (·.2)

theorem vsplit {l : List Rg} (hl : l.length ≤ 200) (k) : (review_split l k : Option β) = k (lows l) (highs l) := by
  have key := fold_loopI (fun i (p : List Int × List Int) => p.1.length = i ∧ p.2.length = i) (fun m i (p : List Int × List Int) => review_split_p1_n m (fun _ _ a b => k a b) l (l.length : Int) i [] [] p.1 p.2)
    (fun p r => (p.1 ++ [r.1], p.2 ++ [r.2])) (fun p => k p.1 p.2) rd0 l ([], []) fuel (lt_fuel (by omega)) ⟨rfl, rfl⟩
    (fun i p hi hp => by simp; omega)
    (fun m i p hi hp => by
      have e1 : IntKind.i64.wrap ((i : Int) + 1) = i + 1 := i64_in _ (by omega)
      simp only [review_split_p1_step, review_split_p1_s, Int.toNat_natCast]
      refine (c_pos (by omega)).trans ?_
      refine (c_inb (by omega)).trans ?_
      refine (c_room (by simp only [List.length_cons, List.length_nil]; omega)).trans ?_
      refine (c_room (by simp only [List.length_cons, List.length_nil]; omega)).trans ?_
      rw [e1])
    (fun m p hp => by
      simp only [review_split_p1_step, review_split_p1_s]
      rw [c_neg (by omega)])
  have hfold : ∀ (l : List Rg) (p : List Int × List Int), l.foldl (fun p r => (p.1 ++ [r.1], p.2 ++ [r.2])) p = (p.1 ++ lows l, p.2 ++ highs l) := by
    intro l
    induction l with
    | nil => intro p; simp [lows, highs]
    | cons r l ih => intro p; simp [ih, lows, highs]
  rw [hfold] at key
  unfold review_split review_split_s review_split_p1
  exact key

theorem vsort {l : List Rg} (hl : l.length ≤ 200) (k : List Int × List Int → Option β) : review_sort l k = k (sortInts (lows l), sortInts (highs l)) := by
  unfold review_sort review_sort_s
  refine (vsplit hl _).trans ?_
  refine (c_pos (by simp [lows]; omega)).trans ?_
  exact c_pos (by simp [highs]; omega)

def sumR (l : List Rg) : Rg := l.foldl (fun p r => (p.1 + r.1, p.2 + r.2)) (0, 0)

theorem vsum {l : List Rg} (h : RgsOk l) (k : Rg → Option β) : review_sum l k = k (sumR l) := by
  have hf := h.few
  have key := fold_loopI (fun i (p : Rg) => 0 ≤ p.1 ∧ p.1 ≤ 1000000 * i ∧ 0 ≤ p.2 ∧ p.2 ≤ 1000000 * i) (fun m i (p : Rg) => review_sum_p1_n m (fun _ _ a b => k (a, b)) l (l.length : Int) i 0 0 p.1 p.2)
    (fun p r => (p.1 + r.1, p.2 + r.2)) (fun p => k (p.1, p.2)) rd0 l (0, 0) fuel (lt_fuel (by omega)) (by simp)
    (fun i p hi hp => by have := h.getD hi; simp only; omega)
    (fun m i p hi hp => by
      have := h.getD hi
      have e1 : IntKind.i64.wrap ((i : Int) + 1) = i + 1 := i64_in _ (by omega)
      have e2 : IntKind.i64.wrap (p.1 + (l.getD i rd0).1) = p.1 + (l.getD i rd0).1 := i64_in _ (by omega)
      have e3 : IntKind.i64.wrap (p.2 + (l.getD i rd0).2) = p.2 + (l.getD i rd0).2 := i64_in _ (by omega)
      simp only [review_sum_p1_step, review_sum_p1_s, Int.toNat_natCast]
      refine (c_pos (by omega)).trans ?_
      refine (c_inb (by omega)).trans ?_
      rw [e1, e2, e3])
    (fun m p hp => by
      simp only [review_sum_p1_step, review_sum_p1_s]
      rw [c_neg (by omega)])
  unfold review_sum review_sum_s review_sum_p1
  exact key

theorem vSum {l : List Rg} (h : RgsOk l) (k : Rg → Int → Option β) : review_Sum l k = k (sumR l) 0 := by
  unfold review_Sum review_Sum_s
  refine (vcheck h _).trans ?_
  refine (c_npos (p := (0 : Int) = 0) rfl).trans ?_
  exact vsum h _

/-- The place of a rank. -/
def rankAt (n num den : Int) : Int := if Int.tdiv (num * n + den - 1) den > 1 then Int.tdiv (num * n + den - 1) den else 1

theorem vRank {l : List Rg} (h : RgsOk l) {num den : Int} (hd : 1 ≤ den ∧ den ≤ 1000) (hn : 0 ≤ num ∧ num ≤ den) (hl : 1 ≤ l.length) (hr : 1 ≤ rankAt l.length num den ∧ rankAt l.length num den ≤ l.length) (k : Rg → Int → Option β) :
    review_Rank l num den k = k ((sortInts (lows l)).getD (rankAt l.length num den - 1).toNat 0, (sortInts (highs l)).getD (rankAt l.length num den - 1).toNat 0) 0 := by
  have hf := h.few
  have b1 : 0 ≤ num * (l.length : Int) ∧ num * (l.length : Int) ≤ 1000 * 200 := ⟨Int.mul_nonneg hn.1 (by omega), Int.mul_le_mul (by omega) (by omega) (by omega) (by omega)⟩
  have b2 : 0 ≤ Int.tdiv (num * (l.length : Int) + den - 1) den ∧ Int.tdiv (num * (l.length : Int) + den - 1) den ≤ 1000000 := by
    rw [Int.tdiv_eq_ediv_of_nonneg (by omega)]
    refine ⟨Int.ediv_nonneg (by omega) (by omega), ?_⟩
    exact Int.le_trans (Int.ediv_le_self _ (by omega)) (by omega)
  have e1 : IntKind.i64.wrap (num * (l.length : Int)) = num * (l.length : Int) := i64_in _ (by omega)
  have e2 : IntKind.i64.wrap (num * (l.length : Int) + den) = num * (l.length : Int) + den := i64_in _ (by omega)
  have e3 : IntKind.i64.wrap (num * (l.length : Int) + den - 1) = num * (l.length : Int) + den - 1 := i64_in _ (by omega)
  have e4 : IntKind.i64.wrap (Int.tdiv (num * (l.length : Int) + den - 1) den) = Int.tdiv (num * (l.length : Int) + den - 1) den := i64_in _ (by omega)
  have e5 : IntKind.i64.wrap (rankAt l.length num den - 1) = rankAt l.length num den - 1 := i64_in _ (by omega)
  have hs1 : (sortInts (lows l)).length = l.length := by rw [show (sortInts (lows l)).length = (lows l).length from List.length_mergeSort _]; simp [lows]
  have hs2 : (sortInts (highs l)).length = l.length := by rw [show (sortInts (highs l)).length = (highs l).length from List.length_mergeSort _]; simp [highs]
  unfold review_Rank review_Rank_s
  refine (c_neg (by omega)).trans ?_
  refine (vcheck h _).trans ?_
  refine (c_npos (p := (0 : Int) = 0) rfl).trans ?_
  refine (vin_t (by omega)).trans ?_
  refine (vin_t (by omega)).trans ?_
  refine (c_nneg (by omega)).trans ?_
  simp only [e1, e2, e3, e4]
  refine (vsort hf _).trans ?_
  have hfold : (if Int.tdiv (num * (l.length : Int) + den - 1) den > 1 then Int.tdiv (num * (l.length : Int) + den - 1) den else 1) = rankAt l.length num den := rfl
  simp only [hfold, e5]
  refine (c_inb (by rw [hs1]; omega)).trans ?_
  exact c_inb (by rw [hs2]; omega)
end
end
end Go.Lift
