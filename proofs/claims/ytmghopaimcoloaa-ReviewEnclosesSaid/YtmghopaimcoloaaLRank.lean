/- Order statistics of two lists, one below the other. -/
import Derived.Test.YtmghopaimcoloaaFn0
import Derived.Test.YtmghopaimcoloaaLBase
import Derived.Test.YtmghopaimcoloaaLDice
import Derived.Test.YtmghopaimcoloaaLReview
import Derived.Test.YtmghopaimcoloaaLReview2
import Derived.Test.YtmghopaimcoloaaLReview3
import Derived.Test.YtmghopaimcoloaaLReview4
namespace Go.Lift
open Go.RowKit Go.IntWalk
noncomputable section
set_option linter.unusedVariables false
set_option linter.unusedSimpArgs false

theorem getD_get' {α : Type} {s : List α} {d : α} {i : Nat} (h : i < s.length) : s.getD i d = s[i] := by rw [List.getD, List.getElem?_eq_getElem h]; rfl
theorem getD_get {s : List Int} {i : Nat} (h : i < s.length) : s.getD i 0 = s[i] := by rw [List.getD, List.getElem?_eq_getElem h]; rfl

theorem sorted_count : ∀ {s : List Int}, s.Pairwise (fun x y => x ≤ y) → ∀ {i : Nat} (v : Int), i < s.length → (s.getD i 0 ≤ v ↔ i < s.countP (fun x => decide (x ≤ v)))
  | [], _, i, v, h => by simp at h
  | y :: r, hs, i, v, h => by
    obtain ⟨h1, h2⟩ := List.pairwise_cons.1 hs
    by_cases hy : y ≤ v
    · have hc : (y :: r).countP (fun x => decide (x ≤ v)) = r.countP (fun x => decide (x ≤ v)) + 1 := List.countP_cons_of_pos (by simpa using hy)
      rw [hc]
      cases i with
      | zero => simp [hy]
      | succ i =>
        have h3 := sorted_count h2 (i := i) v (by simpa using h)
        simp only [List.getD_cons_succ]
        omega
    · have hz : (y :: r).countP (fun x => decide (x ≤ v)) = 0 := List.countP_eq_zero.2 fun x hx => by
        rcases List.mem_cons.1 hx with rfl | hx
        · simpa using hy
        · have := h1 x hx
          simp; omega
      rw [hz]
      have hm : (y :: r).getD i 0 ∈ y :: r := by
        rw [getD_get h]; exact List.getElem_mem _
      have : y ≤ (y :: r).getD i 0 := by
        rcases List.mem_cons.1 hm with e | hm
        · omega
        · exact h1 _ hm
      omega

theorem count_below : ∀ {a b : List Int} (v : Int), a.length = b.length → (∀ i, i < a.length → a.getD i 0 ≤ b.getD i 0) → b.countP (fun x => decide (x ≤ v)) ≤ a.countP (fun x => decide (x ≤ v))
  | [], [], v, _, _ => Nat.le_refl _
  | x :: a, y :: b, v, hl, h => by
    have h0 := h 0 (by simp)
    simp only [List.getD_cons_zero] at h0
    have ih := count_below (a := a) (b := b) v (by simpa using hl) fun i hi => by simpa using h (i + 1) (by simpa using hi)
    by_cases hy : y ≤ v
    · rw [List.countP_cons_of_pos (by simpa using hy), List.countP_cons_of_pos (by simp; omega)]
      omega
    · rw [List.countP_cons_of_neg (by simpa using hy)]
      have := List.countP_cons (p := fun x => decide (x ≤ v)) (a := x) (l := a)
      omega
  | [], _ :: _, _, hl, _ => by simp at hl
  | _ :: _, [], _, hl, _ => by simp at hl

theorem length_sort (l : List Int) : (sortInts l).length = l.length := List.length_mergeSort l

/-- The i-th least of a list that lies below another one. -/
theorem sort_below {a b : List Int} (hl : a.length = b.length) (h : ∀ i, i < a.length → a.getD i 0 ≤ b.getD i 0) {i : Nat} (hi : i < a.length) : (sortInts a).getD i 0 ≤ (sortInts b).getD i 0 := by
  have h1 := (sorted_count (sort_sorted b) (i := i) ((sortInts b).getD i 0) (by rw [length_sort]; omega)).1 (Int.le_refl _)
  rw [(sort_perm b).countP_eq] at h1
  refine (sorted_count (sort_sorted a) (i := i) _ (by rw [length_sort]; omega)).2 ?_
  rw [(sort_perm a).countP_eq]
  exact Nat.lt_of_lt_of_le h1 (count_below _ hl h)

/-- Later elements of a sorted list are no less. -/
theorem sort_mono (l : List Int) {i j : Nat} (hij : i ≤ j) (hj : j < l.length) : (sortInts l).getD i 0 ≤ (sortInts l).getD j 0 := by
  have hlen := length_sort l
  have e1 : (sortInts l).getD i 0 = (sortInts l)[i]'(by omega) := getD_get _
  have e2 : (sortInts l).getD j 0 = (sortInts l)[j]'(by omega) := getD_get _
  rw [e1, e2]
  rcases Nat.lt_or_ge i j with h | h
  · exact List.pairwise_iff_getElem.1 (sort_sorted l) i j (by omega) (by omega) h
  · have : i = j := by omega
    subst this
    exact Int.le_refl _

/-! ### A number put into a sorted list -/
theorem ins_perm (s : List Int) (k : Nat) (n : Int) : (s.take k ++ n :: s.drop k).Perm (n :: s) := by
  have h : (s.take k ++ n :: s.drop k).Perm (n :: (s.take k ++ s.drop k)) := List.perm_middle
  rwa [List.take_append_drop] at h

theorem ins_sorted {s : List Int} (hs : s.Pairwise (fun x y => x ≤ y)) {k : Nat} {n : Int} (hk : k ≤ s.length) (h1 : ∀ j, k ≤ j → j < s.length → n < s.getD j 0) (h2 : k = 0 ∨ s.getD (k - 1) 0 ≤ n) : (s.take k ++ n :: s.drop k).Pairwise (fun x y => x ≤ y) := by
  have hget : ∀ j (hj : j < s.length), s.getD j 0 = s[j] := fun j hj => getD_get hj
  have ha : ∀ a ∈ s.take k, a ≤ n := fun a hm => by
    obtain ⟨j, hj, rfl⟩ := List.getElem_of_mem hm
    rw [List.length_take] at hj
    rw [List.getElem_take]
    rcases h2 with h2 | h2
    · omega
    · rw [hget (k - 1) (by omega)] at h2
      rcases Nat.lt_or_ge j (k - 1) with h3 | h3
      · have := List.pairwise_iff_getElem.1 hs j (k - 1) (by omega) (by omega) h3
        omega
      · have : j = k - 1 := by omega
        subst this
        exact h2
  have hb : ∀ b ∈ s.drop k, n ≤ b := fun b hm => by
    obtain ⟨j, hj, rfl⟩ := List.getElem_of_mem hm
    rw [List.length_drop] at hj
    rw [List.getElem_drop]
    have := h1 (k + j) (by omega) (by omega)
    rw [hget _ (by omega)] at this
    omega
  refine List.pairwise_append.2 ⟨hs.sublist (List.take_sublist _ _), List.pairwise_cons.2 ⟨hb, hs.sublist (List.drop_sublist _ _)⟩, fun a hm b hm2 => ?_⟩
  rcases List.mem_cons.1 hm2 with rfl | hm2
  · exact ha a hm
  · exact Int.le_trans (ha a hm) (hb b hm2)

/-- The idiom: append a zero, copy what lies behind, write the number. -/
theorem ins_idiom (s : List Int) (k : Nat) (n : Int) (hk : k ≤ s.length) :
    List.set (List.take (k + 1) (s ++ [0]) ++ (List.take ((s ++ [0]).length - (k + 1)) (List.drop k (List.take (s ++ [0]).length (s ++ [0]))) ++ List.drop ((k + 1) + Nat.min (List.drop k (List.take (s ++ [0]).length (s ++ [0]))).length ((s ++ [0]).length - (k + 1))) (s ++ [0]))) k n = s.take k ++ n :: s.drop k := by
  have hl : (s ++ [(0 : Int)]).length = s.length + 1 := by simp
  have e0 : List.take (s ++ [(0 : Int)]).length (s ++ [0]) = s ++ [0] := List.take_length
  have e1 : List.drop k (s ++ [(0 : Int)]) = s.drop k ++ [0] := List.drop_append_of_le_length hk
  have e2 : List.take ((s ++ [(0 : Int)]).length - (k + 1)) (s.drop k ++ [0]) = s.drop k := by
    rw [hl, List.take_append_of_le_length (by simp), List.take_of_length_le (by simp)]
  have e3 : List.drop ((k + 1) + Nat.min (s.drop k ++ [(0 : Int)]).length ((s ++ [(0 : Int)]).length - (k + 1))) (s ++ [0]) = [] := by
    have hmin : Nat.min (s.drop k ++ [(0 : Int)]).length ((s ++ [(0 : Int)]).length - (k + 1)) = s.length - k := by
      rw [hl]
      have : (s.drop k ++ [(0 : Int)]).length = s.length - k + 1 := by simp
      rw [this]
      exact (Nat.min_eq_right (by omega)).trans (by omega)
    rw [hmin]
    exact List.drop_of_length_le (by rw [hl]; omega)
  rw [e0, e1, e2, e3, List.append_nil]
  have e4 : List.take (k + 1) (s ++ [(0 : Int)]) = s.take k ++ [(s ++ [0]).getD k 0] := by
    have hk2 : k < (s ++ [(0 : Int)]).length := by rw [hl]; omega
    rw [List.take_succ_eq_append_getElem hk2, List.take_append_of_le_length hk]
    simp [List.getD, List.getElem?_eq_getElem hk2]
  rw [e4, List.append_assoc, List.set_append_right _ _ (by simp; omega)]
  have : k - (s.take k).length = 0 := by simp; omega
  rw [this]
  rfl
end
end Go.Lift
