/- ReviewAdds in plain Lean: sums and sorted rows. -/
import Derived.Test.YtmghopaimcoloaaFn0
import Derived.Test.YtmghopaimcoloaaLBase
import Derived.Test.YtmghopaimcoloaaLDice
import Derived.Test.YtmghopaimcoloaaLReview
import Derived.Test.YtmghopaimcoloaaLReview2
import Derived.Test.YtmghopaimcoloaaLReview3
namespace Go.Lift
open Go.RowKit Go.IntWalk
noncomputable section
set_option linter.unusedVariables false
set_option linter.unusedSimpArgs false

theorem sumR_from : ∀ (l : List Rg) (p : Rg), l.foldl (fun p r => (p.1 + r.1, p.2 + r.2)) p = (p.1 + (sumR l).1, p.2 + (sumR l).2)
  | [], p => by simp [sumR]
  | r :: l, p => by
    simp only [sumR, List.foldl_cons]
    rw [sumR_from l, sumR_from l (0 + r.1, 0 + r.2)]
    simp only [Prod.mk.injEq]
    omega

theorem sumR_append (a b : List Rg) : sumR (a ++ b) = ((sumR a).1 + (sumR b).1, (sumR a).2 + (sumR b).2) := by
  unfold sumR
  rw [List.foldl_append, sumR_from b]
  rfl

theorem sort_sorted (l : List Int) : (sortInts l).Pairwise (fun x y => x ≤ y) := by
  have := List.pairwise_mergeSort (le := fun x y : Int => decide (x ≤ y)) (fun a b c h1 h2 => by simp at *; omega) (fun a b => by simp; omega) l
  exact this.imp fun h => by simpa using h

theorem sort_perm (l : List Int) : (sortInts l).Perm l := List.mergeSort_perm l _

theorem sort_eq {a b : List Int} (h : a.Perm b) : sortInts a = sortInts b :=
  List.Perm.eq_of_pairwise (fun x y _ _ h1 h2 => Int.le_antisymm h1 h2) (sort_sorted a) (sort_sorted b) ((sort_perm a).trans (h.trans (sort_perm b).symm))

/-! ### The least and the greatest -/
theorem sort_first {l : List Int} (hl : 1 ≤ l.length) : (sortInts l).getD 0 0 ∈ l ∧ ∀ x ∈ l, (sortInts l).getD 0 0 ≤ x := by
  have hlen : (sortInts l).length = l.length := List.length_mergeSort l
  have hs := sort_sorted l
  have hp := sort_perm l
  cases hq : sortInts l with
  | nil => rw [hq] at hlen; simp at hlen; omega
  | cons y r =>
    rw [hq] at hs hp
    have e : (y :: r).getD 0 0 = y := rfl
    rw [e]
    refine ⟨hp.mem_iff.1 (by simp), fun x hx => ?_⟩
    rcases List.mem_cons.1 (hp.mem_iff.2 hx) with h | h
    · omega
    · exact (List.pairwise_cons.1 hs).1 x h

theorem foldl_min : ∀ (l : List Int) (a : Int), (l.foldl (fun m x => if x < m then x else m) a) ∈ a :: l ∧ ∀ x ∈ a :: l, (l.foldl (fun m x => if x < m then x else m) a) ≤ x
  | [], a => by simp
  | y :: l, a => by
    obtain ⟨h1, h2⟩ := foldl_min l (if y < a then y else a)
    simp only [List.foldl_cons]
    have h3 := h2 (if y < a then y else a) (by simp)
    have h4 : (if y < a then y else a) ≤ y ∧ (if y < a then y else a) ≤ a := by split <;> omega
    refine ⟨?_, fun x hx => ?_⟩
    · rcases List.mem_cons.1 h1 with h | h
      · rw [h]; split <;> simp
      · simp [h]
    · rcases List.mem_cons.1 hx with h | h
      · omega
      · rcases List.mem_cons.1 h with h | h
        · omega
        · exact h2 x (by simp [h])

theorem sort_last {l : List Int} (hl : 1 ≤ l.length) : (sortInts l).getD (l.length - 1) 0 ∈ l ∧ ∀ x ∈ l, x ≤ (sortInts l).getD (l.length - 1) 0 := by
  have hlen : (sortInts l).length = l.length := List.length_mergeSort l
  have hs := sort_sorted l
  have hp := sort_perm l
  have hi : l.length - 1 < (sortInts l).length := by omega
  have e : (sortInts l).getD (l.length - 1) 0 = (sortInts l)[l.length - 1] := by rw [List.getD, List.getElem?_eq_getElem hi]; rfl
  rw [e]
  refine ⟨hp.mem_iff.1 (List.getElem_mem hi), fun x hx => ?_⟩
  obtain ⟨j, hj, hx⟩ := List.getElem_of_mem (hp.mem_iff.2 hx)
  by_cases hjl : j = l.length - 1
  · subst hjl; omega
  · have := List.pairwise_iff_getElem.1 hs j (l.length - 1) hj hi (by omega)
    omega

theorem foldl_max : ∀ (l : List Int) (a : Int), (l.foldl (fun m x => if x > m then x else m) a) ∈ a :: l ∧ ∀ x ∈ a :: l, x ≤ (l.foldl (fun m x => if x > m then x else m) a)
  | [], a => by simp
  | y :: l, a => by
    obtain ⟨h1, h2⟩ := foldl_max l (if y > a then y else a)
    simp only [List.foldl_cons]
    have h3 := h2 (if y > a then y else a) (by simp)
    have h4 : y ≤ (if y > a then y else a) ∧ a ≤ (if y > a then y else a) := by split <;> omega
    refine ⟨?_, fun x hx => ?_⟩
    · rcases List.mem_cons.1 h1 with h | h
      · rw [h]; split <;> simp
      · simp [h]
    · rcases List.mem_cons.1 hx with h | h
      · omega
      · rcases List.mem_cons.1 h with h | h
        · omega
        · exact h2 x (by simp [h])

/-- The least of a list is the first of it sorted. -/
theorem least_eq {l : List Int} (hl : 1 ≤ l.length) : (sortInts l).getD 0 0 = l.foldl (fun m x => if x < m then x else m) (l.getD 0 0) := by
  obtain ⟨h1, h2⟩ := sort_first hl
  obtain ⟨h3, h4⟩ := foldl_min l (l.getD 0 0)
  have h0 : l.getD 0 0 ∈ l := by
    have : l.getD 0 0 = l[0] := by simp [List.getD, show 0 < l.length by omega]
    rw [this]; exact List.getElem_mem _
  have h5 := h4 _ (List.mem_cons_of_mem _ h1)
  have h6 : (l.foldl (fun m x => if x < m then x else m) (l.getD 0 0)) ∈ l := by
    rcases List.mem_cons.1 h3 with h | h
    · rw [h]; exact h0
    · exact h
  have h7 := h2 _ h6
  omega

theorem most_eq {l : List Int} (hl : 1 ≤ l.length) : (sortInts l).getD (l.length - 1) 0 = l.foldl (fun m x => if x > m then x else m) (l.getD 0 0) := by
  obtain ⟨h1, h2⟩ := sort_last hl
  obtain ⟨h3, h4⟩ := foldl_max l (l.getD 0 0)
  have h0 : l.getD 0 0 ∈ l := by
    have : l.getD 0 0 = l[0] := by simp [List.getD, show 0 < l.length by omega]
    rw [this]; exact List.getElem_mem _
  have h5 := h4 _ (List.mem_cons_of_mem _ h1)
  have h6 : (l.foldl (fun m x => if x > m then x else m) (l.getD 0 0)) ∈ l := by
    rcases List.mem_cons.1 h3 with h | h
    · rw [h]; exact h0
    · exact h
  have h7 := h2 _ h6
  omega
end
end Go.Lift
