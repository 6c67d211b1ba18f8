/- Square matrices as lists of rows. -/
import Derived.Test.YtamnjokpncjbfaaLBase
namespace Go.Lift
open Go.RowKit Go.IntWalk
noncomputable section
set_option linter.unusedVariables false
set_option linter.unusedSimpArgs false

abbrev Mat := List (List Int)
def at2 (m : Mat) (i j : Nat) : Int := (m.getD i []).getD j 0
structure Sq (n : Nat) (m : Mat) : Prop where
  len : m.length = n
  row : ∀ i, i < n → (m.getD i []).length = n
def setAt (m : Mat) (i j : Nat) (v : Int) : Mat := m.set i ((m.getD i []).set j v)

theorem getD_set_eq {α : Type} {l : List α} {i : Nat} {v d : α} (h : i < l.length) : (l.set i v).getD i d = v := by simp [List.getD, h]
theorem getD_set_ne {α : Type} {l : List α} {i j : Nat} {v d : α} (h : i ≠ j) : (l.set i v).getD j d = l.getD j d := by simp [List.getD, List.getElem?_set_ne h]

theorem Sq.setAt {n : Nat} {m : Mat} (h : Sq n m) (i j : Nat) (v : Int) : Sq n (setAt m i j v) := by
  refine ⟨by simp [Go.Lift.setAt, h.len], fun a ha => ?_⟩
  by_cases hi : i = a
  · subst hi
    unfold Go.Lift.setAt
    rw [getD_set_eq (by rw [h.len]; exact ha), List.length_set]
    exact h.row i ha
  · unfold Go.Lift.setAt
    rw [getD_set_ne hi]
    exact h.row a ha

theorem at_setAt {n : Nat} {m : Mat} (h : Sq n m) {i j : Nat} (hi : i < n) (hj : j < n) (v : Int) (a b : Nat) : at2 (setAt m i j v) a b = if a = i ∧ b = j then v else at2 m a b := by
  unfold at2 setAt
  by_cases hai : i = a
  · subst hai
    rw [getD_set_eq (by rw [h.len]; exact hi)]
    by_cases hbj : j = b
    · subst hbj
      rw [getD_set_eq (by rw [h.row i hi]; exact hj), if_pos ⟨rfl, rfl⟩]
    · rw [getD_set_ne hbj, if_neg (fun h => hbj h.2.symm)]
  · rw [getD_set_ne hai, if_neg (fun h => hai h.1.symm)]

theorem mat_ext {n : Nat} {m m' : Mat} (h : Sq n m) (h' : Sq n m') (he : ∀ i j, i < n → j < n → at2 m i j = at2 m' i j) : m = m' := by
  apply List.ext_getElem
  · rw [h.len, h'.len]
  · intro i h1 h2
    have hi : i < n := by rw [← h.len]; exact h1
    have e1 : m.getD i [] = m[i] := by rw [List.getD, List.getElem?_eq_getElem h1]; rfl
    have e2 : m'.getD i [] = m'[i] := by rw [List.getD, List.getElem?_eq_getElem h2]; rfl
    apply List.ext_getElem
    · rw [← e1, ← e2, h.row i hi, h'.row i hi]
    · intro j h3 h4
      have hj : j < n := by rw [← h.row i hi, e1]; exact h3
      have := he i j hi hj
      unfold at2 at this
      rw [e1, e2] at this
      have q1 : m[i].getD j 0 = m[i][j] := by rw [List.getD, List.getElem?_eq_getElem h3]; rfl
      have q2 : m'[i].getD j 0 = m'[i][j] := by rw [List.getD, List.getElem?_eq_getElem h4]; rfl
      rw [q1, q2] at this
      exact this

abbrev BIG : Int := 1099511627776
/-- One update of the closure. -/
def relaxW (k i j : Nat) (m : Mat) : Mat :=
  if at2 m i k = BIG ∨ at2 m k j = BIG then m
  else setAt m i j (if IntKind.i64.wrap (at2 m i k + at2 m k j) < at2 m i j then IntKind.i64.wrap (at2 m i k + at2 m k j) else at2 m i j)
def rowW (n k i : Nat) (m : Mat) : Mat := (List.range n).foldl (fun m j => relaxW k i j m) m
def roundW (n k : Nat) (m : Mat) : Mat := (List.range n).foldl (fun m i => rowW n k i m) m

theorem Sq.relaxW {n : Nat} {m : Mat} (h : Sq n m) (k i j : Nat) : Sq n (relaxW k i j m) := by
  unfold Go.Lift.relaxW
  split
  · exact h
  · exact h.setAt _ _ _

theorem fold_inv {α σ : Type} (I : σ → Prop) (g : σ → α → σ) (hg : ∀ s x, I s → I (g s x)) : ∀ (l : List α) (s : σ), I s → I (l.foldl g s)
  | [], _, h => h
  | x :: l, s, h => fold_inv I g hg l _ (hg s x h)

theorem Sq.rowW {n : Nat} {m : Mat} (h : Sq n m) (k i : Nat) : Sq n (rowW n k i m) := fold_inv (Sq n) _ (fun m j h => h.relaxW k i j) _ _ h
theorem Sq.roundW {n : Nat} {m : Mat} (h : Sq n m) (k : Nat) : Sq n (roundW n k m) := fold_inv (Sq n) _ (fun m i h => h.rowW k i) _ _ h
end
end Go.Lift
