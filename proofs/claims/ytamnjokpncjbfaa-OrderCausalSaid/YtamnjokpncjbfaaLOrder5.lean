/- Loops with an invariant; any comparison of any record. -/
import Derived.Test.YtamnjokpncjbfaaFn2
import Derived.Test.YtamnjokpncjbfaaLOrder4
namespace Go.Lift
open Go.RowKit Go.IntWalk
noncomputable section
set_option linter.unusedVariables false
set_option linter.unusedSimpArgs false
set_option maxRecDepth 10000

theorem whenAt_eq {r : Rec} (hv : valid r = true) {i : Nat} (hi : i < nE r) : whenAt r i = (whenR r (evAt r i).1 (evAt r i).2.1, !decide ((whenR r (evAt r i).1 (evAt r i).2.1).2 < (whenR r (evAt r i).1 (evAt r i).2.1).1)) := by
  have := valid_ev hv hi
  unfold whenAt Go.Lift.when?
  rw [hv, inN_mk (by omega), inN_mk (by omega)]
  rfl

/-- A loop that keeps an invariant. -/
theorem range_ex {β σ : Type} (n : Nat) (I : Nat → σ → Prop) (F : Nat → Int → σ → Option β) (K : σ → Option β) (s : σ) (N : Nat) (hn : n < N) (h0 : I 0 s)
    (h1 : ∀ (i : Nat) s, i < n → I i s → ∃ s', I (i + 1) s' ∧ ∀ m, F (m + 1) (i : Int) s = F m ((i : Int) + 1) s')
    (h2 : ∀ (m : Nat) s, I n s → F (m + 1) (n : Int) s = K s) : ∃ s', I n s' ∧ F N 0 s = K s' := by
  have key : ∀ (c i N : Nat) (s : σ), i + c = n → c < N → I i s → ∃ s', I n s' ∧ F N (i : Int) s = K s' := by
    intro c
    induction c with
    | zero =>
      intro i N s hi hN hs
      obtain ⟨N, rfl⟩ : ∃ m, N = m + 1 := ⟨N - 1, by omega⟩
      obtain rfl : i = n := by omega
      exact ⟨s, hs, h2 N s hs⟩
    | succ c ih =>
      intro i N s hi hN hs
      obtain ⟨N, rfl⟩ : ∃ m, N = m + 1 := ⟨N - 1, by omega⟩
      obtain ⟨s', hs', e⟩ := h1 i s (by omega) hs
      obtain ⟨s'', h3, h4⟩ := ih (i + 1) N s' (by omega) (by omega) hs'
      exact ⟨s'', h3, (e N).trans h4⟩
  exact key n 0 N s (by omega) hn h0

section
variable {β : Type}
theorem Compare_none {r : Rec} (he : closedW r = none) (hE : nE r ≤ 100) (a b : Int) (k : Int → Bool → Option β) : order_Compare r a b k = k 0 false := by
  unfold order_Compare order_Compare_s
  refine (both_eq hE _ _ _).trans ?_
  rw [he]
  rfl
theorem Compare_any (r : Rec) (hn : nE r ≤ 7) {a b : Nat} (ha : a < nE r) (hb : b < nE r) : ∃ v o, ∀ (k : Int → Bool → Option β), order_Compare r (a : Int) (b : Int) k = k v o := by
  cases he : closedW r with
  | none => exact ⟨0, false, fun k => Compare_none he (by omega) _ _ k⟩
  | some m => exact ⟨_, true, fun k => Compare_eq he ((closed_ok hn he).matB hn) ha hb k⟩
theorem When_any (r : Rec) (hn : nE r ≤ 7) : ∃ o l, ∀ (k : Bool → List (Int × Int) → Option β), order_When r k = k o l := by
  cases he : closedW r with
  | none =>
    refine ⟨false, [], fun k => ?_⟩
    refine (When_eq (by omega) (fun m h => ?_) k).trans ?_
    · rw [he] at h
      cases h
    · rw [he]
  | some m => exact ⟨true, _, fun k => When_some he ((closed_ok hn he).matB hn) k⟩
end
end
end Go.Lift
