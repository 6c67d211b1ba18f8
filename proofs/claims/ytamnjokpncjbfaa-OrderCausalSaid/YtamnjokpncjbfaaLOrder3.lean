/- What is certain, and what the true times are. -/
import Derived.Test.YtamnjokpncjbfaaFn2
import Derived.Test.YtamnjokpncjbfaaLOrder2
import Derived.Test.YtamnjokpncjbfaaLFits
namespace Go.Lift
open Go.RowKit Go.IntWalk
noncomputable section
set_option linter.unusedVariables false
set_option linter.unusedSimpArgs false
set_option maxRecDepth 10000

/-- A loop whose state is known at each round. -/
theorem range_state {β σ : Type} (n : Nat) (S : Nat → σ) (F : Nat → Int → σ → Option β) (K : Option β) (N : Nat) (hn : n < N)
    (h1 : ∀ (m i : Nat), i < n → F (m + 1) (i : Int) (S i) = F m ((i : Int) + 1) (S (i + 1)))
    (h2 : ∀ (m : Nat), F (m + 1) (n : Int) (S n) = K) : F N 0 (S 0) = K :=
  pass_loop n (fun m i => F m i (S i.toNat)) K N hn (fun m i hi => by
    have e : ((i : Int) + 1).toNat = i + 1 := by omega
    simp only [Int.toNat_natCast, e]
    exact h1 m i hi) (fun m => by simp only [Int.toNat_natCast]; exact h2 m)

/-- Times that fulfil all constraints break none. -/
theorem not_broken {r : Rec} (hv : valid r = true) {times : List Int} (s : SolR r (xOf times)) : (consL r).any (brokenW (0 :: times)) = false := by
  rw [List.any_eq_false]
  intro d hd
  have h := (sol_cons hv (xOf times)).2 s d hd
  have e : ∀ j, (0 :: times).getD j 0 = xOf times j := by
    intro j
    cases j with
    | zero => rfl
    | succ j => rw [xOf_succ]; rfl
  unfold brokenW
  rw [e, e, decide_eq_false (by omega)]
  simp

theorem RecOk.times_bd {n : Int} {r : Rec} {ahead times : List Int} (h : RecOk n r ahead times) {i : Nat} (hi : i < nE r) : 864000 ≤ times.getD i 0 ∧ times.getD i 0 < 864300 := by
  have := h.evOk hi
  exact ⟨this.2.2.1, this.2.2.2.1⟩

theorem RecOk.fits {n : Int} {r : Rec} {ahead times : List Int} (h : RecOk n r ahead times) (hn : n ≤ 7) {m : Mat} (hm : ClosedR r m) : fitsW r times = true := by
  have hl : times.length = nE r := h.lenE
  unfold fitsW
  rw [hm.eq, not_broken hm.valid (h.solR (by omega)), decide_eq_true hl]
  simp only [Option.isSome_some, Bool.true_and, Bool.not_false, Bool.and_true, List.all_eq_true]
  intro t ht
  obtain ⟨i, hi, rfl⟩ := List.getElem_of_mem ht
  have := h.times_bd (i := i) (by omega)
  have e : times.getD i 0 = times[i] := by simp [List.getD, hi]
  rw [e] at this
  exact inN_mk (by omega)

section
variable {β : Type} {n : Int} {r : Rec} {ahead times : List Int}

/-- The true gap is in its range. -/
theorem ClosedR.gap {r : Rec} {m : Mat} (hm : ClosedR r m) {x : Nat → Int} (s : SolR r x) {a b : Nat} (ha : a < nE r) (hb : b < nE r) : (gapN m a b).1 ≤ x (b + 1) - x (a + 1) ∧ x (b + 1) - x (a + 1) ≤ (gapN m a b).2 := by
  have h1 := hm.sol s (i := b + 1) (j := a + 1) (by omega) (by omega)
  have h2 := hm.sol s (i := a + 1) (j := b + 1) (by omega) (by omega)
  unfold gapN
  simp only
  omega

theorem ClosedR.bef {r : Rec} {m : Mat} (hm : ClosedR r m) {a b : Nat} (ha : a < nE r) (hb : b < nE r) : bef m a b = true ↔ ∀ x, SolR r x → x (a + 1) < x (b + 1) := by
  unfold Go.Lift.bef
  rw [decide_eq_true_iff, hm.le_iff (i := b + 1) (j := a + 1) (by omega) (by omega)]
  constructor
  · intro h x s
    have := h x s
    omega
  · intro h x s
    have := h x s
    omega

theorem ClosedR.bef_asymm {r : Rec} {m : Mat} (hm : ClosedR r m) {a b : Nat} (ha : a < nE r) (hb : b < nE r) (h : Go.Lift.bef m a b = true) : Go.Lift.bef m b a = false := by
  cases e : Go.Lift.bef m b a with
  | false => rfl
  | true =>
    have h1 := (hm.bef ha hb).1 h _ (hm.row (i := 0) (by omega))
    have h2 := (hm.bef hb ha).1 e _ (hm.row (i := 0) (by omega))
    omega

theorem cmpN_before {m : Mat} {a b : Nat} : cmpN m a b = -1 ↔ bef m a b = true := by
  unfold cmpN
  cases bef m a b <;> cases bef m b a <;> simp

theorem cmpN_cases (m : Mat) (a b : Nat) : cmpN m a b = -1 ∨ cmpN m a b = 0 ∨ cmpN m a b = 1 := by
  unfold cmpN
  cases bef m a b <;> cases bef m b a <;> simp

theorem ClosedR.cmp_after {r : Rec} {m : Mat} (hm : ClosedR r m) {a b : Nat} (ha : a < nE r) (hb : b < nE r) : cmpN m a b = 1 ↔ Go.Lift.bef m b a = true := by
  unfold cmpN
  cases h1 : Go.Lift.bef m a b with
  | true => rw [hm.bef_asymm ha hb h1]; simp
  | false => cases Go.Lift.bef m b a <;> simp

theorem ClosedR.cmp_open {r : Rec} {m : Mat} (hm : ClosedR r m) {a b : Nat} (ha : a < nE r) (hb : b < nE r) : cmpN m a b = 0 ↔ opn m a b = true := by
  unfold cmpN opn
  cases Go.Lift.bef m a b <;> cases Go.Lift.bef m b a <;> simp

theorem ClosedR.cmp_neg {r : Rec} {m : Mat} (hm : ClosedR r m) {a b : Nat} (ha : a < nE r) (hb : b < nE r) : cmpN m b a = -cmpN m a b := by
  unfold cmpN
  cases h1 : Go.Lift.bef m a b with
  | true => rw [hm.bef_asymm ha hb h1]; simp
  | false => cases Go.Lift.bef m b a <;> simp

theorem whensN_getD {n : Nat} {m : Mat} {i : Nat} (hi : i < n) : (whensN n m).getD i ((0 : Int), (0 : Int)) = rangeN m i := by
  unfold whensN
  simp [List.getD, hi]

theorem ClosedR.range {r : Rec} {m : Mat} (hm : ClosedR r m) {x : Nat → Int} (s : SolR r x) (h0 : x 0 = 0) {i : Nat} (hi : i < nE r) : (rangeN m i).1 ≤ x (i + 1) ∧ x (i + 1) ≤ (rangeN m i).2 := by
  have h1 := hm.sol s (i := i + 1) (j := 0) (by omega) (by omega)
  have h2 := hm.sol s (i := 0) (j := i + 1) (by omega) (by omega)
  unfold rangeN
  simp only
  omega

theorem ClosedR.bef_trans {m : Mat} (hm : ClosedR r m) {a b c : Nat} (ha : a < nE r) (hb : b < nE r) (hc : c < nE r) (h1 : Go.Lift.bef m a b = true) (h2 : Go.Lift.bef m b c = true) : Go.Lift.bef m a c = true := by
  rw [hm.bef ha hc]
  intro x s
  have := (hm.bef ha hb).1 h1 x s
  have := (hm.bef hb hc).1 h2 x s
  omega

/-- Readings of one clock that are two seconds apart. -/
theorem ClosedR.far {m : Mat} (hm : ClosedR r m) {i k : Nat} (hi : i < nE r) (hk : k < nE r) (hh : (evAt r i).1 = (evAt r k).1) (hc : (evAt r i).2.1 + 2 ≤ (evAt r k).2.1) : Go.Lift.bef m i k = true := by
  rw [hm.bef hi hk]
  intro x s
  have h1 := (s.pair i k hi hk (by intro h; subst h; omega) hh (by omega)).1
  have e1 := valid_ev hm.valid hi
  have e2 := valid_ev hm.valid hk
  have hd : 0 ≤ driftAt r (evAt r i).1 ∧ driftAt r (evAt r i).1 ≤ 500000 := by
    have := (valid_parts hm.valid).1 _ (getD_mem (l := r.1) (i := (evAt r i).1.toNat) (d := ([], 0)) (by omega))
    exact this
  have h2 : 1 ≤ (elapsed (driftAt r (evAt r i).1) ((evAt r k).2.1 - (evAt r i).2.1)).1 := by
    unfold elapsed
    rw [inN_mk hd, inN_mk (by omega)]
    simp only [Bool.and_self, cond_true]
    rw [Int.le_ediv_iff_mul_le (by omega)]
    omega
  omega

end
end
end Go.Lift
