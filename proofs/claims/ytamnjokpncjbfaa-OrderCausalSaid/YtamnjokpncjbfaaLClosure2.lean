/- The theory of the closure, 2: the rounds. -/
import Derived.Test.YtamnjokpncjbfaaFn1
import Derived.Test.YtamnjokpncjbfaaLBase
import Derived.Test.YtamnjokpncjbfaaLMat
import Derived.Test.YtamnjokpncjbfaaLClose
import Derived.Test.YtamnjokpncjbfaaLValid
import Derived.Test.YtamnjokpncjbfaaLDirect
import Derived.Test.YtamnjokpncjbfaaLClosure
namespace Go.Lift
open Go.RowKit Go.IntWalk
noncomputable section
set_option linter.unusedVariables false
set_option linter.unusedSimpArgs false
set_option maxRecDepth 10000

structure Inv (n k : Nat) (m : Mat) : Prop where
  sq : Sq n m
  lo : ∀ i j, i < n → j < n → -(17179869184 * ((2 ^ k : Nat) : Int)) ≤ at2 m i j
  hi : ∀ i j, i < n → j < n → at2 m i j ≤ 34359738368
  diag : ∀ i, i < n → at2 m i i ≤ 0
  tri : ∀ a, a < k → a < n → ∀ i j, i < n → j < n → at2 m i j ≤ at2 m i a + at2 m a j

/-- Numbers whose differences are within a matrix. -/
def SolM (n : Nat) (m : Mat) (x : Nat → Int) : Prop := ∀ i j, i < n → j < n → x j - x i ≤ at2 m i j

structure Inv0 (n : Nat) (m : Mat) : Prop where
  sq : Sq n m
  lo : ∀ i j, i < n → j < n → -17179869184 ≤ at2 m i j
  row : ∀ j, j < n → at2 m 0 j ≤ 17179869184
  col : ∀ i, i < n → at2 m i 0 ≤ 17179869184
  diag : ∀ i, i < n → at2 m i i ≤ 0

theorem pow_le {k : Nat} (h : k ≤ 8) : 2 ^ k ≤ 256 := Nat.le_trans (Nat.pow_le_pow_right (by omega) h) (by decide)

theorem Inv0.rh {n : Nat} {m : Mat} (h : Inv0 n m) (hn : 0 < n) (z : at2 m 0 0 = 0) : RH n 0 m :=
  ⟨h.sq, z, fun j hj => by have := h.lo 0 j hn hj; have := h.row j hj; omega, fun i hi => by have := h.lo i 0 hi hn; have := h.col i hi; omega⟩

theorem Inv0.step {n : Nat} {m : Mat} (h : Inv0 n m) (hn : 0 < n) (z : at2 m 0 0 = 0) : Inv n 1 (roundW n 0 m) := by
  have e := roundW_at (h.rh hn z) hn
  refine ⟨h.sq.roundW _, fun i j hi hj => ?_, fun i j hi hj => ?_, fun i hi => ?_, fun a ha ha' i j hi hj => ?_⟩
  · rw [e i j hi hj]
    have := h.lo i j hi hj; have := h.lo i 0 hi hn; have := h.lo 0 j hn hj
    omega
  · rw [e i j hi hj]
    have := h.col i hi; have := h.row j hj
    omega
  · rw [e i i hi hi]
    have := h.diag i hi
    omega
  · obtain rfl : a = 0 := by omega
    rw [e i j hi hj, e i 0 hi hn, e 0 j hn hj]
    omega

theorem Inv.rh {n k : Nat} {m : Mat} (h : Inv n k m) (hk : k < n) (hn : n ≤ 8) (z : at2 m k k = 0) : RH n k m := by
  have p := pow_le (show k ≤ 8 by omega)
  exact ⟨h.sq, z, fun j hj => by have := h.lo k j hk hj; have := h.hi k j hk hj; omega, fun i hi => by have := h.lo i k hi hk; have := h.hi i k hi hk; omega⟩

theorem Inv.step {n k : Nat} {m : Mat} (h : Inv n k m) (hk : k < n) (hn : n ≤ 8) (z : at2 m k k = 0) : Inv n (k + 1) (roundW n k m) := by
  have e := roundW_at (h.rh hk hn z) hk
  refine ⟨h.sq.roundW _, fun i j hi hj => ?_, fun i j hi hj => ?_, fun i hi => ?_, fun a ha ha' i j hi hj => ?_⟩
  · rw [e i j hi hj, show 2 ^ (k + 1) = 2 * 2 ^ k by rw [Nat.pow_succ, Nat.mul_comm]]
    have := h.lo i j hi hj; have := h.lo i k hi hk; have := h.lo k j hk hj
    omega
  · rw [e i j hi hj]
    have := h.hi i j hi hj
    omega
  · rw [e i i hi hi]
    have := h.diag i hi
    omega
  · rw [e i j hi hj, e i a hi ha', e a j ha' hj]
    by_cases q : a = k
    · subst q
      omega
    · have t := h.tri a (by omega) ha'
      have t1 := t i j hi hj
      have t2 := t k j hk hj
      have t3 := t i k hi hk
      have t4 := t k k hk hk
      omega

theorem SolM.step {n k : Nat} {m : Mat} {x : Nat → Int} (s : SolM n m x) (h : RH n k m) (hk : k < n) : SolM n (roundW n k m) x := by
  intro i j hi hj
  rw [roundW_at h hk i j hi hj]
  have := s i j hi hj; have := s i k hi hk; have := s k j hk hj
  omega

theorem rounds_final {n : Nat} (hn : n ≤ 8) : ∀ (c k : Nat) (m m' : Mat), k + c = n → Inv n k m → roundsW n c k m = some m' → (∀ i, i < n → 0 ≤ at2 m' i i) → Inv n n m' ∧ ∀ x, SolM n m x → SolM n m' x
  | 0, k, m, m', h, hi, e, _ => by
    cases e
    obtain rfl : k = n := by omega
    exact ⟨hi, fun x s => s⟩
  | c + 1, k, m, m', h, hi, e, z => by
    have hk : k < n := by omega
    have zz : at2 m k k = 0 := by
      have := rounds_le (c + 1) k m m' hi.sq e k k hk hk
      have := z k hk
      have := hi.diag k hk
      omega
    unfold roundsW at e
    split at e
    · cases e
    · have := rounds_final hn c (k + 1) _ m' (by omega) (hi.step hk hn zz) e z
      exact ⟨this.1, fun x s => this.2 x (s.step (hi.rh hk hn zz) hk)⟩

theorem SolM.diag {n : Nat} {m : Mat} {x : Nat → Int} (s : SolM n m x) {i : Nat} (hi : i < n) : 0 ≤ at2 m i i := by
  have := s i i hi hi
  omega

theorem rounds_exist {n : Nat} (hn : n ≤ 8) {x : Nat → Int} : ∀ (c k : Nat) (m : Mat), k + c = n → Inv n k m → SolM n m x → ∃ m', roundsW n c k m = some m' ∧ SolM n m' x
  | 0, k, m, h, hi, s => ⟨m, rfl, s⟩
  | c + 1, k, m, h, hi, s => by
    have hk : k < n := by omega
    have zz : at2 m k k = 0 := by
      have := s.diag hk
      have := hi.diag k hk
      omega
    have s' := s.step (hi.rh hk hn zz) hk
    unfold roundsW
    rw [if_neg (by have := s'.diag hk; omega)]
    exact rounds_exist hn c (k + 1) _ (by omega) (hi.step hk hn zz) s'

/-- All that is known of a closed matrix. -/
structure ClosedM (n : Nat) (W m : Mat) : Prop where
  inv : Inv n n m
  zero : ∀ i, i < n → at2 m i i = 0
  le : Le n m W
  sol : ∀ x, SolM n W x → SolM n m x

theorem closed_final {n : Nat} (h1 : 1 ≤ n) (hn : n ≤ 8) {W m : Mat} (h : Inv0 n W) (e : roundsW n n 0 W = some m) (z : ∀ i, i < n → 0 ≤ at2 m i i) : ClosedM n W m := by
  have le := rounds_le n 0 W m h.sq e
  have zz : at2 W 0 0 = 0 := by
    have := le 0 0 h1 h1
    have := z 0 h1
    have := h.diag 0 h1
    omega
  obtain ⟨c, rfl⟩ : ∃ c, n = c + 1 := ⟨n - 1, by omega⟩
  unfold roundsW at e
  split at e
  · cases e
  · have := rounds_final hn c 1 _ m (by omega) (h.step h1 zz) e z
    refine ⟨this.1, fun i hi => ?_, le, fun x s => this.2 x (s.step (h.rh h1 zz) h1)⟩
    have := this.1.diag i hi
    have := z i hi
    omega

theorem closed_exist {n : Nat} (h1 : 1 ≤ n) (hn : n ≤ 8) {W : Mat} (h : Inv0 n W) {x : Nat → Int} (s : SolM n W x) : ∃ m, roundsW n n 0 W = some m ∧ ClosedM n W m := by
  have zz : at2 W 0 0 = 0 := by
    have := s.diag h1
    have := h.diag 0 h1
    omega
  have s' := s.step (h.rh h1 zz) h1
  obtain ⟨c, rfl⟩ : ∃ c, n = c + 1 := ⟨n - 1, by omega⟩
  obtain ⟨m', e, s''⟩ := rounds_exist hn c 1 _ (by omega) (h.step h1 zz) s'
  have e' : roundsW (c + 1) (c + 1) 0 W = some m' := by
    unfold roundsW
    rw [if_neg (by have := s'.diag h1; omega)]
    exact e
  exact ⟨m', e', closed_final h1 hn h e' (fun i hi => s''.diag hi)⟩

theorem ClosedM.tri {n : Nat} {W m : Mat} (h : ClosedM n W m) {i a j : Nat} (hi : i < n) (ha : a < n) (hj : j < n) : at2 m i j ≤ at2 m i a + at2 m a j := h.inv.tri a ha ha i j hi hj

/-- Each row is a solution. -/
theorem ClosedM.row {n : Nat} {W m : Mat} (h : ClosedM n W m) {r : Nat} (hr : r < n) : SolM n W (fun j => at2 m r j) := by
  intro i j hi hj
  have := h.tri hr hi hj
  have := h.le i j hi hj
  show at2 m r j - at2 m r i ≤ at2 W i j
  omega
end
end Go.Lift
