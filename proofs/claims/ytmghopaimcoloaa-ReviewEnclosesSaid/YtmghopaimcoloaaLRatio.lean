/- Ratios in plain Lean: the greatest common divisor, New, Less. -/
import Derived.Test.YtmghopaimcoloaaFn0
import Derived.Test.YtmghopaimcoloaaLBase
namespace Go.Lift
open Go.RowKit Go.IntWalk
noncomputable section
set_option linter.unusedVariables false
set_option linter.unusedSimpArgs false
set_option maxRecDepth 10000

theorem tmod_nat {a b : Int} (ha : 0 ≤ a) (hb : 0 < b) : Int.tmod a b = ((a.toNat % b.toNat : Nat) : Int) := by
  obtain ⟨m, rfl⟩ := Int.eq_ofNat_of_zero_le ha
  obtain ⟨n, rfl⟩ := Int.eq_ofNat_of_zero_le (Int.le_of_lt hb)
  simp [Int.tmod]

/-- The greatest common divisor. -/
def gcdI (a b : Int) : Int := (Nat.gcd a.toNat b.toNat : Nat)

theorem gcdI_zero {a : Int} (ha : 0 ≤ a) : gcdI a 0 = a := by
  simp [gcdI]
  omega

theorem gcdI_step {a b : Int} (ha : 0 ≤ a) (hb : 0 < b) : gcdI b (Int.tmod a b) = gcdI a b := by
  have h := tmod_nat ha hb
  unfold gcdI
  rw [h, Int.toNat_natCast, Nat.gcd_comm b.toNat, ← Nat.gcd_rec, Nat.gcd_comm]

theorem gcdI_pos {a b : Int} (hb : 0 < b) : 1 ≤ gcdI a b := by
  have : 0 < Nat.gcd a.toNat b.toNat := Nat.gcd_pos_of_pos_right _ (by omega)
  unfold gcdI
  omega

theorem gcdI_le {a b : Int} (hb : 0 < b) : gcdI a b ≤ b := by
  have : Nat.gcd a.toNat b.toNat ≤ b.toNat := Nat.gcd_le_right _ (by omega)
  unfold gcdI
  omega

theorem gcdI_dvd_left {a b : Int} (ha : 0 ≤ a) : gcdI a b ∣ a := by
  have := Nat.gcd_dvd_left a.toNat b.toNat
  unfold gcdI
  obtain ⟨c, hc⟩ := this
  exact ⟨(c : Int), by rw [← Int.natCast_mul, ← hc]; omega⟩

theorem gcdI_dvd_right {a b : Int} (hb : 0 ≤ b) : gcdI a b ∣ b := by
  have := Nat.gcd_dvd_right a.toNat b.toNat
  unfold gcdI
  obtain ⟨c, hc⟩ := this
  exact ⟨(c : Int), by rw [← Int.natCast_mul, ← hc]; omega⟩


theorem ref02_gcd_n {β : Type} : ∀ (N : Nat) (a b : Int) (f : Nat), 0 ≤ a → 0 ≤ b → b.toNat ≤ N → N < f → ∀ k1 : Int → Option β, ref02_gcd_p1_n f k1 a b = k1 (gcdI a b) := by
  intro N
  induction N with
  | zero =>
    intro a b f ha hb hN hf k1
    obtain ⟨f, rfl⟩ : ∃ f', f = f' + 1 := ⟨f - 1, by omega⟩
    have : b = 0 := by omega
    subst this
    rw [ref02_gcd_p1_step, gcdI_zero ha]
    unfold ref02_gcd_p1_s
    exact c_npos rfl
  | succ N ih =>
    intro a b f ha hb hN hf k1
    obtain ⟨f, rfl⟩ : ∃ f', f = f' + 1 := ⟨f - 1, by omega⟩
    rw [ref02_gcd_p1_step]
    unfold ref02_gcd_p1_s
    by_cases h0 : b = 0
    · subst h0
      rw [gcdI_zero ha]
      exact c_npos rfl
    · have hb0 : 0 < b := by omega
      have h1 := tmod_nat ha hb0
      have h2 : a.toNat % b.toNat < b.toNat := Nat.mod_lt _ (by omega)
      refine (c_nneg h0).trans ?_
      refine (c_nneg h0).trans ?_
      refine (ih b (Int.tmod a b) f hb (by omega) (by omega) (by omega) k1).trans ?_
      rw [gcdI_step ha hb0]

theorem ref02_gcd_eq {β : Type} {a b : Int} (ha : 0 ≤ a) (hb : 0 ≤ b) (hb2 : b ≤ 9223372036854775807) (k : Int → Option β) : ref02_gcd a b k = k (gcdI a b) := by
  unfold ref02_gcd ref02_gcd_s ref02_gcd_p1
  exact ref02_gcd_n b.toNat a b fuel ha hb (Nat.le_refl _) (lt_fuel (by omega)) _

theorem ref02_size_eq {β : Type} {n : Int} (h : -9223372036854775807 ≤ n ∧ n ≤ 9223372036854775807) (k : Int → Option β) : ref02_size n k = k (n.natAbs : Int) := by
  unfold ref02_size ref02_size_s
  by_cases hn : n < 0
  · refine (c_pos hn).trans (k_eq ?_)
    rw [i64_in _ (by omega)]
    omega
  · refine (c_neg hn).trans (k_eq ?_)
    omega

theorem ref02_in_eq {β : Type} (n : Int) (k : Bool → Option β) : ref02_in n k = k (decide (-4611686018427387904 ≤ n ∧ n ≤ 4611686018427387904)) := by
  unfold ref02_in ref02_in_s
  by_cases h1 : -4611686018427387904 ≤ n
  · refine (c_pos h1).trans (k_eq ?_)
    by_cases h2 : n ≤ 4611686018427387904
    · rw [decide_eq_true h2, decide_eq_true (show _ ∧ _ from ⟨h1, h2⟩)]
    · rw [decide_eq_false h2, decide_eq_false (show ¬ (_ ∧ _) from fun h => h2 h.2)]
  · refine (c_neg h1).trans (k_eq ?_)
    rw [decide_eq_false (show ¬ (_ ∧ _) from fun h => h1 h.1)]

theorem ref02_New_eq {β : Type} {num den : Int} (h : -4611686018427387904 ≤ num ∧ num ≤ 4611686018427387904) (hd : 1 ≤ den ∧ den ≤ 4611686018427387904) (k : Int × Int → Int → Option β) :
    ref02_New num den k = k (num.tdiv (gcdI num.natAbs den), den.tdiv (gcdI num.natAbs den)) 0 := by
  have hg := gcdI_pos (a := (num.natAbs : Int)) (b := den) (by omega)
  have hg2 := gcdI_le (a := (num.natAbs : Int)) (b := den) (by omega)
  have w1 : IntKind.i64.wrap (num.tdiv (gcdI num.natAbs den)) = num.tdiv (gcdI num.natAbs den) := by
    refine i64_in _ ?_
    have h1 : (num.tdiv (gcdI num.natAbs den)).natAbs = num.natAbs / (gcdI num.natAbs den).natAbs := Int.natAbs_tdiv _ _
    have h2 : num.natAbs / (gcdI num.natAbs den).natAbs ≤ num.natAbs := Nat.div_le_self _ _
    omega
  have w2 : IntKind.i64.wrap (den.tdiv (gcdI num.natAbs den)) = den.tdiv (gcdI num.natAbs den) := by
    refine i64_in _ ?_
    have h1 : (den.tdiv (gcdI num.natAbs den)).natAbs = den.natAbs / (gcdI num.natAbs den).natAbs := Int.natAbs_tdiv _ _
    have h2 : den.natAbs / (gcdI num.natAbs den).natAbs ≤ den.natAbs := Nat.div_le_self _ _
    omega
  unfold ref02_New ref02_New_s
  refine (ref02_in_eq num _).trans ?_
  rw [decide_eq_true h]
  simp only [Bool.not_true, c_f]
  refine (c_neg (by omega)).trans ?_
  refine (c_neg (by omega)).trans ?_
  refine (ref02_size_eq (by omega) _).trans ?_
  refine (ref02_gcd_eq (by omega) (by omega) (by omega) _).trans ?_
  refine (c_nneg (by omega)).trans ?_
  refine (c_nneg (by omega)).trans ?_
  rw [w1, w2]

theorem ratio_gcd_n {β : Type} : ∀ (N : Nat) (a b : Int) (f : Nat), 0 ≤ a → 0 ≤ b → b.toNat ≤ N → N < f → ∀ k1 : Int → Option β, ratio_gcd_p1_n f k1 a b = k1 (gcdI a b) := by
  intro N
  induction N with
  | zero =>
    intro a b f ha hb hN hf k1
    obtain ⟨f, rfl⟩ : ∃ f', f = f' + 1 := ⟨f - 1, by omega⟩
    have : b = 0 := by omega
    subst this
    rw [ratio_gcd_p1_step, gcdI_zero ha]
    unfold ratio_gcd_p1_s
    exact c_npos rfl
  | succ N ih =>
    intro a b f ha hb hN hf k1
    obtain ⟨f, rfl⟩ : ∃ f', f = f' + 1 := ⟨f - 1, by omega⟩
    rw [ratio_gcd_p1_step]
    unfold ratio_gcd_p1_s
    by_cases h0 : b = 0
    · subst h0
      rw [gcdI_zero ha]
      exact c_npos rfl
    · have hb0 : 0 < b := by omega
      have h1 := tmod_nat ha hb0
      have h2 : a.toNat % b.toNat < b.toNat := Nat.mod_lt _ (by omega)
      refine (c_nneg h0).trans ?_
      refine (c_nneg h0).trans ?_
      refine (ih b (Int.tmod a b) f hb (by omega) (by omega) (by omega) k1).trans ?_
      rw [gcdI_step ha hb0]

theorem ratio_gcd_eq {β : Type} {a b : Int} (ha : 0 ≤ a) (hb : 0 ≤ b) (hb2 : b ≤ 9223372036854775807) (k : Int → Option β) : ratio_gcd a b k = k (gcdI a b) := by
  unfold ratio_gcd ratio_gcd_s ratio_gcd_p1
  exact ratio_gcd_n b.toNat a b fuel ha hb (Nat.le_refl _) (lt_fuel (by omega)) _

theorem ratio_size_eq {β : Type} {n : Int} (h : -9223372036854775807 ≤ n ∧ n ≤ 9223372036854775807) (k : Int → Option β) : ratio_size n k = k (n.natAbs : Int) := by
  unfold ratio_size ratio_size_s
  by_cases hn : n < 0
  · refine (c_pos hn).trans (k_eq ?_)
    rw [i64_in _ (by omega)]
    omega
  · refine (c_neg hn).trans (k_eq ?_)
    omega

theorem ratio_within_eq {β : Type} (n : Int) (k : Bool → Option β) : ratio_within n k = k (decide (-4611686018427387904 ≤ n ∧ n ≤ 4611686018427387904)) := by
  unfold ratio_within ratio_within_s
  by_cases h1 : -4611686018427387904 ≤ n
  · refine (c_pos h1).trans (k_eq ?_)
    by_cases h2 : n ≤ 4611686018427387904
    · rw [decide_eq_true h2, decide_eq_true (show _ ∧ _ from ⟨h1, h2⟩)]
    · rw [decide_eq_false h2, decide_eq_false (show ¬ (_ ∧ _) from fun h => h2 h.2)]
  · refine (c_neg h1).trans (k_eq ?_)
    rw [decide_eq_false (show ¬ (_ ∧ _) from fun h => h1 h.1)]

theorem ratio_New_eq {β : Type} {num den : Int} (h : -4611686018427387904 ≤ num ∧ num ≤ 4611686018427387904) (hd : 1 ≤ den ∧ den ≤ 4611686018427387904) (k : Int × Int → Int → Option β) :
    ratio_New num den k = k (num.tdiv (gcdI num.natAbs den), den.tdiv (gcdI num.natAbs den)) 0 := by
  have hg := gcdI_pos (a := (num.natAbs : Int)) (b := den) (by omega)
  have hg2 := gcdI_le (a := (num.natAbs : Int)) (b := den) (by omega)
  have w1 : IntKind.i64.wrap (num.tdiv (gcdI num.natAbs den)) = num.tdiv (gcdI num.natAbs den) := by
    refine i64_in _ ?_
    have h1 : (num.tdiv (gcdI num.natAbs den)).natAbs = num.natAbs / (gcdI num.natAbs den).natAbs := Int.natAbs_tdiv _ _
    have h2 : num.natAbs / (gcdI num.natAbs den).natAbs ≤ num.natAbs := Nat.div_le_self _ _
    omega
  have w2 : IntKind.i64.wrap (den.tdiv (gcdI num.natAbs den)) = den.tdiv (gcdI num.natAbs den) := by
    refine i64_in _ ?_
    have h1 : (den.tdiv (gcdI num.natAbs den)).natAbs = den.natAbs / (gcdI num.natAbs den).natAbs := Int.natAbs_tdiv _ _
    have h2 : den.natAbs / (gcdI num.natAbs den).natAbs ≤ den.natAbs := Nat.div_le_self _ _
    omega
  unfold ratio_New ratio_New_s
  refine (c_neg (by omega)).trans ?_
  refine (c_neg (by omega)).trans ?_
  refine (ratio_within_eq num _).trans ?_
  rw [decide_eq_true h]
  simp only [Bool.not_true, c_f]
  refine (ratio_size_eq (by omega) _).trans ?_
  refine (ratio_gcd_eq (by omega) (by omega) (by omega) _).trans ?_
  refine (c_nneg (by omega)).trans ?_
  refine (c_nneg (by omega)).trans ?_
  rw [w1, w2]


/-- Which of two fractions is less. -/
theorem frac_lt {a b c d : Int} (ha : 0 ≤ a) (hb : 1 ≤ b) (hc : 0 ≤ c) (hd : 1 ≤ d) (h : a / b < c / d) : a * d < c * b := by
  have h1 : a < b * (c / d) := by
    have q1 := Int.lt_mul_ediv_self_add (x := a) (k := b) (by omega)
    have q2 : b * (a / b) + b ≤ b * (c / d) := by
      have : b * (a / b) + b = b * (a / b + 1) := by rw [Int.mul_add, Int.mul_one]
      rw [this]
      exact Int.mul_le_mul_of_nonneg_left (by omega) (by omega)
    omega
  have h2 : d * (c / d) ≤ c := Int.mul_ediv_self_le (by omega)
  calc a * d < b * (c / d) * d := Int.mul_lt_mul_of_pos_right h1 (by omega)
    _ = d * (c / d) * b := by rw [Int.mul_assoc, Int.mul_comm, Int.mul_comm (c / d) d]
    _ ≤ c * b := Int.mul_le_mul_of_nonneg_right h2 (by omega)

theorem frac_eq {a b c d : Int} (h : a / b = c / d) : a * d < c * b ↔ a % b * d < c % d * b := by
  have h1 := Int.emod_add_mul_ediv a b
  have h2 := Int.emod_add_mul_ediv c d
  have e1 : a * d = a % b * d + b * d * (a / b) := by
    conv => lhs; rw [← h1]
    rw [Int.add_mul, Int.mul_assoc b, Int.mul_comm (a / b) d, ← Int.mul_assoc]
  have e2 : c * b = c % d * b + b * d * (c / d) := by
    conv => lhs; rw [← h2]
    rw [Int.add_mul, Int.mul_assoc d, Int.mul_comm (c / d) b, ← Int.mul_assoc, Int.mul_comm d b]
  rw [e1, e2, h]
  omega

theorem less_n {β : Type} : ∀ (N : Nat) (a b c d : Int) (f : Nat), 0 ≤ a → a ≤ 4611686018427387904 → 1 ≤ b → b ≤ 4611686018427387904 → 0 ≤ c → c ≤ 4611686018427387904 → 1 ≤ d → d ≤ 4611686018427387904 → (b + d).toNat ≤ N → N < f →
    ∀ k : Bool → Option β, ref02_less_n f a b c d k = k (decide (a * d < c * b)) := by
  intro N
  induction N with
  | zero => intro a b c d f _ _ hb _ _ _ hd _ h; omega
  | succ N ih =>
    intro a b c d f ha ha2 hb hb2 hc hc2 hd hd2 hN hf k
    obtain ⟨f, rfl⟩ : ∃ f', f = f' + 1 := ⟨f - 1, by omega⟩
    have t1 : Int.tdiv a b = a / b := Int.tdiv_eq_ediv_of_nonneg ha
    have t2 : Int.tdiv c d = c / d := Int.tdiv_eq_ediv_of_nonneg hc
    have t3 : Int.tmod a b = a % b := Int.tmod_eq_emod_of_nonneg ha
    have t4 : Int.tmod c d = c % d := Int.tmod_eq_emod_of_nonneg hc
    have q1 : 0 ≤ a / b := Int.ediv_nonneg ha (by omega)
    have q2 : 0 ≤ c / d := Int.ediv_nonneg hc (by omega)
    have q3 : a / b ≤ a := Int.ediv_le_self _ ha
    have q4 : c / d ≤ c := Int.ediv_le_self _ hc
    have w1 : IntKind.i64.wrap (a / b) = a / b := i64_in _ (by omega)
    have w2 : IntKind.i64.wrap (c / d) = c / d := i64_in _ (by omega)
    have m1 : 0 ≤ a % b := Int.emod_nonneg _ (by omega)
    have m2 : a % b < b := Int.emod_lt_of_pos _ (by omega)
    have m3 : 0 ≤ c % d := Int.emod_nonneg _ (by omega)
    have m4 : c % d < d := Int.emod_lt_of_pos _ (by omega)
    rw [ref02_less_succ]
    unfold ref02_less_s
    refine (c_nneg (by omega)).trans ?_
    refine (c_nneg (by omega)).trans ?_
    simp only [t1, t2, t3, t4, w1, w2]
    by_cases hq : a / b = c / d
    · refine (c_npos hq).trans ?_
      refine (c_nneg (by omega)).trans ?_
      refine (c_nneg (by omega)).trans ?_
      have hiff := frac_eq hq
      by_cases h0 : c % d = 0
      · refine (c_pos h0).trans (k_eq ?_)
        have : ¬ a * d < c * b := by
          rw [hiff, h0]
          have := Int.mul_nonneg m1 (show 0 ≤ d by omega)
          omega
        rw [decide_eq_false this]
      · refine (c_neg h0).trans ?_
        by_cases h1 : a % b = 0
        · refine (c_pos h1).trans (k_eq ?_)
          have : a * d < c * b := by
            rw [hiff, h1]
            have := Int.mul_pos (show 0 < c % d by omega) (show 0 < b by omega)
            omega
          rw [decide_eq_true this]
        · refine (c_neg h1).trans ?_
          refine (ih d (c % d) b (a % b) f (by omega) hd2 (by omega) (by omega) (by omega) hb2 (by omega) (by omega) (by omega) (by omega) k).trans (k_eq ?_)
          have : (d * (a % b) < b * (c % d)) = (a * d < c * b) := by
            rw [propext hiff, Int.mul_comm d, Int.mul_comm b]
          simp only [this]
    · refine (c_nneg hq).trans ?_
      refine (c_nneg (by omega)).trans ?_
      refine (c_nneg (by omega)).trans (k_eq ?_)
      by_cases hlt : a / b < c / d
      · rw [decide_eq_true hlt, decide_eq_true (frac_lt ha hb hc hd hlt)]
      · have h2 := frac_lt hc hd ha hb (show c / d < a / b by omega)
        rw [decide_eq_false hlt, decide_eq_false (by omega)]

theorem less_ok {β : Type} {a b c d : Int} (ha : 0 ≤ a) (ha2 : a ≤ 4611686018427387904) (hb : 1 ≤ b) (hb2 : b ≤ 4611686018427387904) (hc : 0 ≤ c) (hc2 : c ≤ 4611686018427387904) (hd : 1 ≤ d) (hd2 : d ≤ 4611686018427387904) (k : Bool → Option β) :
    ref02_less a b c d k = k (decide (a * d < c * b)) := by
  unfold ref02_less
  exact less_n (b + d).toNat a b c d fuel ha ha2 hb hb2 hc hc2 hd hd2 (Nat.le_refl _) (lt_fuel (by omega)) k
end
end Go.Lift
