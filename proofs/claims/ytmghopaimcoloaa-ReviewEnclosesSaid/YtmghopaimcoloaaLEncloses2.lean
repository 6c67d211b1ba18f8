/- ReviewEncloses in plain Lean: means, ranks, the law. -/
import Derived.Test.YtmghopaimcoloaaFn0
import Derived.Test.YtmghopaimcoloaaLBase
import Derived.Test.YtmghopaimcoloaaLDice
import Derived.Test.YtmghopaimcoloaaLReview
import Derived.Test.YtmghopaimcoloaaLReview2
import Derived.Test.YtmghopaimcoloaaLReview3
import Derived.Test.YtmghopaimcoloaaLReview4
import Derived.Test.YtmghopaimcoloaaLReviewAdds
import Derived.Test.YtmghopaimcoloaaLRank
import Derived.Test.YtmghopaimcoloaaLRatio
import Derived.Test.YtmghopaimcoloaaLEncloses
namespace Go.Lift
open Go.RowKit Go.IntWalk
noncomputable section
set_option linter.unusedVariables false
set_option linter.unusedSimpArgs false
set_option maxRecDepth 10000

theorem tot_in : ∀ {l : List Rg} {x : List Int}, x.length = l.length → (∀ i, i < l.length → (l.getD i rd0).1 ≤ x.getD i 0 ∧ x.getD i 0 ≤ (l.getD i rd0).2) → (sumR l).1 ≤ totI x ∧ totI x ≤ (sumR l).2
  | [], [], _, _ => by simp [sumR, totI]
  | r :: l, y :: x, hl, h => by
    have h0 := h 0 (by simp)
    simp only [List.getD_cons_zero] at h0
    have ih := tot_in (l := l) (x := x) (by simpa using hl) fun i hi => by simpa using h (i + 1) (by simpa using hi)
    rw [sumR_cons, totI_cons]
    simp only
    omega
  | [], _ :: _, hl, _ => by simp at hl
  | _ :: _, [], hl, _ => by simp at hl

/-- The fraction of two numbers in lowest terms. -/
def frac (n d : Int) : Int × Int := (n.tdiv (gcdI n.natAbs d), d.tdiv (gcdI n.natAbs d))

theorem frac_spec {n d : Int} (hn : 0 ≤ n) (hd : 1 ≤ d) : ∃ g, 1 ≤ g ∧ n = (frac n d).1 * g ∧ d = (frac n d).2 * g ∧ 0 ≤ (frac n d).1 ∧ (frac n d).1 ≤ n ∧ 1 ≤ (frac n d).2 ∧ (frac n d).2 ≤ d := by
  have hg := gcdI_pos (a := (n.natAbs : Int)) (b := d) (by omega)
  have d1 : gcdI n.natAbs d ∣ n := by
    have := gcdI_dvd_left (a := (n.natAbs : Int)) (b := d) (by omega)
    have e : (n.natAbs : Int) = n := by omega
    rw [e] at this
    rw [e]
    exact this
  have d2 : gcdI n.natAbs d ∣ d := gcdI_dvd_right (by omega)
  have e1 : n.tdiv (gcdI n.natAbs d) * gcdI n.natAbs d = n := Int.tdiv_mul_cancel d1
  have e2 : d.tdiv (gcdI n.natAbs d) * gcdI n.natAbs d = d := Int.tdiv_mul_cancel d2
  have p1 : 0 ≤ n.tdiv (gcdI n.natAbs d) := Int.tdiv_nonneg hn (by omega)
  have p2 : 0 ≤ d.tdiv (gcdI n.natAbs d) := Int.tdiv_nonneg (by omega) (by omega)
  have p3 : d.tdiv (gcdI n.natAbs d) ≠ 0 := fun h => by rw [h, Int.zero_mul] at e2; omega
  have p4 : n.tdiv (gcdI n.natAbs d) ≤ n := by
    conv => rhs; rw [← e1]
    have := Int.mul_le_mul_of_nonneg_left hg p1
    rwa [Int.mul_one] at this
  have p5 : d.tdiv (gcdI n.natAbs d) ≤ d := by
    conv => rhs; rw [← e2]
    have := Int.mul_le_mul_of_nonneg_left hg p2
    rwa [Int.mul_one] at this
  exact ⟨gcdI n.natAbs d, hg, e1.symm, e2.symm, p1, p4, by show 1 ≤ d.tdiv (gcdI n.natAbs d); omega, p5⟩

theorem frac_le {m n d : Int} (hm : 0 ≤ m) (hmn : m ≤ n) (hd : 1 ≤ d) : ¬ (frac n d).1 * (frac m d).2 < (frac m d).1 * (frac n d).2 := by
  obtain ⟨g, hg, e1, e2, a1, a2, a3, a4⟩ := frac_spec (show 0 ≤ n by omega) hd
  obtain ⟨h, hh, e3, e4, b1, b2, b3, b4⟩ := frac_spec hm hd
  intro hlt
  generalize (frac n d).1 = p at *
  generalize (frac n d).2 = q at *
  generalize (frac m d).1 = r at *
  generalize (frac m d).2 = s at *
  -- n d = p g s h and m d = r h q g
  have h1 : n * d = p * s * (g * h) := by
    have : n * d = p * g * (s * h) := by rw [← e1, ← e4]
    rw [this, Int.mul_assoc, Int.mul_assoc, ← Int.mul_assoc g s h, Int.mul_comm g s, Int.mul_assoc s g h]
  have h2 : m * d = r * q * (g * h) := by
    have : m * d = r * h * (q * g) := by rw [← e3, ← e2]
    rw [this, Int.mul_assoc, Int.mul_assoc, ← Int.mul_assoc h q g, Int.mul_comm h q, Int.mul_assoc q h g, Int.mul_comm h g]
  have h3 : p * s * (g * h) < r * q * (g * h) := Int.mul_lt_mul_of_pos_right hlt (Int.mul_pos (by omega) (by omega))
  have h4 : m * d ≤ n * d := Int.mul_le_mul_of_nonneg_right hmn (by omega)
  omega

section
variable {β : Type}
theorem Valid_eq {r : Int × Int} (h1 : 0 ≤ r.1 ∧ r.1 ≤ 4611686018427387904) (h2 : 1 ≤ r.2 ∧ r.2 ≤ 4611686018427387904) (k : Bool → Option β) : ref02_Valid r k = k (decide (gcdI r.1.natAbs r.2 = 1)) := by
  unfold ref02_Valid ref02_Valid_s
  refine (ref02_in_eq _ _).trans ?_
  rw [decide_eq_true (show -4611686018427387904 ≤ r.1 ∧ r.1 ≤ 4611686018427387904 by omega)]
  simp only [c_t]
  refine (c_pos h2.1).trans ?_
  refine (c_pos h2.2).trans ?_
  refine (ref02_size_eq (by omega) _).trans ?_
  exact ref02_gcd_eq (by omega) (by omega) (by omega) _

/-- Less, of what is not below 0. -/
theorem Less_false {a b : Int × Int} (h1 : 0 ≤ a.1 ∧ a.1 ≤ 4611686018427387904) (h2 : 1 ≤ a.2 ∧ a.2 ≤ 4611686018427387904) (h3 : 0 ≤ b.1 ∧ b.1 ≤ 4611686018427387904) (h4 : 1 ≤ b.2 ∧ b.2 ≤ 4611686018427387904) (h : ¬ a.1 * b.2 < b.1 * a.2) (k : Bool → Option β) :
    ref02_Less a b k = k false := by
  have q3 : ∀ (k1 : ref02_Less_p3_K1 β) (k2 : ref02_Less_p3_K2 β), ref02_Less_p3 k1 k2 true a.1 a.2 b.1 b.2 = k1 false := fun k1 k2 => rfl
  have q4 : ∀ (k1 : ref02_Less_p3_K1 β) (k2 : ref02_Less_p3_K2 β), ref02_Less_p3 k1 k2 false a.1 a.2 b.1 b.2 = k2 a.1 a.2 b.1 b.2 := fun k1 k2 => by
    unfold ref02_Less_p3 ref02_Less_p3_u ref02_Less_p3_s
    refine (c_neg (show ¬ a.1 < 0 by omega)).trans ?_
    unfold ref02_Less_p2 ref02_Less_p2_u ref02_Less_p2_s
    refine (c_neg (show ¬ a.1 < 0 by omega)).trans ?_
    exact c_neg (show ¬ b.1 < 0 by omega)
  have q1 : ∀ (k1 : ref02_Less_p1_K1 β), ref02_Less_p1 k1 a.1 a.2 b.1 b.2 = k1 false := fun k1 => by
    unfold ref02_Less_p1 ref02_Less_p1_u ref02_Less_p1_s
    refine (less_ok h1.1 h1.2 h2.1 h2.2 h3.1 h3.2 h4.1 h4.2 _).trans ?_
    rw [decide_eq_false h]
  unfold ref02_Less ref02_Less_s
  refine (Valid_eq h1 h2 _).trans ?_
  cases decide (gcdI a.1.natAbs a.2 = 1) with
  | false => exact q3 _ _
  | true =>
    refine (Valid_eq h3 h4 _).trans ?_
    cases decide (gcdI b.1.natAbs b.2 = 1) with
    | false => exact q3 _ _
    | true => exact (q4 _ _).trans (q1 _)

theorem mean_ok {l : List Rg} (h : RgsOk l) (hl : 1 ≤ l.length) (k : Rg → Rg → Int → Option β) : review_Mean l k = k (frac (sumR l).1 l.length) (frac (sumR l).2 l.length) 0 := by
  have hf := h.few
  have hb := sumR_bd h
  unfold review_Mean review_Mean_s
  refine (c_neg (by omega)).trans ?_
  refine (vcheck h _).trans ?_
  refine (c_npos (p := (0 : Int) = 0) rfl).trans ?_
  refine (vsum h _).trans ?_
  refine (ratio_New_eq (by omega) (by omega) _).trans ?_
  exact ratio_New_eq (by omega) (by omega) _
end

theorem rank_bd {n : Nat} {p q : Int} (hn : 1 ≤ n) (hp : 0 ≤ p) (hpq : p ≤ q) (hq : 1 ≤ q) : 1 ≤ rankAt n p q ∧ rankAt n p q ≤ n := by
  have h1 : 0 ≤ p * (n : Int) := Int.mul_nonneg hp (by omega)
  have h2 : p * (n : Int) ≤ q * (n : Int) := Int.mul_le_mul_of_nonneg_right hpq (by omega)
  have h3 : Int.tdiv (p * (n : Int) + q - 1) q = (p * (n : Int) + q - 1) / q := Int.tdiv_eq_ediv_of_nonneg (by omega)
  have h4 : (p * (n : Int) + q - 1) / q < (n : Int) + 1 := by
    refine Int.ediv_lt_of_lt_mul (by omega) ?_
    rw [Int.add_mul, Int.one_mul, Int.mul_comm (n : Int) q]
    omega
  unfold rankAt
  rw [h3]
  split <;> omega

theorem rank_full {n : Nat} {q : Int} (hn : 1 ≤ n) (hq : 1 ≤ q) : rankAt n q q = n := by
  have h1 : 0 ≤ q * (n : Int) := Int.mul_nonneg (by omega) (by omega)
  have h3 : Int.tdiv (q * (n : Int) + q - 1) q = (n : Int) := by
    rw [Int.tdiv_eq_ediv_of_nonneg (by omega)]
    have e : q * (n : Int) + q - 1 = (q - 1) + q * (n : Int) := by omega
    rw [e, Int.add_mul_ediv_left _ _ (by omega), Int.ediv_eq_zero_of_lt (by omega) (by omega)]
    omega
  unfold rankAt
  rw [h3]
  split <;> omega

theorem encl_gen {β : Type} {c1 : T_law42_ranges} {c2 : T_law42_sane} {c3 : T_made_Light} {c4 : T_made_Roll} {c5 : T_ref02_Less} {c6 : T_ref02_New} {c7 : T_review_Mean} {c8 : T_review_Rank} {c9 : T_review_Sum} {p2 : law42_ReviewEncloses_p2_T} {t : List Int} {num den : Int} {k : Bool → Option β}
    {d1 : List Int × Int} {l : List Rg} {x sx : List Int} {sum : Int} {s a b m r r2 : Int × Int} {p q : Int} {n : Nat} (hnum : 0 ≤ num ∧ num ≤ 255) (hden : 0 ≤ den ∧ den ≤ 255) (hx : x.length = n) (hn : 1 ≤ n ∧ n ≤ 7) (hsx : sx.length = n)
    (hq : q = 1 + Int.tmod den 20) (hp : p = Int.tmod num (q + 1)) (hq2 : 1 ≤ q ∧ q ≤ 20) (hp2 : 0 ≤ p ∧ p ≤ q) (hrk : 1 ≤ rankAt n p q ∧ rankAt n p q ≤ n)
    (h1 : ∀ k, (c3 t k : Option β) = k true) (h2 : ∀ k, (c4 t k : Option β) = k (t, 0)) (h3 : ∀ k, (c1 (t, 0) k : Option β) = k d1 l x)
    (h4 : ∀ k1, (p2 k1 num den 0 (n : Int) 0 l x [] : Option β) = k1 num den sum l x sx)
    (h5 : ∀ k, (c9 l k : Option β) = k s 0) (h6 : ∀ k, (c7 l k : Option β) = k a b 0) (h7 : ∀ k, (c6 sum (n : Int) k : Option β) = k m 0) (h8 : ∀ k, (c8 l p q k : Option β) = k r 0) (h9 : ∀ k, (c8 l q q k : Option β) = k r2 0)
    (hs1 : s.1 ≤ sum) (hs2 : sum ≤ s.2) (h10 : ∀ k, (c5 m a k : Option β) = k false) (h11 : ∀ k, (c5 b m k : Option β) = k false)
    (hr1 : r.1 ≤ sx.getD (rankAt n p q - 1).toNat 0) (hr2 : sx.getD (rankAt n p q - 1).toNat 0 ≤ r.2) (hm1 : r.1 ≤ r2.1) (hm2 : r.2 ≤ r2.2)
    (h12 : ∀ k, (c2 k : Option β) = k true) : law42_ReviewEncloses_s c1 c2 c3 c4 c5 c6 c7 c8 c9 p2 t num den k = k true := by
  have e1 : IntKind.i64.wrap num = num := i64_in _ (by omega)
  have e2 : IntKind.i64.wrap den = den := i64_in _ (by omega)
  have m1 : 0 ≤ Int.tmod den 20 := by omega
  have e3 : IntKind.i64.wrap (1 + Int.tmod den 20) = q := by rw [i64_in _ (by omega), hq]
  have e4 : IntKind.i64.wrap (q + 1) = q + 1 := i64_in _ (by omega)
  have b1 : 0 ≤ p * (n : Int) ∧ p * (n : Int) ≤ 20 * 7 := ⟨Int.mul_nonneg hp2.1 (by omega), Int.mul_le_mul (by omega) (by omega) (by omega) (by omega)⟩
  have e5 : IntKind.i64.wrap (p * (n : Int)) = p * (n : Int) := i64_in _ (by omega)
  have e6 : IntKind.i64.wrap (p * (n : Int) + q) = p * (n : Int) + q := i64_in _ (by omega)
  have e7 : IntKind.i64.wrap (p * (n : Int) + q - 1) = p * (n : Int) + q - 1 := i64_in _ (by omega)
  have b2 : 0 ≤ Int.tdiv (p * (n : Int) + q - 1) q ∧ Int.tdiv (p * (n : Int) + q - 1) q ≤ 1000 := by
    rw [Int.tdiv_eq_ediv_of_nonneg (by omega)]
    exact ⟨Int.ediv_nonneg (by omega) (by omega), Int.le_trans (Int.ediv_le_self _ (by omega)) (by omega)⟩
  have e8 : IntKind.i64.wrap (Int.tdiv (p * (n : Int) + q - 1) q) = Int.tdiv (p * (n : Int) + q - 1) q := i64_in _ (by omega)
  have e9 : (if (1 : Int) > Int.tdiv (p * (n : Int) + q - 1) q then (1 : Int) else Int.tdiv (p * (n : Int) + q - 1) q) = rankAt n p q := by
    unfold rankAt
    split <;> split <;> omega
  have e10 : IntKind.i64.wrap (rankAt n p q - 1) = rankAt n p q - 1 := i64_in _ (by omega)
  unfold law42_ReviewEncloses_s
  refine (h1 _).trans ?_
  refine (h2 _).trans ?_
  refine (h3 _).trans ?_
  rw [hx]
  refine (h4 _).trans ?_
  refine (h5 _).trans ?_
  refine (h6 _).trans ?_
  rw [hx]
  refine (h7 _).trans ?_
  refine (c_nneg (by omega)).trans ?_
  simp only [e1, e2, e3, e4, ← hp, e5, e6, e7, e8, e9, e10]
  refine (c_nneg (by omega)).trans ?_
  refine (h8 _).trans ?_
  refine (c_npos (p := (0 : Int) = 0) rfl).trans ?_
  refine (c_npos (p := (0 : Int) = 0) rfl).trans ?_
  refine (c_npos (p := (0 : Int) = 0) rfl).trans ?_
  refine (c_neg (by omega)).trans ?_
  refine (c_neg (by omega)).trans ?_
  refine (h10 _).trans ?_
  refine (h11 _).trans ?_
  refine (c_nneg (by omega)).trans ?_
  refine (c_inb (by omega)).trans ?_
  refine (h9 _).trans ?_
  refine (c_pos hr1).trans ?_
  refine (c_pos hr2).trans ?_
  refine (c_pos rfl).trans ?_
  refine (c_pos hm1).trans ?_
  refine (c_pos hm2).trans ?_
  exact h12 _

theorem encl_heavy {β : Type} {c1 : T_law42_ranges} {c2 : T_law42_sane} {c3 : T_made_Light} {c4 : T_made_Roll} {c5 : T_ref02_Less} {c6 : T_ref02_New} {c7 : T_review_Mean} {c8 : T_review_Rank} {c9 : T_review_Sum} {p2 : law42_ReviewEncloses_p2_T} {t : List Int} {num den : Int} {k : Bool → Option β}
    (h1 : ∀ k, (c3 t k : Option β) = k false) (h9 : ∀ k, (c2 k : Option β) = k true) : law42_ReviewEncloses_s c1 c2 c3 c4 c5 c6 c7 c8 c9 p2 t num den k = k true := by
  unfold law42_ReviewEncloses_s
  exact (h1 _).trans (h9 _)

theorem reviewEncloses {β : Type} (t : List Int) {num den : Int} (hnum : 0 ≤ num ∧ num ≤ 255) (hden : 0 ≤ den ∧ den ≤ 255) (k : Bool → Option β) : law42_ReviewEncloses t num den k = k true := by
  unfold law42_ReviewEncloses
  by_cases hl : (t.length : Int) ≤ 500
  · obtain ⟨d1, l, x, hd1, ma, la1, la2, fa⟩ := ranges_ok (roll_ok hl)
    have ha : RgsOk l := ⟨by omega, ma.ok⟩
    have hlen := ma.len
    have hxb : ∀ y ∈ x, 0 ≤ y ∧ y ≤ 1000000 := fun y hy => by
      obtain ⟨i, hi, rfl⟩ := List.getElem_of_mem hy
      have h1 := ma.true_ i (by omega)
      have h2 := ha.getD (i := i) (by omega)
      rw [getD_get hi] at h1
      omega
    obtain ⟨⟨sum, sx⟩, ⟨hsum, hsx⟩, hp2⟩ := enc_p2 (x := x) (by omega) hxb num den l
    simp only at hsum hsx hp2
    have hti := tot_in hlen ma.true_
    have hsb := sumR_bd ha
    have m20 : 0 ≤ Int.tmod den 20 ∧ Int.tmod den 20 < 20 := by
      rw [Int.tmod_eq_emod_of_nonneg hden.1]
      exact ⟨Int.emod_nonneg _ (by omega), Int.emod_lt_of_pos _ (by omega)⟩
    obtain ⟨q, hq⟩ : ∃ q, q = 1 + Int.tmod den 20 := ⟨_, rfl⟩
    have mp : 0 ≤ Int.tmod num (q + 1) ∧ Int.tmod num (q + 1) < q + 1 := by
      rw [Int.tmod_eq_emod_of_nonneg hnum.1]
      exact ⟨Int.emod_nonneg _ (by omega), Int.emod_lt_of_pos _ (by omega)⟩
    obtain ⟨p, hp⟩ : ∃ p, p = Int.tmod num (q + 1) := ⟨_, rfl⟩
    have hrk := rank_bd (n := l.length) (p := p) (q := q) la1 (by omega) (by omega) (by omega)
    have hrf := rank_full (n := l.length) (q := q) la1 (by omega)
    have hlo : (lows l).length = l.length := by simp [lows]
    have hhi : (highs l).length = l.length := by simp [highs]
    have glo : ∀ i, i < l.length → (lows l).getD i 0 = (l.getD i rd0).1 := fun i hi => by
      rw [getD_get (show i < (lows l).length by omega), getD_get' hi]
      simp [lows]
    have ghi : ∀ i, i < l.length → (highs l).getD i 0 = (l.getD i rd0).2 := fun i hi => by
      rw [getD_get (show i < (highs l).length by omega), getD_get' hi]
      simp [highs]
    have hrt : (rankAt l.length p q - 1).toNat < l.length := by omega
    have s1 := sort_below (a := lows l) (b := x) (by omega) (fun i hi => by rw [glo i (by omega)]; exact (ma.true_ i (by omega)).1) (i := (rankAt l.length p q - 1).toNat) (by omega)
    have s2 := sort_below (a := x) (b := highs l) (by omega) (fun i hi => by rw [ghi i (by omega)]; exact (ma.true_ i (by omega)).2) (i := (rankAt l.length p q - 1).toNat) (by omega)
    have s3 := sort_mono (lows l) (i := (rankAt l.length p q - 1).toNat) (j := l.length - 1) (by omega) (by omega)
    have s4 := sort_mono (highs l) (i := (rankAt l.length p q - 1).toNat) (j := l.length - 1) (by omega) (by omega)
    have f1 := frac_spec (n := sum) (d := (l.length : Int)) (by omega) (by omega)
    have f2 := frac_spec (n := (sumR l).1) (d := (l.length : Int)) (by omega) (by omega)
    have f3 := frac_spec (n := (sumR l).2) (d := (l.length : Int)) (by omega) (by omega)
    obtain ⟨_, _, _, _, a1, a2, a3, a4⟩ := f1
    obtain ⟨_, _, _, _, b1, b2, b3, b4⟩ := f2
    obtain ⟨_, _, _, _, c1, c2, c3, c4⟩ := f3
    refine encl_gen (c1 := @law42_ranges) (c2 := @law42_sane) (c3 := @made_Light) (c4 := @made_Roll) (c5 := @ref02_Less) (c6 := @ref02_New) (c7 := @review_Mean) (c8 := @review_Rank) (c9 := @review_Sum) (p2 := @law42_ReviewEncloses_p2) (n := l.length) (p := p) (q := q) (sx := sortInts x)
      hnum hden hlen ⟨la1, la2⟩ (by rw [length_sort]; omega) hq hp (by omega) (by omega) hrk
      (fun k => (light_eq t k).trans (by rw [decide_eq_true hl])) (fun k => roll_eq t k) (fun k => fa k) (fun k1 => by rw [← hsx, ← hlen]; exact hp2 k1)
      (fun k => vSum ha k) (fun k => mean_ok ha la1 k) (fun k => ref02_New_eq (by omega) (by omega) k)
      (fun k => vRank ha (by omega) (by omega) la1 hrk k) (fun k => (vRank ha (by omega) (by omega) la1 (by rw [hrf]; omega) k))
      (by omega) (by omega) (fun k => Less_false (by omega) (by omega) (by omega) (by omega) (frac_le (by omega) (by omega) (by omega)) k) (fun k => Less_false (by omega) (by omega) (by omega) (by omega) (frac_le (by omega) (by omega) (by omega)) k)
      s1 s2 ?_ ?_ (fun k => sane42 k)
    · rw [hrf]
      have : ((l.length : Int) - 1).toNat = l.length - 1 := by omega
      simp only [this]
      exact s3
    · rw [hrf]
      have : ((l.length : Int) - 1).toNat = l.length - 1 := by omega
      simp only [this]
      exact s4
  · exact encl_heavy (c3 := @made_Light) (c2 := @law42_sane) (fun k => (light_eq t k).trans (by rw [decide_eq_false hl])) (fun k => sane42 k)
end
end Go.Lift
