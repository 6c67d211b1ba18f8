/- Part10: LCivil, LChk, LChk2, LZone, LDice, LNames1, LNames2, LNames3, LLim, LNames4, LNames5, LNames6, LNames7. -/
import Derived.KernelRfl
import Derived.Test.YthcfejpkighedaaGreatDoorPart9
set_option linter.unusedVariables false
set_option linter.unusedSectionVars false
set_option linter.unusedSimpArgs false
namespace Go.Lift
open Go.RowKit Go.IntWalk
noncomputable section
variable [Sl]
set_option linter.unusedSectionVars false
set_option linter.unusedVariables false
set_option linter.unusedSimpArgs false
set_option maxRecDepth 10000
abbrev Qb (y : Int) : Prop := y % 4 = 0 ∧ (y % 100 ≠ 0 ∨ y % 400 = 0)
def Qq (lp : Prop) [Decidable lp] (m : Int) : Int :=
 if m < 1 then 0 else if 12 < m then 0 else if m = 2 then (if lp then 29 else 28) else if m = 4 ∨ m = 6 ∨ m = 9 ∨ m = 11 then 30 else 31
def cntN (y : Int) : Int := 365 * (y - 1970) + (y - 1) / 4 - (y - 1) / 100 + (y - 1) / 400 - 477
def sumM (lp : Prop) [Decidable lp] : Nat → Int
 | 0 => 0
 | n + 1 => sumM lp n + Qq lp ((n : Int) + 1)
section
variable {β : Type}
theorem Qk2 {y : Int} (hy : 0 ≤ y) (k : Bool → Option β) : zq7v y k = k (decide (Qb y)) := by
 have e1 : Int.tmod y 4 = y % 4 := Int.tmod_eq_emod_of_nonneg hy
 have e2 : Int.tmod y 100 = y % 100 := Int.tmod_eq_emod_of_nonneg hy
 have e3 : Int.tmod y 400 = y % 400 := Int.tmod_eq_emod_of_nonneg hy
 unfold zq7v
 rw [Q1]
 unfold zq7u
 rw [e1, e2, e3]
 by_cases h1 : y % 4 = 0
 ·refine (Qg h1).trans ?_
  by_cases h2 : y % 100 = 0
  ·refine (Q6b h2).trans ?_
   exact k_eq (decide_eq_decide.2 ⟨fun h => ⟨h1, .inr h⟩, fun h => by rcases h.2 with h | h; exact absurd h2 h; exact h⟩)
  ·refine (Q6c h2).trans ?_
   exact k_eq (decide_eq_true (p := Qb y) ⟨h1, .inl h2⟩).symm
 ·refine (Qf h1).trans ?_
  exact k_eq (decide_eq_false (p := Qb y) fun h => h1 h.1).symm
theorem Q41 {y : Int} (hy : 0 ≤ y) (m : Int) (k : Int → Option β) : zqba y m k = k (Qq (Qb y) m) := by
 by_cases h1 : m < 1
 ·unfold zqba
  rw [Q1]
  unfold zqb9
  refine (Qg h1).trans (k_eq ?_)
  unfold Qq
  rw [if_pos h1]
 ·by_cases h2 : 12 < m
  ·unfold zqba
   rw [Q1]
   unfold zqb9
   refine (Qf h1).trans ((Qg h2).trans (k_eq ?_))
   unfold Qq
   rw [if_neg h1, if_pos h2]
  ·have hm : m = 1 ∨ m = 2 ∨ m = 3 ∨ m = 4 ∨ m = 5 ∨ m = 6 ∨ m = 7 ∨ m = 8 ∨ m = 9 ∨ m = 10 ∨ m = 11 ∨ m = 12 := by omega
   rcases hm with rfl | rfl | rfl | rfl | rfl | rfl | rfl | rfl | rfl | rfl | rfl | rfl
   ·exact (show zqba y 1 k = zqb9 y 1 k by unfold zqba; rw [Q1]).trans (show zqb9 y 1 k = k (Qq (Qb y) 1) by kernel_rfl)
   ·unfold zqba
    rw [Q1]
    unfold zqb9
    refine (Qf h1).trans ((Qf h2).trans ((Qg rfl).trans ?_))
    refine (Qk2 hy _).trans ?_
    unfold Qq
    rw [if_neg h1, if_neg h2, if_pos rfl]
    by_cases h : Qb y
    ·rw [decide_eq_true h, if_pos h]
     rfl
    ·rw [decide_eq_false h, if_neg h]
     rfl
   ·exact (show zqba y 3 k = zqb9 y 3 k by unfold zqba; rw [Q1]).trans (show zqb9 y 3 k = k (Qq (Qb y) 3) by kernel_rfl)
   ·exact (show zqba y 4 k = zqb9 y 4 k by unfold zqba; rw [Q1]).trans (show zqb9 y 4 k = k (Qq (Qb y) 4) by kernel_rfl)
   ·exact (show zqba y 5 k = zqb9 y 5 k by unfold zqba; rw [Q1]).trans (show zqb9 y 5 k = k (Qq (Qb y) 5) by kernel_rfl)
   ·exact (show zqba y 6 k = zqb9 y 6 k by unfold zqba; rw [Q1]).trans (show zqb9 y 6 k = k (Qq (Qb y) 6) by kernel_rfl)
   ·exact (show zqba y 7 k = zqb9 y 7 k by unfold zqba; rw [Q1]).trans (show zqb9 y 7 k = k (Qq (Qb y) 7) by kernel_rfl)
   ·exact (show zqba y 8 k = zqb9 y 8 k by unfold zqba; rw [Q1]).trans (show zqb9 y 8 k = k (Qq (Qb y) 8) by kernel_rfl)
   ·exact (show zqba y 9 k = zqb9 y 9 k by unfold zqba; rw [Q1]).trans (show zqb9 y 9 k = k (Qq (Qb y) 9) by kernel_rfl)
   ·exact (show zqba y 10 k = zqb9 y 10 k by unfold zqba; rw [Q1]).trans (show zqb9 y 10 k = k (Qq (Qb y) 10) by kernel_rfl)
   ·exact (show zqba y 11 k = zqb9 y 11 k by unfold zqba; rw [Q1]).trans (show zqb9 y 11 k = k (Qq (Qb y) 11) by kernel_rfl)
   ·exact (show zqba y 12 k = zqb9 y 12 k by unfold zqba; rw [Q1]).trans (show zqb9 y 12 k = k (Qq (Qb y) 12) by kernel_rfl)
theorem Q6s {a b : Int} (ha : 0 ≤ a ∧ a ≤ 1000000000) (hb : 0 < b ∧ b ≤ 1000000000) (k : Int → Option β) : zq7r a b k = k (a / b) := by
 have e1 : Int.tdiv a b = a / b := Int.tdiv_eq_ediv_of_nonneg ha.1
 have e2 : Int.tmod a b = a % b := Int.tmod_eq_emod_of_nonneg ha.1
 have e3 := Int.emod_nonneg a (show b ≠ 0 by omega)
 have e4 := Int.ediv_nonneg ha.1 (show 0 ≤ b by omega)
 have e5 := Int.ediv_le_self b ha.1
 unfold zq7r
 rw [Q1]
 unfold zq7q
 refine (Q6c (by omega)).trans ?_
 refine (Q6c (by omega)).trans ?_
 refine (Qf (by omega)).trans ?_
 rw [e1, i64_in _ (by omega)]
theorem Q1z {y : Int} (hy : 1 ≤ y ∧ y ≤ 1000000) (k : Int → Option β) : zqat y k = k (cntN y) := by
 unfold zqat
 rw [Q1]
 unfold zqas
 simp only
 rw [i64_in (y - 1) (by omega)]
 refine (Q6s (by omega) (by omega) _).trans ?_
 refine (Q6s (by omega) (by omega) _).trans ?_
 refine (Q6s (by omega) (by omega) _).trans ?_
 rw [i64_in (y - 1970) (by omega), i64_in (365 * (y - 1970)) (by omega), i64_in (365 * (y - 1970) + (y - 1) / 4) (by omega), i64_in (365 * (y - 1970) + (y - 1) / 4 - (y - 1) / 100) (by omega),
  i64_in (365 * (y - 1970) + (y - 1) / 4 - (y - 1) / 100 + (y - 1) / 400) (by omega), i64_in (365 * (y - 1970) + (y - 1) / 4 - (y - 1) / 100 + (y - 1) / 400 - 477) (by omega)]
 rfl
theorem Qk3 {y : Int} (hy : 1 ≤ y) : cntN (y + 1) = cntN y + (if Qb y then 366 else 365) := by
 unfold cntN
 split <;> omega
theorem Qk4 {day : Int} (h : 0 ≤ day ∧ day < 98981) : ∃ y, (1970 ≤ y ∧ y ≤ 2240) ∧ cntN y ≤ day ∧ day < cntN (y + 1) ∧ ∀ {β : Type} (k : Int → Option β), zqb6 day k = k y := by
 have last : cntN 2241 = 98981 := by decide
 have key : ∀ (n m : Nat) (y : Int), y + n = 2240 → n < m → 1970 ≤ y → cntN y ≤ day → ∃ y', (1970 ≤ y' ∧ y' ≤ 2240) ∧ cntN y' ≤ day ∧ day < cntN (y' + 1) ∧
   ∀ {β : Type} (k1 : zqax β), zqb1 m k1 day y = k1 y' := by
  intro n
  induction n with
  | zero =>
   intro m y hy hm h0 hc
   obtain ⟨m, rfl⟩ : ∃ m', m = m' + 1 := ⟨m - 1, by omega⟩
   have hy : y = 2240 := by omega
   subst hy
   refine ⟨2240, by omega, hc, by rw [show (2240 : Int) + 1 = 2241 from rfl, last]; omega, fun k1 => ?_⟩
   simp only [zqb2, zqb0]
   rw [show IntKind.i64.wrap ((2240 : Int) + 1) = 2241 by decide]
   refine (Q1z (by omega) _).trans ?_
   exact Qf (by rw [last]; omega)
  | succ n ih =>
   intro m y hy hm h0 hc
   obtain ⟨m, rfl⟩ : ∃ m', m = m' + 1 := ⟨m - 1, by omega⟩
   by_cases hn : cntN (y + 1) ≤ day
   ·obtain ⟨y', h1, h2, h3, h4⟩ := ih m (y + 1) (by omega) (by omega) (by omega) hn
    refine ⟨y', h1, h2, h3, fun k1 => ?_⟩
    simp only [zqb2, zqb0]
    rw [i64_in (y + 1) (by omega)]
    refine (Q1z (by omega) _).trans ?_
    refine (Qg hn).trans ?_
    exact h4 k1
   ·refine ⟨y, by omega, hc, by omega, fun k1 => ?_⟩
    simp only [zqb2, zqb0]
    rw [i64_in (y + 1) (by omega)]
    refine (Q1z (by omega) _).trans ?_
    exact Qf hn
 have hq : ∀ q : Fin 271, cntN (1970 + (q.val : Int)) ≤ 366 * (q.val : Int) := by decide +kernel
 have h0 : cntN (1970 + day / 366) ≤ day := by
  have := hq ⟨(day / 366).toNat, by omega⟩
  simp only at this
  rw [show (((day / 366).toNat : Nat) : Int) = day / 366 by omega] at this
  omega
 obtain ⟨y', h1, h2, h3, h4⟩ := key (2240 - (1970 + day / 366)).toNat fuel (1970 + day / 366) (by omega) (Qm (by omega)) (by omega) h0
 refine ⟨y', h1, h2, h3, fun k => ?_⟩
 unfold zqb6
 rw [Q1]
 unfold zqb5
 refine (Q6s (by omega) (by omega) _).trans ?_
 simp only
 rw [i64_in (1970 + day / 366) (by omega)]
 unfold zqb3
 rw [Q1]
 exact h4 _
theorem Qa5 (lp : Prop) [Decidable lp] (m : Int) : 0 ≤ Qq lp m ∧ Qq lp m ≤ 31 := by
 unfold Qq
 repeat' split
 all_goals omega
theorem Q7k (lp : Prop) [Decidable lp] (n : Nat) : 0 ≤ sumM lp n ∧ sumM lp n ≤ 31 * (n : Int) := by
 induction n with
 | zero => exact ⟨Int.le_refl _, Int.le_refl _⟩
 | succ n ih =>
  have := Qa5 lp ((n : Int) + 1)
  show 0 ≤ sumM lp n + Qq lp ((n : Int) + 1) ∧ sumM lp n + Qq lp ((n : Int) + 1) ≤ 31 * ((n + 1 : Nat) : Int)
  omega
theorem Ql4 (lp : Prop) [Decidable lp] : sumM lp 12 = if lp then 366 else 365 := by
 by_cases h : lp
 ·simp [sumM, Qq, h]
 ·simp [sumM, Qq, h]
theorem Qic {y : Int} (hy : 0 ≤ y) (a : Int × (Int × Int)) (d3 : Int) : ∀ (j f n : Nat) (r : Int), n + j = 12 → j < f → 0 ≤ r → r < sumM (Qb y) 12 - sumM (Qb y) n →
  ∃ (n' : Nat) (r' : Int), n' < 12 ∧ 0 ≤ r' ∧ r' < Qq (Qb y) ((n' : Int) + 1) ∧ sumM (Qb y) n' + r' = sumM (Qb y) n + r ∧
   ∀ {β : Type} (k1 : zqfm β), zqfq f k1 r a (y, ((n : Int) + 1, d3)) = k1 r' a (y, ((n' : Int) + 1, d3)) := by
 intro j
 induction j with
 | zero =>
  intro f n r hn hf h0 h1
  obtain rfl : n = 12 := by omega
  omega
 | succ j ih =>
  intro f n r hn hf h0 h1
  obtain ⟨f, rfl⟩ : ∃ f', f = f' + 1 := ⟨f - 1, by omega⟩
  have hd := Qa5 (Qb y) ((n : Int) + 1)
  have hb := Q7k (Qb y) n
  have h12 := Q7k (Qb y) 12
  by_cases hr : Qq (Qb y) ((n : Int) + 1) ≤ r
  ·have hs : sumM (Qb y) (n + 1) = sumM (Qb y) n + Qq (Qb y) ((n : Int) + 1) := rfl
   obtain ⟨n', r', g1, g2, g3, g4, g5⟩ := ih f (n + 1) (r - Qq (Qb y) ((n : Int) + 1)) (by omega) (by omega) (by omega) (by omega)
   refine ⟨n', r', g1, g2, g3, by omega, fun k1 => ?_⟩
   simp only [zqfr, zqfp]
   refine (Q41 hy _ _).trans ?_
   refine (Qg hr).trans ?_
   refine (Q41 hy _ _).trans ?_
   rw [i64_in (r - Qq (Qb y) ((n : Int) + 1)) (by omega), i64_in ((n : Int) + 1 + 1) (by omega)]
   have := g5 k1
   rwa [show ((n + 1 : Nat) : Int) = (n : Int) + 1 by omega] at this
  ·refine ⟨n, r, by omega, h0, by omega, rfl, fun k1 => ?_⟩
   simp only [zqfr, zqfp]
   refine (Q41 hy _ _).trans ?_
   exact Qf hr
theorem Qcl {y : Int} (hy : 0 ≤ y) (M d3 : Int) : ∀ (j f n : Nat) (s : Int), (n : Int) + 1 + j = M → M ≤ 12 → j < f → 0 ≤ s + 1000 → s + 31 * (j : Int) ≤ 1000000 →
  ∀ {β : Type} (k1 : zqcc β), zqcg f k1 s ((n : Int) + 1) (y, (M, d3)) = k1 (s + (sumM (Qb y) (n + j) - sumM (Qb y) n)) := by
 intro j
 induction j with
 | zero =>
  intro f n s hn hM hf h0 h1 β k1
  obtain ⟨f, rfl⟩ : ∃ f', f = f' + 1 := ⟨f - 1, by omega⟩
  simp only [zqch, zqcf]
  refine (Qf (by omega)).trans ?_
  exact k_eq (by show s = s + (sumM (Qb y) n - sumM (Qb y) n); omega)
 | succ j ih =>
  intro f n s hn hM hf h0 h1 β k1
  obtain ⟨f, rfl⟩ : ∃ f', f = f' + 1 := ⟨f - 1, by omega⟩
  have hd := Qa5 (Qb y) ((n : Int) + 1)
  simp only [zqch, zqcf]
  refine (Qg (by omega)).trans ?_
  refine (Q41 hy _ _).trans ?_
  rw [i64_in (s + Qq (Qb y) ((n : Int) + 1)) (by omega), i64_in ((n : Int) + 1 + 1) (by omega)]
  have := ih f (n + 1) (s + Qq (Qb y) ((n : Int) + 1)) (by omega) hM (by omega) (by omega) (by omega) k1
  rw [show ((n + 1 : Nat) : Int) = (n : Int) + 1 by omega] at this
  refine this.trans (k_eq ?_)
  have hs : sumM (Qb y) (n + 1) = sumM (Qb y) n + Qq (Qb y) ((n : Int) + 1) := rfl
  rw [show n + 1 + j = n + (j + 1) by omega]
  omega
structure DateIs (day y m d : Int) : Prop where
 yr : 1970 ≤ y ∧ y ≤ 2240
 mo : 1 ≤ m ∧ m ≤ 12
 dd : 1 ≤ d ∧ d ≤ 31
 of : ∀ {β : Type} (k : Int × Int × Int → Int → Option β), zqfv day k = k (y, m, d) 0
 day : ∀ {β : Type} (k : Int → Int → Option β), zqct (y, m, d) k = k day 0
theorem Ql5 {day : Int} (h : 0 ≤ day ∧ day < 98981) : ∃ y m d, DateIs day y m d := by
 obtain ⟨y, hy, h1, h2, h3⟩ := Qk4 h
 have hn := Qk3 (y := y) (by omega)
 rw [← Ql4] at hn
 have hc : cntN 1970 = 0 := by decide
 have hc2 : cntN 2241 = 98981 := by decide
 have hb12 := Q7k (Qb y) 12
 have h0 : 0 ≤ cntN y := by
  unfold cntN
  omega
 obtain ⟨n', r', g1, g2, g3, g4, g5⟩ := Qic (y := y) (by omega) (0, (0, 0)) 0 12 fuel 0 (day - cntN y) rfl (Qm (by omega)) (by omega) (by show day - cntN y < sumM (Qb y) 12 - 0; omega)
 have hd := Qa5 (Qb y) ((n' : Int) + 1)
 have hs0 : sumM (Qb y) 0 = 0 := rfl
 refine ⟨y, (n' : Int) + 1, r' + 1, hy, by omega, by omega, fun k => ?_, fun k => ?_⟩
 ·unfold zqfv
  rw [Q1]
  unfold zqfu
  refine (Q1z (by omega) _).trans ?_
  refine (Qf (by rw [hc]; omega)).trans ?_
  refine (Q1z (by omega) _).trans ?_
  refine (Qf (by rw [hc2]; omega)).trans ?_
  refine (h3 _).trans ?_
  refine (Q1z (by omega) _).trans ?_
  simp only
  rw [i64_in (day - cntN y) (by omega)]
  unfold zqfs
  rw [Q1]
  refine (g5 _).trans ?_
  rw [i64_in (r' + 1) (by omega)]
 ·unfold zqct
  rw [Q1]
  unfold zqcs
  have hv : ∀ {β : Type} (k : Bool → Option β), zqc8 (y, (n' : Int) + 1, r' + 1) k = k true := by
   intro β k
   unfold zqc8
   rw [Q1]
   unfold zqc7
   refine (Qg hy.1).trans ?_
   refine (Qg hy.2).trans ?_
   refine (Qg (by show (1 : Int) ≤ r' + 1; omega)).trans ?_
   refine (Q41 (by show 0 ≤ y; omega) _ _).trans ?_
   exact k_eq (decide_eq_true (by show r' + 1 ≤ Qq (Qb y) ((n' : Int) + 1); omega))
  refine (hv _).trans ?_
  show zqcl (y, (n' : Int) + 1, r' + 1) _ = _
  unfold zqcl
  rw [Q1]
  unfold zqck
  refine (Q1z (y := y) (by omega) _).trans ?_
  simp only
  rw [i64_in (cntN y + (r' + 1)) (by omega), i64_in (cntN y + (r' + 1) - 1) (by omega)]
  unfold zqci
  rw [Q1]
  refine (Qcl (y := y) (by omega) ((n' : Int) + 1) (r' + 1) n' fuel 0 (cntN y + (r' + 1) - 1) (by omega) (by omega) (Qm (by omega)) (by omega) (by omega) _).trans ?_
  rw [Nat.zero_add, hs0]
  have e : cntN y + (r' + 1) - 1 + (sumM (Qb y) n' - 0) = day := by omega
  rw [e]
theorem Qk5 {day : Int} (h : day < 0 ∨ 98981 ≤ day) (k : Int × Int × Int → Int → Option β) : zqfv day k = k (0, 0, 0) 1 := by
 have hc : cntN 1970 = 0 := by decide
 have hc2 : cntN 2241 = 98981 := by decide
 unfold zqfv
 rw [Q1]
 unfold zqfu
 refine (Q1z (by omega) _).trans ?_
 by_cases h0 : day < 0
 ·exact Qg (by rw [hc]; omega)
 ·refine (Qf (by rw [hc]; omega)).trans ?_
  refine (Q1z (by omega) _).trans ?_
  exact Qg (by rw [hc2]; omega)
end
end
end Go.Lift
namespace Go.Lift
open Go.RowKit Go.IntWalk
noncomputable section
variable [Sl]
set_option linter.unusedSectionVars false
set_option linter.unusedVariables false
set_option linter.unusedSimpArgs false
set_option maxRecDepth 10000
section
variable {β : Type}
abbrev inI (n lo hi : Int) : Bool := decide (lo ≤ n) && decide (n ≤ hi)
abbrev ixI (i n : Int) : Bool := decide ((0 : Int) ≤ i) && decide (i < n)
theorem r_in (n lo hi : Int) (k : Bool → Option β) : zq4i n lo hi k = k (inI n lo hi) := by
 unfold zq4i
 rw [Q1]
 unfold zq4h
 exact c_kb k _ _
theorem z_in (n lo hi : Int) (k : Bool → Option β) : Q27 n lo hi k = k (inI n lo hi) := by
 unfold Q27
 rw [Q1]
 unfold zq5d
 exact c_kb k _ _
theorem r_ix (i n : Int) (k : Bool → Option β) : zq2y i n k = k (ixI i n) := by
 unfold zq2y
 rw [Q1]
 unfold zq2x
 exact c_kb k _ _
def dayI (n : Int) : Bool := decide (0 ≤ n) && decide (n < 98981)
theorem Qid (n : Int) (k : Bool → Option β) : zqi5 n k = k (dayI n) := by
 unfold zqi5
 rw [Q1]
 unfold zqi4 dayI
 by_cases h : 0 ≤ n ∧ n < 98981
 ·obtain ⟨y, m, d, hd⟩ := Ql5 h
  refine (hd.of _).trans (k_eq ?_)
  rw [decide_eq_true h.1, decide_eq_true h.2]
  rfl
 ·refine (Qk5 (by omega) _).trans (k_eq ?_)
  by_cases h0 : 0 ≤ n
  ·rw [decide_eq_true h0, decide_eq_false (by omega : ¬ n < 98981)]; rfl
  ·rw [decide_eq_false h0]; rfl
def Q6d (n : Int) : Bool := inI n 0 604800 && decide (Int.tmod n 3600 = 0)
theorem Qhk (n : Int) (k : Bool → Option β) : zq9a n k = k (Q6d n) := by
 unfold zq9a
 rw [Q1]
 unfold zq99
 refine (r_in _ _ _ _).trans ?_
 exact c_kb k _ _
def Q7l (c : Int) : Bool := inI c 97 122
def Qg4 (c : Int) : Bool := inI c 48 57
def Qa6 (c : UInt8) : Bool := Q7l c.toNat || (Qg4 c.toNat || (decide ((c.toNat : Int) = 95) || decide ((c.toNat : Int) = 45)))
def Qa7 (s : List UInt8) : Bool := (!decide (s = [])) && (!decide (24 < (s.length : Int)) && (Q7l (s.getD 0 0).toNat && s.all Qa6))
theorem Qhl (c : Int) (k : Bool → Option β) : zq4a c k = k (Q7l c) := by
 unfold zq4a
 rw [Q1]
 unfold zq49
 exact c_kb k _ _
theorem Ql6 (c : Int) (k : Bool → Option β) : zq4e c k = k (Qg4 c) := by
 unfold zq4e
 rw [Q1]
 unfold zq4d
 exact c_kb k _ _
theorem Qly (s : List UInt8) (k : Bool → Option β) : zq96 s k = k (Qa7 s) := by
 unfold zq96
 rw [Q1]
 unfold zq95 Qa7
 by_cases h1 : s = []
 ·refine (Qg h1).trans ?_
  rw [decide_eq_true h1]; rfl
 ·refine (Qf h1).trans ?_
  rw [decide_eq_false h1]
  by_cases h2 : 24 < (s.length : Int)
  ·refine (Qg h2).trans ?_
   rw [decide_eq_true h2]; rfl
  ·refine (Qf h2).trans ?_
   rw [decide_eq_false h2]
   have h3 : 0 < s.length := by cases s with
    | nil => exact absurd rfl h1
    | cons _ _ => simp
   refine (Q1c (by omega)).trans ?_
   refine (Qhl _ _).trans ?_
   show _ = k (Q7l (s.getD 0 0).toNat && s.all Qa6)
   rw [show Int.toNat (0 : Int) = 0 from rfl]
   cases Q7l (s.getD 0 0).toNat with
   | false => rfl
   | true =>
    show zq93 (fun t2 => k t2) (fun _ => k true) s (s.length : Int) 0 = k (s.all Qa6)
    unfold zq93
    rw [Q1]
    refine (Q5e (fun m i => zq91 m (fun t2 => k t2) (fun _ => k true) s (s.length : Int) i) Qa6 (k false) (k true) 0 s fuel (Qm (by omega)) (fun m i hi => ?_) (fun m => ?_)).trans ?_
    ·simp only [zq92, zq90]
     refine (Qg (by omega)).trans ?_
     refine (Q1c (by omega)).trans ?_
     refine (Qhl _ _).trans ?_
     rw [Int.toNat_natCast, i64_in ((i : Int) + 1) (by omega)]
     unfold Qa6
     cases Q7l (s.getD i 0).toNat with
     | true => rfl
     | false =>
      refine (Ql6 _ _).trans ?_
      cases Qg4 (s.getD i 0).toNat with
      | true => rfl
      | false =>
       show cond (!decide (((s.getD i 0).toNat : Int) = 95)) (cond (!decide (((s.getD i 0).toNat : Int) = 45)) _ _) _ = cond (decide (((s.getD i 0).toNat : Int) = 95) || decide (((s.getD i 0).toNat : Int) = 45)) _ _
       cases decide (((s.getD i 0).toNat : Int) = 95) <;> cases decide (((s.getD i 0).toNat : Int) = 45) <;> rfl
    ·simp only [zq92, zq90]
     exact Qf (by omega)
    ·cases s.all Qa6 <;> rfl
def sn (l : List (List UInt8)) : List (List UInt8 × Bool) := l.map fun s => (s, true)
theorem Qlz (l : List (List UInt8)) (s : List UInt8) : mGet .str (sn l) s false = decide (s ∈ l) := by
 induction l with
 | nil => rfl
 | cons x l ih =>
  show (bif decide (x = s) then true else mGet .str (sn l) s false) = _
  by_cases h : x = s
  ·subst h
   simp
  ·rw [decide_eq_false h, ih]
   show decide (s ∈ l) = decide (s ∈ x :: l)
   have : s ∈ x :: l ↔ s ∈ l := by
    rw [List.mem_cons]
    exact ⟨fun g => g.resolve_left fun e => h e.symm, .inr⟩
   exact (decide_eq_decide.2 this).symm
theorem Qm0 {l : List (List UInt8)} {s : List UInt8} (h : s ∉ l) : mPut .str (sn l) s true = sn (l ++ [s]) := by
 induction l with
 | nil => rfl
 | cons x l ih =>
  have hx : x ≠ s := fun e => h (by rw [e]; exact List.mem_cons_self ..)
  have hl : s ∉ l := fun e => h (List.mem_cons_of_mem _ e)
  show (bif decide (x = s) then (s, true) :: sn l else (x, true) :: mPut .str (sn l) s true) = _
  rw [decide_eq_false hx, ih hl]
  rfl
def Q1s (s : List UInt8) (l : List (List UInt8)) : Int := cond (Qa7 s) (cond (decide (s ∈ l)) 4 0) 2
theorem Q9j (s : List UInt8) (l : List (List UInt8)) (k : Int → List (List UInt8 × Bool) → Option β) : zqdb s (sn l) k = k (Q1s s l) (sn (cond (decide (Q1s s l = 0)) (l ++ [s]) l)) := by
 unfold zqdb
 rw [Q1]
 unfold zqda Q1s
 refine (Qly _ _).trans ?_
 cases Qa7 s with
 | false => rfl
 | true =>
  show (let g : Bool := mGet .str (sn l) s false; cond g _ _) = _
  simp only [Qlz]
  by_cases h : s ∈ l
  ·rw [decide_eq_true h]; rfl
  ·rw [decide_eq_false h]
   show k 0 (mPut .str (sn l) s true) = _
   rw [Qm0 h]
   rfl
def errV {σ : Type} : Int ⊕ σ → Int
 | .inl e => e
 | .inr _ => 0
theorem Q3d {σ : Type} (k : Int → Option β) (r : Int ⊕ σ) : sumK (fun e => k e) (fun _ => k 0) r = k (errV r) := by cases r <;> rfl
def Qeq (l : List (Int × Int)) (i : Nat) (w : Int × Int) (_ : Unit) : Int ⊕ Unit :=
 cond (decide (w.1 < 0) || (decide (w.2 ≤ w.1) || decide ((604800 : Int) < w.2))) (.inl 1) (cond (decide (0 < (i : Int)) && decide (w.1 < (l.getD (i - 1) (0, 0)).2)) (.inl 6) (.inr ()))
def Q24 (l : List (Int × Int)) : Int := cond (decide (14 < (l.length : Int))) 5 (errV (walk (Qeq l) l 0 ()))
theorem Qjc (l : List (Int × Int)) (k : Int → Option β) : zq3i l k = k (Q24 l) := by
 unfold zq3i
 rw [Q1]
 unfold zq3h Q24
 by_cases h : 14 < (l.length : Int)
 ·refine (Qg h).trans ?_
  rw [decide_eq_true h]; rfl
 ·refine (Qf h).trans ?_
  rw [decide_eq_false h]
  unfold zq3f
  rw [Q1]
  refine (Q1e (fun m i (_ : Unit) => zq3d m (fun t => k t) (fun _ => k 0) l l (l.length : Int) i) (Qeq l) (fun e => k e) (fun _ => k 0) (0, 0) l () fuel (Qm (by omega)) (fun m i _ hi => ?_) (fun m _ => ?_)).trans (Q3d k _)
  ·simp only [zq3e, zq3c]
   refine (Qg (by omega)).trans ?_
   refine (Q1c (by omega)).trans ?_
   rw [Int.toNat_natCast]
   generalize hw : l.getD i (0, 0) = w
   have hp : ∀ t : Bool, zq3a (fun t => k t) (fun l2 t82 t92 t102 => zq3d m (fun t => k t) (fun _ => k 0) l2 t82 t92 (IntKind.i64.wrap (t102 + 1))) l (i : Int) l (l.length : Int) (i : Int) t w =
     sumK (fun e => k e) (fun _ => zq3d m (fun t => k t) (fun _ => k 0) l l (l.length : Int) ((i : Int) + 1)) (cond t (.inl 1) (cond (decide (0 < (i : Int)) && decide (w.1 < (l.getD (i - 1) (0, 0)).2)) (.inl 6) (.inr ()) : Int ⊕ Unit)) := by
    intro t
    unfold zq3a
    rw [Q1]
    unfold zq39
    cases t with
    | true => rfl
    | false =>
     show cond (decide ((0 : Int) < i)) _ _ = _
     by_cases h0 : (0 : Int) < i
     ·refine (Qg h0).trans ?_
      rw [i64_in ((i : Int) - 1) (by omega)]
      refine (Q1c (by omega)).trans ?_
      simp only
      rw [show ((i : Int) - 1).toNat = i - 1 by omega, decide_eq_true h0, i64_in ((i : Int) + 1) (by omega)]
      cases decide (w.1 < (l.getD (i - 1) (0, 0)).2) <;> rfl
     ·refine (Qf h0).trans ?_
      simp only
      rw [decide_eq_false h0, i64_in ((i : Int) + 1) (by omega)]
      rfl
   simp only [hp]
   unfold Qeq
   cases decide (w.1 < 0) <;> cases decide (w.2 ≤ w.1) <;> rfl
  ·simp only [zq3e, zq3c]
   exact Qf (by omega)
end
end
end Go.Lift
namespace Go.Lift
open Go.RowKit Go.IntWalk
noncomputable section
variable [Sl]
set_option linter.unusedSectionVars false
set_option linter.unusedVariables false
set_option linter.unusedSimpArgs false
set_option maxRecDepth 10000
section
variable {β : Type}
def Q31 (nz : Int) (p : zqe) : Int := cond (!ixI p.2.1 nz) 3 (cond (!decide (Q24 p.2.2.1 = 0)) 8 (cond (!Q6d p.2.2.2.1) 1 (cond (!Q6d p.2.2.2.2.1) 1 0)))
theorem Qk6 (c : zqg) (p : zqe) (k : Int → Option β) : zqdg c p k = k (Q31 (c.1.length : Int) p) := by
 unfold zqdg
 rw [Q1]
 unfold zqdf Q31
 refine (r_ix _ _ _).trans ?_
 cases ixI p.2.1 (c.1.length : Int) with
 | false => rfl
 | true =>
  refine (Qjc _ _).trans ?_
  show cond (!decide (Q24 p.2.2.1 = 0)) _ _ = k (cond (!decide (Q24 p.2.2.1 = 0)) _ _)
  cases decide (Q24 p.2.2.1 = 0) with
  | false => rfl
  | true =>
   refine (Qhk _ _).trans ?_
   cases Q6d p.2.2.2.1 with
   | false => rfl
   | true =>
    refine (Qhk _ _).trans ?_
    cases Q6d p.2.2.2.2.1 <;> rfl
abbrev Ed := Int × (Int × (Int × (Int × Int)))
def e1V (b : Bool) (x : Ed) : Int := cond b 1 (cond (decide (x.2.2.2.2 ≤ x.2.2.2.1)) 6 0)
def e2V (b : Bool) (x : Ed) : Int := cond b 4 (e1V (decide (x.2.2.2.1 < 0) || (decide (x.2.2.2.2 < 0) || !dayI (IntKind.i64.wrap (Int.tdiv x.2.2.2.2 86400)))) x)
def e3V (b : Bool) (x : Ed) : Int := cond b 1 (e2V (decide (x.1 = 2) && decide (x.2.1 = x.2.2.1)) x)
def e4V (b : Bool) (x : Ed) : Int := cond b 3 (e3V ((!decide (x.1 = 2)) && !decide (x.2.2.1 = 0)) x)
def Q2g (np : Int) (x : Ed) : Int :=
 cond (!inI x.1 0 2) 1 (e4V (((!ixI x.2.1 np) && !(decide (x.1 = 1) && decide (x.2.1 = -1))) || (decide (x.1 = 2) && !ixI x.2.2.1 np)) x)
theorem r_e1 (b : Bool) (x : Ed) (k : Int → Option β) : zqit (fun t => k t) (fun _ => k 0) b x = k (e1V b x) := by
 unfold zqit
 rw [Q1]
 unfold zqis e1V
 cases b with
 | true => rfl
 | false =>
  show cond (decide (x.2.2.2.2 ≤ x.2.2.2.1)) _ _ = k (cond (decide (x.2.2.2.2 ≤ x.2.2.2.1)) _ _)
  cases decide (x.2.2.2.2 ≤ x.2.2.2.1) <;> rfl
theorem r_e2 (b : Bool) (x : Ed) (k : Int → Option β) : zqiw (fun t => k t) (fun _ => k 0) b x = k (e2V b x) := by
 unfold zqiw
 rw [Q1]
 unfold zqiv e2V
 cases b with
 | true => rfl
 | false =>
  show cond (decide (x.2.2.2.1 < 0)) _ _ = k (e1V (decide (x.2.2.2.1 < 0) || _) x)
  cases decide (x.2.2.2.1 < 0) with
  | true => exact r_e1 _ _ _
  | false =>
   show cond (decide (x.2.2.2.2 < 0)) _ _ = k (e1V (decide (x.2.2.2.2 < 0) || _) x)
   cases decide (x.2.2.2.2 < 0) with
   | true => exact r_e1 _ _ _
   | false => exact (Qid _ _).trans (r_e1 _ _ _)
theorem r_e3 (b : Bool) (x : Ed) (k : Int → Option β) : zqiz (fun t => k t) (fun _ => k 0) b x = k (e3V b x) := by
 unfold zqiz
 rw [Q1]
 unfold zqiy e3V
 cases b with
 | true => rfl
 | false =>
  show cond (decide (x.1 = 2)) _ _ = k (e2V (decide (x.1 = 2) && _) x)
  cases decide (x.1 = 2) <;> exact r_e2 _ _ _
theorem r_e4 (b : Bool) (x : Ed) (k : Int → Option β) : zqj2 (fun t => k t) (fun _ => k 0) b x = k (e4V b x) := by
 unfold zqj2
 rw [Q1]
 unfold zqj1 e4V
 cases b with
 | true => rfl
 | false =>
  show cond (!decide (x.1 = 2)) _ _ = k (e3V ((!decide (x.1 = 2)) && _) x)
  cases decide (x.1 = 2) <;> exact r_e3 _ _ _
theorem Qm1 (c : zqg) (x : Ed) (k : Int → Option β) : zqj8 c x k = k (Q2g (c.2.1.length : Int) x) := by
 have h5 : ∀ b : Bool, zqj5 (fun t14 x2 => zqj2 (fun t => k t) (fun _ => k 0) t14 x2) (c.2.1.length : Int) b x = k (e4V (b || (decide (x.1 = 2) && !ixI x.2.2.1 (c.2.1.length : Int))) x) := by
  intro b
  unfold zqj5
  rw [Q1]
  unfold zqj4
  cases b with
  | true => exact r_e4 _ _ _
  | false =>
   show cond (decide (x.1 = 2)) _ _ = k (e4V (decide (x.1 = 2) && _) x)
   cases decide (x.1 = 2) with
   | false => exact r_e4 _ _ _
   | true => exact (r_ix _ _ _).trans (r_e4 _ _ _)
 unfold zqj8
 rw [Q1]
 unfold zqj7 Q2g
 refine (r_in _ _ _ _).trans ?_
 cases inI x.1 0 2 with
 | false => rfl
 | true =>
  refine (r_ix _ _ _).trans ?_
  show cond (!ixI x.2.1 (c.2.1.length : Int)) _ _ = k (e4V (((!ixI x.2.1 (c.2.1.length : Int)) && _) || _) x)
  cases ixI x.2.1 (c.2.1.length : Int) with
  | true => exact h5 _
  | false =>
   show cond (decide (x.1 = 1)) _ _ = k (e4V ((!(decide (x.1 = 1) && _)) || _) x)
   cases decide (x.1 = 1) <;> exact h5 _
def l1V (b : Bool) (l : zq2) : Int := cond b 3 (cond (decide (l.2.2.2.2.2.2.2.2 = 0)) (cond (!decide (l.2.2.2.2.2.2.2.1 = 0)) 1 0) 0)
def l2V (np nc : Int) (b : Bool) (l : zq2) : Int :=
 cond b 1 (cond (decide ((l.2.2.2.2.2.1.length : Int) = 0)) 7 (cond (decide (12 < (l.2.2.2.2.2.1.length : Int))) 5 (cond (!l.2.2.2.2.2.1.all fun m => ixI m np) 3
  (cond (!decide (Q24 l.2.2.2.2.2.2.1 = 0)) 8 (cond (!inI l.2.2.2.2.2.2.2.2 0 2) 1 (l1V ((!decide (l.2.2.2.2.2.2.2.2 = 0)) && !ixI l.2.2.2.2.2.2.2.1 nc) l))))))
def Q23 (nz np nc : Int) (l : zq2) : Int :=
 cond (!ixI l.2.1 nz) 3 (l2V np nc (decide (l.2.2.1.1 < 1) || ((!dayI l.2.2.1.1) || ((!inI l.2.2.1.2 0 86399) || ((!inI l.2.2.2.1 0 2) || !inI l.2.2.2.2.1 1 400)))) l)
theorem r_l1 (b : Bool) (l : zq2) (k : Int → Option β) : zqrp (fun t => k t) (fun _ => k 0) b l = k (l1V b l) := by
 unfold zqrp
 rw [Q1]
 unfold zqro l1V
 cases b with
 | true => rfl
 | false =>
  show cond (decide (l.2.2.2.2.2.2.2.2 = 0)) (cond (!decide (l.2.2.2.2.2.2.2.1 = 0)) _ _) _ = k (cond (decide (l.2.2.2.2.2.2.2.2 = 0)) (cond (!decide (l.2.2.2.2.2.2.2.1 = 0)) _ _) _)
  cases decide (l.2.2.2.2.2.2.2.2 = 0) <;> cases decide (l.2.2.2.2.2.2.2.1 = 0) <;> rfl
theorem Qjd (s : List Int) (hs : s.length ≤ 1000000) (c : zqg) (k : Bool → zqg → Option β) :
  zqq9 s c k = k (!s.all fun m => ixI m (c.2.1.length : Int)) c := by
 unfold zqq9
 rw [Q1]
 unfold zqq8 zqou
 rw [Q1]
 unfold zqot zqor
 rw [Q1]
 refine (Q5e (fun m i => zqop m (fun t b => k (decide ((0 : Int) ≤ t)) b) (fun b => k (decide ((0 : Int) ≤ -1)) b) s (s.length : Int) i c) (fun m => ixI m (c.2.1.length : Int)) (k true c) (k false c) 0 s fuel (Qm (by omega)) (fun m i hi => ?_) (fun m => ?_)).trans ?_
 ·simp only [zqoq, zqoo]
  refine (Qg (by omega)).trans ?_
  refine (Q1c (by omega)).trans ?_
  rw [Int.toNat_natCast, i64_in ((i : Int) + 1) (by omega)]
  unfold zq4m
  rw [Q1]
  unfold zq4l
  refine (r_ix _ _ _).trans ?_
  cases ixI (s.getD i 0) (c.2.1.length : Int) with
  | true => rfl
  | false =>
   show k (decide ((0 : Int) ≤ i)) c = k true c
   rw [decide_eq_true (by omega : (0 : Int) ≤ i)]
 ·simp only [zqoq, zqoo]
  exact Qf (by omega)
 ·cases s.all fun m => ixI m (c.2.1.length : Int) <;> rfl
theorem r_l2 (b : Bool) (c : zqg) (l : zq2) (k : Int → Option β) : zqrs (fun t => k t) (fun _ => k 0) b c l = k (l2V (c.2.1.length : Int) (c.2.2.1.length : Int) b l) := by
 unfold zqrs
 rw [Q1]
 unfold zqrr l2V
 cases b with
 | true => rfl
 | false =>
  show cond (decide ((l.2.2.2.2.2.1.length : Int) = 0)) _ _ = k (cond (decide ((l.2.2.2.2.2.1.length : Int) = 0)) _ _)
  cases decide ((l.2.2.2.2.2.1.length : Int) = 0) with
  | true => rfl
  | false =>
   show cond (decide ((12 : Int) < (l.2.2.2.2.2.1.length : Int))) _ _ = k (cond (decide ((12 : Int) < (l.2.2.2.2.2.1.length : Int))) _ _)
   by_cases h : (12 : Int) < (l.2.2.2.2.2.1.length : Int)
   ·rw [decide_eq_true h]; rfl
   ·rw [decide_eq_false h]
    refine (Qjd _ (by omega) _ _).trans ?_
    cases l.2.2.2.2.2.1.all fun m => ixI m (c.2.1.length : Int) with
    | false => rfl
    | true =>
     refine (Qjc _ _).trans ?_
     show cond (!decide (Q24 l.2.2.2.2.2.2.1 = 0)) _ _ = k (cond (!decide (Q24 l.2.2.2.2.2.2.1 = 0)) _ _)
     cases decide (Q24 l.2.2.2.2.2.2.1 = 0) with
     | false => rfl
     | true =>
      refine (r_in _ _ _ _).trans ?_
      cases inI l.2.2.2.2.2.2.2.2 0 2 with
      | false => rfl
      | true =>
       show cond (!decide (l.2.2.2.2.2.2.2.2 = 0)) _ _ = k (l1V ((!decide (l.2.2.2.2.2.2.2.2 = 0)) && _) l)
       cases decide (l.2.2.2.2.2.2.2.2 = 0) with
       | true => exact r_l1 _ _ _
       | false => exact (r_ix _ _ _).trans (r_l1 _ _ _)
theorem Ql7 (c : zqg) (l : zq2) (k : Int → Option β) : zqrv c l k = k (Q23 (c.1.length : Int) (c.2.1.length : Int) (c.2.2.1.length : Int) l) := by
 unfold zqrv
 rw [Q1]
 unfold zqru Q23
 refine (r_ix _ _ _).trans ?_
 cases ixI l.2.1 (c.1.length : Int) with
 | false => rfl
 | true =>
  show cond (decide (l.2.2.1.1 < 1)) _ _ = k (l2V _ _ (decide (l.2.2.1.1 < 1) || _) l)
  cases decide (l.2.2.1.1 < 1) with
  | true => exact r_l2 _ _ _ _
  | false =>
   refine (Qid _ _).trans ?_
   show cond (!dayI l.2.2.1.1) _ _ = k (l2V _ _ ((!dayI l.2.2.1.1) || _) l)
   cases dayI l.2.2.1.1 with
   | false => exact r_l2 _ _ _ _
   | true =>
    refine (r_in _ _ _ _).trans ?_
    show cond (!inI l.2.2.1.2 0 86399) _ _ = k (l2V _ _ ((!inI l.2.2.1.2 0 86399) || _) l)
    cases inI l.2.2.1.2 0 86399 with
    | false => exact r_l2 _ _ _ _
    | true =>
     refine (r_in _ _ _ _).trans ?_
     show cond (!inI l.2.2.2.1 0 2) _ _ = k (l2V _ _ ((!inI l.2.2.2.1 0 2) || _) l)
     cases inI l.2.2.2.1 0 2 with
     | false => exact r_l2 _ _ _ _
     | true => exact (r_in _ _ _ _).trans (r_l2 _ _ _ _)
theorem Qm2 (s : List Int) (hs : s.length ≤ 1000000) (k : Bool → Option β) :
  zqq5 s k = k (!s.all dayI) := by
 unfold zqq5
 rw [Q1]
 unfold zqq4 zqog
 rw [Q1]
 unfold zqof zqod
 rw [Q1]
 refine (Q5e (fun m i => zqob m (fun t => k (decide ((0 : Int) ≤ t))) (fun _ => k (decide ((0 : Int) ≤ -1))) s (s.length : Int) i) dayI (k true) (k false) 0 s fuel (Qm (by omega)) (fun m i hi => ?_) (fun m => ?_)).trans ?_
 ·simp only [zqoc, zqoa]
  refine (Qg (by omega)).trans ?_
  refine (Q1c (by omega)).trans ?_
  rw [Int.toNat_natCast, i64_in ((i : Int) + 1) (by omega)]
  unfold zqmb
  rw [Q1]
  unfold zqma
  refine (Qid _ _).trans ?_
  cases dayI (s.getD i 0) with
  | true => rfl
  | false =>
   show k (decide ((0 : Int) ≤ i)) = k true
   rw [decide_eq_true (by omega : (0 : Int) ≤ i)]
 ·simp only [zqoc, zqoa]
  exact Qf (by omega)
 ·cases s.all dayI <;> rfl
def ascG (l : List Int) (i : Nat) (d : Int) (_ : Unit) : Int ⊕ Unit := cond (decide (0 < (i : Int)) && decide (d ≤ l.getD (i - 1) 0)) (.inl 6) (.inr ())
def calV (nz : Int) (x : zq0) : Int :=
 cond (!ixI x.2.1 nz) 3 (cond (decide (64 < (x.2.2.length : Int))) 5 (cond (!x.2.2.all dayI) 1 (errV (walk (ascG x.2.2) x.2.2 0 ()))))
theorem Qie (c : zqg) (x : zq0) (k : Int → Option β) : zqqn c x k = k (calV (c.1.length : Int) x) := by
 unfold zqqn
 rw [Q1]
 unfold zqqm calV
 refine (r_ix _ _ _).trans ?_
 cases ixI x.2.1 (c.1.length : Int) with
 | false => rfl
 | true =>
  show cond (decide ((64 : Int) < (x.2.2.length : Int))) _ _ = k (cond (decide ((64 : Int) < (x.2.2.length : Int))) _ _)
  by_cases h : (64 : Int) < (x.2.2.length : Int)
  ·rw [decide_eq_true h]; rfl
  ·rw [decide_eq_false h]
   refine (Qm2 _ (by omega) _).trans ?_
   cases x.2.2.all dayI with
   | false => rfl
   | true =>
    show zqqk (fun t => k t) (fun _ => k 0) (x.2.2.length : Int) 0 x = k (errV (walk (ascG x.2.2) x.2.2 0 ()))
    unfold zqqk
    rw [Q1]
    refine (Q1e (fun m i (_ : Unit) => zqqi m (fun t => k t) (fun _ => k 0) (x.2.2.length : Int) i x) (ascG x.2.2) (fun e => k e) (fun _ => k 0) 0 x.2.2 () fuel (Qm (by omega)) (fun m i _ hi => ?_) (fun m _ => ?_)).trans (Q3d k _)
    ·simp only [zqqj, zqqh]
     refine (Qg (by omega)).trans ?_
     unfold ascG
     rw [i64_in ((i : Int) + 1) (by omega)]
     by_cases h0 : (0 : Int) < i
     ·refine (Qg h0).trans ?_
      refine (Q1c (by omega)).trans ?_
      rw [i64_in ((i : Int) - 1) (by omega)]
      refine (Q1c (by omega)).trans ?_
      rw [show ((i : Int) - 1).toNat = i - 1 by omega, Int.toNat_natCast, decide_eq_true h0]
      cases decide (x.2.2.getD i 0 ≤ x.2.2.getD (i - 1) 0) <;> rfl
     ·refine (Qf h0).trans ?_
      rw [decide_eq_false h0]
      rfl
    ·simp only [zqqj, zqqh]
     exact Qf (by omega)
def Q3e {α : Type} (of : α → List UInt8) (chk : α → Int) (_ : Nat) (x : α) (l : List (List UInt8)) : Int ⊕ List (List UInt8) :=
 cond (decide (Q1s (of x) l = 0)) (cond (decide (chk x = 0)) (.inr (l ++ [of x])) (.inl (chk x))) (.inl (Q1s (of x) l))
def Q2h {α : Type} (of : α → List UInt8) (chk : α → Int) (xs : List α) : Int := errV (walk (Q3e of chk) xs 0 [])
theorem Q3f {α : Type} {xs : List α} {i : Nat} {d : α} (h : i < xs.length) : xs.getD i d ∈ xs := by
 rw [List.getD_eq_getElem?_getD, List.getElem?_eq_getElem h]
 exact List.getElem_mem h
theorem Qcm {α : Type} (E : Int → Option β) (K : List (List UInt8) → Option β) (of : α → List UInt8) (chk : α → Int) (i : Nat) (x : α) (l : List (List UInt8)) :
  sumK E K (Q3e of chk i x l) = cond (!decide (Q1s (of x) l = 0)) (E (Q1s (of x) l)) (cond (!decide (chk x = 0)) (E (chk x)) (K (l ++ [of x]))) := by
 unfold Q3e
 cases decide (Q1s (of x) l = 0) <;> cases decide (chk x = 0) <;> rfl
theorem Qcn {s : List UInt8} {l : List (List UInt8)} {a : Option β} {f : List (List UInt8 × Bool) → Option β} :
  cond (!decide (Q1s s l = 0)) a (f (sn (cond (decide (Q1s s l = 0)) (l ++ [s]) l))) = cond (!decide (Q1s s l = 0)) a (f (sn (l ++ [s]))) := by
 cases decide (Q1s s l = 0) <;> rfl
theorem Ql8 (xs : List zqa) (zv : zqa → Int) (hz : ∀ z ∈ xs, ∀ k : Int → Option β, zqtl z k = k (zv z)) (hs : xs.length ≤ 1000000) (k : Int → Option β) :
  zqtz xs k = k (Q2h (·.1) zv xs) := by
 unfold zqtz
 rw [Q1]
 unfold zqty zqtw
 rw [Q1]
 refine (Q1e (fun m i l => zqtu m (fun t => k t) (fun _ => k 0) xs (xs.length : Int) i (sn l)) (Q3e (·.1) zv) (fun e => k e) (fun _ => k 0) ([], 0, []) xs [] fuel (Qm (by omega)) (fun m i l hi => ?_) (fun m _ => ?_)).trans (Q3d k _)
 ·simp only [zqtv, zqtt]
  refine (Qg (by omega)).trans ?_
  refine (Q1c (by omega)).trans ?_
  rw [Int.toNat_natCast, i64_in ((i : Int) + 1) (by omega), Qcm]
  generalize hx : xs.getD i ([], 0, []) = x
  have hm : x ∈ xs := hx ▸ Q3f hi
  unfold zq11
  rw [Q1]
  unfold zq10
  refine (Q9j _ _ _).trans ?_
  rw [hz x hm]
  exact Qcn (f := fun t => cond (!decide (zv x = 0)) (k (zv x)) (zqtu m (fun t => k t) (fun _ => k 0) xs (xs.length : Int) ((i : Int) + 1) t))
 ·simp only [zqtv, zqtt]
  exact Qf (by omega)
theorem Qm3 (c : zqg) (xs : List zq0) (hs : xs.length ≤ 1000000) (k : Int → zqg → Option β) :
  zqud xs c k = k (Q2h (·.1) (calV (c.1.length : Int)) xs) c := by
 unfold zqud
 rw [Q1]
 unfold zquc zqua
 rw [Q1]
 refine (Q1e (fun m i l => zqu8 m (fun t b => k t b) (fun b => k 0 b) xs (xs.length : Int) i c (sn l)) (Q3e (·.1) (calV (c.1.length : Int))) (fun e => k e c) (fun _ => k 0 c) ([], 0, []) xs [] fuel (Qm (by omega)) (fun m i l hi => ?_) (fun m _ => ?_)).trans (Q3d (fun e => k e c) _)
 ·simp only [zqu9, zqu7]
  refine (Qg (by omega)).trans ?_
  refine (Q1c (by omega)).trans ?_
  rw [Int.toNat_natCast, i64_in ((i : Int) + 1) (by omega), Qcm]
  generalize hx : xs.getD i ([], 0, []) = x
  unfold zq15 zqrz
  rw [Q1, Q1]
  unfold zq14 zqry
  refine (Q9j _ _ _).trans ?_
  refine (congrArg (cond _ _) (Qie _ _ _)).trans ?_
  exact Qcn (f := fun t => cond (!decide (calV (c.1.length : Int) x = 0)) (k (calV (c.1.length : Int) x) c) (zqu8 m (fun t b => k t b) (fun b => k 0 b) xs (xs.length : Int) ((i : Int) + 1) c t))
 ·simp only [zqu9, zqu7]
  exact Qf (by omega)
theorem Qk7 (c : zqg) (xs : List zq2) (hs : xs.length ≤ 1000000) (k : Int → zqg → Option β) :
  zqsh xs c k = k (Q2h (·.1) (Q23 (c.1.length : Int) (c.2.1.length : Int) (c.2.2.1.length : Int)) xs) c := by
 unfold zqsh
 rw [Q1]
 unfold zqsg zqse
 rw [Q1]
 refine (Q1e (fun m i l => zqsc m (fun t b => k t b) (fun b => k 0 b) xs (xs.length : Int) i c (sn l)) (Q3e (·.1) (Q23 (c.1.length : Int) (c.2.1.length : Int) (c.2.2.1.length : Int))) (fun e => k e c) (fun _ => k 0 c) ([], 0, (0, 0), 0, 0, [], [], 0, 0) xs [] fuel (Qm (by omega)) (fun m i l hi => ?_) (fun m _ => ?_)).trans (Q3d (fun e => k e c) _)
 ·simp only [zqsd, zqsb]
  refine (Qg (by omega)).trans ?_
  refine (Q1c (by omega)).trans ?_
  rw [Int.toNat_natCast, i64_in ((i : Int) + 1) (by omega), Qcm]
  generalize hx : xs.getD i ([], 0, (0, 0), 0, 0, [], [], 0, 0) = x
  unfold zq3m zqs3
  rw [Q1, Q1]
  unfold zq3l zqs2
  refine (Q9j _ _ _).trans ?_
  refine (congrArg (cond _ _) (Ql7 _ _ _)).trans ?_
  exact Qcn (f := fun t => cond (!decide (Q23 (c.1.length : Int) (c.2.1.length : Int) (c.2.2.1.length : Int) x = 0)) (k (Q23 (c.1.length : Int) (c.2.1.length : Int) (c.2.2.1.length : Int) x) c) (zqsc m (fun t b => k t b) (fun b => k 0 b) xs (xs.length : Int) ((i : Int) + 1) c t))
 ·simp only [zqsd, zqsb]
  exact Qf (by omega)
def Qa8 (np : Int) (_ : Nat) (x : Ed) (_ : Unit) : Int ⊕ Unit := cond (decide (Q2g np x = 0)) (.inr ()) (.inl (Q2g np x))
def Q3t (nz np nc : Int) (x : zq4) : Int :=
 cond (decide (6 < (x.2.1.length : Int))) 5 (cond (decide (48 < (x.2.2.length : Int))) 5
  (cond (decide (Q2h (·.1) (Q23 nz np nc) x.2.1 = 0)) (errV (walk (Qa8 np) x.2.2 0 ())) (Q2h (·.1) (Q23 nz np nc) x.2.1)))
theorem Qif (c : zqg) (x : zq4) (k : Int → Option β) : zqsv c x k = k (Q3t (c.1.length : Int) (c.2.1.length : Int) (c.2.2.1.length : Int) x) := by
 unfold zqsv
 rw [Q1]
 unfold zqsu Q3t
 by_cases h1 : (6 : Int) < (x.2.1.length : Int)
 ·refine (Qg h1).trans ?_
  rw [decide_eq_true h1]; rfl
 refine (Qf h1).trans ?_
 rw [decide_eq_false h1]
 by_cases h2 : (48 : Int) < (x.2.2.length : Int)
 ·refine (Qg h2).trans ?_
  rw [decide_eq_true h2]; rfl
 refine (Qf h2).trans ?_
 rw [decide_eq_false h2]
 refine (Qk7 c _ (by omega) _).trans ?_
 show cond (!decide (Q2h _ (Q23 _ _ _) x.2.1 = 0)) _ _ = k (cond (decide (Q2h _ (Q23 _ _ _) x.2.1 = 0)) _ _)
 cases decide (Q2h (·.1) (Q23 (c.1.length : Int) (c.2.1.length : Int) (c.2.2.1.length : Int)) x.2.1 = 0) with
 | false => rfl
 | true =>
  show zqss (fun t => k t) (fun _ => k 0) x.2.2 (x.2.2.length : Int) 0 c = k (errV (walk (Qa8 (c.2.1.length : Int)) x.2.2 0 ()))
  unfold zqss
  rw [Q1]
  refine (Q1e (fun m i (_ : Unit) => zqsq m (fun t => k t) (fun _ => k 0) x.2.2 (x.2.2.length : Int) i c) (Qa8 (c.2.1.length : Int)) (fun e => k e) (fun _ => k 0) (0, 0, 0, 0, 0) x.2.2 () fuel (Qm (by omega)) (fun m i _ hi => ?_) (fun m _ => ?_)).trans (Q3d k _)
  ·simp only [zqsr, zqsp]
   refine (Qg (by omega)).trans ?_
   refine (Q1c (by omega)).trans ?_
   rw [Int.toNat_natCast, i64_in ((i : Int) + 1) (by omega)]
   refine (Qm1 _ _ _).trans ?_
   unfold Qa8
   cases decide (Q2g (c.2.1.length : Int) (x.2.2.getD i (0, 0, 0, 0, 0)) = 0) <;> rfl
  ·simp only [zqsr, zqsp]
   exact Qf (by omega)
theorem Qh3 (c : zqg) (xs : List zq4) (hs : xs.length ≤ 1000000) (k : Int → zqg → Option β) :
  zqur xs c k = k (Q2h (·.1) (Q3t (c.1.length : Int) (c.2.1.length : Int) (c.2.2.1.length : Int)) xs) c := by
 unfold zqur
 rw [Q1]
 unfold zquq zquo
 rw [Q1]
 refine (Q1e (fun m i l => zqum m (fun t b => k t b) (fun b => k 0 b) xs (xs.length : Int) i c (sn l)) (Q3e (·.1) (Q3t (c.1.length : Int) (c.2.1.length : Int) (c.2.2.1.length : Int))) (fun e => k e c) (fun _ => k 0 c) ([], [], []) xs [] fuel (Qm (by omega)) (fun m i l hi => ?_) (fun m _ => ?_)).trans (Q3d (fun e => k e c) _)
 ·simp only [zqun, zqul]
  refine (Qg (by omega)).trans ?_
  refine (Q1c (by omega)).trans ?_
  rw [Int.toNat_natCast, i64_in ((i : Int) + 1) (by omega), Qcm]
  generalize hx : xs.getD i ([], [], []) = x
  unfold zq19 zqsz
  rw [Q1, Q1]
  unfold zq18 zqsy
  refine (Q9j _ _ _).trans ?_
  refine (congrArg (cond _ _) (Qif _ _ _)).trans ?_
  exact Qcn (f := fun t => cond (!decide (Q3t (c.1.length : Int) (c.2.1.length : Int) (c.2.2.1.length : Int) x = 0)) (k (Q3t (c.1.length : Int) (c.2.1.length : Int) (c.2.2.1.length : Int) x) c) (zqum m (fun t b => k t b) (fun b => k 0 b) xs (xs.length : Int) ((i : Int) + 1) c t))
 ·simp only [zqun, zqul]
  exact Qf (by omega)
def Q4r : List UInt8 := [110, 111, 98, 111, 100, 121]
def Q3u (nz : Int) (p : zqe) (l : List (List UInt8)) : Int := cond (decide (p.1 = Q4r)) 2 (Q1s p.1 l)
def Q3p (nz : Int) (_ : Nat) (p : zqe) (l : List (List UInt8)) : Int ⊕ List (List UInt8) :=
 cond (decide (Q3u nz p l = 0)) (cond (decide (Q31 nz p = 0)) (.inr (l ++ [p.1])) (.inl (Q31 nz p))) (.inl (Q3u nz p l))
def Q7m (nz : Int) (xs : List zqe) : Int := errV (walk (Q3p nz) xs 0 [])
def orV (a b : Int) : Int := cond (decide (a = 0)) b a
def Qco (zv : zqa → Int) (c : zqg) : Int :=
 cond (decide (16 < (c.1.length : Int))) 5 (cond (decide (32 < (c.2.1.length : Int))) 5 (cond (decide (8 < (c.2.2.1.length : Int))) 5 (cond (decide (12 < (c.2.2.2.length : Int))) 5
  (orV (Q2h (·.1) zv c.1) (orV (Q7m (c.1.length : Int) c.2.1) (orV (Q2h (·.1) (calV (c.1.length : Int)) c.2.2.1)
   (Q2h (·.1) (Q3t (c.1.length : Int) (c.2.1.length : Int) (c.2.2.1.length : Int)) c.2.2.2)))))))
theorem Qku {k : Int → Option β} {a b : Int} {g : Option β} (h : g = k b) : cond (!decide (a = 0)) (k a) g = k (orV a b) := by
 rw [h]
 unfold orV
 cases decide (a = 0) <;> rfl
theorem Qig {nz : Int} {xs : List zqe} : ∀ {j : Nat} {l : List (List UInt8)} {e : Int}, walk (Q3p nz) xs j l = .inl e → e ≠ 0 := by
 induction xs with
 | nil => intro j l e h; cases h
 | cons x xs ih =>
  intro j l e h
  unfold walk at h
  unfold Q3p at h
  by_cases h1 : Q3u nz x l = 0
  ·rw [decide_eq_true h1] at h
   by_cases h2 : Q31 nz x = 0
   ·rw [decide_eq_true h2] at h
    exact ih h
   ·rw [decide_eq_false h2] at h
    injection h with h
    exact h ▸ h2
  ·rw [decide_eq_false h1] at h
   injection h with h
   exact h ▸ h1
theorem Ql9 (nz : Int) {p : zqe} {l : List (List UInt8)} {f : Int → List (List UInt8 × Bool) → Option β} :
  cond (decide (p.1 = Q4r)) (f 2 (sn (cond (decide (Q1s p.1 l = 0)) (l ++ [p.1]) l))) (f (Q1s p.1 l) (sn (cond (decide (Q1s p.1 l = 0)) (l ++ [p.1]) l))) = f (Q3u nz p l) (sn (cond (decide (Q1s p.1 l = 0)) (l ++ [p.1]) l)) := by
 unfold Q3u
 cases decide (p.1 = Q4r) <;> rfl
theorem Qk8 {nz : Int} {p : zqe} {l : List (List UInt8)} (h : Q3u nz p l = 0) : Q1s p.1 l = 0 := by
 unfold Q3u at h
 cases hp : decide (p.1 = Q4r) with
 | true => rw [hp] at h; cases h
 | false => rw [hp] at h; exact h
theorem Qk9 (c : zqg) (xs : List zqe) (hs : xs.length ≤ 1000000) (k : Int → Option β) (K : zqg → Option β) (b : Int) (hK : K c = k b) :
  zqv9 (fun t => k t) K xs (xs.length : Int) 0 c [] = k (orV (Q7m (c.1.length : Int) xs) b) := by
 unfold zqv9
 rw [Q1]
 refine (Q1e (fun m i l => zqv7 m (fun t => k t) K xs (xs.length : Int) i c (sn l)) (Q3p (c.1.length : Int)) (fun e => k e) (fun _ => k b) ([], 0, [], 0, 0, false) xs [] fuel (Qm (by omega)) (fun m i l hi => ?_) (fun m _ => ?_)).trans ?_
 ·simp only [zqv8, zqv6]
  refine (Qg (by omega)).trans ?_
  refine (Q1c (by omega)).trans ?_
  rw [Int.toNat_natCast]
  generalize hx : xs.getD i ([], 0, [], 0, 0, false) = x
  refine (Q9j _ _ _).trans ?_
  refine (Ql9 (c.1.length : Int) (f := fun e s => zqv4 (fun t => k t) (fun t392 t402 t412 c2 seen2 => zqv7 m (fun t => k t) K t392 t402 (IntKind.i64.wrap (t412 + 1)) c2 seen2) e xs (xs.length : Int) (i : Int) c s x)).trans ?_
  unfold zqv4
  rw [Q1]
  unfold zqv3 Q3p
  simp only
  rw [i64_in ((i : Int) + 1) (by omega)]
  by_cases h1 : Q3u (c.1.length : Int) x l = 0
  ·refine (Qg h1).trans ?_
   rw [decide_eq_true h1, Qk8 h1]
   refine (Qk6 _ _ _).trans ?_
   cases decide (Q31 (c.1.length : Int) x = 0) <;> rfl
  ·refine (Qf h1).trans ?_
   refine (Q6c h1).trans ?_
   rw [decide_eq_false h1]
   rfl
 ·simp only [zqv8, zqv6]
  exact (Qf (by omega)).trans hK
 ·unfold Q7m
  cases hw : walk (Q3p (c.1.length : Int)) xs 0 [] with
  | inr _ => rfl
  | inl e =>
   have := Qig hw
   show k e = k (orV e b)
   unfold orV
   rw [decide_eq_false this]
   rfl
theorem Qla (c : zqg) (zv : zqa → Int) (hz : ∀ z ∈ c.1, ∀ k : Int → Option β, zqtl z k = k (zv z)) (k : Int → Option β) : zqvc c k = k (Qco zv c) := by
 unfold zqvc
 rw [Q1]
 unfold zqvb Qco
 by_cases h1 : (16 : Int) < (c.1.length : Int)
 ·refine (Qg h1).trans ?_
  rw [decide_eq_true h1]; rfl
 refine (Qf h1).trans ?_
 rw [decide_eq_false h1]
 by_cases h2 : (32 : Int) < (c.2.1.length : Int)
 ·refine (Qg h2).trans ?_
  rw [decide_eq_true h2]; rfl
 refine (Qf h2).trans ?_
 rw [decide_eq_false h2]
 by_cases h3 : (8 : Int) < (c.2.2.1.length : Int)
 ·refine (Qg h3).trans ?_
  rw [decide_eq_true h3]; rfl
 refine (Qf h3).trans ?_
 rw [decide_eq_false h3]
 by_cases h4 : (12 : Int) < (c.2.2.2.length : Int)
 ·refine (Qg h4).trans ?_
  rw [decide_eq_true h4]; rfl
 refine (Qf h4).trans ?_
 rw [decide_eq_false h4]
 refine (Ql8 c.1 zv hz (by omega) _).trans ?_
 refine Qku (k := k) ?_
 refine Qk9 c c.2.1 (by omega) k _ _ ?_
 refine (Qm3 c c.2.2.1 (by omega) _).trans ?_
 refine Qku (k := k) ?_
 exact Qh3 c c.2.2.2 (by omega) _
end
end
end Go.Lift
namespace Go.Lift
open Go.RowKit Go.IntWalk
noncomputable section
variable [Sl]
set_option linter.unusedSectionVars false
set_option linter.unusedVariables false
set_option linter.unusedSimpArgs false
set_option maxRecDepth 10000
section
variable {β : Type}
theorem Qka {y m : Int} (hy : 1970 ≤ y ∧ y ≤ 2240) (hm : 1 ≤ m ∧ m ≤ 12) (k : Int → Option β) : zqcl (y, (m, 1)) k = k (cntN y + sumM (Qb y) (m - 1).toNat) := by
 have hs0 : sumM (Qb y) 0 = 0 := rfl
 have hb := Q7k (Qb y) (m - 1).toNat
 have h0 : 0 ≤ cntN y ∧ cntN y ≤ 100000 := by unfold cntN; omega
 unfold zqcl
 rw [Q1]
 unfold zqck
 refine (Q1z (y := y) (by omega) _).trans ?_
 simp only
 rw [i64_in (cntN y + 1) (by omega), i64_in (cntN y + 1 - 1) (by omega)]
 unfold zqci
 rw [Q1]
 refine (Qcl (y := y) (by omega) m 1 (m - 1).toNat fuel 0 (cntN y + 1 - 1) (by omega) (by omega) (Qm (by omega)) (by omega) (by omega) _).trans (k_eq ?_)
 rw [Nat.zero_add, hs0]
 omega
def Qe (y m : Int) : Int := cntN y + sumM (Qb y) (m - 1).toNat
theorem Qhm (lp : Prop) [Decidable lp] {m : Int} (hm : 1 ≤ m ∧ m ≤ 12) : 28 ≤ Qq lp m ∧ Qq lp m ≤ 31 := by
 unfold Qq
 rw [if_neg (by omega), if_neg (by omega)]
 by_cases h2 : m = 2
 ·rw [if_pos h2]
  by_cases h3 : lp
  ·rw [if_pos h3]; omega
  ·rw [if_neg h3]; omega
 ·rw [if_neg h2]
  by_cases h4 : m = 4 ∨ m = 6 ∨ m = 9 ∨ m = 11
  ·rw [if_pos h4]; omega
  ·rw [if_neg h4]; omega
def nthD (y m w wd : Int) : Int :=
 let n := Qe y m
 let d := n + (wd - (n + 3) % 7 + 7) % 7 + 7 * (w - 1)
 if n + Qq (Qb y) m ≤ d then d - 7 else d
theorem Qkb {y m : Int} (hy : 1970 ≤ y ∧ y ≤ 2240) (hm : 1 ≤ m ∧ m ≤ 12) : 0 ≤ Qe y m ∧ Qe y m ≤ 200000 := by
 have hb := Q7k (Qb y) (m - 1).toNat
 have hb2 : sumM (Qb y) (m - 1).toNat ≤ sumM (Qb y) (m - 1).toNat := Int.le_refl _
 have h0 : 0 ≤ cntN y ∧ cntN y ≤ 99000 := by unfold cntN; omega
 unfold Qe
 omega
theorem Qlb {y m w wd : Int} (hy : 1970 ≤ y ∧ y ≤ 2240) (hm : 1 ≤ m ∧ m ≤ 12) (hw : 1 ≤ w ∧ w ≤ 5) (hd : 0 ≤ wd ∧ wd ≤ 6) (k : Int → Int → Option β) : zqgi y m w wd k = k (nthD y m w wd) 0 := by
 have hl := Qhm (Qb y) hm
 have hb := Q7k (Qb y) (m - 1).toNat
 have h0 : 0 ≤ cntN y ∧ cntN y ≤ 99000 := by unfold cntN; omega
 have hn : 0 ≤ Qe y m ∧ Qe y m ≤ 100000 := by unfold Qe; omega
 unfold zqgi
 rw [Q1]
 unfold zqgh
 have hv : ∀ k : Bool → Option β, zqc8 (y, m, 1) k = k true := by
  intro k
  unfold zqc8
  rw [Q1]
  unfold zqc7
  refine (Qg hy.1).trans ?_
  refine (Qg hy.2).trans ?_
  refine (Qg (by show (1 : Int) ≤ 1; omega)).trans ?_
  refine (Q41 (by show 0 ≤ y; omega) _ _).trans ?_
  exact k_eq (decide_eq_true (by show 1 ≤ Qq (Qb y) m; omega))
 refine (hv _).trans ?_
 refine (Qf (by omega)).trans ?_
 refine (Qf (by omega)).trans ?_
 refine (Qf (by omega)).trans ?_
 refine (Qf (by omega)).trans ?_
 refine (Qka hy hm _).trans ?_
 rw [show cntN y + sumM (Qb y) (m - 1).toNat = Qe y m from rfl]
 unfold zq8a
 rw [Q1]
 unfold zq89
 refine (Q41 (by omega) _ _).trans ?_
 have e1 : Int.tmod (Qe y m) 7 = Qe y m % 7 := Int.tmod_eq_emod_of_nonneg hn.1
 simp only
 rw [e1]
 have e2 : IntKind.i64.wrap (Qe y m % 7 + 10) = Qe y m % 7 + 10 := i64_in _ (by omega)
 rw [e2]
 have e3 : Int.tmod (Qe y m % 7 + 10) 7 = (Qe y m + 3) % 7 := by
  rw [Int.tmod_eq_emod_of_nonneg (by omega)]; omega
 rw [e3]
 have g1 : 0 ≤ (Qe y m + 3) % 7 ∧ (Qe y m + 3) % 7 < 7 := by omega
 rw [i64_in (wd - (Qe y m + 3) % 7) (by omega), i64_in (wd - (Qe y m + 3) % 7 + 7) (by omega)]
 rw [Int.tmod_eq_emod_of_nonneg (a := wd - (Qe y m + 3) % 7 + 7) (by omega)]
 have g2 : 0 ≤ (wd - (Qe y m + 3) % 7 + 7) % 7 ∧ (wd - (Qe y m + 3) % 7 + 7) % 7 < 7 := by omega
 rw [i64_in (w - 1) (by omega), i64_in (7 * (w - 1)) (by omega), i64_in (Qe y m + (wd - (Qe y m + 3) % 7 + 7) % 7) (by omega),
  i64_in (Qe y m + (wd - (Qe y m + 3) % 7 + 7) % 7 + 7 * (w - 1)) (by omega), i64_in (Qe y m + Qq (Qb y) m) (by omega),
  i64_in (Qe y m + (wd - (Qe y m + 3) % 7 + 7) % 7 + 7 * (w - 1) - 7) (by omega)]
 unfold nthD
 simp only
 by_cases h : Qe y m + Qq (Qb y) m ≤ Qe y m + (wd - (Qe y m + 3) % 7 + 7) % 7 + 7 * (w - 1)
 ·refine (Qg h).trans ?_
  rw [if_pos h]
 ·refine (Qf h).trans ?_
  rw [if_neg h]
theorem Q3v {y m w wd : Int} (hm : 1 ≤ m ∧ m ≤ 12) (hw : 1 ≤ w ∧ w ≤ 5) : Qe y m + 7 * (w - 1) - 7 ≤ nthD y m w wd ∧ nthD y m w wd ≤ Qe y m + 7 * w - 1 ∧ (w ≤ 4 → Qe y m + 7 * (w - 1) ≤ nthD y m w wd) ∧ nthD y m w wd ≤ Qe y m + 30 := by
 have hl := Qhm (Qb y) hm
 unfold nthD
 simp only
 by_cases h : Qe y m + Qq (Qb y) m ≤ Qe y m + (wd - (Qe y m + 3) % 7 + 7) % 7 + 7 * (w - 1)
 ·rw [if_pos h]; omega
 ·rw [if_neg h]; omega
structure RuleOk (r : zq8) : Prop where
 f : 1970 ≤ r.1 ∧ r.1 ≤ 2240
 t : r.1 ≤ r.2.1 ∧ r.2.1 ≤ 2240
 m : 1 ≤ r.2.2.1 ∧ r.2.2.1 ≤ 12
 w : 1 ≤ r.2.2.2.1 ∧ r.2.2.2.1 ≤ 5
 d : 0 ≤ r.2.2.2.2.1 ∧ r.2.2.2.2.1 ≤ 6
 s : 0 ≤ r.2.2.2.2.2.1 ∧ r.2.2.2.2.2.1 ≤ 86399
 o : -64800 ≤ r.2.2.2.2.2.2 ∧ r.2.2.2.2.2.2 ≤ 64800
theorem Q36 {n lo hi : Int} (h : lo ≤ n ∧ n ≤ hi) : inI n lo hi = true := by
 unfold inI
 rw [decide_eq_true h.1, decide_eq_true h.2]; rfl
theorem Qm4 {r : zq8} (h : RuleOk r) (k : Int → Option β) : zq7n r k = k 0 := by
 unfold zq7n
 rw [Q1]
 unfold zq7m
 refine (z_in _ _ _ _).trans ?_
 rw [Q36 h.f]
 refine (z_in _ _ _ _).trans ?_
 rw [Q36 h.t]
 refine (z_in _ _ _ _).trans ?_
 rw [Q36 h.m]
 refine (z_in _ _ _ _).trans ?_
 rw [Q36 h.w]
 refine (z_in _ _ _ _).trans ?_
 rw [Q36 h.d]
 refine (z_in _ _ _ _).trans ?_
 rw [Q36 h.s]
 refine (z_in _ _ _ _).trans ?_
 rw [Q36 h.o]
 rfl
def occY (r : zq8) (y : Int) : Int × Int := (nthD y r.2.2.1 r.2.2.2.1 r.2.2.2.2.1 * 86400 + r.2.2.2.2.2.1, r.2.2.2.2.2.2)
def occL (r : zq8) : List (Int × Int) := (List.range (r.2.1 - r.1 + 1).toNat).map fun i => occY r (r.1 + (i : Nat))
theorem Qje {r : zq8} (h : RuleOk r) {y : Int} (hy : r.1 ≤ y ∧ y ≤ r.2.1) : -10 ≤ nthD y r.2.2.1 r.2.2.2.1 r.2.2.2.2.1 ∧ nthD y r.2.2.1 r.2.2.2.1 r.2.2.2.2.1 ≤ 300000 := by
 have h1 := h.f
 have h2 := h.t
 have hb := Q3v (y := y) (wd := r.2.2.2.2.1) h.m h.w
 have hn := Qkb (y := y) (m := r.2.2.1) (by omega) h.m
 have := h.w
 omega
theorem Qjf {r : zq8} (h : RuleOk r) (a : List zq8) (b c : Int) (K : zqnj β) : ∀ (j f : Nat) (y : Int) (out : List (Int × Int)), y + (j : Int) = r.2.1 + 1 → r.1 ≤ y → j < f → out.length + j ≤ 1000000 →
  zqns f K y a b c out r = K a b c (out ++ (List.range j).map fun i => occY r (y + (i : Nat))) := by
 have h1 := h.f
 have h2 := h.t
 intro j
 induction j with
 | zero =>
  intro f y out hj hy hf hl
  obtain ⟨f, rfl⟩ : ∃ f', f = f' + 1 := ⟨f - 1, by omega⟩
  simp only [zqnt, zqnr]
  refine (Qf (by omega)).trans ?_
  simp
 | succ j ih =>
  intro f y out hj hy hf hl
  obtain ⟨f, rfl⟩ : ∃ f', f = f' + 1 := ⟨f - 1, by omega⟩
  have hb := Qje h (y := y) ⟨hy, by omega⟩
  have hs := h.s
  simp only [zqnt, zqnr]
  refine (Qg (by omega)).trans ?_
  refine (Qlb (by omega) h.m h.w h.d _).trans ?_
  rw [i64_in (nthD y r.2.2.1 r.2.2.2.1 r.2.2.2.2.1 * 86400) (by omega), i64_in (nthD y r.2.2.1 r.2.2.2.1 r.2.2.2.2.1 * 86400 + r.2.2.2.2.2.1) (by omega)]
  have hr : (out.length + 1) * 16 ≤ 140737488355328 := by omega
  refine (Qg3 hr).trans ?_
  rw [i64_in (y + 1) (by omega)]
  have hl2 : (out ++ [occY r y]).length + j ≤ 1000000 := by simp; omega
  refine (ih f (y + 1) (out ++ [occY r y]) (by omega) (by omega) (by omega) hl2).trans ?_
  refine congrArg (K a b c) ?_
  rw [List.append_assoc, List.range_succ_eq_map, List.map_cons, List.map_map]
  congr 1
  simp only [List.singleton_append]
  congr 1
  ·simp
  ·refine List.map_congr_left fun i _ => ?_
   simp only [Function.comp]
   congr 1
   simp
   omega
def Qt (l : List zq8) : List (Int × Int) := l.flatMap occL
theorem Qkc (r : zq8) : (occL r).length = (r.2.1 - r.1 + 1).toNat := by simp [occL]
def occS (z : zqa) : List (Int × Int) := zqmz (Qt z.2.2)
structure ZoneOk (z : zqa) : Prop where
 o : -64800 ≤ z.2.1 ∧ z.2.1 ≤ 64800
 r : ∀ r ∈ z.2.2, RuleOk r
 n : (Qt z.2.2).length ≤ 12
 l : z.2.2.length ≤ 12
theorem Qdg {z : zqa} (h : ZoneOk z) {x : Int × Int} (hx : x ∈ Qt z.2.2) : (-1000000 ≤ x.1 ∧ x.1 ≤ 30000000000) ∧ (-64800 ≤ x.2 ∧ x.2 ≤ 64800) := by
 obtain ⟨r, hr, hx⟩ := List.mem_flatMap.1 hx
 obtain ⟨i, hi, rfl⟩ := List.mem_map.1 hx
 have hi : i < (r.2.1 - r.1 + 1).toNat := by simpa using hi
 have hb := Qje (h.r r hr) (y := r.1 + (i : Nat)) (by omega)
 have hs := (h.r r hr).s
 have ho := (h.r r hr).o
 refine ⟨?_, ho⟩
 show -1000000 ≤ nthD _ _ _ _ * 86400 + r.2.2.2.2.2.1 ∧ nthD _ _ _ _ * 86400 + r.2.2.2.2.2.1 ≤ 30000000000
 omega
theorem Q53 {α : Type} {l : List α} {i : Nat} (d : α) (h : i < l.length) : l.take (i + 1) = l.take i ++ [l.getD i d] := by
 rw [List.take_add_one]
 simp [List.getD, h]
theorem Qm5 {z : zqa} (h : ZoneOk z) (k1 : zqnc β) (K : zqnd β) : zqnp k1 K 0 z.2.2 (z.2.2.length : Int) 0 z = K ((Qt z.2.2).length : Int) z := by
 have hl := h.l
 unfold zqnp
 rw [Q1]
 have hr0 : ∀ (i : Nat), i < z.2.2.length → RuleOk (z.2.2.getD i (0, 0, 0, 0, 0, 0, 0)) := fun i hi => h.r _ (Q3f hi)
 refine (Q89 (fun i (n : Int) => 0 ≤ n ∧ n ≤ 300 * (i : Int) ∧ n = ((Qt (z.2.2.take i)).length : Int)) (fun m i n => zqnn m k1 K n z.2.2 (z.2.2.length : Int) i z) (fun n r => n + (r.2.1 - r.1 + 1)) (fun n => K ((Qt z.2.2).length : Int) z) (0, 0, 0, 0, 0, 0, 0) z.2.2 0 fuel (Qm (by omega)) ⟨by omega, by omega, rfl⟩
  (fun i n hi hn => ?_) (fun m i n hi hn => ?_) (fun m n hn => ?_))
 ·obtain ⟨h1, h2, h3⟩ := hn
  have hr := hr0 i hi
  have g1 := hr.f
  have g2 := hr.t
  refine ⟨by omega, by omega, ?_⟩
  rw [Q53 (0, 0, 0, 0, 0, 0, 0) hi]
  unfold Qt at h3 ⊢
  rw [List.flatMap_append, List.length_append, List.flatMap_singleton, Qkc]
  omega
 ·obtain ⟨h1, h2, h3⟩ := hn
  have hr := hr0 i hi
  have g1 := hr.f
  have g2 := hr.t
  simp only [zqno, zqnm]
  refine (Qg (by omega)).trans ?_
  refine (Q1c (by omega)).trans ?_
  rw [Int.toNat_natCast]
  refine (Qm4 hr _).trans ?_
  refine (Q6b rfl).trans ?_
  generalize z.2.2.getD i (0, 0, 0, 0, 0, 0, 0) = r at hr g1 g2
  rw [i64_in (r.2.1 - r.1) (by omega), i64_in (r.2.1 - r.1 + 1) (by omega), i64_in (n + (r.2.1 - r.1 + 1)) (by omega), i64_in ((i : Int) + 1) (by omega)]
 ·obtain ⟨h1, h2, h3⟩ := hn
  rw [List.take_length] at h3
  simp only [zqno, zqnm]
  refine (Qf (by omega)).trans ?_
  rw [h3]
theorem Qm6 {z : zqa} (h : ZoneOk z) (K : zqng β) : zqnz K z.2.2 (z.2.2.length : Int) 0 [] = K (Qt z.2.2) := by
 have hl := h.l
 unfold zqnz
 rw [Q1]
 refine (Q89 (fun i (out : List (Int × Int)) => out = Qt (z.2.2.take i)) (fun m i out => zqnx m K z.2.2 (z.2.2.length : Int) i out) (fun out r => out ++ occL r) (fun out => K (Qt z.2.2)) (0, 0, 0, 0, 0, 0, 0) z.2.2 [] fuel (Qm (by omega)) rfl
  (fun i out hi ho => ?_) (fun m i out hi ho => ?_) (fun m out ho => ?_))
 ·rw [Q53 (0, 0, 0, 0, 0, 0, 0) hi, ho]
  unfold Qt
  rw [List.flatMap_append, List.flatMap_singleton]
 ·have hr : RuleOk (z.2.2.getD i (0, 0, 0, 0, 0, 0, 0)) := h.r _ (Q3f hi)
  have g1 := hr.f
  have g2 := hr.t
  have hlen : out.length ≤ 12 := by
   have e : z.2.2 = z.2.2.take i ++ z.2.2.drop i := (List.take_append_drop i z.2.2).symm
   have hn12 := h.n
   rw [e] at hn12
   unfold Qt at hn12
   rw [List.flatMap_append, List.length_append] at hn12
   rw [ho]
   unfold Qt
   omega
  simp only [zqny, zqnw]
  refine (Qg (by omega)).trans ?_
  refine (Q1c (by omega)).trans ?_
  rw [Int.toNat_natCast]
  generalize z.2.2.getD i (0, 0, 0, 0, 0, 0, 0) = r at hr g1 g2
  unfold zqnu
  rw [Q1]
  refine (Qjf hr _ _ _ _ (r.2.1 - r.1 + 1).toNat fuel r.1 out (by omega) (by omega) (Qm (by omega)) (by omega)).trans ?_
  rw [i64_in ((i : Int) + 1) (by omega)]
  rfl
 ·rw [List.take_length] at ho
  simp only [zqny, zqnw]
  refine (Qf (by omega)).trans ?_
  rw [ho]
theorem Qmk {z : zqa} (h : ZoneOk z) (k : Int → List (Int × Int) → Option β) : zqo2 z k = k 0 (occS z) := by
 have hl := h.l
 have hn12 := h.n
 unfold zqo2
 rw [Q1]
 unfold zqo1
 refine (z_in _ _ _ _).trans ?_
 rw [Q36 h.o]
 refine (Qf (by omega)).trans ?_
 refine (Qm5 h _ _).trans ?_
 refine (Qf (by omega)).trans ?_
 refine (Qm6 h _).trans ?_
 have hg : (Qt z.2.2).all zqmx = true := by
  rw [List.all_eq_true]
  intro x hx
  have := (Qdg h hx).1
  unfold zqmx
  rw [decide_eq_true (by omega), decide_eq_true (by omega)]; rfl
 have hn : decide ((Qt z.2.2).length < 13) = true := decide_eq_true (by omega)
 rw [hg, hn]
 rfl
abbrev TrS := Int × List (Int × Int)
def Q2i (_ : Nat) (o : Int × Int) (s : TrS) : Int ⊕ TrS :=
 cond (decide (o.2 = s.1)) (.inr s)
  (cond (decide (86400 ≤ o.2 - s.1) || (decide (o.2 - s.1 ≤ -86400) || ((!inI (o.1 - s.1) 0 8589934592) || (decide (0 < (s.2.length : Int)) && decide (o.1 - s.1 < (s.2.getD (s.2.length - 1) (0, 0)).1 + 604800)))))
   (.inl 6) (.inr (o.2, s.2 ++ [(o.1 - s.1, o.2)])))
def TrI (i : Nat) (s : TrS) : Prop := (-64800 ≤ s.1 ∧ s.1 ≤ 64800) ∧ s.2.length ≤ i ∧ ∀ x ∈ s.2, 0 ≤ x.1 ∧ x.1 ≤ 8589934592
theorem Qcp {α σ ε : Type} (I : Nat → σ → Prop) (F : Nat → Int → σ → Option β) (g : Nat → α → σ → ε ⊕ σ) (E : ε → Option β) (K : σ → Option β) (d : α) (xs : List α)
  (hI : ∀ (i : Nat) s s', i < xs.length → I i s → g i (xs.getD i d) s = .inr s' → I (i + 1) s')
  (h1 : ∀ (m i : Nat) s, i < xs.length → I i s → F (m + 1) (i : Int) s = sumK E (fun s' => F m ((i : Int) + 1) s') (g i (xs.getD i d) s))
  (h2 : ∀ (m : Nat) s, F (m + 1) (xs.length : Int) s = K s) :
  ∀ (r : List α) (j fuel : Nat) (s : σ), xs.drop j = r → j + r.length = xs.length → r.length < fuel → I j s → F fuel (j : Int) s = sumK E K (walk g r j s)
 | r, j, 0, s, _, _, h, _ => absurd h (Nat.not_lt_zero _)
 | [], j, m + 1, s, hd, hj, _, _ => by
  simp only [List.length_nil, Nat.add_zero] at hj
  subst hj
  rw [h2]; rfl
 | x :: r, j, m + 1, s, hd, hj, hm, hs => by
  simp only [List.length_cons] at hj hm
  have h3 : j < xs.length := by omega
  have hx : xs.getD j d = x := by
   rw [List.drop_eq_getElem_cons h3] at hd
   injection hd with hd1 hd2
   simp [List.getD, h3, hd1]
  have hr : xs.drop (j + 1) = r := by
   rw [List.drop_eq_getElem_cons h3] at hd
   injection hd with hd1 hd2
  rw [h1 m j s h3 hs, hx, walk]
  cases hg : g j x s with
  | inl e => rfl
  | inr s' =>
   simp only [sumK]
   exact Qcp I F g E K d xs hI h1 h2 r (j + 1) m s' hr (by omega) (by omega) (hI j s s' h3 hs (hx ▸ hg))
theorem Q9k {z : zqa} (h : ZoneOk z) : (occS z).Perm (Qt z.2.2) ∧ ∀ i j, i < j → j < (Qt z.2.2).length → ¬ ((occS z).getD j (0, 0)).1 - ((occS z).getD i (0, 0)).1 < 0 := by
 refine Q9i zqn1 fun x hx => ?_
 have := (Qdg h hx).1
 unfold zqmx
 rw [decide_eq_true (by omega), decide_eq_true (by omega)]; rfl
theorem Qg5 {z : zqa} (h : ZoneOk z) {x : Int × Int} (hx : x ∈ occS z) : (-1000000 ≤ x.1 ∧ x.1 ≤ 30000000000) ∧ (-64800 ≤ x.2 ∧ x.2 ≤ 64800) :=
 Qdg h ((Q9k h).1.mem_iff.1 hx)
def Q3g (z : zqa) : Int ⊕ TrS := walk Q2i (occS z) 0 (z.2.1, [])
theorem Qlc {z : zqa} (h : ZoneOk z) (k : Int → List (Int × Int) → Option β) : zqq1 z k = sumK (fun e => k e []) (fun s => k 0 s.2) (Q3g z) := by
 have hlen : (occS z).length ≤ 12 := by rw [(Q9k h).1.length_eq]; exact h.n
 unfold zqq1
 rw [Q1]
 unfold zqq0
 refine (Qmk h _).trans ?_
 refine (Q6b rfl).trans ?_
 unfold zqpy
 rw [Q1]
 refine Qcp TrI (fun m i (s : TrS) => zqpw m (fun t3 t2 => k t3 t2) (fun out => k 0 out) s.1 ((occS z).length : Int) i s.2 (occS z)) Q2i (fun e => k e []) (fun s => k 0 s.2) (0, 0) (occS z)
  (fun i s s' hi hs hg => ?_) (fun m i s hi hs => ?_) (fun m s => ?_) (occS z) 0 fuel (z.2.1, []) rfl (by simp) (Qm (by omega)) ⟨h.o, Nat.le_refl _, fun x hx => absurd hx List.not_mem_nil⟩
 ·have ho := Qg5 h (Q3f (d := ((0, 0) : Int × Int)) hi)
  obtain ⟨h1, h2, h3⟩ := hs
  generalize (occS z).getD i (0, 0) = o at ho hg
  unfold Q2i at hg
  by_cases e : o.2 = s.1
  ·rw [decide_eq_true e] at hg
   injection hg with hg
   subst hg
   exact ⟨h1, by omega, h3⟩
  ·rw [decide_eq_false e] at hg
   cases hc : (decide (86400 ≤ o.2 - s.1) || (decide (o.2 - s.1 ≤ -86400) || ((!inI (o.1 - s.1) 0 8589934592) || (decide (0 < (s.2.length : Int)) && decide (o.1 - s.1 < (s.2.getD (s.2.length - 1) (0, 0)).1 + 604800))))) with
   | true => rw [hc] at hg; cases hg
   | false =>
    rw [hc] at hg
    injection hg with hg
    subst hg
    simp only [Bool.or_eq_false_iff, Bool.not_eq_false'] at hc
    have hin := hc.2.2.1
    unfold inI at hin
    rw [Bool.and_eq_true, decide_eq_true_eq, decide_eq_true_eq] at hin
    refine ⟨ho.2, by simp; omega, fun x hx => ?_⟩
    rcases List.mem_append.1 hx with hx | hx
    ·exact h3 x hx
    ·rw [List.mem_singleton.1 hx]
     exact hin
 ·have ho := Qg5 h (Q3f (d := ((0, 0) : Int × Int)) hi)
  obtain ⟨h1, h2, h3⟩ := hs
  simp only [zqpx, zqpv]
  refine (Qg (by omega)).trans ?_
  refine (Q1c (by omega)).trans ?_
  rw [Int.toNat_natCast]
  generalize (occS z).getD i (0, 0) = o at ho
  unfold Q2i
  rw [i64_in ((i : Int) + 1) (by omega)]
  by_cases e : o.2 = s.1
  ·refine (Qg e).trans ?_
   rw [decide_eq_true e]
   rfl
  refine (Qf e).trans ?_
  rw [decide_eq_false e, i64_in (o.2 - s.1) (by omega), i64_in (o.1 - s.1) (by omega)]
  by_cases a1 : 86400 ≤ o.2 - s.1
  ·refine (Qg a1).trans ?_
   rw [decide_eq_true a1]
   rfl
  refine (Qf a1).trans ?_
  rw [decide_eq_false a1]
  by_cases a2 : o.2 - s.1 ≤ -86400
  ·refine (Qg a2).trans ?_
   rw [decide_eq_true a2]
   rfl
  refine (Qf a2).trans ?_
  rw [decide_eq_false a2]
  refine (z_in _ _ _ _).trans ?_
  cases inI (o.1 - s.1) 0 8589934592 with
  | false => rfl
  | true =>
   have hp : ∀ a b t (K : zqpp β), zqpt K a ((occS z).length : Int) b s.2 o t = K o.2 ((occS z).length : Int) b (s.2 ++ [(a, o.2)]) t := by
    intro a b t K
    unfold zqpt
    rw [Q1]
    unfold zqps
    have hr : (s.2.length + 1) * 16 ≤ 140737488355328 := by omega
    exact Qg3 hr
   by_cases a3 : (0 : Int) < (s.2.length : Int)
   ·refine (Qg a3).trans ?_
    rw [i64_in ((s.2.length : Int) - 1) (by omega)]
    refine (Q1c (by omega)).trans ?_
    rw [decide_eq_true a3, show ((s.2.length : Int) - 1).toNat = s.2.length - 1 by omega]
    have h4 := h3 _ (Q3f (d := ((0, 0) : Int × Int)) (show s.2.length - 1 < s.2.length by omega))
    rw [i64_in ((s.2.getD (s.2.length - 1) (0, 0)).1 + 604800) (by omega)]
    by_cases a4 : o.1 - s.1 < (s.2.getD (s.2.length - 1) (0, 0)).1 + 604800
    ·refine (Qg a4).trans ?_
     rw [decide_eq_true a4]
     rfl
    ·refine (Qf a4).trans ?_
     rw [decide_eq_false a4]
     refine (hp _ _ _ _).trans ?_
     rw [i64_in ((i : Int) + 1) (by omega)]
     rfl
   ·refine (Qf a3).trans ?_
    rw [decide_eq_false a3]
    refine (hp _ _ _ _).trans ?_
    rw [i64_in ((i : Int) + 1) (by omega)]
    rfl
 ·simp only [zqpx, zqpv]
  exact Qf (by omega)
def Q4j (z : zqa) : Int :=
 cond (!decide (errV (Q3g z) = 0)) 8 (cond (!decide (Int.tmod z.2.1 60 = 0)) 8 (cond (!z.2.2.all fun r => decide (Int.tmod r.2.2.2.2.2.2 60 = 0)) 8 0))
theorem Qld (s : List zq8) (hs : s.length ≤ 1000000) (k : Bool → Option β) :
  zqth s k = k (!s.all fun r => decide (Int.tmod r.2.2.2.2.2.2 60 = 0)) := by
 unfold zqth
 rw [Q1]
 unfold zqtg zqtd
 rw [Q1]
 unfold zqtc zqta
 rw [Q1]
 refine (Q5e (fun m i => zqt8 m (fun t => k (decide ((0 : Int) ≤ t))) (fun _ => k (decide ((0 : Int) ≤ -1))) s (s.length : Int) i) (fun r => decide (Int.tmod r.2.2.2.2.2.2 60 = 0)) (k true) (k false) (0, 0, 0, 0, 0, 0, 0) s fuel (Qm (by omega)) (fun m i hi => ?_) (fun m => ?_)).trans ?_
 ·simp only [zqt9, zqt7]
  refine (Qg (by omega)).trans ?_
  refine (Q1c (by omega)).trans ?_
  rw [Int.toNat_natCast, i64_in ((i : Int) + 1) (by omega)]
  unfold zq2u
  rw [Q1]
  unfold zq2t
  show cond (!decide _) _ _ = cond (decide _) _ _
  cases decide (Int.tmod (s.getD i (0, 0, 0, 0, 0, 0, 0)).2.2.2.2.2.2 60 = 0) with
  | true => rfl
  | false =>
   show k (decide ((0 : Int) ≤ i)) = k true
   rw [decide_eq_true (by omega : (0 : Int) ≤ i)]
 ·simp only [zqt9, zqt7]
  exact Qf (by omega)
 ·cases s.all fun r => decide (Int.tmod r.2.2.2.2.2.2 60 = 0) <;> rfl
theorem Qm7 {z : zqa} (h : ZoneOk z) (k : Int → Option β) : zqtl z k = k (Q4j z) := by
 have hl := h.l
 unfold zqtl
 rw [Q1]
 unfold zqtk zqrc
 rw [Q1]
 unfold zqrb
 refine (Qlc h _).trans ?_
 have e : ∀ K : Int → Option β, sumK (fun e => K e) (fun _ => K 0) (Q3g z) = K (errV (Q3g z)) := fun K => Q3d K _
 refine (e _).trans ?_
 unfold Q4j
 cases decide (errV (Q3g z) = 0) with
 | false => rfl
 | true =>
  show cond (!decide (Int.tmod z.2.1 60 = 0)) _ _ = k (cond (!decide (Int.tmod z.2.1 60 = 0)) _ _)
  cases decide (Int.tmod z.2.1 60 = 0) with
  | false => rfl
  | true =>
   refine (Qld _ (by omega) _).trans ?_
   cases z.2.2.all fun r => decide (Int.tmod r.2.2.2.2.2.2 60 = 0) <;> rfl
end
end
end Go.Lift
namespace Go.Lift
open Go.RowKit Go.IntWalk
noncomputable section
variable [Sl]
set_option linter.unusedSectionVars false
set_option linter.unusedVariables false
set_option linter.unusedSimpArgs false
abbrev Dice := List Int × Int
def Qc (d : Dice) : Prop := 0 ≤ d.2 ∧ d.2 ≤ d.1.length ∧ d.1.length ≤ 500
theorem Qkd {β : Type} (l : List Int) (k : Bool → Option β) : zqt l k = k (decide ((l.length : Int) ≤ 500)) := by
 simp only [zqt, Q1, zqs]
theorem Qle {β : Type} (l : List Int) (k : Dice → Option β) : zqx l k = k (l, 0) := by
 simp only [zqx, Q1, zqw]
theorem Qlf {l : List Int} (h : (l.length : Int) ≤ 500) : Qc (l, 0) := ⟨by simp, by simp, by show l.length ≤ 500; omega⟩
theorem Qlg {n : Int} {d : Dice} (hd : Qc d) (hn : 1 ≤ n ∧ n ≤ 4611686018427387904) :
  ∃ x d', 0 ≤ x ∧ x < n ∧ Qc d' ∧ ∀ {β : Type} (k : Int → Dice → Option β), zq1i n d k = k x d' := by
 obtain ⟨h1, h2, h3⟩ := hd
 by_cases ha : (d.1.length : Int) ≤ d.2
 ·exact ⟨0, d, by omega, by omega, ⟨h1, h2, h3⟩, fun k => by simp (disch := omega) only [zq1i, Q1, zq1h, Qg]⟩
 ·generalize hv : List.getD d.1 (Int.toNat d.2) (0 : Int) = v
  have hm1 := Int.tmod_lt_of_pos v (show 0 < n by omega)
  have hm2 : -n < Int.tmod v n := by
   have h5 := Int.tmod_lt_of_pos (-v) (show 0 < n by omega)
   rw [Int.neg_tmod] at h5
   omega
  have hd' : Qc (d.1, d.2 + 1) := ⟨by show (0 : Int) ≤ d.2 + 1; omega, by show d.2 + 1 ≤ (d.1.length : Int); omega, h3⟩
  by_cases hc : Int.tmod v n < 0
  ·refine ⟨Int.tmod v n + n, (d.1, d.2 + 1), by omega, by omega, hd', fun k => ?_⟩
   simp (disch := omega) only [zq1i, Q1, zq1h, hv, Qg, Qf, Q1c, Q6c, i64_in]
  ·refine ⟨Int.tmod v n, (d.1, d.2 + 1), by omega, by omega, hd', fun k => ?_⟩
   simp (disch := omega) only [zq1i, Q1, zq1h, hv, Qg, Qf, Q1c, Q6c, i64_in]
end
end Go.Lift
namespace Go.Lift
open Go.RowKit Go.IntWalk
noncomputable section
variable [Sl]
set_option linter.unusedSectionVars false
set_option linter.unusedVariables false
set_option linter.unusedSimpArgs false
set_option maxRecDepth 10000
theorem Qlh {s : List (Int × Int)} (hs : s.Pairwise fun x y => x.1 < y.1) {a b : Int × Int} (ha : a ∈ s) (hb : b ∈ s) (e : a.1 = b.1) : a = b := by
 induction hs with
 | nil => exact absurd ha List.not_mem_nil
 | cons h _ ih =>
  rcases List.mem_cons.1 ha with ga | ga
  ·rcases List.mem_cons.1 hb with gb | gb
   ·exact ga.trans gb.symm
   ·have := h b gb; rw [← ga] at this; omega
  ·rcases List.mem_cons.1 hb with gb | gb
   ·have := h a ga; rw [← gb] at this; omega
   ·exact ih ga gb
theorem Qli {l : List (Int × Int)} (h : ∀ i j, i < j → j < l.length → ¬ (l.getD j (0, 0)).1 - (l.getD i (0, 0)).1 < 0) : l.Pairwise fun x y => x.1 ≤ y.1 := by
 rw [List.pairwise_iff_getElem]
 intro i j hi hj hij
 have := h i j hij hj
 simp only [List.getD, hi, hj, List.getElem?_eq_getElem, Option.getD_some] at this
 omega
theorem Qa9 {z : zqa} (h : ZoneOk z) {s : List (Int × Int)} (hp : (Qt z.2.2).Perm s) (hs : s.Pairwise fun x y => x.1 < y.1) : occS z = s := by
 obtain ⟨h1, h2⟩ := Q9k h
 have hp' : (occS z).Perm s := h1.trans hp
 refine List.Perm.eq_of_pairwise (le := fun x y => x.1 ≤ y.1) (fun a b ha hb g1 g2 => ?_) (Qli fun i j hij hj => h2 i j hij (h1.length_eq ▸ hj)) (hs.imp fun g => Int.le_of_lt g) hp'
 exact Qlh hs (hp'.mem_iff.1 ha) hb (Int.le_antisymm g1 g2)
theorem Qlj (i : Nat) {o : Int × Int} {s : TrS} (h : o.2 = s.1) : Q2i i o s = .inr s := by
 unfold Q2i
 rw [decide_eq_true h]; rfl
theorem Qb6 (i : Nat) {o : Int × Int} {now : Int} (h : o.2 ≠ now) (hd : -86400 < o.2 - now ∧ o.2 - now < 86400) (ha : 0 ≤ o.1 - now ∧ o.1 - now ≤ 8589934592) : Q2i i o (now, []) = .inr (o.2, [(o.1 - now, o.2)]) := by
 unfold Q2i
 simp only
 rw [decide_eq_false h, decide_eq_false (by omega), decide_eq_false (by omega), Q36 ha]
 rfl
theorem Qaa (i : Nat) {o x : Int × Int} {now : Int} {p : List (Int × Int)} (h : o.2 ≠ now) (hd : -86400 < o.2 - now ∧ o.2 - now < 86400) (ha : 0 ≤ o.1 - now ∧ o.1 - now ≤ 8589934592) (hx : x.1 + 604800 ≤ o.1 - now) :
  Q2i i o (now, p ++ [x]) = .inr (o.2, (p ++ [x]) ++ [(o.1 - now, o.2)]) := by
 unfold Q2i
 simp only
 have e : (p ++ [x]).getD ((p ++ [x]).length - 1) (0, 0) = x := by simp [List.getD]
 rw [decide_eq_false h, decide_eq_false (by omega), decide_eq_false (by omega), Q36 ha, e, decide_eq_false (show ¬ o.1 - now < x.1 + 604800 by omega), Bool.and_false]
 rfl
theorem Q7n {z : zqa} {s : TrS} (h : Q3g z = .inr s) (ho : Int.tmod z.2.1 60 = 0) (hr : ∀ r ∈ z.2.2, Int.tmod r.2.2.2.2.2.2 60 = 0) : Q4j z = 0 := by
 unfold Q4j
 rw [h, decide_eq_true (show errV (Sum.inr s : Int ⊕ TrS) = 0 from rfl), decide_eq_true ho, List.all_eq_true.2 fun r hr' => decide_eq_true (hr r hr')]
 rfl
theorem Qm8 {n : List UInt8} {off : Int} (ho : -64800 ≤ off ∧ off ≤ 64800) (h6 : Int.tmod off 60 = 0) : ZoneOk (n, off, []) ∧ Q4j (n, off, []) = 0 := by
 have hz : ZoneOk (n, off, []) := ⟨ho, fun r hr => absurd hr List.not_mem_nil, by simp [Qt], by simp⟩
 refine ⟨hz, Q7n (s := (off, [])) ?_ h6 fun r hr => absurd hr List.not_mem_nil⟩
 unfold Q3g
 rw [Qa9 hz (s := []) (List.Perm.refl _) List.Pairwise.nil]
 rfl
theorem Qdh (r : zq8) (h : r.2.1 = r.1) : occL r = [occY r r.1] := by
 unfold occL
 rw [show (r.2.1 - r.1 + 1).toNat = 1 by omega]
 simp [List.range_succ]
theorem Qhn (r : zq8) (h : r.2.1 = r.1 + 1) : occL r = [occY r r.1, occY r (r.1 + 1)] := by
 unfold occL
 rw [show (r.2.1 - r.1 + 1).toNat = 2 by omega]
 simp [List.range_succ]
theorem Qm9 {n : List UInt8} {off : Int} {r : zq8} (ho : -64800 ≤ off ∧ off ≤ 64800) (h6 : Int.tmod off 60 = 0) (hr : RuleOk r) (hy : r.2.1 = r.1) (hr6 : Int.tmod r.2.2.2.2.2.2 60 = 0)
  (hd : -86400 < r.2.2.2.2.2.2 - off ∧ r.2.2.2.2.2.2 - off < 86400) (ht : 100000 ≤ (occY r r.1).1 ∧ (occY r r.1).1 ≤ 8000000000) : ZoneOk (n, off, [r]) ∧ Q4j (n, off, [r]) = 0 := by
 have e : Qt [r] = [occY r r.1] := by
  unfold Qt
  rw [List.flatMap_singleton, Qdh r hy]
 have hz : ZoneOk (n, off, [r]) := ⟨ho, fun x hx => by rw [List.mem_singleton.1 hx]; exact hr, by show (Qt [r]).length ≤ 12; rw [e]; simp, by simp⟩
 have hs : occS (n, off, [r]) = [occY r r.1] := Qa9 hz (by show (Qt [r]).Perm _; rw [e]) (List.pairwise_singleton _ _)
 have h6' : ∀ x ∈ (n, off, [r]).2.2, Int.tmod x.2.2.2.2.2.2 60 = 0 := fun x hx => by rw [List.mem_singleton.1 hx]; exact hr6
 by_cases g : (occY r r.1).2 = off
 ·refine ⟨hz, Q7n (s := (off, [])) ?_ h6 h6'⟩
  unfold Q3g
  rw [hs]
  unfold walk
  rw [Qlj 0 (s := ((n, off, [r]).2.1, [])) g]
  rfl
 ·refine ⟨hz, Q7n (s := ((occY r r.1).2, [((occY r r.1).1 - off, (occY r r.1).2)])) ?_ h6 h6'⟩
  unfold Q3g
  rw [hs]
  unfold walk
  rw [Qb6 0 (now := (n, off, [r]).2.1) g hd (by show 0 ≤ _ - off ∧ _ - off ≤ _; omega)]
  rfl
theorem Q2j {α σ ε : Type} {g : Nat → α → σ → ε ⊕ σ} {x : α} {r : List α} {j : Nat} {s s' : σ} (h : g j x s = .inr s') : walk g (x :: r) j s = walk g r (j + 1) s' := by
 rw [walk, h]
theorem alt2 {off dl ta tb : Int} (ho : -43200 ≤ off ∧ off ≤ 45000) (hd : 0 < dl ∧ dl ≤ 14400) (h0 : 100000 ≤ ta) (h1 : ta + 619200 ≤ tb) (h2 : tb ≤ 8000000000) :
  walk Q2i [(ta, off + dl), (tb, off)] 0 (off, []) = .inr (off, [(ta - off, off + dl)] ++ [(tb - (off + dl), off)]) := by
 refine (Q2j (Qb6 0 (o := (ta, off + dl)) (now := off) (by show off + dl ≠ off; omega) (by show -86400 < off + dl - off ∧ off + dl - off < 86400; omega) (by show 0 ≤ ta - off ∧ ta - off ≤ _; omega))).trans ?_
 refine (Q2j (Qaa (0 + 1) (o := (tb, off)) (now := off + dl) (p := []) (x := (ta - off, off + dl)) (by show off ≠ off + dl; omega) (by show -86400 < off - (off + dl) ∧ off - (off + dl) < 86400; omega) (by show 0 ≤ tb - (off + dl) ∧ tb - (off + dl) ≤ _; omega) (by show ta - off + 604800 ≤ tb - (off + dl); omega))).trans ?_
 rfl
theorem alt4 {off dl ta tb tc td : Int} (ho : -43200 ≤ off ∧ off ≤ 45000) (hd : 0 < dl ∧ dl ≤ 14400) (h0 : 100000 ≤ ta) (h1 : ta + 619200 ≤ tb) (h2 : tb + 619200 ≤ tc) (h3 : tc + 619200 ≤ td) (h4 : td ≤ 8000000000) :
  ∃ l, walk Q2i [(ta, off + dl), (tb, off), (tc, off + dl), (td, off)] 0 (off, []) = .inr (off, l) := by
 refine ⟨([(ta - off, off + dl), (tb - (off + dl), off)] ++ [(tc - off, off + dl)]) ++ [(td - (off + dl), off)], ?_⟩
 refine (Q2j (Qb6 0 (o := (ta, off + dl)) (now := off) (by show off + dl ≠ off; omega) (by show -86400 < off + dl - off ∧ off + dl - off < 86400; omega) (by show 0 ≤ ta - off ∧ ta - off ≤ _; omega))).trans ?_
 refine (Q2j (Qaa (0 + 1) (o := (tb, off)) (now := off + dl) (p := []) (x := (ta - off, off + dl)) (by show off ≠ off + dl; omega) (by show -86400 < off - (off + dl) ∧ off - (off + dl) < 86400; omega) (by show 0 ≤ tb - (off + dl) ∧ tb - (off + dl) ≤ _; omega) (by show ta - off + 604800 ≤ tb - (off + dl); omega))).trans ?_
 refine (Q2j (Qaa (0 + 1 + 1) (o := (tc, off + dl)) (now := off) (p := [(ta - off, off + dl)]) (x := (tb - (off + dl), off)) (by show off + dl ≠ off; omega) (by show -86400 < off + dl - off ∧ off + dl - off < 86400; omega) (by show 0 ≤ tc - off ∧ tc - off ≤ _; omega) (by show tb - (off + dl) + 604800 ≤ tc - off; omega))).trans ?_
 refine (Q2j (Qaa (0 + 1 + 1 + 1) (o := (td, off)) (now := off + dl) (p := [(ta - off, off + dl), (tb - (off + dl), off)]) (x := (tc - off, off + dl)) (by show off ≠ off + dl; omega) (by show -86400 < off - (off + dl) ∧ off - (off + dl) < 86400; omega) (by show 0 ≤ td - (off + dl) ∧ td - (off + dl) ≤ _; omega) (by show tc - off + 604800 ≤ td - (off + dl); omega))).trans ?_
 rfl
theorem Qjg {n : List UInt8} {off dl last : Int} {A B : zq8} (ho : -43200 ≤ off ∧ off ≤ 45000) (h6 : Int.tmod off 60 = 0) (hA : RuleOk A) (hB : RuleOk B) (hA6 : Int.tmod A.2.2.2.2.2.2 60 = 0)
  (a1 : A.1 = 2025) (b1 : B.1 = 2025) (a2 : A.2.1 = last) (b2 : B.2.1 = last) (hl : last = 2025 ∨ last = 2026) (ao : A.2.2.2.2.2.2 = off + dl) (bo : B.2.2.2.2.2.2 = off) (hd : 0 < dl ∧ dl ≤ 14400)
  (t0 : ∀ y, y = 2025 ∨ y = 2026 → 100000 ≤ (occY A y).1) (t1 : ∀ y, y = 2025 ∨ y = 2026 → (occY A y).1 + 619200 ≤ (occY B y).1) (t2 : (occY B 2025).1 + 619200 ≤ (occY A 2026).1) (t3 : ∀ y, y = 2025 ∨ y = 2026 → (occY B y).1 ≤ 8000000000) :
  ZoneOk (n, off, [A, B]) ∧ Q4j (n, off, [A, B]) = 0 := by
 have h6' : ∀ x ∈ (n, off, [A, B]).2.2, Int.tmod x.2.2.2.2.2.2 60 = 0 := by
  intro x hx
  rcases List.mem_cons.1 hx with rfl | hx
  ·exact hA6
  ·rw [List.mem_singleton.1 hx, bo]; exact h6
 have hrs : ∀ x ∈ (n, off, [A, B]).2.2, RuleOk x := by
  intro x hx
  rcases List.mem_cons.1 hx with rfl | hx
  ·exact hA
  ·rw [List.mem_singleton.1 hx]; exact hB
 have s25 := t0 2025 (.inl rfl)
 have s26 := t0 2026 (.inr rfl)
 have u25 := t1 2025 (.inl rfl)
 have u26 := t1 2026 (.inr rfl)
 have v25 := t3 2025 (.inl rfl)
 have v26 := t3 2026 (.inr rfl)
 have eA : ∀ y, (occY A y).2 = off + dl := fun _ => ao
 have eB : ∀ y, (occY B y).2 = off := fun _ => bo
 have qA : ∀ y, occY A y = ((occY A y).1, off + dl) := fun y => Prod.ext rfl (eA y)
 have qB : ∀ y, occY B y = ((occY B y).1, off) := fun y => Prod.ext rfl (eB y)
 rcases hl with rfl | rfl
 ·have e : Qt [A, B] = [occY A 2025, occY B 2025] := by
   unfold Qt
   simp only [List.flatMap_cons, List.flatMap_nil]
   rw [Qdh A (by omega), Qdh B (by omega), a1, b1]
   rfl
  have hz : ZoneOk (n, off, [A, B]) := ⟨by show -64800 ≤ off ∧ off ≤ 64800; omega, hrs, by show (Qt [A, B]).length ≤ 12; rw [e]; simp, by simp⟩
  have hs : occS (n, off, [A, B]) = [occY A 2025, occY B 2025] := Qa9 hz (by show (Qt [A, B]).Perm _; rw [e]) (by
   refine List.Pairwise.cons (fun x hx => ?_) (List.pairwise_singleton _ _)
   rw [List.mem_singleton.1 hx]; omega)
  refine ⟨hz, Q7n (s := (off, [((occY A 2025).1 - off, off + dl)] ++ [((occY B 2025).1 - (off + dl), off)])) ?_ h6 h6'⟩
  unfold Q3g
  rw [hs]
  refine Eq.trans (congrArg (fun l => walk Q2i l 0 (off, [])) ?_) (alt2 ho hd s25 u25 v25)
  rw [qA 2025, qB 2025]
 ·have e : Qt [A, B] = [occY A 2025, occY A 2026, occY B 2025, occY B 2026] := by
   unfold Qt
   simp only [List.flatMap_cons, List.flatMap_nil]
   rw [Qhn A (by omega), Qhn B (by omega), a1, b1]
   rfl
  have hz : ZoneOk (n, off, [A, B]) := ⟨by show -64800 ≤ off ∧ off ≤ 64800; omega, hrs, by show (Qt [A, B]).length ≤ 12; rw [e]; simp, by simp⟩
  have hs : occS (n, off, [A, B]) = [occY A 2025, occY B 2025, occY A 2026, occY B 2026] := Qa9 hz (by show (Qt [A, B]).Perm _; rw [e]; exact .cons _ (.swap _ _ _)) (by
   simp only [List.pairwise_cons, List.mem_cons, List.not_mem_nil, or_false, forall_eq_or_imp, forall_eq, false_implies, implies_true, List.Pairwise.nil, and_true]
   omega)
  obtain ⟨l, hl⟩ := alt4 ho hd s25 u25 t2 u26 v26
  refine ⟨hz, Q7n (s := (off, l)) ?_ h6 h6'⟩
  unfold Q3g
  rw [hs]
  refine Eq.trans (congrArg (fun l => walk Q2i l 0 (off, [])) ?_) hl
  rw [qA 2025, qB 2025, qA 2026, qB 2026]
end
end Go.Lift
namespace Go.Lift
open Go.RowKit Go.IntWalk
noncomputable section
variable [Sl]
set_option linter.unusedSectionVars false
set_option linter.unusedVariables false
set_option linter.unusedSimpArgs false
set_option maxRecDepth 10000
section
variable {β : Type} {G : Option β → Prop}
theorem w_e {A B : Option β} (e : A = B) (h : G B) : G A := e ▸ h
theorem w_c {b : Bool} {A B : Option β} (h1 : b = true → G A) (h2 : b = false → G B) : G (cond b A B) := match b, h1, h2 with | true, h, _ => h rfl | false, _, h => h rfl
theorem w_d {p : Prop} [Decidable p] {A B : Option β} (h1 : p → G A) (h2 : ¬ p → G B) : G (cond (decide p) A B) := w_c (fun h => h1 (of_decide_eq_true h)) (fun h => h2 (of_decide_eq_false h))
theorem w_i {i n : Int} {A B : Option β} (h : 0 ≤ i ∧ i < n) (h1 : G A) : G (cond (decide (0 ≤ i) && decide (i < n)) A B) := w_e (Q1c h) h1
theorem w_r {n : Nat} {A B : Option β} (h : n ≤ 140737488355328) (h1 : G A) : G (cond (decide (n ≤ Q8)) A B) := w_e (Qg3 h) h1
theorem w_p {p : Prop} [Decidable p] {A B : Option β} (h : p) (h1 : G A) : G (cond (decide p) A B) := w_e (Qg h) h1
theorem w_n {p : Prop} [Decidable p] {A B : Option β} (h : ¬ p) (h1 : G B) : G (cond (decide p) A B) := w_e (Qf h) h1
theorem Qj {n : Int} {d : Dice} {k : Int → Dice → Option β} (hd : Qc d) (hn : 1 ≤ n ∧ n ≤ 4611686018427387904) (hk : ∀ x d', 0 ≤ x → x < n → Qc d' → G (k x d')) : G (zq1i n d k) := by
 obtain ⟨x, d', h1, h2, h3, h4⟩ := Qlg hd hn
 exact w_e (h4 k) (hk x d' h1 h2 h3)
theorem Q3w {l : List Int} {d : Dice} {k : Int → Dice → Option β} (hd : Qc d) (hl : 0 < l.length ∧ l.length ≤ 1000000) (hk : ∀ x d', x ∈ l → Qc d' → G (k x d')) : G (zq42 l d k) := by
 unfold zq42
 rw [Q1]
 unfold zq41
 refine Qj hd ⟨by omega, by omega⟩ fun x d' h1 h2 h3 => ?_
 refine w_i ⟨h1, h2⟩ ?_
 exact hk _ _ (Q3f (by omega)) h3
theorem Q7o {n : Int} {d : Dice} {k : Bool → Dice → Option β} (hd : Qc d) (hn : 1 ≤ n ∧ n ≤ 1000) (hk : ∀ b d', Qc d' → G (k b d')) : G (zq3y n d k) := by
 unfold zq3y
 rw [Q1]
 unfold zq3x
 exact Qj hd ⟨by omega, by omega⟩ fun x d' h1 h2 h3 => hk _ _ h3
theorem Q7p {f t m w d s o : Int} (hf : 1970 ≤ f ∧ f ≤ 2240) (ht : f ≤ t ∧ t ≤ 2240) (hm : 1 ≤ m ∧ m ≤ 12) (hw : 1 ≤ w ∧ w ≤ 5) (hd : 0 ≤ d ∧ d ≤ 6) (hs : 0 ≤ s ∧ s ≤ 86399) (ho : -64800 ≤ o ∧ o ≤ 64800) :
  RuleOk (f, t, m, w, d, s, o) := ⟨hf, ht, hm, hw, hd, hs, ho⟩
theorem Qer (q : Int) : Int.tmod (900 * q) 60 = 0 := Int.tmod_eq_zero_of_dvd ⟨15 * q, by omega⟩
theorem Qg6 {o : Int} (h : ∃ q, o = 300 * q) : Int.tmod o 60 = 0 := by
 obtain ⟨q, rfl⟩ := h
 exact Int.tmod_eq_zero_of_dvd ⟨5 * q, by omega⟩
theorem Qml : Qe 2025 1 = 20089 := by decide
theorem Qkv : Qe 2026 1 = 20454 := by decide
theorem Qmm : Qe 2025 2 = 20120 := by decide
theorem Qmn : Qe 2026 2 = 20485 := by decide
theorem Qih : Qe 2025 3 = 20148 := by decide
theorem Qes : Qe 2026 3 = 20513 := by decide
theorem Qg7 : Qe 2025 10 = 20362 := by decide
theorem Qjh : Qe 2026 10 = 20727 := by decide
abbrev Qg8 (name : List UInt8) (z : zqa) : Prop := z.1 = name ∧ ZoneOk z ∧ Q4j z = 0
theorem Qlk {x : Int} {d : Dice} {t : zqa} {name : List UInt8} {q : Int} {k : zq9e β} (hd : Qc d) (hq : -47 ≤ q ∧ q ≤ 50) (hx : -64800 ≤ x ∧ x ≤ 64800) (h5 : ∃ p, x = 300 * p) (hc : -86400 < x - 900 * q ∧ x - 900 * q < 86400)
  (hk : ∀ d' l, Qc d' → Qg8 name (name, 900 * q, l) → G (k d' t name (900 * q) l)) : G (zq9i k x d t (name, 900 * q, [])) := by
 unfold zq9i
 rw [Q1]
 unfold zq9h
 refine Qj hd ⟨by omega, by omega⟩ fun w d1 h1 h2 hd1 => ?_
 refine Qj hd1 ⟨by omega, by omega⟩ fun s d2 h3 h4 hd2 => ?_
 simp (disch := omega) only [i64_in]
 refine hk _ _ hd2 ⟨rfl, Qm9 (by omega) (Qer q) (Q7p (by omega) (by omega) (by omega) (by omega) (by omega) (by omega) hx) rfl (Qg6 h5) hc ?_⟩
 have hb := Q3v (y := 2026) (wd := w) (m := 1) (w := 2) (by omega) (by omega)
 rw [Qkv] at hb
 show 100000 ≤ nthD 2026 1 2 w * 86400 + 1800 * s ∧ nthD 2026 1 2 w * 86400 + 1800 * s ≤ _
 omega
theorem Qma {name : List UInt8} {d : Dice} {k : zqa → Dice → Option β} (hd : Qc d) (hk : ∀ z d', Qc d' → Qg8 name z → G (k z d')) : G (zq9l name d k) := by
 unfold zq9l
 rw [Q1]
 unfold zq9k
 refine Q3w hd (by decide) fun p d1 hp hd1 => ?_
 refine Qj hd1 ⟨by omega, by omega⟩ fun x d2 hx0 hx1 hd2 => ?_
 refine Qj hd2 ⟨by omega, by omega⟩ fun y d3 hy0 hy1 hd3 => ?_
 refine Qj hd3 ⟨by omega, by omega⟩ fun l d4 hl0 hl1 hd4 => ?_
 refine Qj hd4 ⟨by omega, by omega⟩ fun c d5 hc0 hc1 hd5 => ?_
 have hp' : -47 ≤ p ∧ p ≤ 48 := by simp at hp; omega
 have hxy : 0 ≤ x * y ∧ x * y ≤ 2 := by
  rcases (show x = 0 ∨ x = 1 by omega) with rfl | rfl
  ·simp
  ·simp; omega
 simp (disch := omega) only [i64_in]
 generalize hq' : p + x * y = q
 have hq : -47 ≤ q ∧ q ≤ 50 := by omega
 refine w_d (fun h => ?_) (fun _ => ?_)
 ·refine hk _ _ hd5 ⟨rfl, Qjg (dl := 3600) (last := 2025 + l) (by omega) (Qer q) (Q7p (by omega) (by omega) (by omega) (by omega) (by omega) (by omega) (by omega)) (Q7p (by omega) (by omega) (by omega) (by omega) (by omega) (by omega) (by omega))
   (Qg6 ⟨3 * q + 12, by show 900 * q + 3600 = _; omega⟩) rfl rfl rfl rfl (by omega) rfl rfl (by omega) ?_ ?_ ?_ ?_⟩
  ·intro y hy
   have hb := Q3v (y := y) (wd := 6) (m := 3) (w := 5) (by omega) (by omega)
   show 100000 ≤ nthD y 3 5 6 * 86400 + 7200
   rcases hy with rfl | rfl
   ·rw [Qih] at hb; omega
   ·rw [Qes] at hb; omega
  ·intro y hy
   have hb := Q3v (y := y) (wd := 6) (m := 3) (w := 5) (by omega) (by omega)
   have hb2 := Q3v (y := y) (wd := 6) (m := 10) (w := 5) (by omega) (by omega)
   show nthD y 3 5 6 * 86400 + 7200 + 619200 ≤ nthD y 10 5 6 * 86400 + 10800
   rcases hy with rfl | rfl
   ·rw [Qih] at hb; rw [Qg7] at hb2; omega
   ·rw [Qes] at hb; rw [Qjh] at hb2; omega
  ·have hb := Q3v (y := 2026) (wd := 6) (m := 3) (w := 5) (by omega) (by omega)
   have hb2 := Q3v (y := 2025) (wd := 6) (m := 10) (w := 5) (by omega) (by omega)
   show nthD 2025 10 5 6 * 86400 + 10800 + 619200 ≤ nthD 2026 3 5 6 * 86400 + 7200
   rw [Qes] at hb; rw [Qg7] at hb2; omega
  ·intro y hy
   have hb2 := Q3v (y := y) (wd := 6) (m := 10) (w := 5) (by omega) (by omega)
   show nthD y 10 5 6 * 86400 + 10800 ≤ 8000000000
   rcases hy with rfl | rfl
   ·rw [Qg7] at hb2; omega
   ·rw [Qjh] at hb2; omega
 refine w_d (fun h => ?_) (fun _ => ?_)
 ·refine Qj hd5 ⟨by omega, by omega⟩ fun w1 d6 g1 g2 hd6 => ?_
  refine Qj hd6 ⟨by omega, by omega⟩ fun wd1 d7 g3 g4 hd7 => ?_
  refine Qj hd7 ⟨by omega, by omega⟩ fun s1 d8 g5 g6 hd8 => ?_
  refine Qj hd8 ⟨by omega, by omega⟩ fun o1 d9 g7 g8 hd9 => ?_
  refine Qj hd9 ⟨by omega, by omega⟩ fun mm d10 g9 g10 hd10 => ?_
  refine Q3w hd10 (by decide) fun w2 d11 hw2 hd11 => ?_
  refine Qj hd11 ⟨by omega, by omega⟩ fun wd2 d12 g11 g12 hd12 => ?_
  refine Qj hd12 ⟨by omega, by omega⟩ fun s2 d13 g13 g14 hd13 => ?_
  have hw2' : w2 = 2 ∨ w2 = 3 ∨ w2 = 5 := by simpa using hw2
  simp (disch := omega) only [i64_in]
  have hA := fun y => Q3v (y := y) (wd := wd1) (m := 1) (w := 1 + w1) (by omega) (by omega)
  have hB := fun y => Q3v (y := y) (wd := wd2) (m := 2 + mm) (w := w2) (by omega) (by omega)
  have hmm : mm = 0 ∨ mm = 1 := by omega
  have e25 : 20120 ≤ Qe 2025 (2 + mm) ∧ Qe 2025 (2 + mm) ≤ 20148 := by
   rcases hmm with rfl | rfl
   ·rw [show (2 : Int) + 0 = 2 from rfl, Qmm]; omega
   ·rw [show (2 : Int) + 1 = 3 from rfl, Qih]; omega
  have e26 : 20485 ≤ Qe 2026 (2 + mm) ∧ Qe 2026 (2 + mm) ≤ 20513 := by
   rcases hmm with rfl | rfl
   ·rw [show (2 : Int) + 0 = 2 from rfl, Qmn]; omega
   ·rw [show (2 : Int) + 1 = 3 from rfl, Qes]; omega
  have A25 := hA 2025
  have A26 := hA 2026
  have B25 := hB 2025
  have B26 := hB 2026
  rw [Qml] at A25
  rw [Qkv] at A26
  have B25' : 20127 ≤ nthD 2025 (2 + mm) w2 wd2 := by rcases hw2' with h | h | h <;> omega
  have B26' : 20492 ≤ nthD 2026 (2 + mm) w2 wd2 := by rcases hw2' with h | h | h <;> omega
  refine hk _ _ hd13 ⟨rfl, Qjg (dl := 1800 * (1 + o1)) (last := 2025 + l) (by omega) (Qer q) (Q7p (by omega) (by omega) (by omega) (by omega) (by omega) (by omega) (by omega)) (Q7p (by omega) (by omega) (by omega) (by omega) (by omega) (by omega) (by omega))
   (Qg6 ⟨3 * q + 6 * (1 + o1), by show 900 * q + 1800 * (1 + o1) = _; omega⟩) rfl rfl rfl rfl (by omega) rfl rfl (by omega) ?_ ?_ ?_ ?_⟩
  ·intro y hy
   show 100000 ≤ nthD y 1 (1 + w1) wd1 * 86400 + 3600 * s1
   rcases hy with rfl | rfl <;> omega
  ·intro y hy
   show nthD y 1 (1 + w1) wd1 * 86400 + 3600 * s1 + 619200 ≤ nthD y (2 + mm) w2 wd2 * 86400 + 3600 * s2
   rcases hy with rfl | rfl <;> omega
  ·show nthD 2025 (2 + mm) w2 wd2 * 86400 + 3600 * s2 + 619200 ≤ nthD 2026 1 (1 + w1) wd1 * 86400 + 3600 * s1
   omega
  ·intro y hy
   show nthD y (2 + mm) w2 wd2 * 86400 + 3600 * s2 ≤ 8000000000
   rcases hy with rfl | rfl <;> omega
 refine w_d (fun h => ?_) (fun _ => ?_)
 ·refine Q3w hd5 (by decide) fun p2 d6 hp2 hd6 => ?_
  have hp2' : p2 = 3600 ∨ p2 = -3600 ∨ p2 = 82800 ∨ p2 = -82800 ∨ p2 = 43200 := by simpa using hp2
  simp (disch := omega) only [i64_in]
  have key : ∀ x, (-64800 ≤ x ∧ x ≤ 64800) → (∃ p, x = 300 * p) → (-86400 < x - 900 * q ∧ x - 900 * q < 86400) → G (zq9i (fun b0_ t4 z z2 b3_ => k (z, (z2, b3_)) b0_) x d6 zql (name, 900 * q, [])) := fun x h1 h2 h3 =>
   Qlk hd6 hq h1 h2 h3 fun d' l hd' hz => hk _ _ hd' hz
  refine w_d (fun h => key 0 (by omega) ⟨0, rfl⟩ (by omega)) (fun h => ?_)
  refine w_d (fun h => key 0 (by omega) ⟨0, rfl⟩ (by omega)) (fun h => ?_)
  refine key _ (by omega) ?_ (by omega)
  rcases hp2' with rfl | rfl | rfl | rfl | rfl
  ·exact ⟨3 * q + 12, by omega⟩
  ·exact ⟨3 * q - 12, by omega⟩
  ·exact ⟨3 * q + 276, by omega⟩
  ·exact ⟨3 * q - 276, by omega⟩
  ·exact ⟨3 * q + 144, by omega⟩
 ·exact hk _ _ hd5 ⟨rfl, Qm8 (by omega) (Qer q)⟩
end
end
end Go.Lift
namespace Go.Lift
open Go.RowKit Go.IntWalk
noncomputable section
variable [Sl]
set_option linter.unusedSectionVars false
set_option linter.unusedVariables false
set_option linter.unusedSimpArgs false
set_option maxRecDepth 10000
theorem Qg9 {α : Type} {g : Nat → α → Unit → Int ⊕ Unit} {xs : List α} (d : α) (h : ∀ i, i < xs.length → g i (xs.getD i d) () = .inr ()) : walk g xs 0 () = .inr () := by
 have key : ∀ (r : List α) (j : Nat), xs.drop j = r → walk g r j () = .inr () := by
  intro r
  induction r with
  | nil => intro j _; rfl
  | cons x r ih =>
   intro j hj
   have h3 : j < xs.length := by
    rcases Nat.lt_or_ge j xs.length with h3 | h3
    ·exact h3
    ·rw [List.drop_eq_nil_of_le h3] at hj; cases hj
   rw [List.drop_eq_getElem_cons h3] at hj
   injection hj with hd1 hd2
   have hx := h j h3
   rw [show xs.getD j d = x by simp [List.getD, h3, hd1]] at hx
   rw [walk, hx]
   exact ih (j + 1) hd2
 exact key xs 0 rfl
def Qkw (l : List (Int × Int)) (at_ : Int) : Prop := l.Pairwise (fun x y => x.2 ≤ y.1) ∧ ∀ x ∈ l, (0 ≤ x.1 ∧ x.1 < x.2) ∧ x.2 ≤ at_ ∧ x.2 ≤ 604800
theorem Qab {l : List (Int × Int)} {t : Int} (h : Qkw l t) (hl : l.length ≤ 14) : Q24 l = 0 := by
 unfold Q24
 rw [decide_eq_false (by omega), Qg9 (0, 0) fun i hi => ?_]
 ·rfl
 obtain ⟨h1, h2, h3⟩ := h.2 _ (Q3f (d := ((0, 0) : Int × Int)) hi)
 unfold Qeq
 rw [decide_eq_false (show ¬ (l.getD i (0, 0)).1 < 0 by omega), decide_eq_false (show ¬ (l.getD i (0, 0)).2 ≤ (l.getD i (0, 0)).1 by omega), decide_eq_false (show ¬ 604800 < (l.getD i (0, 0)).2 by omega)]
 by_cases h0 : (0 : Int) < i
 ·have := List.pairwise_iff_getElem.1 h.1 (i - 1) i (by omega) hi (by omega)
  have e1 : (l.getD i (0, 0)) = l[i] := by simp [List.getD, hi]
  have e2 : (l.getD (i - 1) (0, 0)) = l[i - 1] := by simp [List.getD, show i - 1 < l.length by omega]
  rw [decide_eq_true h0, e1, e2, decide_eq_false (show ¬ l[i].1 < l[i - 1].2 by omega)]
  rfl
 ·rw [decide_eq_false h0]; rfl
section
variable {β : Type} {G : Option β → Prop}
theorem Qji {k : Dice → List (Int × Int) → Option β} (hk : ∀ d' l, Qc d' → Q24 l = 0 → G (k d' l)) : ∀ (j m : Nat) (t : Int) (d : Dice) (out : List (Int × Int)), j < m → Qc d → Qkw out t → (0 ≤ t ∧ t ≤ 604800) → out.length + j ≤ 14 →
  G (zq9t m (fun b o => k b o) t (j : Int) d out) := by
 intro j
 induction j with
 | zero =>
  intro m t d out hm hd hw ht hl
  obtain ⟨m, rfl⟩ : ∃ m', m = m' + 1 := ⟨m - 1, by omega⟩
  simp only [zq9u, zq9s]
  exact w_n (by simp) (hk _ _ hd (Qab hw (by omega)))
 | succ j ih =>
  intro m t d out hm hd hw ht hl
  obtain ⟨m, rfl⟩ : ∃ m', m = m' + 1 := ⟨m - 1, by omega⟩
  simp only [zq9u, zq9s]
  refine w_p (by omega) ?_
  refine Qj hd ⟨by omega, by omega⟩ fun x d1 h1 h2 hd1 => ?_
  refine Qj hd1 ⟨by omega, by omega⟩ fun y d2 h3 h4 hd2 => ?_
  refine Q3w hd2 (by decide) fun z d3 hz hd3 => ?_
  have hz' : 1 ≤ z ∧ z ≤ 86400 := by simp at hz; omega
  simp (disch := omega) only [i64_in]
  refine w_d (fun _ => hk _ _ hd3 (Qab hw (by omega))) (fun h => ?_)
  have hr : (out.length + 1) * 16 ≤ 140737488355328 := by omega
  refine w_r hr ?_
  rw [show ((j + 1 : Nat) : Int) - 1 = (j : Int) by omega]
  refine ih m _ d3 _ (by omega) hd3 ⟨?_, ?_⟩ (by omega) (by simp; omega)
  ·rw [List.pairwise_append]
   refine ⟨hw.1, List.pairwise_singleton _ _, fun a ha b hb => ?_⟩
   rw [List.mem_singleton.1 hb]
   have := (hw.2 a ha).2.1
   show a.2 ≤ t + 3600 * x + 60 * y
   omega
  ·intro a ha
   rcases List.mem_append.1 ha with ha | ha
   ·have := hw.2 a ha
    omega
   ·rw [List.mem_singleton.1 ha]
    simp only
    omega
theorem Qe4 {d : Dice} {k : Dice → List (Int × Int) → Option β} (hd : Qc d) (hk : ∀ d' l, Qc d' → Q24 l = 0 → G (k d' l)) : G (zq9y d k) := by
 unfold zq9y
 rw [Q1]
 unfold zq9x
 refine Qj hd ⟨by omega, by omega⟩ fun x d1 h1 h2 hd1 => ?_
 unfold zq9v
 rw [Q1]
 obtain ⟨j, rfl⟩ : ∃ j : Nat, x = j := ⟨x.toNat, by omega⟩
 exact Qji hk j fuel 0 d1 [] (Qm (by omega)) hd1 ⟨List.Pairwise.nil, fun x hx => absurd hx List.not_mem_nil⟩ (by omega) (by simp; omega)
theorem Qjj {d : Dice} {k : Int → Dice → Option β} (hd : Qc d) (hk : ∀ x d', 1767100000 ≤ x → x ≤ 1770000000 → Qc d' → G (k x d')) : G (zq46 d k) := by
 unfold zq46
 rw [Q1]
 unfold zq45
 refine Qj hd ⟨by omega, by omega⟩ fun x d1 h1 h2 hd1 => ?_
 refine Q7o hd1 ⟨by omega, by omega⟩ fun b d2 hd2 => ?_
 simp (disch := omega) only [i64_in]
 refine w_c (fun _ => ?_) (fun _ => hk _ _ (by omega) (by omega) hd2)
 refine Q3w hd2 (by decide) fun p d3 hp hd3 => ?_
 have hp' : -1 ≤ p ∧ p ≤ 3599 := by simp at hp; omega
 simp (disch := omega) only [i64_in]
 exact hk _ _ (by omega) (by omega) hd3
theorem Q6t {i n : Int} (h : 0 ≤ i ∧ i < n) : ixI i n = true := by
 unfold ixI
 rw [decide_eq_true h.1, decide_eq_true h.2]; rfl
theorem Qga {n : Int} (h : 0 ≤ n ∧ n < 98981) : dayI n = true := by
 unfold dayI
 rw [decide_eq_true h.1, decide_eq_true h.2]; rfl
theorem Q8a {f t : Int} (hf : 1767100000 ≤ f ∧ f ≤ 1770000000) (ht : 1 ≤ t ∧ t ≤ 300000) (a b c : Int) : e1V (decide (f < 0) || (decide (f + t < 0) || !dayI (IntKind.i64.wrap (Int.tdiv (f + t) 86400)))) (a, b, c, f, f + t) = 0 := by
 have h1 : 0 ≤ Int.tdiv (f + t) 86400 ∧ Int.tdiv (f + t) 86400 < 98981 := by
  rw [Int.tdiv_eq_ediv_of_nonneg (by omega)]
  omega
 rw [i64_in _ (by omega), Qga h1, decide_eq_false (by omega), decide_eq_false (by omega)]
 unfold e1V
 rw [decide_eq_false (show ¬ (f + t ≤ f) by omega)]
 rfl
theorem Qgb {np a f t : Int} (ha : 0 ≤ a ∧ a < np) (hf : 1767100000 ≤ f ∧ f ≤ 1770000000) (ht : 1 ≤ t ∧ t ≤ 300000) {K : Int} (hK : K = 0 ∨ K = 1) : Q2g np (K, a, 0, f, f + t) = 0 := by
 unfold Q2g e4V e3V e2V
 simp only
 rw [Q8a hf ht, Q6t ha]
 rcases hK with rfl | rfl <;> rfl
theorem Qmb {np f t : Int} (hf : 1767100000 ≤ f ∧ f ≤ 1770000000) (ht : 1 ≤ t ∧ t ≤ 300000) : Q2g np (1, -1, 0, f, f + t) = 0 := by
 unfold Q2g e4V e3V e2V
 simp only
 rw [Q8a hf ht]
 cases ixI (-1) np <;> rfl
theorem Qmc {np a b f t : Int} (ha : 0 ≤ a ∧ a < np) (hb : 0 ≤ b ∧ b < np) (hab : a ≠ b) (hf : 1767100000 ≤ f ∧ f ≤ 1770000000) (ht : 1 ≤ t ∧ t ≤ 300000) : Q2g np (2, a, b, f, f + t) = 0 := by
 unfold Q2g e4V e3V e2V
 simp only
 rw [Q8a hf ht, Q6t ha, Q6t hb, decide_eq_false hab]
 rfl
theorem Qll {np a f t : Int} {d : Dice} {t4 : Ed} {K : Int} {k : zq8l β} (hd : Qc d) (ha : 0 ≤ a ∧ a < np) (hf : 1767100000 ≤ f ∧ f ≤ 1770000000) (ht : 1 ≤ t ∧ t ≤ 300000) (hK : K = 0 ∨ K = 1)
  (hk : ∀ d' x, Qc d' → Q2g np x = 0 → G (k d' x)) : G (zq8p k d t4 (K, a, 0, f, f + t)) := by
 unfold zq8p
 rw [Q1]
 unfold zq8o
 refine w_d (fun h => ?_) (fun _ => hk _ _ hd (Qgb ha hf ht hK))
 obtain rfl : K = 1 := h
 refine Q7o hd ⟨by omega, by omega⟩ fun b d1 hd1 => ?_
 exact w_c (fun _ => hk _ _ hd1 (Qmb hf ht)) (fun _ => hk _ _ hd1 (Qgb ha hf ht hK))
theorem Qmd {zs : List zqa} {ps : List zqe} {cs : List zq0} {d : Dice} {k : Ed → Dice → Option β} (hd : Qc d) (hp : 1 ≤ ps.length ∧ ps.length ≤ 8) (hk : ∀ x d', Qc d' → Q2g (ps.length : Int) x = 0 → G (k x d')) : G (zq8s zs ps cs d k) := by
 unfold zq8s
 rw [Q1]
 unfold zq8r
 refine Qj hd ⟨by omega, by omega⟩ fun K d1 hK0 hK1 hd1 => ?_
 refine Qj hd1 ⟨by omega, by omega⟩ fun a d2 ha0 ha1 hd2 => ?_
 refine Qjj hd2 fun f d3 hf0 hf1 hd3 => ?_
 refine Q3w hd3 (by decide) fun t d4 ht hd4 => ?_
 have ht' : 1 ≤ t ∧ t ≤ 300000 := by simp at ht; omega
 simp (disch := omega) only [i64_in]
 refine w_d (fun h => ?_) (fun h => ?_)
 ·refine w_d (fun _ => hk _ _ hd4 (Qgb ⟨ha0, ha1⟩ ⟨hf0, hf1⟩ ht' (.inl rfl))) (fun g => ?_)
  refine Qj hd4 ⟨by omega, by omega⟩ fun b d5 hb0 hb1 hd5 => ?_
  refine w_e (Q6c (by omega)) ?_
  simp (disch := omega) only [i64_in]
  have hb2 : 0 ≤ Int.tmod (a + 1 + b) (ps.length : Int) ∧ Int.tmod (a + 1 + b) (ps.length : Int) < (ps.length : Int) := ⟨Int.tmod_nonneg _ (by omega), Int.tmod_lt_of_pos _ (by omega)⟩
  have hne : a ≠ Int.tmod (a + 1 + b) (ps.length : Int) := by
   rw [Int.tmod_eq_emod_of_nonneg (by omega)]
   by_cases c : a + 1 + b < (ps.length : Int)
   ·rw [Int.emod_eq_of_lt (by omega) c]; omega
   ·have : (a + 1 + b) % (ps.length : Int) = a + 1 + b - (ps.length : Int) := by
     rw [show a + 1 + b = (a + 1 + b - (ps.length : Int)) + (ps.length : Int) by omega, Int.add_emod_right, Int.emod_eq_of_lt (by omega) (by omega)]
     omega
    omega
  obtain rfl : K = 2 := h
  unfold zq8p
  rw [Q1]
  unfold zq8o
  exact w_n (by show ¬ (2 : Int) = 1; decide) (hk _ _ hd5 (Qmc ⟨ha0, ha1⟩ hb2 hne ⟨hf0, hf1⟩ ht'))
 ·exact Qll hd4 ⟨ha0, ha1⟩ ⟨hf0, hf1⟩ ht' (by omega) fun d' x hd' hx => hk _ _ hd' hx
end
end
end Go.Lift
namespace Go.Lift
open Go.RowKit Go.IntWalk
noncomputable section
variable [Sl]
set_option linter.unusedSectionVars false
set_option linter.unusedVariables false
set_option linter.unusedSimpArgs false
set_option maxRecDepth 10000
section
variable {β : Type}
theorem c_b {b : Bool} {x y : Option β} (h : b = true) : cond b x y = x := by rw [h]; rfl
def Q28 : List (List UInt8) → List (List UInt8) → Bool
 | [], _ => true
 | s :: r, l => Qa7 s && (!decide (s ∈ l) && Q28 r (l ++ [s]))
theorem Qho {s : List UInt8} {l : List (List UInt8)} (h1 : Qa7 s = true) (h2 : s ∉ l) : Q1s s l = 0 := by
 unfold Q1s
 rw [h1, decide_eq_false h2]; rfl
theorem Qe5 {α : Type} (of : α → List UInt8) (chk : α → Int) : ∀ (xs : List α) (j : Nat) (l : List (List UInt8)), Q28 (xs.map of) l = true → (∀ x ∈ xs, chk x = 0) → walk (Q3e of chk) xs j l = .inr (l ++ xs.map of)
 | [], j, l, _, _ => by simp [walk]
 | x :: xs, j, l, h, hc => by
  simp only [List.map_cons, Q28, Bool.and_eq_true] at h
  obtain ⟨h1, h2, h3⟩ := h
  have h2 : of x ∉ l := by simpa using h2
  have hg : Q3e of chk j x l = .inr (l ++ [of x]) := by
   unfold Q3e
   rw [decide_eq_true (Qho h1 h2), decide_eq_true (hc x (List.mem_cons_self ..))]
   rfl
  unfold walk
  rw [hg]
  show walk (Q3e of chk) xs (j + 1) (l ++ [of x]) = _
  rw [Qe5 of chk xs (j + 1) _ h3 fun y hy => hc y (List.mem_cons_of_mem _ hy)]
  simp
theorem Qgc {α σ ε : Type} (g : Nat → α → σ → ε ⊕ σ) : ∀ (a b : List α) (j : Nat) (s s' : σ), walk g a j s = .inr s' → walk g (a ++ b) j s = walk g b (j + a.length) s'
 | [], b, j, s, s', h => by injection h with h; subst h; simp
 | x :: a, b, j, s, s', h => by
  unfold walk at h
  show walk g (x :: (a ++ b)) j s = _
  rw [walk]
  cases hg : g j x s with
  | inl e => rw [hg] at h; cases h
  | inr t =>
   rw [hg] at h
   show walk g (a ++ b) (j + 1) t = _
   rw [Qgc g a b (j + 1) t s' h]
   simp only [List.length_cons]
   congr 1
   omega
theorem Q8b {α : Type} {of : α → List UInt8} {chk : α → Int} {xs : List α} (h : Q28 (xs.map of) [] = true) (hc : ∀ x ∈ xs, chk x = 0) : Q2h of chk xs = 0 := by
 unfold Q2h
 rw [Qe5 of chk xs 0 [] h hc]; rfl
theorem Qhp (np : Int) : ∀ (xs : List Ed) (j : Nat), (∀ x ∈ xs, Q2g np x = 0) → walk (Qa8 np) xs j () = .inr ()
 | [], _, _ => rfl
 | x :: xs, j, h => by
  unfold walk Qa8
  rw [decide_eq_true (h x (List.mem_cons_self ..))]
  exact Qhp np xs (j + 1) fun y hy => h y (List.mem_cons_of_mem _ hy)
end
end
end Go.Lift
namespace Go.Lift
open Go.RowKit Go.IntWalk
noncomputable section
variable [Sl]
set_option linter.unusedSectionVars false
set_option linter.unusedVariables false
set_option linter.unusedSimpArgs false
set_option maxRecDepth 10000
section
variable {β : Type} {G : Option β → Prop}
theorem Qhq {nz np nc zone day sec unit every cal mode : Int} {n : List UInt8} {ms : List Int} {ws : List (Int × Int)} (hz : 0 ≤ zone ∧ zone < nz) (hd : 1 ≤ day ∧ day < 98981) (hs : 0 ≤ sec ∧ sec ≤ 86399) (hu : 0 ≤ unit ∧ unit ≤ 2) (he : 1 ≤ every ∧ every ≤ 400)
  (hm : 1 ≤ ms.length ∧ ms.length ≤ 12) (hmm : ∀ m ∈ ms, 0 ≤ m ∧ m < np) (hw : Q24 ws = 0) (hc : (mode = 0 ∧ cal = 0) ∨ ((1 ≤ mode ∧ mode ≤ 2) ∧ 0 ≤ cal ∧ cal < nc)) :
  Q23 nz np nc (n, zone, (day, sec), unit, every, ms, ws, cal, mode) = 0 := by
 unfold Q23 l2V
 simp only
 rw [Q6t hz, decide_eq_false (show ¬ day < 1 by omega), Qga (by omega), Q36 hs, Q36 hu, Q36 he, decide_eq_false (show ¬ (ms.length : Int) = 0 by omega), decide_eq_false (show ¬ (12 : Int) < (ms.length : Int) by omega),
  List.all_eq_true.2 fun m h => Q6t (hmm m h), decide_eq_true hw, Q36 (show 0 ≤ mode ∧ mode ≤ 2 by omega)]
 unfold l1V
 simp only
 rcases hc with ⟨h1, h2⟩ | ⟨h1, h2⟩
 ·rw [decide_eq_true h1, decide_eq_true h2]; rfl
 ·rw [decide_eq_false (show ¬ mode = 0 by omega), Q6t h2]; rfl
theorem Qke {zs : List zqa} {ps : List zqe} {cs : List zq0} {t6 l1 : List UInt8} {t62 t63 t64 t65 t66 t67 t68 l2 l3 l4 l5 l6 l7 l8 : Int} {b4 : List Int} {b5 b7 : List (Int × Int)} {k : zqex β} (hp : 1 ≤ ps.length ∧ ps.length ≤ 8)
  (hk : ∀ d' ms, Qc d' → (1 ≤ ms.length ∧ ms.length ≤ 12) → (∀ m ∈ ms, 0 ≤ m ∧ m < (ps.length : Int)) → G (k d' zs ps cs t6 t62 t63 t64 t65 t66 t67 t68 l1 l2 l3 l4 l5 l6 l7 l8 b4 b5 ms b7)) :
  ∀ (j m : Nat) (d : Dice) (ms : List Int), j < m → Qc d → (1 ≤ ms.length + j ∧ ms.length + j ≤ 12) → (∀ x ∈ ms, 0 ≤ x ∧ x < (ps.length : Int)) →
   G (zqfa m k (j : Int) d zs ps cs t6 t62 t63 t64 t65 t66 t67 t68 l1 l2 l3 l4 l5 l6 l7 l8 b4 b5 ms b7) := by
 intro j
 induction j with
 | zero =>
  intro m d ms hm hd hl hx
  obtain ⟨m, rfl⟩ : ∃ m', m = m' + 1 := ⟨m - 1, by omega⟩
  simp only [zqfb, zqf9]
  exact w_n (by simp) (hk _ _ hd (by omega) hx)
 | succ j ih =>
  intro m d ms hm hd hl hx
  obtain ⟨m, rfl⟩ : ∃ m', m = m' + 1 := ⟨m - 1, by omega⟩
  simp only [zqfb, zqf9]
  refine w_p (by omega) ?_
  refine Qj hd ⟨by omega, by omega⟩ fun x d1 h1 h2 hd1 => ?_
  have hr : (ms.length + 1) * 8 ≤ 140737488355328 := by omega
  refine w_r hr ?_
  simp (disch := omega) only [i64_in]
  rw [show ((j + 1 : Nat) : Int) - 1 = (j : Int) by omega]
  refine ih m d1 _ (by omega) hd1 (by simp; omega) fun y hy => ?_
  rcases List.mem_append.1 hy with hy | hy
  ·exact hx y hy
  ·rw [List.mem_singleton.1 hy]; exact ⟨h1, h2⟩
theorem Qgd {zs : List zqa} {ps : List zqe} {cs : List zq0} {d : Dice} {t6 l1 : List UInt8} {t62 t63 t64 t65 t66 t67 t68 l2 l3 l4 l5 l6 : Int} {b4 b6 : List Int} {b5 b7 : List (Int × Int)} {k : zqeu β} (hd : Qc d) (hc : cs.length ≤ 8)
  (hk : ∀ d' c m, Qc d' → ((m = 0 ∧ c = 0) ∨ ((1 ≤ m ∧ m ≤ 2) ∧ 0 ≤ c ∧ c < (cs.length : Int))) → G (k d' l1 l2 l3 l4 l5 l6 c m b6 b7)) :
  G (zqf7 k d zs ps cs t6 t62 t63 t64 t65 t66 t67 t68 l1 l2 l3 l4 l5 l6 0 0 b4 b5 b6 b7) := by
 unfold zqf7
 rw [Q1]
 unfold zqf6
 refine Q7o hd ⟨by omega, by omega⟩ fun b d1 hd1 => ?_
 unfold zqf4
 rw [Q1]
 unfold zqf3
 refine w_c (fun _ => ?_) (fun _ => hk _ _ _ hd1 (.inl ⟨rfl, rfl⟩))
 refine w_d (fun h => ?_) (fun _ => hk _ _ _ hd1 (.inl ⟨rfl, rfl⟩))
 refine Qj hd1 ⟨by omega, by omega⟩ fun x d2 h1 h2 hd2 => ?_
 refine Qj hd2 ⟨by omega, by omega⟩ fun y d3 h3 h4 hd3 => ?_
 simp (disch := omega) only [i64_in]
 exact hk _ _ _ hd3 (.inr ⟨by omega, h1, h2⟩)
theorem Qge {zs : List zqa} {ps : List zqe} {cs : List zq0} {d : Dice} {t6 l1 : List UInt8} {t62 t63 t64 t65 t66 t67 t68 l2 l3 l4 l5 l6 : Int} {b4 : List Int} {b5 : List (Int × Int)} {k : zqf0 β} (hd : Qc d) (hp : 1 ≤ ps.length ∧ ps.length ≤ 8) (hc : cs.length ≤ 8)
  (hk : ∀ d' c m ms ws, Qc d' → ((m = 0 ∧ c = 0) ∨ ((1 ≤ m ∧ m ≤ 2) ∧ 0 ≤ c ∧ c < (cs.length : Int))) → (1 ≤ ms.length ∧ ms.length ≤ 12) → (∀ x ∈ ms, 0 ≤ x ∧ x < (ps.length : Int)) → Q24 ws = 0 → G (k d' l1 l2 l3 l4 l5 l6 c m ms ws)) :
  G (zqff k d zs ps cs t6 t62 t63 t64 t65 t66 t67 t68 l1 l2 l3 l4 l5 l6 0 0 b4 b5 [] []) := by
 unfold zqff
 rw [Q1]
 unfold zqfe
 refine Qj hd ⟨by omega, by omega⟩ fun x d1 h1 h2 hd1 => ?_
 simp (disch := omega) only [i64_in]
 unfold zqfc
 rw [Q1]
 obtain ⟨j, hj⟩ : ∃ j : Nat, 1 + x = j := ⟨(1 + x).toNat, by omega⟩
 rw [hj]
 refine Qke hp (fun d2 ms hd2 hm hmm => ?_) j fuel d1 [] (Qm (by omega)) hd1 (by simp; omega) (fun y hy => absurd hy List.not_mem_nil)
 refine Q7o hd2 ⟨by omega, by omega⟩ fun b d3 hd3 => ?_
 refine w_c (fun _ => ?_) (fun _ => ?_)
 ·refine Qe4 hd3 fun d4 ws hd4 hw => ?_
  exact Qgd hd4 hc fun d5 c m hd5 hcm => hk _ _ _ _ _ hd5 hcm hm hmm hw
 ·refine Qgd hd3 hc fun d5 c m hd5 hcm => hk _ _ _ _ _ hd5 hcm hm hmm ?_
  exact Qab (t := 0) ⟨List.Pairwise.nil, fun x hx => absurd hx List.not_mem_nil⟩ (by simp)
theorem Qlm {zs : List zqa} {ps : List zqe} {cs : List zq0} {n : List UInt8} {d : Dice} {k : zq2 → Dice → Option β} (hd : Qc d) (hz : 1 ≤ zs.length ∧ zs.length ≤ 8) (hp : 1 ≤ ps.length ∧ ps.length ≤ 8) (hc : cs.length ≤ 8)
  (hk : ∀ l d', Qc d' → l.1 = n → Q23 (zs.length : Int) (ps.length : Int) (cs.length : Int) l = 0 → G (k l d')) : G (zqfi zs ps cs n d k) := by
 unfold zqfi
 rw [Q1]
 unfold zqfh
 refine Qj hd ⟨by omega, by omega⟩ fun z d1 hz0 hz1 hd1 => ?_
 refine Qj hd1 ⟨by omega, by omega⟩ fun y d2 hy0 hy1 hd2 => ?_
 refine Q3w hd2 (by decide) fun s d3 hs hd3 => ?_
 have hs' : 0 ≤ s ∧ s ≤ 86399 := by simp at hs; omega
 refine Qj hd3 ⟨by omega, by omega⟩ fun u d4 hu0 hu1 hd4 => ?_
 refine Qj hd4 ⟨by omega, by omega⟩ fun e d5 he0 he1 hd5 => ?_
 simp (disch := omega) only [i64_in]
 refine w_d (fun _ => ?_) (fun _ => ?_)
 ·refine Q3w hd5 (by decide) fun e2 d6 he2 hd6 => ?_
  have he2' : 1 ≤ e2 ∧ e2 ≤ 400 := by simp at he2; omega
  refine Qge hd6 hp hc fun d' c m ms ws hd' h1 h2 h3 h4 => hk _ _ hd' rfl ?_
  exact Qhq ⟨hz0, hz1⟩ (by omega) hs' (by omega) he2' h2 h3 h4 h1
 ·refine Qge hd5 hp hc fun d' c m ms ws hd' h1 h2 h3 h4 => hk _ _ hd' rfl ?_
  exact Qhq ⟨hz0, hz1⟩ (by omega) hs' (by omega) (by omega) h2 h3 h4 h1
def zNames : List (List UInt8) := [[104, 101, 114, 101], [116, 104, 101, 114, 101]]
def pNames : List (List UInt8) := [[97, 100, 97], [98, 111, 98], [99, 108, 101, 111], [100, 97, 110], [101, 118, 101], [102, 97, 121], [103, 117, 115], [104, 97, 108]]
def cNames : List (List UInt8) := [[100, 97, 121, 115]]
def sNames : List (List UInt8) := [[102, 105, 114, 115, 116], [115, 101, 99, 111, 110, 100], [116, 104, 105, 114, 100]]
def Named {α : Type} (of : α → List UInt8) (L : List (List UInt8)) (xs : List α) : Prop := xs.length ≤ L.length ∧ xs.map of = L.take xs.length
theorem Named.nil {α : Type} {of : α → List UInt8} {L : List (List UInt8)} : Named of L [] := ⟨Nat.zero_le _, by simp⟩
theorem Named.snoc {α : Type} {of : α → List UInt8} {L : List (List UInt8)} {xs : List α} {x : α} (h : Named of L xs) (hl : xs.length < L.length) (hx : of x = L.getD xs.length []) : Named of L (xs ++ [x]) := by
 refine ⟨by simp; omega, ?_⟩
 rw [List.map_append, h.2, List.length_append, List.length_singleton, Q53 [] hl, List.map_singleton, hx]
theorem Named.ok {α : Type} {of : α → List UInt8} {L : List (List UInt8)} {xs : List α} (h : Named of L xs) (hL : ((List.range (L.length + 1)).all fun n => Q28 (L.take n) []) = true) : Q28 (xs.map of) [] = true := by
 rw [h.2]
 exact List.all_eq_true.1 hL xs.length (List.mem_range.2 (by have := h.1; omega))
theorem Q4s {α : Type} {P : α → Prop} {xs : List α} {x : α} (h : ∀ y ∈ xs, P y) (hx : P x) : ∀ y ∈ xs ++ [x], P y := by
 intro y hy
 rcases List.mem_append.1 hy with hy | hy
 ·exact h y hy
 ·rw [List.mem_singleton.1 hy]; exact hx
def Qac (zs : List zqa) : Prop := Named (·.1) zNames zs ∧ ∀ z ∈ zs, ZoneOk z ∧ Q4j z = 0
def Q8c (nz : Int) (ps : List zqe) : Prop := Named (·.1) pNames ps ∧ ∀ p ∈ ps, Q31 nz p = 0
def Qcq (nz : Int) (cs : List zq0) : Prop := Named (·.1) cNames cs ∧ ∀ x ∈ cs, calV nz x = 0
theorem Qkf {b3 b7 : List zqa} {b4 b8 : List zqe} {b5 b9 : List zq0} {b6 b10 : List zq4} {k : zqdk β}
  (hk : ∀ d' zs, Qc d' → Qac zs → 1 ≤ zs.length → G (k d' b3 b4 b5 b6 zs b8 b9 b10)) : ∀ (j m : Nat) (d : Dice) (zs : List zqa), j < m → Qc d → Qac zs → (1 ≤ zs.length + j ∧ zs.length + j ≤ 2) →
   G (zqe0 m k (j : Int) d b3 b4 b5 b6 zs b8 b9 b10) := by
 intro j
 induction j with
 | zero =>
  intro m d zs hm hd hz hl
  obtain ⟨m, rfl⟩ : ∃ m', m = m' + 1 := ⟨m - 1, by omega⟩
  simp only [zqe1, zqdz]
  exact w_n (by simp) (hk _ _ hd hz (by omega))
 | succ j ih =>
  intro m d zs hm hd hz hl
  obtain ⟨m, rfl⟩ : ∃ m', m = m' + 1 := ⟨m - 1, by omega⟩
  simp only [zqe1, zqdz]
  refine w_p (by omega) ?_
  refine w_i (by show 0 ≤ (zs.length : Int) ∧ (zs.length : Int) < 2; omega) ?_
  refine Qma hd fun z d1 hd1 hz1 => ?_
  have hr : (zs.length + 1) * 48 ≤ 140737488355328 := by omega
  refine w_r hr ?_
  simp (disch := omega) only [i64_in]
  rw [show ((j + 1 : Nat) : Int) - 1 = (j : Int) by omega]
  refine ih m d1 _ (by omega) hd1 ⟨hz.1.snoc (by show zs.length < 2; omega) ?_, Q4s hz.2 hz1.2⟩ (by simp; omega)
  have := hz1.1
  rw [Int.toNat_natCast] at this
  exact this
theorem Qkg {nz zone w r : Int} {n : List UInt8} {q : List (Int × Int)} {b : Bool} (hz : 0 ≤ zone ∧ zone < nz) (hq : Q24 q = 0) (hw : w ∈ [(0 : Int), 40, 100, 12]) (hr : r ∈ [(0 : Int), 11, 24, 1]) : Q31 nz (n, zone, q, 3600 * w, 3600 * r, b) = 0 := by
 unfold Q31
 simp only
 have h1 : Q6d (3600 * w) = true := by
  simp at hw
  rcases hw with rfl | rfl | rfl | rfl <;> decide
 have h2 : Q6d (3600 * r) = true := by
  simp at hr
  rcases hr with rfl | rfl | rfl | rfl <;> decide
 rw [Q6t hz, decide_eq_true hq, h1, h2]
 rfl
theorem Qkh {b3 b7 : List zqa} {b4 : List zqe} {b5 b9 : List zq0} {b6 b10 : List zq4} {k : zqdn β} (h7 : 1 ≤ b7.length ∧ b7.length ≤ 8)
  (hk : ∀ d' ps, Qc d' → Q8c (b7.length : Int) ps → (1 ≤ ps.length ∧ ps.length ≤ 8) → G (k d' b3 b4 b5 b6 b7 ps b9 b10)) : ∀ (j m : Nat) (d : Dice) (ps : List zqe), j < m → Qc d → Q8c (b7.length : Int) ps → (1 ≤ ps.length + j ∧ ps.length + j ≤ 8) →
   G (zqe8 m k (j : Int) d b3 b4 b5 b6 b7 ps b9 b10) := by
 intro j
 induction j with
 | zero =>
  intro m d ps hm hd hz hl
  obtain ⟨m, rfl⟩ : ∃ m', m = m' + 1 := ⟨m - 1, by omega⟩
  simp only [zqe9, zqe7]
  exact w_n (by simp) (hk _ _ hd hz (by omega))
 | succ j ih =>
  intro m d ps hm hd hz hl
  obtain ⟨m, rfl⟩ : ∃ m', m = m' + 1 := ⟨m - 1, by omega⟩
  simp only [zqe9, zqe7]
  refine w_p (by omega) ?_
  unfold zq1m
  rw [Q1]
  unfold zq1l
  refine w_i (by show 0 ≤ (ps.length : Int) ∧ (ps.length : Int) < 8; omega) ?_
  refine Qj hd ⟨by omega, by omega⟩ fun z d1 h1 h2 hd1 => ?_
  refine Q7o hd1 ⟨by omega, by omega⟩ fun bc d2 hd2 => ?_
  refine Q7o hd2 ⟨by omega, by omega⟩ fun bq d3 hd3 => ?_
  have key : ∀ (d4 : Dice) (q : List (Int × Int)), Qc d4 → Q24 q = 0 → G (zqe5 (fun i_2 d2 b3_2 b4_2 b5_2 b6_2 b7_2 b8_2 b9_2 b10_2 => zqe8 m k (IntKind.i64.wrap (i_2 - 1)) d2 b3_2 b4_2 b5_2 b6_2 b7_2 b8_2 b9_2 b10_2) ((j + 1 : Nat) : Int) d4
    (List.getD pNames (Int.toNat (ps.length : Int)) []) z 0 0 bc b3 b4 b5 b6 b7 ps b9 b10 q) := by
   intro d4 q hd4 hq
   unfold zqe5
   rw [Q1]
   unfold zqe4
   refine Q3w hd4 (by decide) fun w d5 hw hd5 => ?_
   refine Q3w hd5 (by decide) fun r d6 hr hd6 => ?_
   have hw' : 0 ≤ w ∧ w ≤ 100 := by simp at hw; omega
   have hr' : 0 ≤ r ∧ r ≤ 100 := by simp at hr; omega
   have hr : (ps.length + 1) * 72 ≤ 140737488355328 := by omega
   refine w_r hr ?_
   simp (disch := omega) only [i64_in]
   rw [show ((j + 1 : Nat) : Int) - 1 = (j : Int) by omega]
   refine ih m d6 _ (by omega) hd6 ⟨hz.1.snoc (by show ps.length < 8; omega) (by rw [Int.toNat_natCast]), Q4s hz.2 ?_⟩ (by simp; omega)
   exact Qkg ⟨h1, h2⟩ hq hw (by assumption)
  refine w_c (fun _ => ?_) (fun _ => ?_)
  ·exact Qe4 hd3 fun d4 q hd4 hq => key d4 q hd4 hq
  ·exact key d3 [] hd3 (Qab (t := 0) ⟨List.Pairwise.nil, fun x hx => absurd hx List.not_mem_nil⟩ (by simp))
theorem Qmo {nz zone : Int} {n : List UInt8} {ds : List Int} (hz : 0 ≤ zone ∧ zone < nz) (hl : ds.length ≤ 64) (hd : ds.Pairwise (· < ·)) (hb : ∀ x ∈ ds, 0 ≤ x ∧ x < 98981) : calV nz (n, zone, ds) = 0 := by
 unfold calV
 simp only
 rw [Q6t hz, decide_eq_false (by omega), List.all_eq_true.2 fun x hx => Qga (hb x hx), Qg9 0 fun i hi => ?_]
 ·rfl
 unfold ascG
 by_cases h0 : (0 : Int) < i
 ·have := List.pairwise_iff_getElem.1 hd (i - 1) i (by omega) hi (by omega)
  have e1 : ds.getD i 0 = ds[i] := by simp [List.getD, hi]
  have e2 : ds.getD (i - 1) 0 = ds[i - 1] := by simp [List.getD, show i - 1 < ds.length by omega]
  rw [decide_eq_true h0, e1, e2, decide_eq_false (show ¬ ds[i] ≤ ds[i - 1] by omega)]
  rfl
 ·rw [decide_eq_false h0]; rfl
theorem Qki {i z : Int} {n : List UInt8} {b4 b8 : List zqa} {b5 b9 : List zqe} {b6 b10 : List zq0} {b7 b11 : List zq4} {k : zqdw β}
  (hk : ∀ d' ds, Qc d' → ds.length ≤ 64 → ds.Pairwise (· < ·) → (∀ x ∈ ds, 0 ≤ x ∧ x < 98981) → G (k i d' n z b4 b5 b6 b7 b8 b9 b10 b11 ds)) : ∀ (j m : Nat) (day : Int) (d : Dice) (ds : List Int), j < m → Qc d → ds.length + j ≤ 64 → ds.Pairwise (· < ·) →
   (∀ x ∈ ds, 0 ≤ x ∧ x ≤ day) → (0 ≤ day ∧ day + 6 * (j : Int) < 98981) →
   G (zqed m k i (j : Int) day d n z b4 b5 b6 b7 b8 b9 b10 b11 ds) := by
 intro j
 induction j with
 | zero =>
  intro m day d ds hm hd hl hp hb hdy
  obtain ⟨m, rfl⟩ : ∃ m', m = m' + 1 := ⟨m - 1, by omega⟩
  simp only [zqee, zqec]
  exact w_n (by simp) (hk _ _ hd (by omega) hp fun x hx => by have := hb x hx; omega)
 | succ j ih =>
  intro m day d ds hm hd hl hp hb hdy
  obtain ⟨m, rfl⟩ : ∃ m', m = m' + 1 := ⟨m - 1, by omega⟩
  simp only [zqee, zqec]
  refine w_p (by omega) ?_
  refine Qj hd ⟨by omega, by omega⟩ fun x d1 h1 h2 hd1 => ?_
  have hr : (ds.length + 1) * 8 ≤ 140737488355328 := by omega
  refine w_r hr ?_
  simp (disch := omega) only [i64_in]
  rw [show ((j + 1 : Nat) : Int) - 1 = (j : Int) by omega]
  refine ih m _ d1 _ (by omega) hd1 (by simp; omega) ?_ ?_ (by omega)
  ·rw [List.pairwise_append]
   refine ⟨hp, List.pairwise_singleton _ _, fun a ha b hb' => ?_⟩
   rw [List.mem_singleton.1 hb']
   have := hb a ha
   omega
  ·intro a ha
   rcases List.mem_append.1 ha with ha | ha
   ·have := hb a ha; omega
   ·rw [List.mem_singleton.1 ha]; omega
theorem Qkj {b3 b7 : List zqa} {b4 b8 : List zqe} {b5 : List zq0} {b6 b10 : List zq4} {k : zqdq β} (h7 : 1 ≤ b7.length ∧ b7.length ≤ 8)
  (hk : ∀ d' cs, Qc d' → Qcq (b7.length : Int) cs → G (k d' b3 b4 b5 b6 b7 b8 cs b10)) : ∀ (j m : Nat) (d : Dice) (cs : List zq0), j < m → Qc d → Qcq (b7.length : Int) cs → cs.length + j ≤ 1 →
   G (zqei m k (j : Int) d b3 b4 b5 b6 b7 b8 cs b10) := by
 intro j
 induction j with
 | zero =>
  intro m d cs hm hd hz hl
  obtain ⟨m, rfl⟩ : ∃ m', m = m' + 1 := ⟨m - 1, by omega⟩
  simp only [zqej, zqeh]
  exact w_n (by simp) (hk _ _ hd hz)
 | succ j ih =>
  intro m d cs hm hd hz hl
  obtain ⟨m, rfl⟩ : ∃ m', m = m' + 1 := ⟨m - 1, by omega⟩
  simp only [zqej, zqeh]
  refine w_p (by omega) ?_
  refine Qj hd ⟨by omega, by omega⟩ fun z d1 h1 h2 hd1 => ?_
  refine Qj hd1 ⟨by omega, by omega⟩ fun t d2 h3 h4 hd2 => ?_
  unfold zqef
  rw [Q1]
  obtain ⟨q, rfl⟩ : ∃ q : Nat, t = q := ⟨t.toNat, by omega⟩
  refine Qki (fun d3 ds hd3 g1 g2 g3 => ?_) q fuel 20454 d2 [] (Qm (by omega)) hd2 (by simp; omega) List.Pairwise.nil (fun x hx => absurd hx List.not_mem_nil) (by omega)
  have hr : (cs.length + 1) * 48 ≤ 140737488355328 := by omega
  refine w_r hr ?_
  simp (disch := omega) only [i64_in]
  rw [show ((j + 1 : Nat) : Int) - 1 = (j : Int) by omega]
  refine ih m d3 _ (by omega) hd3 ⟨hz.1.snoc (by show cs.length < 1; omega) ?_, Q4s hz.2 (Qmo ⟨h1, h2⟩ g1 g2 g3)⟩ (by simp; omega)
  rw [show cs.length = 0 by omega]
  rfl
theorem Qln {d : Dice} {k : List zqa → List zqe → List zq0 → Dice → List zq4 → Option β} (hd : Qc d)
  (hk : ∀ d' zs ps cs, Qc d' → Qac zs → 1 ≤ zs.length → Q8c (zs.length : Int) ps → (1 ≤ ps.length ∧ ps.length ≤ 8) → Qcq (zs.length : Int) cs → G (k zs ps cs d' [])) : G (zqen d k) := by
 unfold zqen
 rw [Q1]
 unfold zqem
 refine Qj hd ⟨by omega, by omega⟩ fun x d1 h1 h2 hd1 => ?_
 simp (disch := omega) only [i64_in]
 unfold zqe2
 rw [Q1]
 obtain ⟨j, hj⟩ : ∃ j : Nat, 1 + x = j := ⟨(1 + x).toNat, by omega⟩
 rw [hj]
 refine Qkf (b7 := []) (fun d2 zs hd2 hz hzl => ?_) j fuel d1 [] (Qm (by omega)) hd1 ⟨Named.nil, fun z hz => absurd hz List.not_mem_nil⟩ (by simp; omega)
 refine Qj hd2 ⟨by omega, by omega⟩ fun y d3 h3 h4 hd3 => ?_
 simp (disch := omega) only [i64_in]
 unfold zqea
 rw [Q1]
 obtain ⟨q, hq⟩ : ∃ q : Nat, 1 + y = q := ⟨(1 + y).toNat, by omega⟩
 rw [hq]
 have hz8 : zs.length ≤ 8 := by have := hz.1.1; have e : zNames.length = 2 := rfl; omega
 refine Qkh ⟨hzl, hz8⟩ (fun d4 ps hd4 hp hpl => ?_) q fuel d3 [] (Qm (by omega)) hd3 ⟨Named.nil, fun z hz => absurd hz List.not_mem_nil⟩ (by simp; omega)
 refine Qj hd4 ⟨by omega, by omega⟩ fun t d5 h5 h6 hd5 => ?_
 unfold zqek
 rw [Q1]
 obtain ⟨c, rfl⟩ : ∃ c : Nat, t = c := ⟨t.toNat, by omega⟩
 exact Qkj ⟨hzl, hz8⟩ (fun d6 cs hd6 hc => hk _ _ _ _ hd6 hz hzl hp hpl hc) c fuel d5 [] (Qm (by omega)) hd5 ⟨Named.nil, fun z hz => absurd hz List.not_mem_nil⟩ (by simp; omega)
end
end
end Go.Lift
namespace Go.Lift
open Go.RowKit Go.IntWalk
noncomputable section
variable [Sl]
set_option linter.unusedSectionVars false
set_option linter.unusedVariables false
set_option linter.unusedSimpArgs false
set_option maxRecDepth 10000
section
variable {β : Type} {G : Option β → Prop}
def Qb7 (nz np nc : Int) (ls : List zq2) : Prop := Named (·.1) pNames ls ∧ ∀ l ∈ ls, Q23 nz np nc l = 0
def Qb8 (nz np nc : Int) (ss : List zq4) : Prop := Named (·.1) sNames ss ∧ ∀ s ∈ ss, Q3t nz np nc s = 0
theorem Qe6 : ((List.range (pNames.length + 1)).all fun n => Q28 (pNames.take n) []) = true := by kernel_rfl
theorem Qjk : ((List.range (sNames.length + 1)).all fun n => Q28 (sNames.take n) []) = true := by kernel_rfl
theorem Qjl : ((List.range (zNames.length + 1)).all fun n => Q28 (zNames.take n) []) = true := by kernel_rfl
theorem Qjm : ((List.range (cNames.length + 1)).all fun n => Q28 (cNames.take n) []) = true := by kernel_rfl
theorem Qlo {nz np nc : Int} {n : List UInt8} {ls : List zq2} {es : List Ed} (hl : Qb7 nz np nc ls) (h6 : ls.length ≤ 6) (he : ∀ x ∈ es, Q2g np x = 0) (h48 : es.length ≤ 48) : Q3t nz np nc (n, ls, es) = 0 := by
 unfold Q3t
 simp only
 rw [decide_eq_false (by omega), decide_eq_false (by omega), decide_eq_true (Q8b (hl.1.ok Qe6) hl.2), Qhp np es 0 he]
 rfl
theorem Qjn {i : Int} {zs b4 : List zqa} {ps b5 : List zqe} {cs b6 : List zq0} {s : List UInt8} {b7 b8 : List zq4} {es : List Ed} {k : zqh7 β}
  (hz : 1 ≤ zs.length ∧ zs.length ≤ 8) (hp : 1 ≤ ps.length ∧ ps.length ≤ 8) (hc : cs.length ≤ 8)
  (hk : ∀ d' ls, Qc d' → Qb7 (zs.length : Int) (ps.length : Int) (cs.length : Int) ls → ls.length ≤ 6 → G (k i d' zs ps cs s b4 b5 b6 b7 b8 ls es)) : ∀ (j m : Nat) (d : Dice) (ls : List zq2), j < m → Qc d → Qb7 (zs.length : Int) (ps.length : Int) (cs.length : Int) ls → ls.length + j ≤ 6 →
   G (zqhe m k i (j : Int) d zs ps cs s b4 b5 b6 b7 b8 ls es) := by
 intro j
 induction j with
 | zero =>
  intro m d ls hm hd hl h6
  obtain ⟨m, rfl⟩ : ∃ m', m = m' + 1 := ⟨m - 1, by omega⟩
  simp only [zqhf, zqhd]
  exact w_n (by simp) (hk _ _ hd hl (by omega))
 | succ j ih =>
  intro m d ls hm hd hl h6
  obtain ⟨m, rfl⟩ : ∃ m', m = m' + 1 := ⟨m - 1, by omega⟩
  simp only [zqhf, zqhd]
  refine w_p (by omega) ?_
  unfold zq1m
  rw [Q1]
  unfold zq1l
  refine w_i (by show 0 ≤ (ls.length : Int) ∧ (ls.length : Int) < 8; omega) ?_
  refine Qlm hd hz hp hc fun l d1 hd1 hn hv => ?_
  have hr : (ls.length + 1) * 120 ≤ 140737488355328 := by omega
  refine w_r hr ?_
  simp (disch := omega) only [i64_in]
  rw [show ((j + 1 : Nat) : Int) - 1 = (j : Int) by omega]
  refine ih m d1 _ (by omega) hd1 ⟨hl.1.snoc (by show ls.length < 8; omega) ?_, Q4s hl.2 hv⟩ (by simp; omega)
  rw [Int.toNat_natCast] at hn
  exact hn
theorem Qjo {i : Int} {zs b4 : List zqa} {ps b5 : List zqe} {cs b6 : List zq0} {s : List UInt8} {b7 b8 : List zq4} {ls : List zq2} {k : zqha β}
  (hp : 1 ≤ ps.length ∧ ps.length ≤ 8)
  (hk : ∀ d' es, Qc d' → (∀ x ∈ es, Q2g (ps.length : Int) x = 0) → es.length ≤ 48 → G (k i d' zs ps cs s b4 b5 b6 b7 b8 ls es)) : ∀ (j m : Nat) (d : Dice) (es : List Ed), j < m → Qc d → (∀ x ∈ es, Q2g (ps.length : Int) x = 0) → es.length + j ≤ 48 →
   G (zqhj m k i (j : Int) d zs ps cs s b4 b5 b6 b7 b8 ls es) := by
 intro j
 induction j with
 | zero =>
  intro m d es hm hd hl h6
  obtain ⟨m, rfl⟩ : ∃ m', m = m' + 1 := ⟨m - 1, by omega⟩
  simp only [zqhk, zqhi]
  exact w_n (by simp) (hk _ _ hd hl (by omega))
 | succ j ih =>
  intro m d es hm hd hl h6
  obtain ⟨m, rfl⟩ : ∃ m', m = m' + 1 := ⟨m - 1, by omega⟩
  simp only [zqhk, zqhi]
  refine w_p (by omega) ?_
  refine Qmd hd hp fun x d1 hd1 hv => ?_
  have hr : (es.length + 1) * 40 ≤ 140737488355328 := by omega
  refine w_r hr ?_
  simp (disch := omega) only [i64_in]
  rw [show ((j + 1 : Nat) : Int) - 1 = (j : Int) by omega]
  exact ih m d1 _ (by omega) hd1 (Q4s hl hv) (by simp; omega)
theorem Qjp {zs b3 : List zqa} {ps b4 : List zqe} {cs b5 : List zq0} {b6 : List zq4} {k : zqh4 β}
  (hz : 1 ≤ zs.length ∧ zs.length ≤ 8) (hp : 1 ≤ ps.length ∧ ps.length ≤ 8) (hc : cs.length ≤ 8)
  (hk : ∀ d' ss, Qc d' → Qb8 (zs.length : Int) (ps.length : Int) (cs.length : Int) ss → G (k d' zs ps cs b3 b4 b5 b6 ss)) : ∀ (j m : Nat) (d : Dice) (ss : List zq4), j < m → Qc d → Qb8 (zs.length : Int) (ps.length : Int) (cs.length : Int) ss → ss.length + j ≤ 3 →
   G (zqho m k (j : Int) d zs ps cs b3 b4 b5 b6 ss) := by
 intro j
 induction j with
 | zero =>
  intro m d ss hm hd hl h6
  obtain ⟨m, rfl⟩ : ∃ m', m = m' + 1 := ⟨m - 1, by omega⟩
  simp only [zqhp, zqhn]
  exact w_n (by simp) (hk _ _ hd hl)
 | succ j ih =>
  intro m d ss hm hd hl h6
  obtain ⟨m, rfl⟩ : ∃ m', m = m' + 1 := ⟨m - 1, by omega⟩
  simp only [zqhp, zqhn]
  refine w_p (by omega) ?_
  have hm3 : Int.tmod (ss.length : Int) 3 = (ss.length : Int) := by
   rw [Int.tmod_eq_emod_of_nonneg (by omega), Int.emod_eq_of_lt (by omega) (by omega)]
  rw [hm3]
  refine w_i (by show 0 ≤ (ss.length : Int) ∧ (ss.length : Int) < 3; omega) ?_
  refine Qj hd ⟨by omega, by omega⟩ fun x d1 h1 h2 hd1 => ?_
  unfold zqhg
  rw [Q1]
  obtain ⟨q, rfl⟩ : ∃ q : Nat, x = q := ⟨x.toNat, by omega⟩
  refine Qjn hz hp hc (fun d2 ls hd2 hls hl6 => ?_) q fuel d1 [] (Qm (by omega)) hd1 ⟨Named.nil, fun z hz => absurd hz List.not_mem_nil⟩ (by simp; omega)
  refine Qj hd2 ⟨by omega, by omega⟩ fun y d3 h3 h4 hd3 => ?_
  unfold zqhl
  rw [Q1]
  obtain ⟨p, rfl⟩ : ∃ p : Nat, y = p := ⟨y.toNat, by omega⟩
  refine Qjo hp (fun d4 es hd4 hes he48 => ?_) p fuel d3 [] (Qm (by omega)) hd3 (fun z hz => absurd hz List.not_mem_nil) (by simp; omega)
  have hr : (ss.length + 1) * 64 ≤ 140737488355328 := by omega
  refine w_r hr ?_
  simp (disch := omega) only [i64_in]
  rw [show ((j + 1 : Nat) : Int) - 1 = (j : Int) by omega]
  refine ih m d4 _ (by omega) hd4 ⟨hl.1.snoc (by show ss.length < 3; omega) ?_, Q4s hl.2 (Qlo hls hl6 hes he48)⟩ (by simp; omega)
  rw [Int.toNat_natCast]
  rfl
structure ConfOk (c : zqg) : Prop where
 oz : Qac c.1
 op : Q8c (c.1.length : Int) c.2.1
 oc : Qcq (c.1.length : Int) c.2.2.1
 os : Qb8 (c.1.length : Int) (c.2.1.length : Int) (c.2.2.1.length : Int) c.2.2.2
theorem Qkk {d : Dice} {k : zqg → Dice → Option β} (hd : Qc d) (hk : ∀ c d', Qc d' → ConfOk c → G (k c d')) : G (zqht 3 d k) := by
 unfold zqht
 rw [Q1]
 unfold zqhs
 refine Qln hd fun d1 zs ps cs hd1 hz hzl hp hpl hc => ?_
 refine Qj hd1 ⟨by omega, by omega⟩ fun x d2 h1 h2 hd2 => ?_
 simp (disch := omega) only [i64_in]
 unfold zqhq
 rw [Q1]
 obtain ⟨q, hq⟩ : ∃ q : Nat, 1 + x = q := ⟨(1 + x).toNat, by omega⟩
 rw [hq]
 have hz8 : zs.length ≤ 8 := by have := hz.1.1; have e : zNames.length = 2 := rfl; omega
 have hc8 : cs.length ≤ 8 := by have := hc.1.1; have e : cNames.length = 1 := rfl; omega
 refine Qjp ⟨hzl, hz8⟩ hpl hc8 (fun d3 ss hd3 hs => ?_) q fuel d2 [] (Qm (by omega)) hd2 ⟨Named.nil, fun z hz => absurd hz List.not_mem_nil⟩ (by simp; omega)
 have hcf : ConfOk (zs, ps, cs, ss) := ⟨hz, hp, hc, hs⟩
 exact hk _ _ hd3 hcf
theorem Qcr (nz : Int) : ∀ (xs : List zqe) (j : Nat) (l : List (List UInt8)), Q28 (xs.map (·.1)) l = true → Q4r ∉ xs.map (·.1) → (∀ x ∈ xs, Q31 nz x = 0) → walk (Q3p nz) xs j l = .inr (l ++ xs.map (·.1))
 | [], j, l, _, _, _ => by simp [walk]
 | x :: xs, j, l, h, hn, hc => by
  simp only [List.map_cons, Q28, Bool.and_eq_true] at h
  obtain ⟨h1, h2, h3⟩ := h
  have h2 : x.1 ∉ l := by simpa using h2
  rw [List.map_cons, List.mem_cons, not_or] at hn
  have hf : Q3u nz x l = 0 := by
   unfold Q3u
   rw [decide_eq_false (show ¬ x.1 = Q4r from fun e => hn.1 e.symm), Qho h1 h2]
   rfl
  have hg : Q3p nz j x l = .inr (l ++ [x.1]) := by
   unfold Q3p
   rw [hf, decide_eq_true (hc x (List.mem_cons_self ..))]
   rfl
  rw [Q2j hg, Qcr nz xs (j + 1) _ h3 hn.2 fun y hy => hc y (List.mem_cons_of_mem _ hy)]
  simp
theorem Qme {c : zqg} (h : ConfOk c) : Qco Q4j c = 0 := by
 have e1 : zNames.length = 2 := rfl
 have e2 : pNames.length = 8 := rfl
 have e3 : cNames.length = 1 := rfl
 have e4 : sNames.length = 3 := rfl
 have l1 := h.oz.1.1
 have l2 := h.op.1.1
 have l3 := h.oc.1.1
 have l4 := h.os.1.1
 have hnob : Q4r ∉ c.2.1.map (·.1) := by
  rw [h.op.1.2]
  intro g
  have := List.mem_of_mem_take g
  exact absurd this (by decide)
 unfold Qco
 rw [decide_eq_false (by omega), decide_eq_false (by omega), decide_eq_false (by omega), decide_eq_false (by omega), Q8b (h.oz.1.ok Qjl) fun z hz => (h.oz.2 z hz).2]
 have hp : Q7m (c.1.length : Int) c.2.1 = 0 := by
  unfold Q7m
  rw [Qcr _ _ 0 [] (h.op.1.ok Qe6) hnob h.op.2]
  rfl
 rw [hp, Q8b (h.oc.1.ok Qjm) h.oc.2, Q8b (h.os.1.ok Qjk) h.os.2]
 rfl
def idxG {α : Type} (of : α → List UInt8) (n : List UInt8) (j : Nat) (x : α) (_ : Unit) : Int ⊕ Unit := cond (decide (of x = n)) (.inl (j : Int)) (.inr ())
def idxV {α : Type} (of : α → List UInt8) (n : List UInt8) (xs : List α) : Int := match walk (idxG of n) xs 0 () with | .inl j => j | .inr _ => -1
theorem Qap (c : zqg) (n : List UInt8) (h : c.2.1.length ≤ 1000000) (k : Int → Bool → Option β) : zqhx c n k = k (if idxV (·.1) n c.2.1 > 0 then idxV (·.1) n c.2.1 else 0) (decide (0 ≤ idxV (·.1) n c.2.1)) := by
 unfold zqhx
 rw [Q1]
 unfold zqhw zq25
 rw [Q1]
 unfold zq24 zq22
 rw [Q1]
 generalize hK : (fun (r : Int) (_ : List UInt8) => k (if r > 0 then r else 0) (decide (0 ≤ r))) = K
 refine (Q1e (fun m i (_ : Unit) => zq20 m (fun t b => K t b) (fun b => K (-1) b) c.2.1 (c.2.1.length : Int) i n) (idxG (·.1) n) (fun e => K e n) (fun _ => K (-1) n) ([], 0, [], 0, 0, false) c.2.1 () fuel (Qm (by omega)) (fun m i _ hi => ?_) (fun m _ => ?_)).trans ?_
 ·simp only [zq21, zq1z]
  refine (Qg (by omega)).trans ?_
  refine (Q1c (by omega)).trans ?_
  rw [Int.toNat_natCast, i64_in ((i : Int) + 1) (by omega)]
  unfold zq1q idxG
  rw [Q1]
  unfold zq1p
  show cond (decide _) _ _ = _
  cases decide ((c.2.1.getD i ([], 0, [], 0, 0, false)).1 = n) <;> rfl
 ·simp only [zq21, zq1z]
  exact Qf (by omega)
 ·subst hK
  unfold idxV
  cases walk (idxG (·.1) n) c.2.1 0 () <;> rfl
theorem Qei (c : zqg) (n : List UInt8) (h : c.2.2.2.length ≤ 1000000) (k : Int → Bool → Option β) : zqi1 c n k = k (if idxV (·.1) n c.2.2.2 > 0 then idxV (·.1) n c.2.2.2 else 0) (decide (0 ≤ idxV (·.1) n c.2.2.2)) := by
 unfold zqi1
 rw [Q1]
 unfold zqi0 zq2p
 rw [Q1]
 unfold zq2o zq2m
 rw [Q1]
 generalize hK : (fun (r : Int) (_ : List UInt8) => k (if r > 0 then r else 0) (decide (0 ≤ r))) = K
 refine (Q1e (fun m i (_ : Unit) => zq2k m (fun t b => K t b) (fun b => K (-1) b) c.2.2.2 (c.2.2.2.length : Int) i n) (idxG (·.1) n) (fun e => K e n) (fun _ => K (-1) n) ([], [], []) c.2.2.2 () fuel (Qm (by omega)) (fun m i _ hi => ?_) (fun m _ => ?_)).trans ?_
 ·simp only [zq2l, zq2j]
  refine (Qg (by omega)).trans ?_
  refine (Q1c (by omega)).trans ?_
  rw [Int.toNat_natCast, i64_in ((i : Int) + 1) (by omega)]
  unfold zq2a idxG
  rw [Q1]
  unfold zq29
  show cond (decide _) _ _ = _
  cases decide ((c.2.2.2.getD i ([], [], [])).1 = n) <;> rfl
 ·simp only [zq2l, zq2j]
  exact Qf (by omega)
 ·subst hK
  unfold idxV
  cases walk (idxG (·.1) n) c.2.2.2 0 () <;> rfl
theorem Qb9 {α : Type} {of : α → List UInt8} {n : List UInt8} : ∀ (xs : List α) (j : Nat), (∀ x ∈ xs, of x ≠ n) → walk (idxG of n) xs j () = .inr ()
 | [], _, _ => rfl
 | x :: xs, j, h => by
  have hg : idxG of n j x () = .inr () := by
   unfold idxG
   rw [decide_eq_false (h x (List.mem_cons_self ..))]; rfl
  rw [Q2j hg]
  exact Qb9 xs (j + 1) fun y hy => h y (List.mem_cons_of_mem _ hy)
theorem Qjq {α : Type} {of : α → List UInt8} {n : List UInt8} {a : List α} {x : α} {b : List α} (j : Nat) (ha : ∀ y ∈ a, of y ≠ n) (hx : of x = n) : walk (idxG of n) (a ++ x :: b) j () = .inl ((j + a.length : Nat) : Int) := by
 rw [Qgc _ a (x :: b) j () () (Qb9 a j ha)]
 unfold walk idxG
 rw [decide_eq_true hx]
 rfl
theorem Qjr {α : Type} {of : α → List UInt8} {xs : List α} (h : (xs.map of).Nodup) {i : Nat} (hi : i < xs.length) (d : α) : idxV of (of (xs.getD i d)) xs = (i : Int) := by
 have e : xs = xs.take i ++ xs.getD i d :: xs.drop (i + 1) := by
  have h1 := (List.take_append_drop (i + 1) xs).symm
  rw [Q53 d hi, List.append_assoc] at h1
  simpa using h1
 have hlen : (xs.take i).length = i := by simp; omega
 have hne : ∀ y ∈ xs.take i, of y ≠ of (xs.getD i d) := by
  intro y hy g
  rw [e, List.map_append, List.nodup_append] at h
  exact h.2.2 (of y) (List.mem_map_of_mem hy) (of (xs.getD i d)) (by simp) g
 have hw := Qjq (b := xs.drop (i + 1)) 0 hne (rfl : of (xs.getD i d) = _)
 unfold idxV
 rw [← e] at hw
 rw [hw, hlen]
 simp
theorem Qlp {α : Type} {of : α → List UInt8} (n : List UInt8) (xs : List α) : decide (0 ≤ idxV of n xs) = decide (n ∈ xs.map of) := by
 by_cases h : n ∈ xs.map of
 ·rw [decide_eq_true h]
  obtain ⟨x, hx, rfl⟩ := List.mem_map.1 h
  have key : ∀ (l : List α) (j : Nat), x ∈ l → ∃ q : Nat, walk (idxG of (of x)) l j () = .inl (q : Int) := by
   intro l
   induction l with
   | nil => intro j hl; exact absurd hl List.not_mem_nil
   | cons y l ih =>
    intro j hl
    by_cases g : of y = of x
    ·refine ⟨j, ?_⟩
     unfold walk idxG
     rw [decide_eq_true g]; rfl
    ·have hg : idxG of (of x) j y () = .inr () := by
      unfold idxG
      rw [decide_eq_false g]; rfl
     rw [Q2j hg]
     rcases List.mem_cons.1 hl with e | hl
     ·exact absurd (congrArg of e.symm) g
     ·exact ih (j + 1) hl
  obtain ⟨q, hq⟩ := key xs 0 hx
  unfold idxV
  rw [hq]
  exact decide_eq_true (by show (0 : Int) ≤ (q : Int); omega)
 ·rw [decide_eq_false h]
  unfold idxV
  rw [Qb9 xs 0 fun x hx g => h (List.mem_map.2 ⟨x, hx, g⟩)]
  rfl
theorem Named.nodup {α : Type} {of : α → List UInt8} {L : List (List UInt8)} {xs : List α} (h : Named of L xs) (hL : L.Nodup) : (xs.map of).Nodup := by
 rw [h.2]
 exact hL.sublist (List.take_sublist _ _)
end
end
end Go.Lift
namespace Go.Lift
open Go.RowKit Go.IntWalk
noncomputable section
variable [Sl]
set_option linter.unusedSectionVars false
set_option linter.unusedVariables false
set_option linter.unusedSimpArgs false
set_option maxRecDepth 10000
section
variable {β : Type}
theorem Qjs {c : zqg} {i : Nat} : (if (i : Int) > 0 then (i : Int) else 0) = (i : Int) := by
 by_cases h : (i : Int) > 0
 ·rw [if_pos h]
 ·rw [if_neg h]; omega
theorem Qkl {c : zqg} {n : List UInt8} {k1 : zqwa β} {k2 : zqwb β} (hd : (c.2.1.map (·.1)).Nodup) (hl : c.2.1.length ≤ 1000000) :
  zqwl k1 k2 n false (c.2.1.length : Int) 0 c = k2 n (decide (n ∈ c.2.1.map (·.1))) c := by
 unfold zqwl
 rw [Q1]
 refine (Q89 (fun i (b : Bool) => b = decide (n ∈ (c.2.1.take i).map (·.1))) (fun m i b => zqwj m k1 k2 n b (c.2.1.length : Int) i c) (fun b p => b || decide (p.1 = n)) (fun b => k2 n (decide (n ∈ c.2.1.map (·.1))) c) ([], 0, [], 0, 0, false) c.2.1 false fuel (Qm (by omega)) rfl
  (fun i b hi hb => ?_) (fun m i b hi hb => ?_) (fun m b hb => ?_))
 ·rw [hb, Q53 ([], 0, [], 0, 0, false) hi, List.map_append, List.map_singleton, ← Bool.decide_or]
  refine decide_eq_decide.2 ?_
  rw [List.mem_append, List.mem_singleton]
  exact ⟨fun h => h.imp id Eq.symm, fun h => h.imp id Eq.symm⟩
 ·simp only [zqwk, zqwi]
  refine (Qg (by omega)).trans ?_
  refine (Q1c (by omega)).trans ?_
  rw [Int.toNat_natCast, i64_in ((i : Int) + 1) (by omega)]
  refine (Qap c _ hl _).trans ?_
  rw [Qjr hd hi, Qjs (c := c), decide_eq_true (show (0 : Int) ≤ (i : Int) by omega)]
  show cond (!decide ((i : Int) = (i : Int))) _ _ = _
  refine (Q6b rfl).trans ?_
  cases b with
  | true => rfl
  | false =>
   refine c_f.trans ?_
   refine (c_b (by rw [decide_eq_true (show (i : Int) < (c.2.1.length : Int) by omega)]; rfl)).trans ?_
   rfl
 ·simp only [zqwk, zqwi]
  rw [List.take_length] at hb
  refine (Qf (by omega)).trans ?_
  rw [hb]
theorem Qkm {c : zqg} {n : List UInt8} {t : Bool} {k1 : zqwe β} {k2 : zqwf β} (hd : (c.2.2.2.map (·.1)).Nodup) (hl : c.2.2.2.length ≤ 1000000) :
  zqwq k1 k2 n t (c.2.2.2.length : Int) 0 c = k2 n t c := by
 unfold zqwq
 rw [Q1]
 refine (Qjb (fun m i (_ : Unit) => zqwo m k1 k2 n t (c.2.2.2.length : Int) i c) (fun _ _ => ()) (fun _ => k2 n t c) ([], [], []) c.2.2.2 () fuel (Qm (by omega)) (fun m i _ hi => ?_) (fun m _ => ?_))
 ·simp only [zqwp, zqwn]
  refine (Qg (by omega)).trans ?_
  refine (Q1c (by omega)).trans ?_
  rw [Int.toNat_natCast, i64_in ((i : Int) + 1) (by omega)]
  refine (Qei c _ hl _).trans ?_
  rw [Qjr hd hi, Qjs (c := c), decide_eq_true (show (0 : Int) ≤ (i : Int) by omega)]
  show cond (!decide ((i : Int) = (i : Int))) _ _ = _
  exact Q6b rfl
 ·simp only [zqwp, zqwn]
  exact Qf (by omega)
theorem Qmp (hs : ∀ k : Bool → Option β, zqw5 k = k true) (t : List Int) (n : List UInt8) (k : Bool → Option β) : zqwt t n k = k true := by
 unfold zqwt
 rw [Q1]
 unfold zqws
 refine (Qkd _ _).trans ?_
 by_cases h0 : ¬ (t.length : Int) ≤ 500
 ·rw [decide_eq_false h0]
  exact hs _
 have h1 : (t.length : Int) ≤ 500 := by omega
 refine (Q6b h1).trans ?_
 by_cases h2 : (100 : Int) < (n.length : Int)
 ·exact (Qg h2).trans (hs _)
 refine (Qf h2).trans ?_
 refine (Qle _ _).trans ?_
 refine Qkk (G := fun A => A = k true) (Qlf h1) fun c d' hd' hc => ?_
 refine (Qla c Q4j (fun z hz k => Qm7 (hc.oz.2 z hz).1 k) _).trans ?_
 refine (Q6b (Qme hc)).trans ?_
 have e2 : pNames.length = 8 := rfl
 have e4 : sNames.length = 3 := rfl
 have l2 := hc.op.1.1
 have l4 := hc.os.1.1
 refine (Qkl (hc.op.1.nodup (by decide)) (by omega)).trans ?_
 refine (Qkm (hc.os.1.nodup (by decide)) (by omega)).trans ?_
 refine (Qap c n (by omega) _).trans ?_
 rw [Qlp]
 cases decide (n ∈ c.2.1.map (·.1)) <;> exact hs _
def Q8d [Sl] : Prop := ∀ {β : Type} (k : Bool → Option β), zqw5 k = k true
end
theorem resolveNames (F : Q8d) {β : Type} (t : List Int) (n : List UInt8) (k : Bool → Option β) : zqwt t n k = k true := Qmp F t n k
end
end Go.Lift
namespace Go.Lift
theorem Qii : @Q8d ⟨0⟩ := fun k => by kernel_rfl
end Go.Lift
