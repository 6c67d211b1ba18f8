/- Part10: LCivil, LChk, LChk2, LLim, LSnd1, LZone, LDice, LNames2, LNames4, LNames5, LSnd2, LSnd3, LSnd4, LSnd5, LSnd6, LSnd7. -/
import Derived.KernelRfl
import Derived.Test.YthcfejpkighedaaGreatDoorPart9
set_option linter.unusedVariables false
set_option linter.unusedSectionVars false
set_option linter.unusedSimpArgs false
namespace Go.Lift
open Go.RowKit Go.IntWalk
noncomputable section
variable [Sl]
set_option linter.unusedSectionVars false
set_option linter.unusedVariables false
set_option linter.unusedSimpArgs false
set_option maxRecDepth 10000
abbrev Qd (y : Int) : Prop := y % 4 = 0 ∧ (y % 100 ≠ 0 ∨ y % 400 = 0)
def Qs (lp : Prop) [Decidable lp] (m : Int) : Int :=
 if m < 1 then 0 else if 12 < m then 0 else if m = 2 then (if lp then 29 else 28) else if m = 4 ∨ m = 6 ∨ m = 9 ∨ m = 11 then 30 else 31
def cntN (y : Int) : Int := 365 * (y - 1970) + (y - 1) / 4 - (y - 1) / 100 + (y - 1) / 400 - 477
def sumM (lp : Prop) [Decidable lp] : Nat → Int
 | 0 => 0
 | n + 1 => sumM lp n + Qs lp ((n : Int) + 1)
section
variable {β : Type}
theorem Qkk {y : Int} (hy : 0 ≤ y) (k : Bool → Option β) : zq8r y k = k (decide (Qd y)) := by
 have e1 : Int.tmod y 4 = y % 4 := Int.tmod_eq_emod_of_nonneg hy
 have e2 : Int.tmod y 100 = y % 100 := Int.tmod_eq_emod_of_nonneg hy
 have e3 : Int.tmod y 400 = y % 400 := Int.tmod_eq_emod_of_nonneg hy
 unfold zq8r
 rw [Q0]
 unfold zq8q
 rw [e1, e2, e3]
 by_cases h1 : y % 4 = 0
 ·refine (Q4 h1).trans ?_
  by_cases h2 : y % 100 = 0
  ·refine (Q53 h2).trans ?_
   exact k_eq (decide_eq_decide.2 ⟨fun h => ⟨h1, .inr h⟩, fun h => by rcases h.2 with h | h; exact absurd h2 h; exact h⟩)
  ·refine (Q54 h2).trans ?_
   exact k_eq (decide_eq_true (p := Qd y) ⟨h1, .inl h2⟩).symm
 ·refine (Q2 h1).trans ?_
  exact k_eq (decide_eq_false (p := Qd y) fun h => h1 h.1).symm
theorem Q3y {y : Int} (hy : 0 ≤ y) (m : Int) (k : Int → Option β) : zqcl y m k = k (Qs (Qd y) m) := by
 by_cases h1 : m < 1
 ·unfold zqcl
  rw [Q0]
  unfold zqck
  refine (Q4 h1).trans (k_eq ?_)
  unfold Qs
  rw [if_pos h1]
 ·by_cases h2 : 12 < m
  ·unfold zqcl
   rw [Q0]
   unfold zqck
   refine (Q2 h1).trans ((Q4 h2).trans (k_eq ?_))
   unfold Qs
   rw [if_neg h1, if_pos h2]
  ·have hm : m = 1 ∨ m = 2 ∨ m = 3 ∨ m = 4 ∨ m = 5 ∨ m = 6 ∨ m = 7 ∨ m = 8 ∨ m = 9 ∨ m = 10 ∨ m = 11 ∨ m = 12 := by omega
   rcases hm with rfl | rfl | rfl | rfl | rfl | rfl | rfl | rfl | rfl | rfl | rfl | rfl
   ·exact (show zqcl y 1 k = zqck y 1 k by unfold zqcl; rw [Q0]).trans (show zqck y 1 k = k (Qs (Qd y) 1) by kernel_rfl)
   ·unfold zqcl
    rw [Q0]
    unfold zqck
    refine (Q2 h1).trans ((Q2 h2).trans ((Q4 rfl).trans ?_))
    refine (Qkk hy _).trans ?_
    unfold Qs
    rw [if_neg h1, if_neg h2, if_pos rfl]
    by_cases h : Qd y
    ·rw [decide_eq_true h, if_pos h]
     rfl
    ·rw [decide_eq_false h, if_neg h]
     rfl
   ·exact (show zqcl y 3 k = zqck y 3 k by unfold zqcl; rw [Q0]).trans (show zqck y 3 k = k (Qs (Qd y) 3) by kernel_rfl)
   ·exact (show zqcl y 4 k = zqck y 4 k by unfold zqcl; rw [Q0]).trans (show zqck y 4 k = k (Qs (Qd y) 4) by kernel_rfl)
   ·exact (show zqcl y 5 k = zqck y 5 k by unfold zqcl; rw [Q0]).trans (show zqck y 5 k = k (Qs (Qd y) 5) by kernel_rfl)
   ·exact (show zqcl y 6 k = zqck y 6 k by unfold zqcl; rw [Q0]).trans (show zqck y 6 k = k (Qs (Qd y) 6) by kernel_rfl)
   ·exact (show zqcl y 7 k = zqck y 7 k by unfold zqcl; rw [Q0]).trans (show zqck y 7 k = k (Qs (Qd y) 7) by kernel_rfl)
   ·exact (show zqcl y 8 k = zqck y 8 k by unfold zqcl; rw [Q0]).trans (show zqck y 8 k = k (Qs (Qd y) 8) by kernel_rfl)
   ·exact (show zqcl y 9 k = zqck y 9 k by unfold zqcl; rw [Q0]).trans (show zqck y 9 k = k (Qs (Qd y) 9) by kernel_rfl)
   ·exact (show zqcl y 10 k = zqck y 10 k by unfold zqcl; rw [Q0]).trans (show zqck y 10 k = k (Qs (Qd y) 10) by kernel_rfl)
   ·exact (show zqcl y 11 k = zqck y 11 k by unfold zqcl; rw [Q0]).trans (show zqck y 11 k = k (Qs (Qd y) 11) by kernel_rfl)
   ·exact (show zqcl y 12 k = zqck y 12 k by unfold zqcl; rw [Q0]).trans (show zqck y 12 k = k (Qs (Qd y) 12) by kernel_rfl)
theorem Q70 {a b : Int} (ha : 0 ≤ a ∧ a ≤ 1000000000) (hb : 0 < b ∧ b ≤ 1000000000) (k : Int → Option β) : zq8n a b k = k (a / b) := by
 have e1 : Int.tdiv a b = a / b := Int.tdiv_eq_ediv_of_nonneg ha.1
 have e2 : Int.tmod a b = a % b := Int.tmod_eq_emod_of_nonneg ha.1
 have e3 := Int.emod_nonneg a (show b ≠ 0 by omega)
 have e4 := Int.ediv_nonneg ha.1 (show 0 ≤ b by omega)
 have e5 := Int.ediv_le_self b ha.1
 unfold zq8n
 rw [Q0]
 unfold zq8m
 refine (Q54 (by omega)).trans ?_
 refine (Q54 (by omega)).trans ?_
 refine (Q2 (by omega)).trans ?_
 rw [e1, i64_in _ (by omega)]
theorem Q23 {y : Int} (hy : 1 ≤ y ∧ y ≤ 1000000) (k : Int → Option β) : zqc4 y k = k (cntN y) := by
 unfold zqc4
 rw [Q0]
 unfold zqc3
 simp only
 rw [i64_in (y - 1) (by omega)]
 refine (Q70 (by omega) (by omega) _).trans ?_
 refine (Q70 (by omega) (by omega) _).trans ?_
 refine (Q70 (by omega) (by omega) _).trans ?_
 rw [i64_in (y - 1970) (by omega), i64_in (365 * (y - 1970)) (by omega), i64_in (365 * (y - 1970) + (y - 1) / 4) (by omega), i64_in (365 * (y - 1970) + (y - 1) / 4 - (y - 1) / 100) (by omega),
  i64_in (365 * (y - 1970) + (y - 1) / 4 - (y - 1) / 100 + (y - 1) / 400) (by omega), i64_in (365 * (y - 1970) + (y - 1) / 4 - (y - 1) / 100 + (y - 1) / 400 - 477) (by omega)]
 rfl
theorem Qkl {y : Int} (hy : 1 ≤ y) : cntN (y + 1) = cntN y + (if Qd y then 366 else 365) := by
 unfold cntN
 split <;> omega
theorem Qkm {day : Int} (h : 0 ≤ day ∧ day < 98981) : ∃ y, (1970 ≤ y ∧ y ≤ 2240) ∧ cntN y ≤ day ∧ day < cntN (y + 1) ∧ ∀ {β : Type} (k : Int → Option β), zqch day k = k y := by
 have last : cntN 2241 = 98981 := by decide
 have key : ∀ (n m : Nat) (y : Int), y + n = 2240 → n < m → 1970 ≤ y → cntN y ≤ day → ∃ y', (1970 ≤ y' ∧ y' ≤ 2240) ∧ cntN y' ≤ day ∧ day < cntN (y' + 1) ∧
   ∀ {β : Type} (k1 : zqc8 β), zqcc m k1 day y = k1 y' := by
  intro n
  induction n with
  | zero =>
   intro m y hy hm h0 hc
   obtain ⟨m, rfl⟩ : ∃ m', m = m' + 1 := ⟨m - 1, by omega⟩
   have hy : y = 2240 := by omega
   subst hy
   refine ⟨2240, by omega, hc, by rw [show (2240 : Int) + 1 = 2241 from rfl, last]; omega, fun k1 => ?_⟩
   simp only [zqcd, zqcb]
   rw [show IntKind.i64.wrap ((2240 : Int) + 1) = 2241 by decide]
   refine (Q23 (by omega) _).trans ?_
   exact Q2 (by rw [last]; omega)
  | succ n ih =>
   intro m y hy hm h0 hc
   obtain ⟨m, rfl⟩ : ∃ m', m = m' + 1 := ⟨m - 1, by omega⟩
   by_cases hn : cntN (y + 1) ≤ day
   ·obtain ⟨y', h1, h2, h3, h4⟩ := ih m (y + 1) (by omega) (by omega) (by omega) hn
    refine ⟨y', h1, h2, h3, fun k1 => ?_⟩
    simp only [zqcd, zqcb]
    rw [i64_in (y + 1) (by omega)]
    refine (Q23 (by omega) _).trans ?_
    refine (Q4 hn).trans ?_
    exact h4 k1
   ·refine ⟨y, by omega, hc, by omega, fun k1 => ?_⟩
    simp only [zqcd, zqcb]
    rw [i64_in (y + 1) (by omega)]
    refine (Q23 (by omega) _).trans ?_
    exact Q2 hn
 have hq : ∀ q : Fin 271, cntN (1970 + (q.val : Int)) ≤ 366 * (q.val : Int) := by decide +kernel
 have h0 : cntN (1970 + day / 366) ≤ day := by
  have := hq ⟨(day / 366).toNat, by omega⟩
  simp only at this
  rw [show (((day / 366).toNat : Nat) : Int) = day / 366 by omega] at this
  omega
 obtain ⟨y', h1, h2, h3, h4⟩ := key (2240 - (1970 + day / 366)).toNat fuel (1970 + day / 366) (by omega) (Qo (by omega)) (by omega) h0
 refine ⟨y', h1, h2, h3, fun k => ?_⟩
 unfold zqch
 rw [Q0]
 unfold zqcg
 refine (Q70 (by omega) (by omega) _).trans ?_
 simp only
 rw [i64_in (1970 + day / 366) (by omega)]
 unfold zqce
 rw [Q0]
 exact h4 _
theorem Qab (lp : Prop) [Decidable lp] (m : Int) : 0 ≤ Qs lp m ∧ Qs lp m ≤ 31 := by
 unfold Qs
 repeat' split
 all_goals omega
theorem Q7s (lp : Prop) [Decidable lp] (n : Nat) : 0 ≤ sumM lp n ∧ sumM lp n ≤ 31 * (n : Int) := by
 induction n with
 | zero => exact ⟨Int.le_refl _, Int.le_refl _⟩
 | succ n ih =>
  have := Qab lp ((n : Int) + 1)
  show 0 ≤ sumM lp n + Qs lp ((n : Int) + 1) ∧ sumM lp n + Qs lp ((n : Int) + 1) ≤ 31 * ((n + 1 : Nat) : Int)
  omega
theorem Qlp (lp : Prop) [Decidable lp] : sumM lp 12 = if lp then 366 else 365 := by
 by_cases h : lp
 ·simp [sumM, Qs, h]
 ·simp [sumM, Qs, h]
theorem Qin {y : Int} (hy : 0 ≤ y) (a : Int × (Int × Int)) (d3 : Int) : ∀ (j f n : Nat) (r : Int), n + j = 12 → j < f → 0 ≤ r → r < sumM (Qd y) 12 - sumM (Qd y) n →
  ∃ (n' : Nat) (r' : Int), n' < 12 ∧ 0 ≤ r' ∧ r' < Qs (Qd y) ((n' : Int) + 1) ∧ sumM (Qd y) n' + r' = sumM (Qd y) n + r ∧
   ∀ {β : Type} (k1 : zqg0 β), zqg4 f k1 r a (y, ((n : Int) + 1, d3)) = k1 r' a (y, ((n' : Int) + 1, d3)) := by
 intro j
 induction j with
 | zero =>
  intro f n r hn hf h0 h1
  obtain rfl : n = 12 := by omega
  omega
 | succ j ih =>
  intro f n r hn hf h0 h1
  obtain ⟨f, rfl⟩ : ∃ f', f = f' + 1 := ⟨f - 1, by omega⟩
  have hd := Qab (Qd y) ((n : Int) + 1)
  have hb := Q7s (Qd y) n
  have h12 := Q7s (Qd y) 12
  by_cases hr : Qs (Qd y) ((n : Int) + 1) ≤ r
  ·have hs : sumM (Qd y) (n + 1) = sumM (Qd y) n + Qs (Qd y) ((n : Int) + 1) := rfl
   obtain ⟨n', r', g1, g2, g3, g4, g5⟩ := ih f (n + 1) (r - Qs (Qd y) ((n : Int) + 1)) (by omega) (by omega) (by omega) (by omega)
   refine ⟨n', r', g1, g2, g3, by omega, fun k1 => ?_⟩
   simp only [zqg5, zqg3]
   refine (Q3y hy _ _).trans ?_
   refine (Q4 hr).trans ?_
   refine (Q3y hy _ _).trans ?_
   rw [i64_in (r - Qs (Qd y) ((n : Int) + 1)) (by omega), i64_in ((n : Int) + 1 + 1) (by omega)]
   have := g5 k1
   rwa [show ((n + 1 : Nat) : Int) = (n : Int) + 1 by omega] at this
  ·refine ⟨n, r, by omega, h0, by omega, rfl, fun k1 => ?_⟩
   simp only [zqg5, zqg3]
   refine (Q3y hy _ _).trans ?_
   exact Q2 hr
theorem Qcp {y : Int} (hy : 0 ≤ y) (M d3 : Int) : ∀ (j f n : Nat) (s : Int), (n : Int) + 1 + j = M → M ≤ 12 → j < f → 0 ≤ s + 1000 → s + 31 * (j : Int) ≤ 1000000 →
  ∀ {β : Type} (k1 : zqdn β), zqdr f k1 s ((n : Int) + 1) (y, (M, d3)) = k1 (s + (sumM (Qd y) (n + j) - sumM (Qd y) n)) := by
 intro j
 induction j with
 | zero =>
  intro f n s hn hM hf h0 h1 β k1
  obtain ⟨f, rfl⟩ : ∃ f', f = f' + 1 := ⟨f - 1, by omega⟩
  simp only [zqds, zqdq]
  refine (Q2 (by omega)).trans ?_
  exact k_eq (by show s = s + (sumM (Qd y) n - sumM (Qd y) n); omega)
 | succ j ih =>
  intro f n s hn hM hf h0 h1 β k1
  obtain ⟨f, rfl⟩ : ∃ f', f = f' + 1 := ⟨f - 1, by omega⟩
  have hd := Qab (Qd y) ((n : Int) + 1)
  simp only [zqds, zqdq]
  refine (Q4 (by omega)).trans ?_
  refine (Q3y hy _ _).trans ?_
  rw [i64_in (s + Qs (Qd y) ((n : Int) + 1)) (by omega), i64_in ((n : Int) + 1 + 1) (by omega)]
  have := ih f (n + 1) (s + Qs (Qd y) ((n : Int) + 1)) (by omega) hM (by omega) (by omega) (by omega) k1
  rw [show ((n + 1 : Nat) : Int) = (n : Int) + 1 by omega] at this
  refine this.trans (k_eq ?_)
  have hs : sumM (Qd y) (n + 1) = sumM (Qd y) n + Qs (Qd y) ((n : Int) + 1) := rfl
  rw [show n + 1 + j = n + (j + 1) by omega]
  omega
structure DateIs (day y m d : Int) : Prop where
 yr : 1970 ≤ y ∧ y ≤ 2240
 mo : 1 ≤ m ∧ m ≤ 12
 dd : 1 ≤ d ∧ d ≤ 31
 of : ∀ {β : Type} (k : Int × Int × Int → Int → Option β), zqg9 day k = k (y, m, d) 0
 day : ∀ {β : Type} (k : Int → Int → Option β), zqe4 (y, m, d) k = k day 0
theorem Qlq {day : Int} (h : 0 ≤ day ∧ day < 98981) : ∃ y m d, DateIs day y m d := by
 obtain ⟨y, hy, h1, h2, h3⟩ := Qkm h
 have hn := Qkl (y := y) (by omega)
 rw [← Qlp] at hn
 have hc : cntN 1970 = 0 := by decide
 have hc2 : cntN 2241 = 98981 := by decide
 have hb12 := Q7s (Qd y) 12
 have h0 : 0 ≤ cntN y := by
  unfold cntN
  omega
 obtain ⟨n', r', g1, g2, g3, g4, g5⟩ := Qin (y := y) (by omega) (0, (0, 0)) 0 12 fuel 0 (day - cntN y) rfl (Qo (by omega)) (by omega) (by show day - cntN y < sumM (Qd y) 12 - 0; omega)
 have hd := Qab (Qd y) ((n' : Int) + 1)
 have hs0 : sumM (Qd y) 0 = 0 := rfl
 refine ⟨y, (n' : Int) + 1, r' + 1, hy, by omega, by omega, fun k => ?_, fun k => ?_⟩
 ·unfold zqg9
  rw [Q0]
  unfold zqg8
  refine (Q23 (by omega) _).trans ?_
  refine (Q2 (by rw [hc]; omega)).trans ?_
  refine (Q23 (by omega) _).trans ?_
  refine (Q2 (by rw [hc2]; omega)).trans ?_
  refine (h3 _).trans ?_
  refine (Q23 (by omega) _).trans ?_
  simp only
  rw [i64_in (day - cntN y) (by omega)]
  unfold zqg6
  rw [Q0]
  refine (g5 _).trans ?_
  rw [i64_in (r' + 1) (by omega)]
 ·unfold zqe4
  rw [Q0]
  unfold zqe3
  have hv : ∀ {β : Type} (k : Bool → Option β), zqdj (y, (n' : Int) + 1, r' + 1) k = k true := by
   intro β k
   unfold zqdj
   rw [Q0]
   unfold zqdi
   refine (Q4 hy.1).trans ?_
   refine (Q4 hy.2).trans ?_
   refine (Q4 (by show (1 : Int) ≤ r' + 1; omega)).trans ?_
   refine (Q3y (by show 0 ≤ y; omega) _ _).trans ?_
   exact k_eq (decide_eq_true (by show r' + 1 ≤ Qs (Qd y) ((n' : Int) + 1); omega))
  refine (hv _).trans ?_
  show zqdw (y, (n' : Int) + 1, r' + 1) _ = _
  unfold zqdw
  rw [Q0]
  unfold zqdv
  refine (Q23 (y := y) (by omega) _).trans ?_
  simp only
  rw [i64_in (cntN y + (r' + 1)) (by omega), i64_in (cntN y + (r' + 1) - 1) (by omega)]
  unfold zqdt
  rw [Q0]
  refine (Qcp (y := y) (by omega) ((n' : Int) + 1) (r' + 1) n' fuel 0 (cntN y + (r' + 1) - 1) (by omega) (by omega) (Qo (by omega)) (by omega) (by omega) _).trans ?_
  rw [Nat.zero_add, hs0]
  have e : cntN y + (r' + 1) - 1 + (sumM (Qd y) n' - 0) = day := by omega
  rw [e]
theorem Qkn {day : Int} (h : day < 0 ∨ 98981 ≤ day) (k : Int × Int × Int → Int → Option β) : zqg9 day k = k (0, 0, 0) 1 := by
 have hc : cntN 1970 = 0 := by decide
 have hc2 : cntN 2241 = 98981 := by decide
 unfold zqg9
 rw [Q0]
 unfold zqg8
 refine (Q23 (by omega) _).trans ?_
 by_cases h0 : day < 0
 ·exact Q4 (by rw [hc]; omega)
 ·refine (Q2 (by rw [hc]; omega)).trans ?_
  refine (Q23 (by omega) _).trans ?_
  exact Q4 (by rw [hc2]; omega)
end
end
end Go.Lift
namespace Go.Lift
open Go.RowKit Go.IntWalk
noncomputable section
variable [Sl]
set_option linter.unusedSectionVars false
set_option linter.unusedVariables false
set_option linter.unusedSimpArgs false
set_option maxRecDepth 10000
section
variable {β : Type}
abbrev inI (n lo hi : Int) : Bool := decide (lo ≤ n) && decide (n ≤ hi)
abbrev ixI (i n : Int) : Bool := decide ((0 : Int) ≤ i) && decide (i < n)
theorem r_in (n lo hi : Int) (k : Bool → Option β) : zq5e n lo hi k = k (inI n lo hi) := by
 unfold zq5e
 rw [Q0]
 unfold zq5d
 exact c_kb k _ _
theorem z_in (n lo hi : Int) (k : Bool → Option β) : Q2b n lo hi k = k (inI n lo hi) := by
 unfold Q2b
 rw [Q0]
 unfold zq69
 exact c_kb k _ _
theorem r_ix (i n : Int) (k : Bool → Option β) : zq42 i n k = k (ixI i n) := by
 unfold zq42
 rw [Q0]
 unfold zq41
 exact c_kb k _ _
def dayI (n : Int) : Bool := decide (0 ≤ n) && decide (n < 98981)
theorem Qio (n : Int) (k : Bool → Option β) : zqhq n k = k (dayI n) := by
 unfold zqhq
 rw [Q0]
 unfold zqhp dayI
 by_cases h : 0 ≤ n ∧ n < 98981
 ·obtain ⟨y, m, d, hd⟩ := Qlq h
  refine (hd.of _).trans (k_eq ?_)
  rw [decide_eq_true h.1, decide_eq_true h.2]
  rfl
 ·refine (Qkn (by omega) _).trans (k_eq ?_)
  by_cases h0 : 0 ≤ n
  ·rw [decide_eq_true h0, decide_eq_false (by omega : ¬ n < 98981)]; rfl
  ·rw [decide_eq_false h0]; rfl
def Q9m (n : Int) : Bool := inI n 0 604800 && decide (Int.tmod n 3600 = 0)
theorem Qhs (n : Int) (k : Bool → Option β) : zqb9 n k = k (Q9m n) := by
 unfold zqb9
 rw [Q0]
 unfold zqb8
 refine (r_in _ _ _ _).trans ?_
 exact c_kb k _ _
def Q7t (c : Int) : Bool := inI c 97 122
def Qgc (c : Int) : Bool := inI c 48 57
def Qac (c : UInt8) : Bool := Q7t c.toNat || (Qgc c.toNat || (decide ((c.toNat : Int) = 95) || decide ((c.toNat : Int) = 45)))
def Qcq (s : List UInt8) : Bool := (!decide (s = [])) && (!decide (24 < (s.length : Int)) && (Q7t (s.getD 0 0).toNat && s.all Qac))
theorem Qht (c : Int) (k : Bool → Option β) : zq56 c k = k (Q7t c) := by
 unfold zq56
 rw [Q0]
 unfold zq55
 exact c_kb k _ _
theorem Qlr (c : Int) (k : Bool → Option β) : zq5a c k = k (Qgc c) := by
 unfold zq5a
 rw [Q0]
 unfold zq59
 exact c_kb k _ _
theorem Qme (s : List UInt8) (k : Bool → Option β) : zqb5 s k = k (Qcq s) := by
 unfold zqb5
 rw [Q0]
 unfold zqb4 Qcq
 by_cases h1 : s = []
 ·refine (Q4 h1).trans ?_
  rw [decide_eq_true h1]; rfl
 ·refine (Q2 h1).trans ?_
  rw [decide_eq_false h1]
  by_cases h2 : 24 < (s.length : Int)
  ·refine (Q4 h2).trans ?_
   rw [decide_eq_true h2]; rfl
  ·refine (Q2 h2).trans ?_
   rw [decide_eq_false h2]
   have h3 : 0 < s.length := by cases s with
    | nil => exact absurd rfl h1
    | cons _ _ => simp
   refine (Qf (by omega)).trans ?_
   refine (Qht _ _).trans ?_
   show _ = k (Q7t (s.getD 0 0).toNat && s.all Qac)
   rw [show Int.toNat (0 : Int) = 0 from rfl]
   cases Q7t (s.getD 0 0).toNat with
   | false => rfl
   | true =>
    show zqb2 (fun t2 => k t2) (fun _ => k true) s (s.length : Int) 0 = k (s.all Qac)
    unfold zqb2
    rw [Q0]
    refine (Q5h (fun m i => zqb0 m (fun t2 => k t2) (fun _ => k true) s (s.length : Int) i) Qac (k false) (k true) 0 s fuel (Qo (by omega)) (fun m i hi => ?_) (fun m => ?_)).trans ?_
    ·simp only [zqb1, zqaz]
     refine (Q4 (by omega)).trans ?_
     refine (Qf (by omega)).trans ?_
     refine (Qht _ _).trans ?_
     rw [Int.toNat_natCast, i64_in ((i : Int) + 1) (by omega)]
     unfold Qac
     cases Q7t (s.getD i 0).toNat with
     | true => rfl
     | false =>
      refine (Qlr _ _).trans ?_
      cases Qgc (s.getD i 0).toNat with
      | true => rfl
      | false =>
       show cond (!decide (((s.getD i 0).toNat : Int) = 95)) (cond (!decide (((s.getD i 0).toNat : Int) = 45)) _ _) _ = cond (decide (((s.getD i 0).toNat : Int) = 95) || decide (((s.getD i 0).toNat : Int) = 45)) _ _
       cases decide (((s.getD i 0).toNat : Int) = 95) <;> cases decide (((s.getD i 0).toNat : Int) = 45) <;> rfl
    ·simp only [zqb1, zqaz]
     exact Q2 (by omega)
    ·cases s.all Qac <;> rfl
def sn (l : List (List UInt8)) : List (List UInt8 × Bool) := l.map fun s => (s, true)
theorem Qmf (l : List (List UInt8)) (s : List UInt8) : mGet .str (sn l) s false = decide (s ∈ l) := by
 induction l with
 | nil => rfl
 | cons x l ih =>
  show (bif decide (x = s) then true else mGet .str (sn l) s false) = _
  by_cases h : x = s
  ·subst h
   simp
  ·rw [decide_eq_false h, ih]
   show decide (s ∈ l) = decide (s ∈ x :: l)
   have : s ∈ x :: l ↔ s ∈ l := by
    rw [List.mem_cons]
    exact ⟨fun g => g.resolve_left fun e => h e.symm, .inr⟩
   exact (decide_eq_decide.2 this).symm
theorem Qmg {l : List (List UInt8)} {s : List UInt8} (h : s ∉ l) : mPut .str (sn l) s true = sn (l ++ [s]) := by
 induction l with
 | nil => rfl
 | cons x l ih =>
  have hx : x ≠ s := fun e => h (by rw [e]; exact List.mem_cons_self ..)
  have hl : s ∉ l := fun e => h (List.mem_cons_of_mem _ e)
  show (bif decide (x = s) then (s, true) :: sn l else (x, true) :: mPut .str (sn l) s true) = _
  rw [decide_eq_false hx, ih hl]
  rfl
def Q28 (s : List UInt8) (l : List (List UInt8)) : Int := cond (Qcq s) (cond (decide (s ∈ l)) 4 0) 2
theorem Q9n (s : List UInt8) (l : List (List UInt8)) (k : Int → List (List UInt8 × Bool) → Option β) : zqfr s (sn l) k = k (Q28 s l) (sn (cond (decide (Q28 s l = 0)) (l ++ [s]) l)) := by
 unfold zqfr
 rw [Q0]
 unfold zqfq Q28
 refine (Qme _ _).trans ?_
 cases Qcq s with
 | false => rfl
 | true =>
  show (let g : Bool := mGet .str (sn l) s false; cond g _ _) = _
  simp only [Qmf]
  by_cases h : s ∈ l
  ·rw [decide_eq_true h]; rfl
  ·rw [decide_eq_false h]
   show k 0 (mPut .str (sn l) s true) = _
   rw [Qmg h]
   rfl
def errV {σ : Type} : Int ⊕ σ → Int
 | .inl e => e
 | .inr _ => 0
theorem Q3e {σ : Type} (k : Int → Option β) (r : Int ⊕ σ) : sumK (fun e => k e) (fun _ => k 0) r = k (errV r) := by cases r <;> rfl
def Qip (l : List (Int × Int)) (i : Nat) (w : Int × Int) (_ : Unit) : Int ⊕ Unit :=
 cond (decide (w.1 < 0) || (decide (w.2 ≤ w.1) || decide ((604800 : Int) < w.2))) (.inl 1) (cond (decide (0 < (i : Int)) && decide (w.1 < (l.getD (i - 1) (0, 0)).2)) (.inl 6) (.inr ()))
def Q4w (l : List (Int × Int)) : Int := cond (decide (14 < (l.length : Int))) 5 (errV (walk (Qip l) l 0 ()))
theorem Qjr (l : List (Int × Int)) (k : Int → Option β) : zq4m l k = k (Q4w l) := by
 unfold zq4m
 rw [Q0]
 unfold zq4l Q4w
 by_cases h : 14 < (l.length : Int)
 ·refine (Q4 h).trans ?_
  rw [decide_eq_true h]; rfl
 ·refine (Q2 h).trans ?_
  rw [decide_eq_false h]
  unfold zq4j
  rw [Q0]
  refine (Q1f (fun m i (_ : Unit) => zq4h m (fun t => k t) (fun _ => k 0) l l (l.length : Int) i) (Qip l) (fun e => k e) (fun _ => k 0) (0, 0) l () fuel (Qo (by omega)) (fun m i _ hi => ?_) (fun m _ => ?_)).trans (Q3e k _)
  ·simp only [zq4i, zq4g]
   refine (Q4 (by omega)).trans ?_
   refine (Qf (by omega)).trans ?_
   rw [Int.toNat_natCast]
   generalize hw : l.getD i (0, 0) = w
   have hp : ∀ t : Bool, zq4e (fun t => k t) (fun l2 t82 t92 t102 => zq4h m (fun t => k t) (fun _ => k 0) l2 t82 t92 (IntKind.i64.wrap (t102 + 1))) l (i : Int) l (l.length : Int) (i : Int) t w =
     sumK (fun e => k e) (fun _ => zq4h m (fun t => k t) (fun _ => k 0) l l (l.length : Int) ((i : Int) + 1)) (cond t (.inl 1) (cond (decide (0 < (i : Int)) && decide (w.1 < (l.getD (i - 1) (0, 0)).2)) (.inl 6) (.inr ()) : Int ⊕ Unit)) := by
    intro t
    unfold zq4e
    rw [Q0]
    unfold zq4d
    cases t with
    | true => rfl
    | false =>
     show cond (decide ((0 : Int) < i)) _ _ = _
     by_cases h0 : (0 : Int) < i
     ·refine (Q4 h0).trans ?_
      rw [i64_in ((i : Int) - 1) (by omega)]
      refine (Qf (by omega)).trans ?_
      simp only
      rw [show ((i : Int) - 1).toNat = i - 1 by omega, decide_eq_true h0, i64_in ((i : Int) + 1) (by omega)]
      cases decide (w.1 < (l.getD (i - 1) (0, 0)).2) <;> rfl
     ·refine (Q2 h0).trans ?_
      simp only
      rw [decide_eq_false h0, i64_in ((i : Int) + 1) (by omega)]
      rfl
   simp only [hp]
   unfold Qip
   cases decide (w.1 < 0) <;> cases decide (w.2 ≤ w.1) <;> rfl
  ·simp only [zq4i, zq4g]
   exact Q2 (by omega)
end
end
end Go.Lift
namespace Go.Lift
open Go.RowKit Go.IntWalk
noncomputable section
variable [Sl]
set_option linter.unusedSectionVars false
set_option linter.unusedVariables false
set_option linter.unusedSimpArgs false
set_option maxRecDepth 10000
section
variable {β : Type}
def Q5s (nz : Int) (p : zqe) : Int := cond (!ixI p.2.1 nz) 3 (cond (!decide (Q4w p.2.2.1 = 0)) 8 (cond (!Q9m p.2.2.2.1) 1 (cond (!Q9m p.2.2.2.2.1) 1 0)))
theorem Qko (c : zqg) (p : zqe) (k : Int → Option β) : zqfw c p k = k (Q5s (c.1.length : Int) p) := by
 unfold zqfw
 rw [Q0]
 unfold zqfv Q5s
 refine (r_ix _ _ _).trans ?_
 cases ixI p.2.1 (c.1.length : Int) with
 | false => rfl
 | true =>
  refine (Qjr _ _).trans ?_
  show cond (!decide (Q4w p.2.2.1 = 0)) _ _ = k (cond (!decide (Q4w p.2.2.1 = 0)) _ _)
  cases decide (Q4w p.2.2.1 = 0) with
  | false => rfl
  | true =>
   refine (Qhs _ _).trans ?_
   cases Q9m p.2.2.2.1 with
   | false => rfl
   | true =>
    refine (Qhs _ _).trans ?_
    cases Q9m p.2.2.2.2.1 <;> rfl
abbrev Ed := Int × (Int × (Int × (Int × Int)))
def e1V (b : Bool) (x : Ed) : Int := cond b 1 (cond (decide (x.2.2.2.2 ≤ x.2.2.2.1)) 6 0)
def e2V (b : Bool) (x : Ed) : Int := cond b 4 (e1V (decide (x.2.2.2.1 < 0) || (decide (x.2.2.2.2 < 0) || !dayI (IntKind.i64.wrap (Int.tdiv x.2.2.2.2 86400)))) x)
def e3V (b : Bool) (x : Ed) : Int := cond b 1 (e2V (decide (x.1 = 2) && decide (x.2.1 = x.2.2.1)) x)
def e4V (b : Bool) (x : Ed) : Int := cond b 3 (e3V ((!decide (x.1 = 2)) && !decide (x.2.2.1 = 0)) x)
def Qcr (np : Int) (x : Ed) : Int :=
 cond (!inI x.1 0 2) 1 (e4V (((!ixI x.2.1 np) && !(decide (x.1 = 1) && decide (x.2.1 = -1))) || (decide (x.1 = 2) && !ixI x.2.2.1 np)) x)
theorem r_e1 (b : Bool) (x : Ed) (k : Int → Option β) : zqie (fun t => k t) (fun _ => k 0) b x = k (e1V b x) := by
 unfold zqie
 rw [Q0]
 unfold zqid e1V
 cases b with
 | true => rfl
 | false =>
  show cond (decide (x.2.2.2.2 ≤ x.2.2.2.1)) _ _ = k (cond (decide (x.2.2.2.2 ≤ x.2.2.2.1)) _ _)
  cases decide (x.2.2.2.2 ≤ x.2.2.2.1) <;> rfl
theorem r_e2 (b : Bool) (x : Ed) (k : Int → Option β) : zqih (fun t => k t) (fun _ => k 0) b x = k (e2V b x) := by
 unfold zqih
 rw [Q0]
 unfold zqig e2V
 cases b with
 | true => rfl
 | false =>
  show cond (decide (x.2.2.2.1 < 0)) _ _ = k (e1V (decide (x.2.2.2.1 < 0) || _) x)
  cases decide (x.2.2.2.1 < 0) with
  | true => exact r_e1 _ _ _
  | false =>
   show cond (decide (x.2.2.2.2 < 0)) _ _ = k (e1V (decide (x.2.2.2.2 < 0) || _) x)
   cases decide (x.2.2.2.2 < 0) with
   | true => exact r_e1 _ _ _
   | false => exact (Qio _ _).trans (r_e1 _ _ _)
theorem r_e3 (b : Bool) (x : Ed) (k : Int → Option β) : zqik (fun t => k t) (fun _ => k 0) b x = k (e3V b x) := by
 unfold zqik
 rw [Q0]
 unfold zqij e3V
 cases b with
 | true => rfl
 | false =>
  show cond (decide (x.1 = 2)) _ _ = k (e2V (decide (x.1 = 2) && _) x)
  cases decide (x.1 = 2) <;> exact r_e2 _ _ _
theorem r_e4 (b : Bool) (x : Ed) (k : Int → Option β) : zqin (fun t => k t) (fun _ => k 0) b x = k (e4V b x) := by
 unfold zqin
 rw [Q0]
 unfold zqim e4V
 cases b with
 | true => rfl
 | false =>
  show cond (!decide (x.1 = 2)) _ _ = k (e3V ((!decide (x.1 = 2)) && _) x)
  cases decide (x.1 = 2) <;> exact r_e3 _ _ _
theorem Qmh (c : zqg) (x : Ed) (k : Int → Option β) : zqit c x k = k (Qcr (c.2.1.length : Int) x) := by
 have h5 : ∀ b : Bool, zqiq (fun t14 x2 => zqin (fun t => k t) (fun _ => k 0) t14 x2) (c.2.1.length : Int) b x = k (e4V (b || (decide (x.1 = 2) && !ixI x.2.2.1 (c.2.1.length : Int))) x) := by
  intro b
  unfold zqiq
  rw [Q0]
  unfold zqip
  cases b with
  | true => exact r_e4 _ _ _
  | false =>
   show cond (decide (x.1 = 2)) _ _ = k (e4V (decide (x.1 = 2) && _) x)
   cases decide (x.1 = 2) with
   | false => exact r_e4 _ _ _
   | true => exact (r_ix _ _ _).trans (r_e4 _ _ _)
 unfold zqit
 rw [Q0]
 unfold zqis Qcr
 refine (r_in _ _ _ _).trans ?_
 cases inI x.1 0 2 with
 | false => rfl
 | true =>
  refine (r_ix _ _ _).trans ?_
  show cond (!ixI x.2.1 (c.2.1.length : Int)) _ _ = k (e4V (((!ixI x.2.1 (c.2.1.length : Int)) && _) || _) x)
  cases ixI x.2.1 (c.2.1.length : Int) with
  | true => exact h5 _
  | false =>
   show cond (decide (x.1 = 1)) _ _ = k (e4V ((!(decide (x.1 = 1) && _)) || _) x)
   cases decide (x.1 = 1) <;> exact h5 _
def l1V (b : Bool) (l : zq2) : Int := cond b 3 (cond (decide (l.2.2.2.2.2.2.2.2 = 0)) (cond (!decide (l.2.2.2.2.2.2.2.1 = 0)) 1 0) 0)
def l2V (np nc : Int) (b : Bool) (l : zq2) : Int :=
 cond b 1 (cond (decide ((l.2.2.2.2.2.1.length : Int) = 0)) 7 (cond (decide (12 < (l.2.2.2.2.2.1.length : Int))) 5 (cond (!l.2.2.2.2.2.1.all fun m => ixI m np) 3
  (cond (!decide (Q4w l.2.2.2.2.2.2.1 = 0)) 8 (cond (!inI l.2.2.2.2.2.2.2.2 0 2) 1 (l1V ((!decide (l.2.2.2.2.2.2.2.2 = 0)) && !ixI l.2.2.2.2.2.2.2.1 nc) l))))))
def Q3f (nz np nc : Int) (l : zq2) : Int :=
 cond (!ixI l.2.1 nz) 3 (l2V np nc (decide (l.2.2.1.1 < 1) || ((!dayI l.2.2.1.1) || ((!inI l.2.2.1.2 0 86399) || ((!inI l.2.2.2.1 0 2) || !inI l.2.2.2.2.1 1 400)))) l)
theorem r_l1 (b : Bool) (l : zq2) (k : Int → Option β) : zqra (fun t => k t) (fun _ => k 0) b l = k (l1V b l) := by
 unfold zqra
 rw [Q0]
 unfold zqr9 l1V
 cases b with
 | true => rfl
 | false =>
  show cond (decide (l.2.2.2.2.2.2.2.2 = 0)) (cond (!decide (l.2.2.2.2.2.2.2.1 = 0)) _ _) _ = k (cond (decide (l.2.2.2.2.2.2.2.2 = 0)) (cond (!decide (l.2.2.2.2.2.2.2.1 = 0)) _ _) _)
  cases decide (l.2.2.2.2.2.2.2.2 = 0) <;> cases decide (l.2.2.2.2.2.2.2.1 = 0) <;> rfl
theorem Qjs (s : List Int) (hs : s.length ≤ 1000000) (c : zqg) (k : Bool → zqg → Option β) :
  zqpu s c k = k (!s.all fun m => ixI m (c.2.1.length : Int)) c := by
 unfold zqpu
 rw [Q0]
 unfold zqpt zqof
 rw [Q0]
 unfold zqoe zqoc
 rw [Q0]
 refine (Q5h (fun m i => zqoa m (fun t b => k (decide ((0 : Int) ≤ t)) b) (fun b => k (decide ((0 : Int) ≤ -1)) b) s (s.length : Int) i c) (fun m => ixI m (c.2.1.length : Int)) (k true c) (k false c) 0 s fuel (Qo (by omega)) (fun m i hi => ?_) (fun m => ?_)).trans ?_
 ·simp only [zqob, zqo9]
  refine (Q4 (by omega)).trans ?_
  refine (Qf (by omega)).trans ?_
  rw [Int.toNat_natCast, i64_in ((i : Int) + 1) (by omega)]
  unfold zq5i
  rw [Q0]
  unfold zq5h
  refine (r_ix _ _ _).trans ?_
  cases ixI (s.getD i 0) (c.2.1.length : Int) with
  | true => rfl
  | false =>
   show k (decide ((0 : Int) ≤ i)) c = k true c
   rw [decide_eq_true (by omega : (0 : Int) ≤ i)]
 ·simp only [zqob, zqo9]
  exact Q2 (by omega)
 ·cases s.all fun m => ixI m (c.2.1.length : Int) <;> rfl
theorem r_l2 (b : Bool) (c : zqg) (l : zq2) (k : Int → Option β) : zqrd (fun t => k t) (fun _ => k 0) b c l = k (l2V (c.2.1.length : Int) (c.2.2.1.length : Int) b l) := by
 unfold zqrd
 rw [Q0]
 unfold zqrc l2V
 cases b with
 | true => rfl
 | false =>
  show cond (decide ((l.2.2.2.2.2.1.length : Int) = 0)) _ _ = k (cond (decide ((l.2.2.2.2.2.1.length : Int) = 0)) _ _)
  cases decide ((l.2.2.2.2.2.1.length : Int) = 0) with
  | true => rfl
  | false =>
   show cond (decide ((12 : Int) < (l.2.2.2.2.2.1.length : Int))) _ _ = k (cond (decide ((12 : Int) < (l.2.2.2.2.2.1.length : Int))) _ _)
   by_cases h : (12 : Int) < (l.2.2.2.2.2.1.length : Int)
   ·rw [decide_eq_true h]; rfl
   ·rw [decide_eq_false h]
    refine (Qjs _ (by omega) _ _).trans ?_
    cases l.2.2.2.2.2.1.all fun m => ixI m (c.2.1.length : Int) with
    | false => rfl
    | true =>
     refine (Qjr _ _).trans ?_
     show cond (!decide (Q4w l.2.2.2.2.2.2.1 = 0)) _ _ = k (cond (!decide (Q4w l.2.2.2.2.2.2.1 = 0)) _ _)
     cases decide (Q4w l.2.2.2.2.2.2.1 = 0) with
     | false => rfl
     | true =>
      refine (r_in _ _ _ _).trans ?_
      cases inI l.2.2.2.2.2.2.2.2 0 2 with
      | false => rfl
      | true =>
       show cond (!decide (l.2.2.2.2.2.2.2.2 = 0)) _ _ = k (l1V ((!decide (l.2.2.2.2.2.2.2.2 = 0)) && _) l)
       cases decide (l.2.2.2.2.2.2.2.2 = 0) with
       | true => exact r_l1 _ _ _
       | false => exact (r_ix _ _ _).trans (r_l1 _ _ _)
theorem Qls (c : zqg) (l : zq2) (k : Int → Option β) : zqrg c l k = k (Q3f (c.1.length : Int) (c.2.1.length : Int) (c.2.2.1.length : Int) l) := by
 unfold zqrg
 rw [Q0]
 unfold zqrf Q3f
 refine (r_ix _ _ _).trans ?_
 cases ixI l.2.1 (c.1.length : Int) with
 | false => rfl
 | true =>
  show cond (decide (l.2.2.1.1 < 1)) _ _ = k (l2V _ _ (decide (l.2.2.1.1 < 1) || _) l)
  cases decide (l.2.2.1.1 < 1) with
  | true => exact r_l2 _ _ _ _
  | false =>
   refine (Qio _ _).trans ?_
   show cond (!dayI l.2.2.1.1) _ _ = k (l2V _ _ ((!dayI l.2.2.1.1) || _) l)
   cases dayI l.2.2.1.1 with
   | false => exact r_l2 _ _ _ _
   | true =>
    refine (r_in _ _ _ _).trans ?_
    show cond (!inI l.2.2.1.2 0 86399) _ _ = k (l2V _ _ ((!inI l.2.2.1.2 0 86399) || _) l)
    cases inI l.2.2.1.2 0 86399 with
    | false => exact r_l2 _ _ _ _
    | true =>
     refine (r_in _ _ _ _).trans ?_
     show cond (!inI l.2.2.2.1 0 2) _ _ = k (l2V _ _ ((!inI l.2.2.2.1 0 2) || _) l)
     cases inI l.2.2.2.1 0 2 with
     | false => exact r_l2 _ _ _ _
     | true => exact (r_in _ _ _ _).trans (r_l2 _ _ _ _)
theorem Qmi (s : List Int) (hs : s.length ≤ 1000000) (k : Bool → Option β) :
  zqpq s k = k (!s.all dayI) := by
 unfold zqpq
 rw [Q0]
 unfold zqpp zqo1
 rw [Q0]
 unfold zqo0 zqny
 rw [Q0]
 refine (Q5h (fun m i => zqnw m (fun t => k (decide ((0 : Int) ≤ t))) (fun _ => k (decide ((0 : Int) ≤ -1))) s (s.length : Int) i) dayI (k true) (k false) 0 s fuel (Qo (by omega)) (fun m i hi => ?_) (fun m => ?_)).trans ?_
 ·simp only [zqnx, zqnv]
  refine (Q4 (by omega)).trans ?_
  refine (Qf (by omega)).trans ?_
  rw [Int.toNat_natCast, i64_in ((i : Int) + 1) (by omega)]
  unfold zqlw
  rw [Q0]
  unfold zqlv
  refine (Qio _ _).trans ?_
  cases dayI (s.getD i 0) with
  | true => rfl
  | false =>
   show k (decide ((0 : Int) ≤ i)) = k true
   rw [decide_eq_true (by omega : (0 : Int) ≤ i)]
 ·simp only [zqnx, zqnv]
  exact Q2 (by omega)
 ·cases s.all dayI <;> rfl
def ascG (l : List Int) (i : Nat) (d : Int) (_ : Unit) : Int ⊕ Unit := cond (decide (0 < (i : Int)) && decide (d ≤ l.getD (i - 1) 0)) (.inl 6) (.inr ())
def calV (nz : Int) (x : zq0) : Int :=
 cond (!ixI x.2.1 nz) 3 (cond (decide (64 < (x.2.2.length : Int))) 5 (cond (!x.2.2.all dayI) 1 (errV (walk (ascG x.2.2) x.2.2 0 ()))))
theorem Qiq (c : zqg) (x : zq0) (k : Int → Option β) : zqq8 c x k = k (calV (c.1.length : Int) x) := by
 unfold zqq8
 rw [Q0]
 unfold zqq7 calV
 refine (r_ix _ _ _).trans ?_
 cases ixI x.2.1 (c.1.length : Int) with
 | false => rfl
 | true =>
  show cond (decide ((64 : Int) < (x.2.2.length : Int))) _ _ = k (cond (decide ((64 : Int) < (x.2.2.length : Int))) _ _)
  by_cases h : (64 : Int) < (x.2.2.length : Int)
  ·rw [decide_eq_true h]; rfl
  ·rw [decide_eq_false h]
   refine (Qmi _ (by omega) _).trans ?_
   cases x.2.2.all dayI with
   | false => rfl
   | true =>
    show zqq5 (fun t => k t) (fun _ => k 0) (x.2.2.length : Int) 0 x = k (errV (walk (ascG x.2.2) x.2.2 0 ()))
    unfold zqq5
    rw [Q0]
    refine (Q1f (fun m i (_ : Unit) => zqq3 m (fun t => k t) (fun _ => k 0) (x.2.2.length : Int) i x) (ascG x.2.2) (fun e => k e) (fun _ => k 0) 0 x.2.2 () fuel (Qo (by omega)) (fun m i _ hi => ?_) (fun m _ => ?_)).trans (Q3e k _)
    ·simp only [zqq4, zqq2]
     refine (Q4 (by omega)).trans ?_
     unfold ascG
     rw [i64_in ((i : Int) + 1) (by omega)]
     by_cases h0 : (0 : Int) < i
     ·refine (Q4 h0).trans ?_
      refine (Qf (by omega)).trans ?_
      rw [i64_in ((i : Int) - 1) (by omega)]
      refine (Qf (by omega)).trans ?_
      rw [show ((i : Int) - 1).toNat = i - 1 by omega, Int.toNat_natCast, decide_eq_true h0]
      cases decide (x.2.2.getD i 0 ≤ x.2.2.getD (i - 1) 0) <;> rfl
     ·refine (Q2 h0).trans ?_
      rw [decide_eq_false h0]
      rfl
    ·simp only [zqq4, zqq2]
     exact Q2 (by omega)
def Q6k {α : Type} (of : α → List UInt8) (chk : α → Int) (_ : Nat) (x : α) (l : List (List UInt8)) : Int ⊕ List (List UInt8) :=
 cond (decide (Q28 (of x) l = 0)) (cond (decide (chk x = 0)) (.inr (l ++ [of x])) (.inl (chk x))) (.inl (Q28 (of x) l))
def Q31 {α : Type} (of : α → List UInt8) (chk : α → Int) (xs : List α) : Int := errV (walk (Q6k of chk) xs 0 [])
theorem Qq {α : Type} {xs : List α} {i : Nat} {d : α} (h : i < xs.length) : xs.getD i d ∈ xs := by
 rw [List.getD_eq_getElem?_getD, List.getElem?_eq_getElem h]
 exact List.getElem_mem h
theorem Qcs {α : Type} (E : Int → Option β) (K : List (List UInt8) → Option β) (of : α → List UInt8) (chk : α → Int) (i : Nat) (x : α) (l : List (List UInt8)) :
  sumK E K (Q6k of chk i x l) = cond (!decide (Q28 (of x) l = 0)) (E (Q28 (of x) l)) (cond (!decide (chk x = 0)) (E (chk x)) (K (l ++ [of x]))) := by
 unfold Q6k
 cases decide (Q28 (of x) l = 0) <;> cases decide (chk x = 0) <;> rfl
theorem Qct {s : List UInt8} {l : List (List UInt8)} {a : Option β} {f : List (List UInt8 × Bool) → Option β} :
  cond (!decide (Q28 s l = 0)) a (f (sn (cond (decide (Q28 s l = 0)) (l ++ [s]) l))) = cond (!decide (Q28 s l = 0)) a (f (sn (l ++ [s]))) := by
 cases decide (Q28 s l = 0) <;> rfl
theorem Qlt (xs : List zqa) (zv : zqa → Int) (hz : ∀ z ∈ xs, ∀ k : Int → Option β, zqt6 z k = k (zv z)) (hs : xs.length ≤ 1000000) (k : Int → Option β) :
  zqtk xs k = k (Q31 (·.1) zv xs) := by
 unfold zqtk
 rw [Q0]
 unfold zqtj zqth
 rw [Q0]
 refine (Q1f (fun m i l => zqtf m (fun t => k t) (fun _ => k 0) xs (xs.length : Int) i (sn l)) (Q6k (·.1) zv) (fun e => k e) (fun _ => k 0) ([], 0, []) xs [] fuel (Qo (by omega)) (fun m i l hi => ?_) (fun m _ => ?_)).trans (Q3e k _)
 ·simp only [zqtg, zqte]
  refine (Q4 (by omega)).trans ?_
  refine (Qf (by omega)).trans ?_
  rw [Int.toNat_natCast, i64_in ((i : Int) + 1) (by omega), Qcs]
  generalize hx : xs.getD i ([], 0, []) = x
  have hm : x ∈ xs := hx ▸ Qq hi
  unfold zq11
  rw [Q0]
  unfold zq10
  refine (Q9n _ _ _).trans ?_
  rw [hz x hm]
  exact Qct (f := fun t => cond (!decide (zv x = 0)) (k (zv x)) (zqtf m (fun t => k t) (fun _ => k 0) xs (xs.length : Int) ((i : Int) + 1) t))
 ·simp only [zqtg, zqte]
  exact Q2 (by omega)
theorem Qmj (c : zqg) (xs : List zq0) (hs : xs.length ≤ 1000000) (k : Int → zqg → Option β) :
  zqty xs c k = k (Q31 (·.1) (calV (c.1.length : Int)) xs) c := by
 unfold zqty
 rw [Q0]
 unfold zqtx zqtv
 rw [Q0]
 refine (Q1f (fun m i l => zqtt m (fun t b => k t b) (fun b => k 0 b) xs (xs.length : Int) i c (sn l)) (Q6k (·.1) (calV (c.1.length : Int))) (fun e => k e c) (fun _ => k 0 c) ([], 0, []) xs [] fuel (Qo (by omega)) (fun m i l hi => ?_) (fun m _ => ?_)).trans (Q3e (fun e => k e c) _)
 ·simp only [zqtu, zqts]
  refine (Q4 (by omega)).trans ?_
  refine (Qf (by omega)).trans ?_
  rw [Int.toNat_natCast, i64_in ((i : Int) + 1) (by omega), Qcs]
  generalize hx : xs.getD i ([], 0, []) = x
  unfold zq15 zqrk
  rw [Q0, Q0]
  unfold zq14 zqrj
  refine (Q9n _ _ _).trans ?_
  refine (congrArg (cond _ _) (Qiq _ _ _)).trans ?_
  exact Qct (f := fun t => cond (!decide (calV (c.1.length : Int) x = 0)) (k (calV (c.1.length : Int) x) c) (zqtt m (fun t b => k t b) (fun b => k 0 b) xs (xs.length : Int) ((i : Int) + 1) c t))
 ·simp only [zqtu, zqts]
  exact Q2 (by omega)
theorem Qkp (c : zqg) (xs : List zq2) (hs : xs.length ≤ 1000000) (k : Int → zqg → Option β) :
  zqs2 xs c k = k (Q31 (·.1) (Q3f (c.1.length : Int) (c.2.1.length : Int) (c.2.2.1.length : Int)) xs) c := by
 unfold zqs2
 rw [Q0]
 unfold zqs1 zqrz
 rw [Q0]
 refine (Q1f (fun m i l => zqrx m (fun t b => k t b) (fun b => k 0 b) xs (xs.length : Int) i c (sn l)) (Q6k (·.1) (Q3f (c.1.length : Int) (c.2.1.length : Int) (c.2.2.1.length : Int))) (fun e => k e c) (fun _ => k 0 c) ([], 0, (0, 0), 0, 0, [], [], 0, 0) xs [] fuel (Qo (by omega)) (fun m i l hi => ?_) (fun m _ => ?_)).trans (Q3e (fun e => k e c) _)
 ·simp only [zqry, zqrw]
  refine (Q4 (by omega)).trans ?_
  refine (Qf (by omega)).trans ?_
  rw [Int.toNat_natCast, i64_in ((i : Int) + 1) (by omega), Qcs]
  generalize hx : xs.getD i ([], 0, (0, 0), 0, 0, [], [], 0, 0) = x
  unfold zq4q zqro
  rw [Q0, Q0]
  unfold zq4p zqrn
  refine (Q9n _ _ _).trans ?_
  refine (congrArg (cond _ _) (Qls _ _ _)).trans ?_
  exact Qct (f := fun t => cond (!decide (Q3f (c.1.length : Int) (c.2.1.length : Int) (c.2.2.1.length : Int) x = 0)) (k (Q3f (c.1.length : Int) (c.2.1.length : Int) (c.2.2.1.length : Int) x) c) (zqrx m (fun t b => k t b) (fun b => k 0 b) xs (xs.length : Int) ((i : Int) + 1) c t))
 ·simp only [zqry, zqrw]
  exact Q2 (by omega)
def Qf2 (np : Int) (_ : Nat) (x : Ed) (_ : Unit) : Int ⊕ Unit := cond (decide (Qcr np x = 0)) (.inr ()) (.inl (Qcr np x))
def Q6l (nz np nc : Int) (x : zq4) : Int :=
 cond (decide (6 < (x.2.1.length : Int))) 5 (cond (decide (48 < (x.2.2.length : Int))) 5
  (cond (decide (Q31 (·.1) (Q3f nz np nc) x.2.1 = 0)) (errV (walk (Qf2 np) x.2.2 0 ())) (Q31 (·.1) (Q3f nz np nc) x.2.1)))
theorem Qir (c : zqg) (x : zq4) (k : Int → Option β) : zqsg c x k = k (Q6l (c.1.length : Int) (c.2.1.length : Int) (c.2.2.1.length : Int) x) := by
 unfold zqsg
 rw [Q0]
 unfold zqsf Q6l
 by_cases h1 : (6 : Int) < (x.2.1.length : Int)
 ·refine (Q4 h1).trans ?_
  rw [decide_eq_true h1]; rfl
 refine (Q2 h1).trans ?_
 rw [decide_eq_false h1]
 by_cases h2 : (48 : Int) < (x.2.2.length : Int)
 ·refine (Q4 h2).trans ?_
  rw [decide_eq_true h2]; rfl
 refine (Q2 h2).trans ?_
 rw [decide_eq_false h2]
 refine (Qkp c _ (by omega) _).trans ?_
 show cond (!decide (Q31 _ (Q3f _ _ _) x.2.1 = 0)) _ _ = k (cond (decide (Q31 _ (Q3f _ _ _) x.2.1 = 0)) _ _)
 cases decide (Q31 (·.1) (Q3f (c.1.length : Int) (c.2.1.length : Int) (c.2.2.1.length : Int)) x.2.1 = 0) with
 | false => rfl
 | true =>
  show zqsd (fun t => k t) (fun _ => k 0) x.2.2 (x.2.2.length : Int) 0 c = k (errV (walk (Qf2 (c.2.1.length : Int)) x.2.2 0 ()))
  unfold zqsd
  rw [Q0]
  refine (Q1f (fun m i (_ : Unit) => zqsb m (fun t => k t) (fun _ => k 0) x.2.2 (x.2.2.length : Int) i c) (Qf2 (c.2.1.length : Int)) (fun e => k e) (fun _ => k 0) (0, 0, 0, 0, 0) x.2.2 () fuel (Qo (by omega)) (fun m i _ hi => ?_) (fun m _ => ?_)).trans (Q3e k _)
  ·simp only [zqsc, zqsa]
   refine (Q4 (by omega)).trans ?_
   refine (Qf (by omega)).trans ?_
   rw [Int.toNat_natCast, i64_in ((i : Int) + 1) (by omega)]
   refine (Qmh _ _ _).trans ?_
   unfold Qf2
   cases decide (Qcr (c.2.1.length : Int) (x.2.2.getD i (0, 0, 0, 0, 0)) = 0) <;> rfl
  ·simp only [zqsc, zqsa]
   exact Q2 (by omega)
theorem Qh6 (c : zqg) (xs : List zq4) (hs : xs.length ≤ 1000000) (k : Int → zqg → Option β) :
  zquc xs c k = k (Q31 (·.1) (Q6l (c.1.length : Int) (c.2.1.length : Int) (c.2.2.1.length : Int)) xs) c := by
 unfold zquc
 rw [Q0]
 unfold zqub zqu9
 rw [Q0]
 refine (Q1f (fun m i l => zqu7 m (fun t b => k t b) (fun b => k 0 b) xs (xs.length : Int) i c (sn l)) (Q6k (·.1) (Q6l (c.1.length : Int) (c.2.1.length : Int) (c.2.2.1.length : Int))) (fun e => k e c) (fun _ => k 0 c) ([], [], []) xs [] fuel (Qo (by omega)) (fun m i l hi => ?_) (fun m _ => ?_)).trans (Q3e (fun e => k e c) _)
 ·simp only [zqu8, zqu6]
  refine (Q4 (by omega)).trans ?_
  refine (Qf (by omega)).trans ?_
  rw [Int.toNat_natCast, i64_in ((i : Int) + 1) (by omega), Qcs]
  generalize hx : xs.getD i ([], [], []) = x
  unfold zq19 zqsk
  rw [Q0, Q0]
  unfold zq18 zqsj
  refine (Q9n _ _ _).trans ?_
  refine (congrArg (cond _ _) (Qir _ _ _)).trans ?_
  exact Qct (f := fun t => cond (!decide (Q6l (c.1.length : Int) (c.2.1.length : Int) (c.2.2.1.length : Int) x = 0)) (k (Q6l (c.1.length : Int) (c.2.1.length : Int) (c.2.2.1.length : Int) x) c) (zqu7 m (fun t b => k t b) (fun b => k 0 b) xs (xs.length : Int) ((i : Int) + 1) c t))
 ·simp only [zqu8, zqu6]
  exact Q2 (by omega)
def Qad : List UInt8 := [110, 111, 98, 111, 100, 121]
def Q55 (nz : Int) (p : zqe) (l : List (List UInt8)) : Int := cond (decide (p.1 = Qad)) 2 (Q28 p.1 l)
def Q5t (nz : Int) (_ : Nat) (p : zqe) (l : List (List UInt8)) : Int ⊕ List (List UInt8) :=
 cond (decide (Q55 nz p l = 0)) (cond (decide (Q5s nz p = 0)) (.inr (l ++ [p.1])) (.inl (Q5s nz p))) (.inl (Q55 nz p l))
def Qdm (nz : Int) (xs : List zqe) : Int := errV (walk (Q5t nz) xs 0 [])
def orV (a b : Int) : Int := cond (decide (a = 0)) b a
def Q6m (zv : zqa → Int) (c : zqg) : Int :=
 cond (decide (16 < (c.1.length : Int))) 5 (cond (decide (32 < (c.2.1.length : Int))) 5 (cond (decide (8 < (c.2.2.1.length : Int))) 5 (cond (decide (12 < (c.2.2.2.length : Int))) 5
  (orV (Q31 (·.1) zv c.1) (orV (Qdm (c.1.length : Int) c.2.1) (orV (Q31 (·.1) (calV (c.1.length : Int)) c.2.2.1)
   (Q31 (·.1) (Q6l (c.1.length : Int) (c.2.1.length : Int) (c.2.2.1.length : Int)) c.2.2.2)))))))
theorem Qle {k : Int → Option β} {a b : Int} {g : Option β} (h : g = k b) : cond (!decide (a = 0)) (k a) g = k (orV a b) := by
 rw [h]
 unfold orV
 cases decide (a = 0) <;> rfl
theorem Qis {nz : Int} {xs : List zqe} : ∀ {j : Nat} {l : List (List UInt8)} {e : Int}, walk (Q5t nz) xs j l = .inl e → e ≠ 0 := by
 induction xs with
 | nil => intro j l e h; cases h
 | cons x xs ih =>
  intro j l e h
  unfold walk at h
  unfold Q5t at h
  by_cases h1 : Q55 nz x l = 0
  ·rw [decide_eq_true h1] at h
   by_cases h2 : Q5s nz x = 0
   ·rw [decide_eq_true h2] at h
    exact ih h
   ·rw [decide_eq_false h2] at h
    injection h with h
    exact h ▸ h2
  ·rw [decide_eq_false h1] at h
   injection h with h
   exact h ▸ h1
theorem Qlu (nz : Int) {p : zqe} {l : List (List UInt8)} {f : Int → List (List UInt8 × Bool) → Option β} :
  cond (decide (p.1 = Qad)) (f 2 (sn (cond (decide (Q28 p.1 l = 0)) (l ++ [p.1]) l))) (f (Q28 p.1 l) (sn (cond (decide (Q28 p.1 l = 0)) (l ++ [p.1]) l))) = f (Q55 nz p l) (sn (cond (decide (Q28 p.1 l = 0)) (l ++ [p.1]) l)) := by
 unfold Q55
 cases decide (p.1 = Qad) <;> rfl
theorem Qkq {nz : Int} {p : zqe} {l : List (List UInt8)} (h : Q55 nz p l = 0) : Q28 p.1 l = 0 := by
 unfold Q55 at h
 cases hp : decide (p.1 = Qad) with
 | true => rw [hp] at h; cases h
 | false => rw [hp] at h; exact h
theorem Qkr (c : zqg) (xs : List zqe) (hs : xs.length ≤ 1000000) (k : Int → Option β) (K : zqg → Option β) (b : Int) (hK : K c = k b) :
  zquu (fun t => k t) K xs (xs.length : Int) 0 c [] = k (orV (Qdm (c.1.length : Int) xs) b) := by
 unfold zquu
 rw [Q0]
 refine (Q1f (fun m i l => zqus m (fun t => k t) K xs (xs.length : Int) i c (sn l)) (Q5t (c.1.length : Int)) (fun e => k e) (fun _ => k b) ([], 0, [], 0, 0, false) xs [] fuel (Qo (by omega)) (fun m i l hi => ?_) (fun m _ => ?_)).trans ?_
 ·simp only [zqut, zqur]
  refine (Q4 (by omega)).trans ?_
  refine (Qf (by omega)).trans ?_
  rw [Int.toNat_natCast]
  generalize hx : xs.getD i ([], 0, [], 0, 0, false) = x
  refine (Q9n _ _ _).trans ?_
  refine (Qlu (c.1.length : Int) (f := fun e s => zqup (fun t => k t) (fun t392 t402 t412 c2 seen2 => zqus m (fun t => k t) K t392 t402 (IntKind.i64.wrap (t412 + 1)) c2 seen2) e xs (xs.length : Int) (i : Int) c s x)).trans ?_
  unfold zqup
  rw [Q0]
  unfold zquo Q5t
  simp only
  rw [i64_in ((i : Int) + 1) (by omega)]
  by_cases h1 : Q55 (c.1.length : Int) x l = 0
  ·refine (Q4 h1).trans ?_
   rw [decide_eq_true h1, Qkq h1]
   refine (Qko _ _ _).trans ?_
   cases decide (Q5s (c.1.length : Int) x = 0) <;> rfl
  ·refine (Q2 h1).trans ?_
   refine (Q54 h1).trans ?_
   rw [decide_eq_false h1]
   rfl
 ·simp only [zqut, zqur]
  exact (Q2 (by omega)).trans hK
 ·unfold Qdm
  cases hw : walk (Q5t (c.1.length : Int)) xs 0 [] with
  | inr _ => rfl
  | inl e =>
   have := Qis hw
   show k e = k (orV e b)
   unfold orV
   rw [decide_eq_false this]
   rfl
theorem Qhu (c : zqg) (zv : zqa → Int) (hz : ∀ z ∈ c.1, ∀ k : Int → Option β, zqt6 z k = k (zv z)) (k : Int → Option β) : zqux c k = k (Q6m zv c) := by
 unfold zqux
 rw [Q0]
 unfold zquw Q6m
 by_cases h1 : (16 : Int) < (c.1.length : Int)
 ·refine (Q4 h1).trans ?_
  rw [decide_eq_true h1]; rfl
 refine (Q2 h1).trans ?_
 rw [decide_eq_false h1]
 by_cases h2 : (32 : Int) < (c.2.1.length : Int)
 ·refine (Q4 h2).trans ?_
  rw [decide_eq_true h2]; rfl
 refine (Q2 h2).trans ?_
 rw [decide_eq_false h2]
 by_cases h3 : (8 : Int) < (c.2.2.1.length : Int)
 ·refine (Q4 h3).trans ?_
  rw [decide_eq_true h3]; rfl
 refine (Q2 h3).trans ?_
 rw [decide_eq_false h3]
 by_cases h4 : (12 : Int) < (c.2.2.2.length : Int)
 ·refine (Q4 h4).trans ?_
  rw [decide_eq_true h4]; rfl
 refine (Q2 h4).trans ?_
 rw [decide_eq_false h4]
 refine (Qlt c.1 zv hz (by omega) _).trans ?_
 refine Qle (k := k) ?_
 refine Qkr c c.2.1 (by omega) k _ _ ?_
 refine (Qmj c c.2.2.1 (by omega) _).trans ?_
 refine Qle (k := k) ?_
 exact Qh6 c c.2.2.2 (by omega) _
end
end
end Go.Lift
namespace Go.Lift
open Go.RowKit Go.IntWalk
noncomputable section
variable [Sl]
set_option linter.unusedSectionVars false
set_option linter.unusedVariables false
set_option linter.unusedSimpArgs false
set_option maxRecDepth 10000
section
variable {β : Type}
theorem c_b {b : Bool} {x y : Option β} (h : b = true) : cond b x y = x := by rw [h]; rfl
def nm (i : Int) : List UInt8 := [110] ++ Q7y [IntKind.u8.wrap (IntKind.i64.wrap (97 + IntKind.i64.wrap (Int.tdiv i 20))), IntKind.u8.wrap (IntKind.i64.wrap (97 + Int.tmod i 20))]
def Qdn : List (List UInt8) → List (List UInt8) → Bool
 | [], _ => true
 | s :: r, l => Qcq s && (!decide (s ∈ l) && Qdn r (l ++ [s]))
end
end
end Go.Lift
namespace Go.Lift
open Go.RowKit Go.IntWalk
noncomputable section
variable [Sl]
set_option linter.unusedSectionVars false
set_option linter.unusedVariables false
set_option linter.unusedSimpArgs false
set_option maxRecDepth 10000
abbrev Stm := Int × List Tok
structure Fine (p : Ln) : Prop where
 line : ∀ {β : Type} (k : Int → List Tok → Option β), zqp2 p.1 k = k 0 p.2
 form : ∀ {β : Type} (k : Bool → Option β), zqjj p.2 k = k true
 nonl : ∀ c ∈ p.1, c ≠ 10
 len : p.1.length ≤ 100
 few : 0 < p.2.length ∧ p.2.length ≤ 100
def Qh (ps : List Ln) : List UInt8 := ps.flatMap fun p => p.1 ++ [10]
theorem Q5i (p : Ln) (ps : List Ln) : Qh (p :: ps) = p.1 ++ 10 :: Qh ps := by simp [Qh]
theorem Q47 (ps qs : List Ln) : Qh (ps ++ qs) = Qh ps ++ Qh qs := by simp [Qh]
theorem Q3g : ∀ {ps : List Ln}, (∀ p ∈ ps, Fine p) → (Qh ps).length ≤ 101 * ps.length
 | [], _ => by simp [Qh]
 | p :: ps, h => by
  have h1 := (h p (List.mem_cons_self ..)).len
  have h2 := Q3g (ps := ps) fun q hq => h q (List.mem_cons_of_mem _ hq)
  rw [Q5i, List.length_append, List.length_cons, List.length_cons]
  omega
theorem Qcu : ∀ {ps : List Ln}, (∀ p ∈ ps, Fine p) → Q4i (Qh ps) [10] = ps.map (·.1) ++ [[]]
 | [], _ => Qki fun c hc => absurd hc List.not_mem_nil
 | p :: ps, h => by
  rw [Q5i, Qkj _ (h p (List.mem_cons_self ..)).nonl, Qcu fun q hq => h q (List.mem_cons_of_mem _ hq)]
  rfl
def stm : Nat → List Ln → List Stm
 | _, [] => []
 | n, p :: r => ((n : Int) + 1, p.2) :: stm (n + 1) r
theorem Qae : ∀ (n : Nat) (ps : List Ln), (stm n ps).length = ps.length
 | _, [] => rfl
 | n, p :: ps => by
  have := Qae (n + 1) ps
  unfold stm
  rw [List.length_cons, List.length_cons, this]
section
variable {β : Type}
theorem Q56 {α : Type} {xs : List α} {d : α} {i : Nat} {w : α} {r : List α} (h : xs.drop i = w :: r) : i < xs.length ∧ xs.getD i d = w ∧ xs.drop (i + 1) = r := by
 have hi : i < xs.length := by
  rcases Nat.lt_or_ge i xs.length with g | g
  ·exact g
  ·rw [List.drop_of_length_le g] at h; cases h
 rw [List.drop_eq_getElem_cons hi] at h
 injection h with h1 h2
 exact ⟨hi, by simp [List.getD, hi, h1], h2⟩
theorem Qcv (k1 : zqqc β) (k2 : zqqd β) {xs : List (List UInt8)} (hx : xs.length ≤ 1000) {rest : List (List UInt8)} : ∀ (ps : List Ln) (i N : Nat) (acc : List Stm), (∀ p ∈ ps, Fine p) → xs.drop i = ps.map (·.1) ++ rest → acc.length ≤ i →
  zqqo (N + ps.length) k1 k2 (xs.length : Int) (i : Int) acc xs = zqqo N k1 k2 (xs.length : Int) ((i + ps.length : Nat) : Int) (acc ++ stm i ps) xs
 | [], i, N, acc, _, _, _ => by simp [stm]
 | p :: ps, i, N, acc, hf, hd, ha => by
  have hp := hf p (List.mem_cons_self ..)
  obtain ⟨hi, hw, hd'⟩ := Q56 (d := []) (w := p.1) (r := ps.map (·.1) ++ rest) hd
  have ih := Qcv k1 k2 hx (rest := rest) ps (i + 1) N (acc ++ [((i : Int) + 1, p.2)]) (fun q hq => hf q (List.mem_cons_of_mem _ hq)) hd' (by simp; omega)
  have ew : IntKind.i64.wrap ((i : Int) + 1) = (i : Int) + 1 := i64_in _ (by omega)
  rw [List.length_cons, show N + (ps.length + 1) = (N + ps.length) + 1 by omega, zqqp]
  unfold zqqn
  refine (Q4 (by omega)).trans ?_
  refine (Qf (by omega)).trans ?_
  dsimp only
  rw [Int.toNat_natCast, hw]
  refine (hp.line _).trans ?_
  refine c_t.trans ?_
  have hf1 := hp.few
  refine (Q4 (by omega)).trans ?_
  refine (hp.form _).trans ?_
  refine c_f.trans ?_
  unfold zqql
  rw [Q0]
  unfold zqqk
  refine c_f.trans ?_
  refine (Q4 (by omega)).trans ?_
  refine (Q9k (by simp only [List.length_cons, List.length_nil]; omega)).trans ?_
  dsimp only
  rw [ew]
  rw [show i + (ps.length + 1) = i + 1 + ps.length by omega]
  rw [show acc ++ stm i (p :: ps) = acc ++ [((i : Int) + 1, p.2)] ++ stm (i + 1) ps by rw [List.append_assoc]; rfl]
  exact ih
theorem Qas (he : ∀ (k : Int → List Tok → Option β), zqp2 [] k = k 0 []) {qs : List Ln} (hq : ∀ q ∈ qs, Fine q) (hn : qs.length ≤ 500) (k : Int → Int → List Stm → Option β) : zqqt (Qh qs) k = k 0 0 (stm 0 qs) := by
 have hl := Q3g hq
 unfold zqqt
 rw [Q0]
 unfold zqqs zq4w Qcj
 refine (Q2 (by omega)).trans ?_
 refine (c_p2 (by omega) (by simp)).trans ?_
 rw [Qcu hq]
 generalize hxs : qs.map (·.1) ++ [[]] = xs
 have hlen : xs.length = qs.length + 1 := by rw [← hxs]; simp
 unfold zqqq
 rw [Q0]
 have h := Qcv (fun line e l => k line e l) (fun l => k 0 0 l) (xs := xs) (by omega) (rest := [[]]) qs 0 (fuel - qs.length) [] hq (by rw [← hxs]; rfl) (by simp)
 have hfu : fuel - qs.length + qs.length = fuel := Nat.sub_add_cancel (Nat.le_of_lt (Qo (by omega)))
 rw [hfu] at h
 refine h.trans ?_
 obtain ⟨m, hm⟩ : ∃ m, fuel - qs.length = m + 2 := ⟨fuel - qs.length - 2, by have := Qo (n := qs.length + 1) (by omega); omega⟩
 have hg : xs.getD qs.length [] = [] := by
  rw [← hxs]
  simp [List.getD]
 rw [hm, zqqp]
 unfold zqqn
 rw [show 0 + qs.length = qs.length by omega]
 refine (Q4 (by omega)).trans ?_
 refine (Qf (by omega)).trans ?_
 dsimp only
 rw [Int.toNat_natCast, hg]
 refine (he _).trans ?_
 refine c_t.trans ?_
 refine c_f.trans ?_
 unfold zqql
 rw [Q0]
 unfold zqqk
 refine c_f.trans ?_
 refine c_f.trans ?_
 dsimp only
 rw [i64_in ((qs.length : Int) + 1) (by omega), zqqp]
 unfold zqqn
 refine (Q2 (by omega)).trans ?_
 rfl
end
end
end Go.Lift
namespace Go.Lift
open Go.RowKit Go.IntWalk
noncomputable section
variable [Sl]
set_option linter.unusedSectionVars false
set_option linter.unusedVariables false
set_option linter.unusedSimpArgs false
set_option maxRecDepth 10000
section
variable {β : Type}
theorem Qks {y m : Int} (hy : 1970 ≤ y ∧ y ≤ 2240) (hm : 1 ≤ m ∧ m ≤ 12) (k : Int → Option β) : zqdw (y, (m, 1)) k = k (cntN y + sumM (Qd y) (m - 1).toNat) := by
 have hs0 : sumM (Qd y) 0 = 0 := rfl
 have hb := Q7s (Qd y) (m - 1).toNat
 have h0 : 0 ≤ cntN y ∧ cntN y ≤ 100000 := by unfold cntN; omega
 unfold zqdw
 rw [Q0]
 unfold zqdv
 refine (Q23 (y := y) (by omega) _).trans ?_
 simp only
 rw [i64_in (cntN y + 1) (by omega), i64_in (cntN y + 1 - 1) (by omega)]
 unfold zqdt
 rw [Q0]
 refine (Qcp (y := y) (by omega) m 1 (m - 1).toNat fuel 0 (cntN y + 1 - 1) (by omega) (by omega) (Qo (by omega)) (by omega) (by omega) _).trans (k_eq ?_)
 rw [Nat.zero_add, hs0]
 omega
def Qn (y m : Int) : Int := cntN y + sumM (Qd y) (m - 1).toNat
theorem Qhv (lp : Prop) [Decidable lp] {m : Int} (hm : 1 ≤ m ∧ m ≤ 12) : 28 ≤ Qs lp m ∧ Qs lp m ≤ 31 := by
 unfold Qs
 rw [if_neg (by omega), if_neg (by omega)]
 by_cases h2 : m = 2
 ·rw [if_pos h2]
  by_cases h3 : lp
  ·rw [if_pos h3]; omega
  ·rw [if_neg h3]; omega
 ·rw [if_neg h2]
  by_cases h4 : m = 4 ∨ m = 6 ∨ m = 9 ∨ m = 11
  ·rw [if_pos h4]; omega
  ·rw [if_neg h4]; omega
def nthD (y m w wd : Int) : Int :=
 let n := Qn y m
 let d := n + (wd - (n + 3) % 7 + 7) % 7 + 7 * (w - 1)
 if n + Qs (Qd y) m ≤ d then d - 7 else d
theorem Qkt {y m : Int} (hy : 1970 ≤ y ∧ y ≤ 2240) (hm : 1 ≤ m ∧ m ≤ 12) : 0 ≤ Qn y m ∧ Qn y m ≤ 200000 := by
 have hb := Q7s (Qd y) (m - 1).toNat
 have hb2 : sumM (Qd y) (m - 1).toNat ≤ sumM (Qd y) (m - 1).toNat := Int.le_refl _
 have h0 : 0 ≤ cntN y ∧ cntN y ≤ 99000 := by unfold cntN; omega
 unfold Qn
 omega
theorem Qlv {y m w wd : Int} (hy : 1970 ≤ y ∧ y ≤ 2240) (hm : 1 ≤ m ∧ m ≤ 12) (hw : 1 ≤ w ∧ w ≤ 5) (hd : 0 ≤ wd ∧ wd ≤ 6) (k : Int → Int → Option β) : zqgw y m w wd k = k (nthD y m w wd) 0 := by
 have hl := Qhv (Qd y) hm
 have hb := Q7s (Qd y) (m - 1).toNat
 have h0 : 0 ≤ cntN y ∧ cntN y ≤ 99000 := by unfold cntN; omega
 have hn : 0 ≤ Qn y m ∧ Qn y m ≤ 100000 := by unfold Qn; omega
 unfold zqgw
 rw [Q0]
 unfold zqgv
 have hv : ∀ k : Bool → Option β, zqdj (y, m, 1) k = k true := by
  intro k
  unfold zqdj
  rw [Q0]
  unfold zqdi
  refine (Q4 hy.1).trans ?_
  refine (Q4 hy.2).trans ?_
  refine (Q4 (by show (1 : Int) ≤ 1; omega)).trans ?_
  refine (Q3y (by show 0 ≤ y; omega) _ _).trans ?_
  exact k_eq (decide_eq_true (by show 1 ≤ Qs (Qd y) m; omega))
 refine (hv _).trans ?_
 refine (Q2 (by omega)).trans ?_
 refine (Q2 (by omega)).trans ?_
 refine (Q2 (by omega)).trans ?_
 refine (Q2 (by omega)).trans ?_
 refine (Qks hy hm _).trans ?_
 rw [show cntN y + sumM (Qd y) (m - 1).toNat = Qn y m from rfl]
 unfold zq96
 rw [Q0]
 unfold zq95
 refine (Q3y (by omega) _ _).trans ?_
 have e1 : Int.tmod (Qn y m) 7 = Qn y m % 7 := Int.tmod_eq_emod_of_nonneg hn.1
 simp only
 rw [e1]
 have e2 : IntKind.i64.wrap (Qn y m % 7 + 10) = Qn y m % 7 + 10 := i64_in _ (by omega)
 rw [e2]
 have e3 : Int.tmod (Qn y m % 7 + 10) 7 = (Qn y m + 3) % 7 := by
  rw [Int.tmod_eq_emod_of_nonneg (by omega)]; omega
 rw [e3]
 have g1 : 0 ≤ (Qn y m + 3) % 7 ∧ (Qn y m + 3) % 7 < 7 := by omega
 rw [i64_in (wd - (Qn y m + 3) % 7) (by omega), i64_in (wd - (Qn y m + 3) % 7 + 7) (by omega)]
 rw [Int.tmod_eq_emod_of_nonneg (a := wd - (Qn y m + 3) % 7 + 7) (by omega)]
 have g2 : 0 ≤ (wd - (Qn y m + 3) % 7 + 7) % 7 ∧ (wd - (Qn y m + 3) % 7 + 7) % 7 < 7 := by omega
 rw [i64_in (w - 1) (by omega), i64_in (7 * (w - 1)) (by omega), i64_in (Qn y m + (wd - (Qn y m + 3) % 7 + 7) % 7) (by omega),
  i64_in (Qn y m + (wd - (Qn y m + 3) % 7 + 7) % 7 + 7 * (w - 1)) (by omega), i64_in (Qn y m + Qs (Qd y) m) (by omega),
  i64_in (Qn y m + (wd - (Qn y m + 3) % 7 + 7) % 7 + 7 * (w - 1) - 7) (by omega)]
 unfold nthD
 simp only
 by_cases h : Qn y m + Qs (Qd y) m ≤ Qn y m + (wd - (Qn y m + 3) % 7 + 7) % 7 + 7 * (w - 1)
 ·refine (Q4 h).trans ?_
  rw [if_pos h]
 ·refine (Q2 h).trans ?_
  rw [if_neg h]
theorem Qmk {y m w wd : Int} (hm : 1 ≤ m ∧ m ≤ 12) (hw : 1 ≤ w ∧ w ≤ 5) : Qn y m + 7 * (w - 1) - 7 ≤ nthD y m w wd ∧ nthD y m w wd ≤ Qn y m + 7 * w - 1 ∧ (w ≤ 4 → Qn y m + 7 * (w - 1) ≤ nthD y m w wd) ∧ nthD y m w wd ≤ Qn y m + 30 := by
 have hl := Qhv (Qd y) hm
 unfold nthD
 simp only
 by_cases h : Qn y m + Qs (Qd y) m ≤ Qn y m + (wd - (Qn y m + 3) % 7 + 7) % 7 + 7 * (w - 1)
 ·rw [if_pos h]; omega
 ·rw [if_neg h]; omega
structure RuleOk (r : zq8) : Prop where
 f : 1970 ≤ r.1 ∧ r.1 ≤ 2240
 t : r.1 ≤ r.2.1 ∧ r.2.1 ≤ 2240
 m : 1 ≤ r.2.2.1 ∧ r.2.2.1 ≤ 12
 w : 1 ≤ r.2.2.2.1 ∧ r.2.2.2.1 ≤ 5
 d : 0 ≤ r.2.2.2.2.1 ∧ r.2.2.2.2.1 ≤ 6
 s : 0 ≤ r.2.2.2.2.2.1 ∧ r.2.2.2.2.2.1 ≤ 86399
 o : -64800 ≤ r.2.2.2.2.2.2 ∧ r.2.2.2.2.2.2 ≤ 64800
theorem Q71 {n lo hi : Int} (h : lo ≤ n ∧ n ≤ hi) : inI n lo hi = true := by
 unfold inI
 rw [decide_eq_true h.1, decide_eq_true h.2]; rfl
theorem Qml {r : zq8} (h : RuleOk r) (k : Int → Option β) : zq8j r k = k 0 := by
 unfold zq8j
 rw [Q0]
 unfold zq8i
 refine (z_in _ _ _ _).trans ?_
 rw [Q71 h.f]
 refine (z_in _ _ _ _).trans ?_
 rw [Q71 h.t]
 refine (z_in _ _ _ _).trans ?_
 rw [Q71 h.m]
 refine (z_in _ _ _ _).trans ?_
 rw [Q71 h.w]
 refine (z_in _ _ _ _).trans ?_
 rw [Q71 h.d]
 refine (z_in _ _ _ _).trans ?_
 rw [Q71 h.s]
 refine (z_in _ _ _ _).trans ?_
 rw [Q71 h.o]
 rfl
def occY (r : zq8) (y : Int) : Int × Int := (nthD y r.2.2.1 r.2.2.2.1 r.2.2.2.2.1 * 86400 + r.2.2.2.2.2.1, r.2.2.2.2.2.2)
def occL (r : zq8) : List (Int × Int) := (List.range (r.2.1 - r.1 + 1).toNat).map fun i => occY r (r.1 + (i : Nat))
theorem Qjt {r : zq8} (h : RuleOk r) {y : Int} (hy : r.1 ≤ y ∧ y ≤ r.2.1) : -10 ≤ nthD y r.2.2.1 r.2.2.2.1 r.2.2.2.2.1 ∧ nthD y r.2.2.1 r.2.2.2.1 r.2.2.2.2.1 ≤ 300000 := by
 have h1 := h.f
 have h2 := h.t
 have hb := Qmk (y := y) (wd := r.2.2.2.2.1) h.m h.w
 have hn := Qkt (y := y) (m := r.2.2.1) (by omega) h.m
 have := h.w
 omega
theorem Qju {r : zq8} (h : RuleOk r) (a : List zq8) (b c : Int) (K : zqn4 β) : ∀ (j f : Nat) (y : Int) (out : List (Int × Int)), y + (j : Int) = r.2.1 + 1 → r.1 ≤ y → j < f → out.length + j ≤ 1000000 →
  zqnd f K y a b c out r = K a b c (out ++ (List.range j).map fun i => occY r (y + (i : Nat))) := by
 have h1 := h.f
 have h2 := h.t
 intro j
 induction j with
 | zero =>
  intro f y out hj hy hf hl
  obtain ⟨f, rfl⟩ : ∃ f', f = f' + 1 := ⟨f - 1, by omega⟩
  simp only [zqne, zqnc]
  refine (Q2 (by omega)).trans ?_
  simp
 | succ j ih =>
  intro f y out hj hy hf hl
  obtain ⟨f, rfl⟩ : ∃ f', f = f' + 1 := ⟨f - 1, by omega⟩
  have hb := Qjt h (y := y) ⟨hy, by omega⟩
  have hs := h.s
  simp only [zqne, zqnc]
  refine (Q4 (by omega)).trans ?_
  refine (Qlv (by omega) h.m h.w h.d _).trans ?_
  rw [i64_in (nthD y r.2.2.1 r.2.2.2.1 r.2.2.2.2.1 * 86400) (by omega), i64_in (nthD y r.2.2.1 r.2.2.2.1 r.2.2.2.2.1 * 86400 + r.2.2.2.2.2.1) (by omega)]
  have hr : (out.length + 1) * 16 ≤ 140737488355328 := by omega
  refine (Q9k hr).trans ?_
  rw [i64_in (y + 1) (by omega)]
  have hl2 : (out ++ [occY r y]).length + j ≤ 1000000 := by simp; omega
  refine (ih f (y + 1) (out ++ [occY r y]) (by omega) (by omega) (by omega) hl2).trans ?_
  refine congrArg (K a b c) ?_
  rw [List.append_assoc, List.range_succ_eq_map, List.map_cons, List.map_map]
  congr 1
  simp only [List.singleton_append]
  congr 1
  ·simp
  ·refine List.map_congr_left fun i _ => ?_
   simp only [Function.comp]
   congr 1
   simp
   omega
def Q1h (l : List zq8) : List (Int × Int) := l.flatMap occL
theorem Qgd (r : zq8) : (occL r).length = (r.2.1 - r.1 + 1).toNat := by simp [occL]
def occS (z : zqa) : List (Int × Int) := zqmk (Q1h z.2.2)
structure ZoneOk (z : zqa) : Prop where
 o : -64800 ≤ z.2.1 ∧ z.2.1 ≤ 64800
 r : ∀ r ∈ z.2.2, RuleOk r
 n : (Q1h z.2.2).length ≤ 12
 l : z.2.2.length ≤ 12
theorem Qdo {z : zqa} (h : ZoneOk z) {x : Int × Int} (hx : x ∈ Q1h z.2.2) : (-1000000 ≤ x.1 ∧ x.1 ≤ 30000000000) ∧ (-64800 ≤ x.2 ∧ x.2 ≤ 64800) := by
 obtain ⟨r, hr, hx⟩ := List.mem_flatMap.1 hx
 obtain ⟨i, hi, rfl⟩ := List.mem_map.1 hx
 have hi : i < (r.2.1 - r.1 + 1).toNat := by simpa using hi
 have hb := Qjt (h.r r hr) (y := r.1 + (i : Nat)) (by omega)
 have hs := (h.r r hr).s
 have ho := (h.r r hr).o
 refine ⟨?_, ho⟩
 show -1000000 ≤ nthD _ _ _ _ * 86400 + r.2.2.2.2.2.1 ∧ nthD _ _ _ _ * 86400 + r.2.2.2.2.2.1 ≤ 30000000000
 omega
theorem Qec {α : Type} {l : List α} {i : Nat} (d : α) (h : i < l.length) : l.take (i + 1) = l.take i ++ [l.getD i d] := by
 rw [List.take_add_one]
 simp [List.getD, h]
theorem Qmm {z : zqa} (h : ZoneOk z) (k1 : zqmx β) (K : zqmy β) : zqna k1 K 0 z.2.2 (z.2.2.length : Int) 0 z = K ((Q1h z.2.2).length : Int) z := by
 have hl := h.l
 unfold zqna
 rw [Q0]
 have hr0 : ∀ (i : Nat), i < z.2.2.length → RuleOk (z.2.2.getD i (0, 0, 0, 0, 0, 0, 0)) := fun i hi => h.r _ (Qq hi)
 refine (Qcn (fun i (n : Int) => 0 ≤ n ∧ n ≤ 300 * (i : Int) ∧ n = ((Q1h (z.2.2.take i)).length : Int)) (fun m i n => zqn8 m k1 K n z.2.2 (z.2.2.length : Int) i z) (fun n r => n + (r.2.1 - r.1 + 1)) (fun n => K ((Q1h z.2.2).length : Int) z) (0, 0, 0, 0, 0, 0, 0) z.2.2 0 fuel (Qo (by omega)) ⟨by omega, by omega, rfl⟩
  (fun i n hi hn => ?_) (fun m i n hi hn => ?_) (fun m n hn => ?_))
 ·obtain ⟨h1, h2, h3⟩ := hn
  have hr := hr0 i hi
  have g1 := hr.f
  have g2 := hr.t
  refine ⟨by omega, by omega, ?_⟩
  rw [Qec (0, 0, 0, 0, 0, 0, 0) hi]
  unfold Q1h at h3 ⊢
  rw [List.flatMap_append, List.length_append, List.flatMap_singleton, Qgd]
  omega
 ·obtain ⟨h1, h2, h3⟩ := hn
  have hr := hr0 i hi
  have g1 := hr.f
  have g2 := hr.t
  simp only [zqn9, zqn7]
  refine (Q4 (by omega)).trans ?_
  refine (Qf (by omega)).trans ?_
  rw [Int.toNat_natCast]
  refine (Qml hr _).trans ?_
  refine (Q53 rfl).trans ?_
  generalize z.2.2.getD i (0, 0, 0, 0, 0, 0, 0) = r at hr g1 g2
  rw [i64_in (r.2.1 - r.1) (by omega), i64_in (r.2.1 - r.1 + 1) (by omega), i64_in (n + (r.2.1 - r.1 + 1)) (by omega), i64_in ((i : Int) + 1) (by omega)]
 ·obtain ⟨h1, h2, h3⟩ := hn
  rw [List.take_length] at h3
  simp only [zqn9, zqn7]
  refine (Q2 (by omega)).trans ?_
  rw [h3]
theorem Qmn {z : zqa} (h : ZoneOk z) (K : zqn1 β) : zqnk K z.2.2 (z.2.2.length : Int) 0 [] = K (Q1h z.2.2) := by
 have hl := h.l
 unfold zqnk
 rw [Q0]
 refine (Qcn (fun i (out : List (Int × Int)) => out = Q1h (z.2.2.take i)) (fun m i out => zqni m K z.2.2 (z.2.2.length : Int) i out) (fun out r => out ++ occL r) (fun out => K (Q1h z.2.2)) (0, 0, 0, 0, 0, 0, 0) z.2.2 [] fuel (Qo (by omega)) rfl
  (fun i out hi ho => ?_) (fun m i out hi ho => ?_) (fun m out ho => ?_))
 ·rw [Qec (0, 0, 0, 0, 0, 0, 0) hi, ho]
  unfold Q1h
  rw [List.flatMap_append, List.flatMap_singleton]
 ·have hr : RuleOk (z.2.2.getD i (0, 0, 0, 0, 0, 0, 0)) := h.r _ (Qq hi)
  have g1 := hr.f
  have g2 := hr.t
  have hlen : out.length ≤ 12 := by
   have e : z.2.2 = z.2.2.take i ++ z.2.2.drop i := (List.take_append_drop i z.2.2).symm
   have hn12 := h.n
   rw [e] at hn12
   unfold Q1h at hn12
   rw [List.flatMap_append, List.length_append] at hn12
   rw [ho]
   unfold Q1h
   omega
  simp only [zqnj, zqnh]
  refine (Q4 (by omega)).trans ?_
  refine (Qf (by omega)).trans ?_
  rw [Int.toNat_natCast]
  generalize z.2.2.getD i (0, 0, 0, 0, 0, 0, 0) = r at hr g1 g2
  unfold zqnf
  rw [Q0]
  refine (Qju hr _ _ _ _ (r.2.1 - r.1 + 1).toNat fuel r.1 out (by omega) (by omega) (Qo (by omega)) (by omega)).trans ?_
  rw [i64_in ((i : Int) + 1) (by omega)]
  rfl
 ·rw [List.take_length] at ho
  simp only [zqnj, zqnh]
  refine (Q2 (by omega)).trans ?_
  rw [ho]
theorem Qnp {z : zqa} (h : ZoneOk z) (k : Int → List (Int × Int) → Option β) : zqnn z k = k 0 (occS z) := by
 have hl := h.l
 have hn12 := h.n
 unfold zqnn
 rw [Q0]
 unfold zqnm
 refine (z_in _ _ _ _).trans ?_
 rw [Q71 h.o]
 refine (Q2 (by omega)).trans ?_
 refine (Qmm h _ _).trans ?_
 refine (Q2 (by omega)).trans ?_
 refine (Qmn h _).trans ?_
 have hg : (Q1h z.2.2).all zqmi = true := by
  rw [List.all_eq_true]
  intro x hx
  have := (Qdo h hx).1
  unfold zqmi
  rw [decide_eq_true (by omega), decide_eq_true (by omega)]; rfl
 have hn : decide ((Q1h z.2.2).length < 13) = true := decide_eq_true (by omega)
 rw [hg, hn]
 rfl
abbrev TrS := Int × List (Int × Int)
def Qcw (_ : Nat) (o : Int × Int) (s : TrS) : Int ⊕ TrS :=
 cond (decide (o.2 = s.1)) (.inr s)
  (cond (decide (86400 ≤ o.2 - s.1) || (decide (o.2 - s.1 ≤ -86400) || ((!inI (o.1 - s.1) 0 8589934592) || (decide (0 < (s.2.length : Int)) && decide (o.1 - s.1 < (s.2.getD (s.2.length - 1) (0, 0)).1 + 604800)))))
   (.inl 6) (.inr (o.2, s.2 ++ [(o.1 - s.1, o.2)])))
def TrI (i : Nat) (s : TrS) : Prop := (-64800 ≤ s.1 ∧ s.1 ≤ 64800) ∧ s.2.length ≤ i ∧ ∀ x ∈ s.2, 0 ≤ x.1 ∧ x.1 ≤ 8589934592
theorem Qcx {α σ ε : Type} (I : Nat → σ → Prop) (F : Nat → Int → σ → Option β) (g : Nat → α → σ → ε ⊕ σ) (E : ε → Option β) (K : σ → Option β) (d : α) (xs : List α)
  (hI : ∀ (i : Nat) s s', i < xs.length → I i s → g i (xs.getD i d) s = .inr s' → I (i + 1) s')
  (h1 : ∀ (m i : Nat) s, i < xs.length → I i s → F (m + 1) (i : Int) s = sumK E (fun s' => F m ((i : Int) + 1) s') (g i (xs.getD i d) s))
  (h2 : ∀ (m : Nat) s, F (m + 1) (xs.length : Int) s = K s) :
  ∀ (r : List α) (j fuel : Nat) (s : σ), xs.drop j = r → j + r.length = xs.length → r.length < fuel → I j s → F fuel (j : Int) s = sumK E K (walk g r j s)
 | r, j, 0, s, _, _, h, _ => absurd h (Nat.not_lt_zero _)
 | [], j, m + 1, s, hd, hj, _, _ => by
  simp only [List.length_nil, Nat.add_zero] at hj
  subst hj
  rw [h2]; rfl
 | x :: r, j, m + 1, s, hd, hj, hm, hs => by
  simp only [List.length_cons] at hj hm
  have h3 : j < xs.length := by omega
  have hx : xs.getD j d = x := by
   rw [List.drop_eq_getElem_cons h3] at hd
   injection hd with hd1 hd2
   simp [List.getD, h3, hd1]
  have hr : xs.drop (j + 1) = r := by
   rw [List.drop_eq_getElem_cons h3] at hd
   injection hd with hd1 hd2
  rw [h1 m j s h3 hs, hx, walk]
  cases hg : g j x s with
  | inl e => rfl
  | inr s' =>
   simp only [sumK]
   exact Qcx I F g E K d xs hI h1 h2 r (j + 1) m s' hr (by omega) (by omega) (hI j s s' h3 hs (hx ▸ hg))
theorem Qed {z : zqa} (h : ZoneOk z) : (occS z).Perm (Q1h z.2.2) ∧ ∀ i j, i < j → j < (Q1h z.2.2).length → ¬ ((occS z).getD j (0, 0)).1 - ((occS z).getD i (0, 0)).1 < 0 := by
 refine Q9j zqmm fun x hx => ?_
 have := (Qdo h hx).1
 unfold zqmi
 rw [decide_eq_true (by omega), decide_eq_true (by omega)]; rfl
theorem Qge {z : zqa} (h : ZoneOk z) {x : Int × Int} (hx : x ∈ occS z) : (-1000000 ≤ x.1 ∧ x.1 ≤ 30000000000) ∧ (-64800 ≤ x.2 ∧ x.2 ≤ 64800) :=
 Qdo h ((Qed h).1.mem_iff.1 hx)
def Q9o (z : zqa) : Int ⊕ TrS := walk Qcw (occS z) 0 (z.2.1, [])
theorem Qlw {z : zqa} (h : ZoneOk z) (k : Int → List (Int × Int) → Option β) : zqpm z k = sumK (fun e => k e []) (fun s => k 0 s.2) (Q9o z) := by
 have hlen : (occS z).length ≤ 12 := by rw [(Qed h).1.length_eq]; exact h.n
 unfold zqpm
 rw [Q0]
 unfold zqpl
 refine (Qnp h _).trans ?_
 refine (Q53 rfl).trans ?_
 unfold zqpj
 rw [Q0]
 refine Qcx TrI (fun m i (s : TrS) => zqph m (fun t3 t2 => k t3 t2) (fun out => k 0 out) s.1 ((occS z).length : Int) i s.2 (occS z)) Qcw (fun e => k e []) (fun s => k 0 s.2) (0, 0) (occS z)
  (fun i s s' hi hs hg => ?_) (fun m i s hi hs => ?_) (fun m s => ?_) (occS z) 0 fuel (z.2.1, []) rfl (by simp) (Qo (by omega)) ⟨h.o, Nat.le_refl _, fun x hx => absurd hx List.not_mem_nil⟩
 ·have ho := Qge h (Qq (d := ((0, 0) : Int × Int)) hi)
  obtain ⟨h1, h2, h3⟩ := hs
  generalize (occS z).getD i (0, 0) = o at ho hg
  unfold Qcw at hg
  by_cases e : o.2 = s.1
  ·rw [decide_eq_true e] at hg
   injection hg with hg
   subst hg
   exact ⟨h1, by omega, h3⟩
  ·rw [decide_eq_false e] at hg
   cases hc : (decide (86400 ≤ o.2 - s.1) || (decide (o.2 - s.1 ≤ -86400) || ((!inI (o.1 - s.1) 0 8589934592) || (decide (0 < (s.2.length : Int)) && decide (o.1 - s.1 < (s.2.getD (s.2.length - 1) (0, 0)).1 + 604800))))) with
   | true => rw [hc] at hg; cases hg
   | false =>
    rw [hc] at hg
    injection hg with hg
    subst hg
    simp only [Bool.or_eq_false_iff, Bool.not_eq_false'] at hc
    have hin := hc.2.2.1
    unfold inI at hin
    rw [Bool.and_eq_true, decide_eq_true_eq, decide_eq_true_eq] at hin
    refine ⟨ho.2, by simp; omega, fun x hx => ?_⟩
    rcases List.mem_append.1 hx with hx | hx
    ·exact h3 x hx
    ·rw [List.mem_singleton.1 hx]
     exact hin
 ·have ho := Qge h (Qq (d := ((0, 0) : Int × Int)) hi)
  obtain ⟨h1, h2, h3⟩ := hs
  simp only [zqpi, zqpg]
  refine (Q4 (by omega)).trans ?_
  refine (Qf (by omega)).trans ?_
  rw [Int.toNat_natCast]
  generalize (occS z).getD i (0, 0) = o at ho
  unfold Qcw
  rw [i64_in ((i : Int) + 1) (by omega)]
  by_cases e : o.2 = s.1
  ·refine (Q4 e).trans ?_
   rw [decide_eq_true e]
   rfl
  refine (Q2 e).trans ?_
  rw [decide_eq_false e, i64_in (o.2 - s.1) (by omega), i64_in (o.1 - s.1) (by omega)]
  by_cases a1 : 86400 ≤ o.2 - s.1
  ·refine (Q4 a1).trans ?_
   rw [decide_eq_true a1]
   rfl
  refine (Q2 a1).trans ?_
  rw [decide_eq_false a1]
  by_cases a2 : o.2 - s.1 ≤ -86400
  ·refine (Q4 a2).trans ?_
   rw [decide_eq_true a2]
   rfl
  refine (Q2 a2).trans ?_
  rw [decide_eq_false a2]
  refine (z_in _ _ _ _).trans ?_
  cases inI (o.1 - s.1) 0 8589934592 with
  | false => rfl
  | true =>
   have hp : ∀ a b t (K : zqpa β), zqpe K a ((occS z).length : Int) b s.2 o t = K o.2 ((occS z).length : Int) b (s.2 ++ [(a, o.2)]) t := by
    intro a b t K
    unfold zqpe
    rw [Q0]
    unfold zqpd
    have hr : (s.2.length + 1) * 16 ≤ 140737488355328 := by omega
    exact Q9k hr
   by_cases a3 : (0 : Int) < (s.2.length : Int)
   ·refine (Q4 a3).trans ?_
    rw [i64_in ((s.2.length : Int) - 1) (by omega)]
    refine (Qf (by omega)).trans ?_
    rw [decide_eq_true a3, show ((s.2.length : Int) - 1).toNat = s.2.length - 1 by omega]
    have h4 := h3 _ (Qq (d := ((0, 0) : Int × Int)) (show s.2.length - 1 < s.2.length by omega))
    rw [i64_in ((s.2.getD (s.2.length - 1) (0, 0)).1 + 604800) (by omega)]
    by_cases a4 : o.1 - s.1 < (s.2.getD (s.2.length - 1) (0, 0)).1 + 604800
    ·refine (Q4 a4).trans ?_
     rw [decide_eq_true a4]
     rfl
    ·refine (Q2 a4).trans ?_
     rw [decide_eq_false a4]
     refine (hp _ _ _ _).trans ?_
     rw [i64_in ((i : Int) + 1) (by omega)]
     rfl
   ·refine (Q2 a3).trans ?_
    rw [decide_eq_false a3]
    refine (hp _ _ _ _).trans ?_
    rw [i64_in ((i : Int) + 1) (by omega)]
    rfl
 ·simp only [zqpi, zqpg]
  exact Q2 (by omega)
def Q5j (z : zqa) : Int :=
 cond (!decide (errV (Q9o z) = 0)) 8 (cond (!decide (Int.tmod z.2.1 60 = 0)) 8 (cond (!z.2.2.all fun r => decide (Int.tmod r.2.2.2.2.2.2 60 = 0)) 8 0))
theorem Qlx (s : List zq8) (hs : s.length ≤ 1000000) (k : Bool → Option β) :
  zqt2 s k = k (!s.all fun r => decide (Int.tmod r.2.2.2.2.2.2 60 = 0)) := by
 unfold zqt2
 rw [Q0]
 unfold zqt1 zqsy
 rw [Q0]
 unfold zqsx zqsv
 rw [Q0]
 refine (Q5h (fun m i => zqst m (fun t => k (decide ((0 : Int) ≤ t))) (fun _ => k (decide ((0 : Int) ≤ -1))) s (s.length : Int) i) (fun r => decide (Int.tmod r.2.2.2.2.2.2 60 = 0)) (k true) (k false) (0, 0, 0, 0, 0, 0, 0) s fuel (Qo (by omega)) (fun m i hi => ?_) (fun m => ?_)).trans ?_
 ·simp only [zqsu, zqss]
  refine (Q4 (by omega)).trans ?_
  refine (Qf (by omega)).trans ?_
  rw [Int.toNat_natCast, i64_in ((i : Int) + 1) (by omega)]
  unfold zq3y
  rw [Q0]
  unfold zq3x
  show cond (!decide _) _ _ = cond (decide _) _ _
  cases decide (Int.tmod (s.getD i (0, 0, 0, 0, 0, 0, 0)).2.2.2.2.2.2 60 = 0) with
  | true => rfl
  | false =>
   show k (decide ((0 : Int) ≤ i)) = k true
   rw [decide_eq_true (by omega : (0 : Int) ≤ i)]
 ·simp only [zqsu, zqss]
  exact Q2 (by omega)
 ·cases s.all fun r => decide (Int.tmod r.2.2.2.2.2.2 60 = 0) <;> rfl
theorem Qjv {z : zqa} (h : ZoneOk z) (k : Int → Option β) : zqt6 z k = k (Q5j z) := by
 have hl := h.l
 unfold zqt6
 rw [Q0]
 unfold zqt5 zqqx
 rw [Q0]
 unfold zqqw
 refine (Qlw h _).trans ?_
 have e : ∀ K : Int → Option β, sumK (fun e => K e) (fun _ => K 0) (Q9o z) = K (errV (Q9o z)) := fun K => Q3e K _
 refine (e _).trans ?_
 unfold Q5j
 cases decide (errV (Q9o z) = 0) with
 | false => rfl
 | true =>
  show cond (!decide (Int.tmod z.2.1 60 = 0)) _ _ = k (cond (!decide (Int.tmod z.2.1 60 = 0)) _ _)
  cases decide (Int.tmod z.2.1 60 = 0) with
  | false => rfl
  | true =>
   refine (Qlx _ (by omega) _).trans ?_
   cases z.2.2.all fun r => decide (Int.tmod r.2.2.2.2.2.2 60 = 0) <;> rfl
end
end
end Go.Lift
namespace Go.Lift
open Go.RowKit Go.IntWalk
noncomputable section
variable [Sl]
set_option linter.unusedSectionVars false
set_option linter.unusedVariables false
set_option linter.unusedSimpArgs false
abbrev Dice := List Int × Int
def Q32 (d : Dice) : Prop := 0 ≤ d.2 ∧ d.2 ≤ d.1.length ∧ d.1.length ≤ 500
theorem Qku {β : Type} (l : List Int) (k : Bool → Option β) : zqt l k = k (decide ((l.length : Int) ≤ 500)) := by
 simp only [zqt, Q0, zqs]
theorem Qly {β : Type} (l : List Int) (k : Dice → Option β) : zqx l k = k (l, 0) := by
 simp only [zqx, Q0, zqw]
theorem Qlz {l : List Int} (h : (l.length : Int) ≤ 500) : Q32 (l, 0) := ⟨by simp, by simp, by show l.length ≤ 500; omega⟩
theorem Qm0 {n : Int} {d : Dice} (hd : Q32 d) (hn : 1 ≤ n ∧ n ≤ 4611686018427387904) :
  ∃ x d', 0 ≤ x ∧ x < n ∧ Q32 d' ∧ ∀ {β : Type} (k : Int → Dice → Option β), zq1i n d k = k x d' := by
 obtain ⟨h1, h2, h3⟩ := hd
 by_cases ha : (d.1.length : Int) ≤ d.2
 ·exact ⟨0, d, by omega, by omega, ⟨h1, h2, h3⟩, fun k => by simp (disch := omega) only [zq1i, Q0, zq1h, Q4]⟩
 ·generalize hv : List.getD d.1 (Int.toNat d.2) (0 : Int) = v
  have hm1 := Int.tmod_lt_of_pos v (show 0 < n by omega)
  have hm2 : -n < Int.tmod v n := by
   have h5 := Int.tmod_lt_of_pos (-v) (show 0 < n by omega)
   rw [Int.neg_tmod] at h5
   omega
  have hd' : Q32 (d.1, d.2 + 1) := ⟨by show (0 : Int) ≤ d.2 + 1; omega, by show d.2 + 1 ≤ (d.1.length : Int); omega, h3⟩
  by_cases hc : Int.tmod v n < 0
  ·refine ⟨Int.tmod v n + n, (d.1, d.2 + 1), by omega, by omega, hd', fun k => ?_⟩
   simp (disch := omega) only [zq1i, Q0, zq1h, hv, Q4, Q2, Qf, Q54, i64_in]
  ·refine ⟨Int.tmod v n, (d.1, d.2 + 1), by omega, by omega, hd', fun k => ?_⟩
   simp (disch := omega) only [zq1i, Q0, zq1h, hv, Q4, Q2, Qf, Q54, i64_in]
end
end Go.Lift
namespace Go.Lift
open Go.RowKit Go.IntWalk
noncomputable section
variable [Sl]
set_option linter.unusedSectionVars false
set_option linter.unusedVariables false
set_option linter.unusedSimpArgs false
set_option maxRecDepth 10000
section
variable {β : Type} {G : Option β → Prop}
theorem w_e {A B : Option β} (e : A = B) (h : G B) : G A := e ▸ h
theorem w_c {b : Bool} {A B : Option β} (h1 : b = true → G A) (h2 : b = false → G B) : G (cond b A B) := match b, h1, h2 with | true, h, _ => h rfl | false, _, h => h rfl
theorem w_d {p : Prop} [Decidable p] {A B : Option β} (h1 : p → G A) (h2 : ¬ p → G B) : G (cond (decide p) A B) := w_c (fun h => h1 (of_decide_eq_true h)) (fun h => h2 (of_decide_eq_false h))
theorem w_i {i n : Int} {A B : Option β} (h : 0 ≤ i ∧ i < n) (h1 : G A) : G (cond (decide (0 ≤ i) && decide (i < n)) A B) := w_e (Qf h) h1
theorem w_p {p : Prop} [Decidable p] {A B : Option β} (h : p) (h1 : G A) : G (cond (decide p) A B) := w_e (Q4 h) h1
theorem w_n {p : Prop} [Decidable p] {A B : Option β} (h : ¬ p) (h1 : G B) : G (cond (decide p) A B) := w_e (Q2 h) h1
theorem Qcy {n : Int} {d : Dice} {k : Int → Dice → Option β} (hd : Q32 d) (hn : 1 ≤ n ∧ n ≤ 4611686018427387904) (hk : ∀ x d', 0 ≤ x → x < n → Q32 d' → G (k x d')) : G (zq1i n d k) := by
 obtain ⟨x, d', h1, h2, h3, h4⟩ := Qm0 hd hn
 exact w_e (h4 k) (hk x d' h1 h2 h3)
end
end
end Go.Lift
namespace Go.Lift
open Go.RowKit Go.IntWalk
noncomputable section
variable [Sl]
set_option linter.unusedSectionVars false
set_option linter.unusedVariables false
set_option linter.unusedSimpArgs false
set_option maxRecDepth 10000
section
variable {β : Type} {G : Option β → Prop}
def Named {α : Type} (of : α → List UInt8) (L : List (List UInt8)) (xs : List α) : Prop := xs.length ≤ L.length ∧ xs.map of = L.take xs.length
theorem Named.nil {α : Type} {of : α → List UInt8} {L : List (List UInt8)} : Named of L [] := ⟨Nat.zero_le _, by simp⟩
theorem Named.ok {α : Type} {of : α → List UInt8} {L : List (List UInt8)} {xs : List α} (h : Named of L xs) (hL : ((List.range (L.length + 1)).all fun n => Qdn (L.take n) []) = true) : Qdn (xs.map of) [] = true := by
 rw [h.2]
 exact List.all_eq_true.1 hL xs.length (List.mem_range.2 (by have := h.1; omega))
theorem Q3z {α : Type} {P : α → Prop} {xs : List α} {x : α} (h : ∀ y ∈ xs, P y) (hx : P x) : ∀ y ∈ xs ++ [x], P y := by
 intro y hy
 rcases List.mem_append.1 hy with hy | hy
 ·exact h y hy
 ·rw [List.mem_singleton.1 hy]; exact hx
end
end
end Go.Lift
namespace Go.Lift
open Go.RowKit Go.IntWalk
noncomputable section
variable [Sl]
set_option linter.unusedSectionVars false
set_option linter.unusedVariables false
set_option linter.unusedSimpArgs false
set_option maxRecDepth 10000
section
variable {β : Type} {G : Option β → Prop}
def idxG {α : Type} (of : α → List UInt8) (n : List UInt8) (j : Nat) (x : α) (_ : Unit) : Int ⊕ Unit := cond (decide (of x = n)) (.inl (j : Int)) (.inr ())
def idxV {α : Type} (of : α → List UInt8) (n : List UInt8) (xs : List α) : Int := match walk (idxG of n) xs 0 () with | .inl j => j | .inr _ => -1
theorem Qat (c : zqg) (n : List UInt8) (h : c.2.1.length ≤ 1000000) (k : Int → Bool → Option β) : zqhi c n k = k (if idxV (·.1) n c.2.1 > 0 then idxV (·.1) n c.2.1 else 0) (decide (0 ≤ idxV (·.1) n c.2.1)) := by
 unfold zqhi
 rw [Q0]
 unfold zqhh zq39
 rw [Q0]
 unfold zq38 zq36
 rw [Q0]
 generalize hK : (fun (r : Int) (_ : List UInt8) => k (if r > 0 then r else 0) (decide (0 ≤ r))) = K
 refine (Q1f (fun m i (_ : Unit) => zq34 m (fun t b => K t b) (fun b => K (-1) b) c.2.1 (c.2.1.length : Int) i n) (idxG (·.1) n) (fun e => K e n) (fun _ => K (-1) n) ([], 0, [], 0, 0, false) c.2.1 () fuel (Qo (by omega)) (fun m i _ hi => ?_) (fun m _ => ?_)).trans ?_
 ·simp only [zq35, zq33]
  refine (Q4 (by omega)).trans ?_
  refine (Qf (by omega)).trans ?_
  rw [Int.toNat_natCast, i64_in ((i : Int) + 1) (by omega)]
  unfold zq2u idxG
  rw [Q0]
  unfold zq2t
  show cond (decide _) _ _ = _
  cases decide ((c.2.1.getD i ([], 0, [], 0, 0, false)).1 = n) <;> rfl
 ·simp only [zq35, zq33]
  exact Q2 (by omega)
 ·subst hK
  unfold idxV
  cases walk (idxG (·.1) n) c.2.1 0 () <;> rfl
end
end
end Go.Lift
namespace Go.Lift
open Go.RowKit Go.IntWalk
noncomputable section
variable [Sl]
set_option linter.unusedSectionVars false
set_option linter.unusedVariables false
set_option linter.unusedSimpArgs false
set_option maxRecDepth 10000
abbrev KB (β : Type) := Int → List zqa → List zqe → List zq0 → List zq4 → Option β
def Ans (P : Int → List zqa → List zqe → List zq0 → List zq4 → Prop) (F : ∀ β : Type, KB β → Option β) : Prop :=
 ∃ r z p c s, P r z p c s ∧ ∀ (β : Type) (k : KB β), F β k = k r z p c s
section
variable {P : Int → List zqa → List zqe → List zq0 → List zq4 → Prop} {A B : ∀ β : Type, KB β → Option β}
theorem v_k {r z p c s} (h : P r z p c s) : Ans P fun β k => k r z p c s := ⟨r, z, p, c, s, h, fun _ _ => rfl⟩
theorem v_e {F : ∀ β : Type, KB β → Option β} (e : ∀ β k, F β k = A β k) (h : Ans P A) : Ans P F := by
 obtain ⟨r, z, p, c, s, h1, h2⟩ := h
 exact ⟨r, z, p, c, s, h1, fun β k => (e β k).trans (h2 β k)⟩
theorem v_p {q : Prop} [Decidable q] (h : q) (hA : Ans P A) : Ans P fun β k => cond (decide q) (A β k) (B β k) := v_e (fun _ _ => Q4 h) hA
theorem v_n {q : Prop} [Decidable q] (h : ¬ q) (hB : Ans P B) : Ans P fun β k => cond (decide q) (A β k) (B β k) := v_e (fun _ _ => Q2 h) hB
theorem v_b {b : Bool} (h : b = true) (hA : Ans P A) : Ans P fun β k => cond b (A β k) (B β k) := v_e (fun _ _ => by rw [h]; rfl) hA
theorem v_c {b : Bool} (hA : b = true → Ans P A) (hB : b = false → Ans P B) : Ans P fun β k => cond b (A β k) (B β k) := by
 cases b with
 | true => exact hA rfl
 | false => exact hB rfl
theorem v_nc {b : Bool} (hA : b = false → Ans P A) (hB : b = true → Ans P B) : Ans P fun β k => cond (!b) (A β k) (B β k) := by
 cases b with
 | true => exact hB rfl
 | false => exact hA rfl
theorem v_d {q : Prop} [Decidable q] (hA : q → Ans P A) (hB : ¬ q → Ans P B) : Ans P fun β k => cond (decide q) (A β k) (B β k) := v_c (fun h => hA (of_decide_eq_true h)) (fun h => hB (of_decide_eq_false h))
theorem v_nd {q : Prop} [Decidable q] (hA : ¬ q → Ans P A) (hB : q → Ans P B) : Ans P fun β k => cond (!decide q) (A β k) (B β k) := v_nc (fun h => hA (of_decide_eq_false h)) (fun h => hB (of_decide_eq_true h))
theorem v_i {i n : Int} (h : 0 ≤ i ∧ i < n) (hA : Ans P A) : Ans P fun β k => cond (decide (0 ≤ i) && decide (i < n)) (A β k) (B β k) := v_e (fun _ _ => Qf h) hA
theorem v_r {n : Nat} (h : n ≤ 140737488355328) (hA : Ans P A) : Ans P fun β k => cond (decide (n ≤ Qc)) (A β k) (B β k) := v_e (fun _ _ => Q9k h) hA
theorem v_tr {n : Nat} (h : n ≤ 140737488355328) (hA : Ans P A) : Ans P fun β k => cond (true && decide (n ≤ Qc)) (A β k) (B β k) := v_e (fun _ _ => (congrArg (fun b => cond b _ _) (Bool.true_and _)).trans (Q9k h)) hA
end
structure Inv (n r : Nat) (z : List zqa) (p : List zqe) (c : List zq0) (s : List zq4) : Prop where
 lz : z.length ≤ n
 lp : p.length ≤ n
 lc : c.length ≤ n
 ls : s.length ≤ n
 zs : ∀ x ∈ z, (-64800 ≤ x.2.1 ∧ x.2.1 ≤ 64800) ∧ x.2.2.length ≤ r ∧ ∀ u ∈ x.2.2, RuleOk u ∧ u.2.1 ≤ u.1 + 1
 ps : ∀ x ∈ p, x.2.2.1.length ≤ n
 cs : ∀ x ∈ c, x.2.2.length ≤ n
 ss : ∀ x ∈ s, (x.2.1.length ≤ n ∧ x.2.2.length ≤ n) ∧ ∀ l ∈ x.2.1, l.2.2.2.2.2.1.length ≤ n ∧ l.2.2.2.2.2.2.1.length ≤ n
theorem Inv.mono {n r n' r' : Nat} {z p c s} (h : Inv n r z p c s) (hn : n ≤ n') (hr : r ≤ r') : Inv n' r' z p c s where
 lz := Nat.le_trans h.lz hn
 lp := Nat.le_trans h.lp hn
 lc := Nat.le_trans h.lc hn
 ls := Nat.le_trans h.ls hn
 zs := fun x hx => ⟨(h.zs x hx).1, Nat.le_trans (h.zs x hx).2.1 hr, (h.zs x hx).2.2⟩
 ps := fun x hx => Nat.le_trans (h.ps x hx) hn
 cs := fun x hx => Nat.le_trans (h.cs x hx) hn
 ss := fun x hx => ⟨⟨Nat.le_trans (h.ss x hx).1.1 hn, Nat.le_trans (h.ss x hx).1.2 hn⟩, fun l hl => ⟨Nat.le_trans ((h.ss x hx).2 l hl).1 hn, Nat.le_trans ((h.ss x hx).2 l hl).2 hn⟩⟩
def PInv (n r : Nat) : Int → List zqa → List zqe → List zq0 → List zq4 → Prop := fun e z p c s => e = 0 → Inv n r z p c s
theorem perr {n r : Nat} {e : Int} {z p c s} (h : e ≠ 0) : PInv n r e z p c s := fun g => absurd g h
theorem Q2r {α : Type} {Q : α → Prop} {l : List α} {i : Nat} {x : α} (h : ∀ y ∈ l, Q y) (hx : Q x) : ∀ y ∈ l.set i x, Q y := by
 intro y hy
 rcases List.mem_or_eq_of_mem_set hy with g | g
 ·exact h y g
 ·exact g ▸ hx
theorem Q2c {l : Nat} (h : ¬ (l : Int) = 0) (hl : l ≤ 1000000) : 0 ≤ IntKind.i64.wrap ((l : Int) - 1) ∧ IntKind.i64.wrap ((l : Int) - 1) < (l : Int) := by
 rw [i64_in _ (by omega)]
 omega
theorem Q27 {l : Nat} (h : ¬ (l : Int) = 0) (hl : l ≤ 1000000) : Int.toNat (IntKind.i64.wrap ((l : Int) - 1)) < l := by
 have := Q2c h hl
 omega
section
variable {β : Type}
theorem Q4q (b : Bool) (k : Int → Option β) : zq78 b k = k (cond b 0 3) := by
 unfold zq78
 rw [Q0]
 unfold zq77
 cases b <;> rfl
theorem Q9p (xs : List zqa) (n : List UInt8) (h : xs.length ≤ 1000000) (K : Int → List UInt8 → Option β) : zq72 xs n K = K (idxV (·.1) n xs) n := by
 unfold zq72
 rw [Q0]
 unfold zq71 zq6z
 rw [Q0]
 refine (Q1f (fun m i (_ : Unit) => zq6x m (fun t b => K t b) (fun b => K (-1) b) xs (xs.length : Int) i n) (idxG (·.1) n) (fun e => K e n) (fun _ => K (-1) n) ([], 0, []) xs () fuel (Qo (by omega)) (fun m i _ hi => ?_) (fun m _ => ?_)).trans ?_
 ·simp only [zq6y, zq6w]
  refine (Q4 (by omega)).trans ?_
  refine (Qf (by omega)).trans ?_
  rw [Int.toNat_natCast, i64_in ((i : Int) + 1) (by omega)]
  unfold zq6n idxG
  rw [Q0]
  unfold zq6m
  show cond (decide _) _ _ = _
  cases decide ((xs.getD i ([], 0, [])).1 = n) <;> rfl
 ·simp only [zq6y, zq6w]
  exact Q2 (by omega)
 ·unfold idxV
  cases walk (idxG (·.1) n) xs 0 () <;> rfl
theorem Qkv (xs : List zq0) (n : List UInt8) (h : xs.length ≤ 1000000) (K : Int → List UInt8 → Option β) : zq8d xs n K = K (idxV (·.1) n xs) n := by
 unfold zq8d
 rw [Q0]
 unfold zq8c zq8a
 rw [Q0]
 refine (Q1f (fun m i (_ : Unit) => zq88 m (fun t b => K t b) (fun b => K (-1) b) xs (xs.length : Int) i n) (idxG (·.1) n) (fun e => K e n) (fun _ => K (-1) n) ([], 0, []) xs () fuel (Qo (by omega)) (fun m i _ hi => ?_) (fun m _ => ?_)).trans ?_
 ·simp only [zq89, zq87]
  refine (Q4 (by omega)).trans ?_
  refine (Qf (by omega)).trans ?_
  rw [Int.toNat_natCast, i64_in ((i : Int) + 1) (by omega)]
  unfold zq7y idxG
  rw [Q0]
  unfold zq7x
  show cond (decide _) _ _ = _
  cases decide ((xs.getD i ([], 0, [])).1 = n) <;> rfl
 ·simp only [zq89, zq87]
  exact Q2 (by omega)
 ·unfold idxV
  cases walk (idxG (·.1) n) xs 0 () <;> rfl
end
section
variable {n r : Nat} {z : List zqa} {p : List zqe} {c : List zq0} {s : List zq4} {toks : List Tok}
theorem Qjw (hn : n ≤ 1000) (h : Inv n r z p c s) (ht : 3 ≤ toks.length) (ho : -64800 ≤ (toks.getD 2 (0, [], 0)).2.2 ∧ (toks.getD 2 (0, [], 0)).2.2 ≤ 64800) :
  Ans (PInv (n + 2) r) fun β k => zq60 toks z p c s k := by
 unfold zq60
 simp only [Q0]
 unfold zq5z
 have hl := h.lz
 refine v_i (by omega) ?_
 refine v_i (by omega) ?_
 refine v_tr (show (z.length + 1) * 48 ≤ _ by omega) ?_
 have h' := h.mono (show n ≤ n + 2 by omega) (Nat.le_refl r)
 exact v_k fun _ => { h' with lz := by simp; omega, zs := Q3z h'.zs ⟨ho, Nat.zero_le _, fun u hu => absurd hu List.not_mem_nil⟩ }
def Qlf (toks : List Tok) : Prop := ∃ m mo o oo w wo, (∀ {β : Type} (k : Int → Bool → Option β), zqcp (toks.getD 3 (0, [], 0)).2.1 k = k m mo) ∧ (∀ {β : Type} (k : Int → Bool → Option β), zqct (toks.getD 4 (0, [], 0)).2.1 k = k o oo) ∧
 (∀ {β : Type} (k : Int → Bool → Option β), zqcx (toks.getD 5 (0, [], 0)).2.1 k = k w wo) ∧
 (mo = true → RuleOk ((toks.getD 1 (0, [], 0)).2.2, (toks.getD 2 (0, [], 0)).2.2, m, o, w, (toks.getD 6 (0, [], 0)).2.2, (toks.getD 7 (0, [], 0)).2.2) ∧ (toks.getD 2 (0, [], 0)).2.2 ≤ (toks.getD 1 (0, [], 0)).2.2 + 1)
theorem Qjx (hn : n ≤ 1000) (hr : r ≤ 1000) (h : Inv n r z p c s) (ht : 8 ≤ toks.length) (hf : Qlf toks) :
  Ans (PInv (n + 2) (r + 1)) fun β k => zqgh toks z p c s k := by
 obtain ⟨m, mo, o, oo, w, wo, h1, h2, h3, h4⟩ := hf
 unfold zqgh
 simp only [Q0]
 unfold zqgg
 have hl := h.lz
 refine v_i (by omega) ?_
 refine v_e (fun β k => h1 _) ?_
 refine v_i (by omega) ?_
 refine v_e (fun β k => h2 _) ?_
 refine v_i (by omega) ?_
 refine v_e (fun β k => h3 _) ?_
 refine v_nc (fun _ => v_k (perr (by decide))) fun g1 => ?_
 refine v_nc (fun _ => v_k (perr (by decide))) fun _ => ?_
 refine v_nc (fun _ => v_k (perr (by decide))) fun _ => ?_
 refine v_d (fun _ => v_k (perr (by decide))) fun hz => ?_
 have hi := Q27 hz (by omega)
 refine v_i (Q2c hz (by omega)) ?_
 refine v_i (by omega) ?_
 refine v_i (by omega) ?_
 refine v_i (by omega) ?_
 refine v_i (by omega) ?_
 have hx := h.zs _ (Qq (d := (([] : List UInt8), ((0 : Int), ([] : List zq8)))) hi)
 refine v_tr (show (_ + 1) * 56 ≤ _ from by have := hx.2.1; omega) ?_
 refine v_b (by simp) ?_
 have h' := h.mono (show n ≤ n + 2 by omega) (show r ≤ r + 1 by omega)
 refine v_k fun _ => { h' with lz := by simp; omega, zs := Q2r h'.zs ⟨hx.1, ?_, ?_⟩ }
 ·have := hx.2.1
  simp only [List.length_append, List.length_singleton]
  omega
 ·exact Q3z hx.2.2 (h4 g1)
theorem Qkw (ok : Bool) (nm : List UInt8) (pz : Int) (q : List (Int × Int)) {PP} {K1 : ∀ β : Type, KB β → zqjn β} (hl : toks.length ≤ 1000)
  (hw : ∀ i, i < toks.length → ((toks.getD i (0, [], 0)).2.1 = [119, 101, 101, 107] ∨ (toks.getD i (0, [], 0)).2.1 = [114, 101, 115, 116]) → i + 1 < toks.length)
  (hk : ∀ a b d, Ans PP fun β k => K1 β k ok z p c s nm pz a b d q) : ∀ (j f i : Nat) (a b : Int) (d : Bool), i + j = toks.length → j < f →
   Ans PP fun β k => zqjr f (K1 β k) toks ok (i : Int) z p c s nm pz a b d q := by
 intro j
 induction j with
 | zero =>
  intro f i a b d hi hf
  obtain ⟨f, rfl⟩ : ∃ f', f = f' + 1 := ⟨f - 1, by omega⟩
  simp only [zqjs]
  unfold zqjq
  exact v_n (by omega) (hk a b d)
 | succ j ih =>
  intro f i a b d hi hf
  obtain ⟨f, rfl⟩ : ∃ f', f = f' + 1 := ⟨f - 1, by omega⟩
  have ew : IntKind.i64.wrap ((i : Int) + 1) = ((i + 1 : Nat) : Int) := by rw [i64_in _ (by omega)]; omega
  have hwi := hw i (by omega)
  simp only [zqjs]
  unfold zqjq
  refine v_p (by omega) ?_
  refine v_i (by omega) ?_
  simp only [Int.toNat_natCast, ew]
  refine v_d (fun g => ?_) (fun _ => ?_)
  ·refine v_i (by have := hwi (.inl g); omega) ?_
   exact ih f (i + 1) _ _ _ (by omega) (by omega)
  refine v_d (fun g => ?_) (fun _ => ?_)
  ·refine v_i (by have := hwi (.inr g); omega) ?_
   exact ih f (i + 1) _ _ _ (by omega) (by omega)
  refine v_d (fun g => ?_) (fun _ => ?_)
  ·exact ih f (i + 1) _ _ _ (by omega) (by omega)
  ·exact ih f (i + 1) _ _ _ (by omega) (by omega)
theorem Qh7 (hn : n ≤ 1000) (h : Inv n r z p c s) (ht : 3 ≤ toks.length ∧ toks.length ≤ 1000)
  (hw : ∀ i, i < toks.length → ((toks.getD i (0, [], 0)).2.1 = [119, 101, 101, 107] ∨ (toks.getD i (0, [], 0)).2.1 = [114, 101, 115, 116]) → i + 1 < toks.length) :
  Ans (PInv (n + 2) r) fun β k => zqjw toks z p c s k := by
 unfold zqjw
 simp only [Q0]
 unfold zqjv
 have hl := h.lz
 have hl2 := h.lp
 refine v_i (by omega) ?_
 refine v_e (fun β k => Q9p _ _ (by omega) _) ?_
 refine v_i (by omega) ?_
 unfold zqjt
 simp only [Q0]
 refine Qkw _ _ _ _ ht.2 hw (fun a b d => ?_) (toks.length - 3) fuel 3 0 0 false (by omega) (Qo (by omega))
 refine v_e (fun β k => Q4q _ _) ?_
 refine v_nd (fun g => v_k (perr g)) (fun _ => ?_)
 refine v_tr (show (p.length + 1) * 72 ≤ _ by omega) ?_
 have h' := h.mono (show n ≤ n + 2 by omega) (Nat.le_refl r)
 exact v_k fun _ => { h' with lp := by simp; omega, ps := Q3z h'.ps (Nat.zero_le _) }
def WinF (toks : List Tok) : Prop := ∃ w e, ∀ {β : Type} (k : Int × Int → Int → Option β), zqd1 toks k = k w e
theorem Qit (hn : n ≤ 1000) (h : Inv n r z p c s) (hf : WinF toks) : Ans (PInv (n + 2) r) fun β k => zqgm toks z p c s k := by
 obtain ⟨w, e, hw⟩ := hf
 unfold zqgm
 simp only [Q0]
 unfold zqgl
 have hl := h.lp
 refine v_e (fun β k => hw _) ?_
 refine v_d (fun _ => ?_) (fun hz => ?_)
 ·refine v_d (fun _ => v_k (perr (by decide))) (fun g => ?_)
  exact v_nd (fun _ => v_k (perr g)) (fun g2 => absurd g2 g)
 have hi := Q27 hz (by omega)
 have hx := h.ps _ (Qq (d := (([] : List UInt8), ((0 : Int), (([] : List (Int × Int)), ((0 : Int), ((0 : Int), false)))))) hi)
 have h' := h.mono (show n ≤ n + 2 by omega) (Nat.le_refl r)
 refine v_i (Q2c hz (by omega)) ?_
 refine v_d (fun g => ?_) (fun g => ?_)
 ·refine v_tr (show (_ + 1) * 16 ≤ _ from by omega) ?_
  refine v_b (by simp) ?_
  refine v_k fun _ => { h' with lp := by simp; omega, ps := Q2r h'.ps ?_ }
  simp only [List.length_append, List.length_singleton]
  omega
 ·exact v_nd (fun _ => v_k (perr g)) (fun g2 => absurd g2 g)
theorem Qeq (hn : n ≤ 1000) (h : Inv n r z p c s) (ht : 3 ≤ toks.length) : Ans (PInv (n + 2) r) fun β k => zqk1 toks z p c s k := by
 unfold zqk1
 simp only [Q0]
 unfold zqk0
 have hl := h.lz
 have hl2 := h.lc
 refine v_i (by omega) ?_
 refine v_e (fun β k => Q9p _ _ (by omega) _) ?_
 refine v_e (fun β k => Q4q _ _) ?_
 refine v_nd (fun g => v_k (perr g)) (fun _ => ?_)
 refine v_i (by omega) ?_
 refine v_tr (show (c.length + 1) * 48 ≤ _ by omega) ?_
 have h' := h.mono (show n ≤ n + 2 by omega) (Nat.le_refl r)
 exact v_k fun _ => { h' with lc := by simp; omega, cs := Q3z h'.cs (Nat.zero_le _) }
theorem Qer (hn : n ≤ 1000) (h : Inv n r z p c s) (ht : 2 ≤ toks.length) : Ans (PInv (n + 2) r) fun β k => zq65 toks z p c s k := by
 unfold zq65
 simp only [Q0]
 unfold zq64
 have hl := h.ls
 refine v_i (by omega) ?_
 refine v_tr (show (s.length + 1) * 64 ≤ _ by omega) ?_
 have h' := h.mono (show n ≤ n + 2 by omega) (Nat.le_refl r)
 exact v_k fun _ => { h' with ls := by simp; omega, ss := Q3z h'.ss ⟨⟨Nat.zero_le _, Nat.zero_le _⟩, fun l hl => absurd hl List.not_mem_nil⟩ }
def LayF (toks : List Tok) : Prop := ∃ i, ∀ {β : Type} (k : Int → Option β), zq7p [[104, 111, 117, 114, 115], [100, 97, 121, 115], [119, 101, 101, 107, 115]] (toks.getD 6 (0, [], 0)).2.1 k = k i
theorem Qiu (hn : n ≤ 1000) (h : Inv n r z p c s) (ht : 7 ≤ toks.length) (hf : LayF toks) : Ans (PInv (n + 2) r) fun β k => zqk6 toks z p c s k := by
 obtain ⟨i, hi⟩ := hf
 unfold zqk6
 simp only [Q0]
 unfold zqk5
 have hl := h.lz
 have hl2 := h.ls
 refine v_i (by omega) ?_
 refine v_e (fun β k => hi _) ?_
 refine v_d (fun _ => v_k (perr (by decide))) fun _ => ?_
 refine v_d (fun _ => v_k (perr (by decide))) fun hz => ?_
 have hj := Q27 hz (by omega)
 refine v_i (Q2c hz (by omega)) ?_
 refine v_i (by omega) ?_
 refine v_e (fun β k => Q9p _ _ (by omega) _) ?_
 refine v_e (fun β k => Q4q _ _) ?_
 refine v_nd (fun g => v_k (perr g)) (fun _ => ?_)
 refine v_i (by omega) ?_
 refine v_i (by omega) ?_
 refine v_i (by omega) ?_
 refine v_i (by omega) ?_
 have hx := h.ss _ (Qq (d := (([] : List UInt8), (([] : List zq2), ([] : List (Int × (Int × (Int × (Int × Int)))))))) hj)
 refine v_tr (show (_ + 1) * 120 ≤ _ from by have := hx.1.1; omega) ?_
 refine v_b (by simp) ?_
 have h' := h.mono (show n ≤ n + 2 by omega) (Nat.le_refl r)
 have hx' := h'.ss _ (Qq (d := (([] : List UInt8), (([] : List zq2), ([] : List (Int × (Int × (Int × (Int × Int)))))))) hj)
 refine v_k fun _ => { h' with ls := by simp; omega, ss := Q2r h'.ss ⟨⟨?_, hx'.1.2⟩, ?_⟩ }
 ·have := hx.1.1
  simp only [List.length_append, List.length_singleton]
  omega
 ·exact Q3z hx'.2 ⟨Nat.zero_le _, Nat.zero_le _⟩
theorem Qh8 (hn : n ≤ 1000) (h : Inv n r z p c s) (hf : WinF toks) : Ans (PInv (n + 2) r) fun β k => zqgr toks z p c s k := by
 obtain ⟨w, e, hw⟩ := hf
 unfold zqgr
 simp only [Q0]
 unfold zqgq
 have hl := h.ls
 refine v_e (fun β k => hw _) ?_
 refine v_d (fun _ => ?_) (fun hz => ?_)
 ·refine v_d (fun _ => v_k (perr (by decide))) (fun g => ?_)
  exact v_nd (fun _ => v_k (perr g)) (fun g2 => absurd g2 g)
 have hi := Q27 hz (by omega)
 have hx := h.ss _ (Qq (d := (([] : List UInt8), (([] : List zq2), ([] : List (Int × (Int × (Int × (Int × Int)))))))) hi)
 have h' := h.mono (show n ≤ n + 2 by omega) (Nat.le_refl r)
 have hx' := h'.ss _ (Qq (d := (([] : List UInt8), (([] : List zq2), ([] : List (Int × (Int × (Int × (Int × Int)))))))) hi)
 refine v_i (Q2c hz (by omega)) ?_
 refine v_d (fun _ => ?_) (fun hq => ?_)
 ·refine v_d (fun _ => v_k (perr (by decide))) (fun g => ?_)
  exact v_nd (fun _ => v_k (perr g)) (fun g2 => absurd g2 g)
 have hj := Q27 hq (by have := hx.1.1; omega)
 refine v_i (Q2c hq (by have := hx.1.1; omega)) ?_
 have hy := hx.2 _ (Qq (d := zqq) hj)
 have hy' := hx'.2 _ (Qq (d := zqq) hj)
 refine v_d (fun g => ?_) (fun g => ?_)
 ·refine v_tr (show (_ + 1) * 16 ≤ _ from by have := hy.2; omega) ?_
  refine v_b (by simp) ?_
  refine v_k fun _ => { h' with ls := by simp; omega, ss := Q2r h'.ss ⟨⟨by simpa using hx'.1.1, hx'.1.2⟩, Q2r hx'.2 ⟨hy'.1, ?_⟩⟩ }
  have := hy.2
  simp only [List.length_append, List.length_singleton]
  omega
 ·exact v_nd (fun _ => v_k (perr g)) (fun g2 => absurd g2 g)
theorem Qmo (t : Nat) {PP} {K1 : ∀ β : Type, KB β → zqbq β} {xs : List Tok} (hl : xs.length ≤ 1000)
  (hk : ∀ c', c'.length = c.length → (∀ x ∈ c', x.2.2.length ≤ n + xs.length) → Ans PP fun β k => K1 β k z p c' s) : ∀ (j f i : Nat) (c' : List zq0), i + j = xs.length → j < f → c'.length = c.length → t < c.length → n ≤ 1000 → (∀ x ∈ c', x.2.2.length ≤ n + i) →
   Ans PP fun β k => zqbu f (K1 β k) t xs (xs.length : Int) (i : Int) z p c' s := by
 intro j
 induction j with
 | zero =>
  intro f i c' hi hf hc ht hn hx
  obtain ⟨f, rfl⟩ : ∃ f', f = f' + 1 := ⟨f - 1, by omega⟩
  simp only [zqbv]
  unfold zqbt
  refine v_n (by omega) (hk c' hc ?_)
  rw [show xs.length = i by omega]
  exact hx
 | succ j ih =>
  intro f i c' hi hf hc ht hn hx
  obtain ⟨f, rfl⟩ : ∃ f', f = f' + 1 := ⟨f - 1, by omega⟩
  have ew : IntKind.i64.wrap ((i : Int) + 1) = ((i + 1 : Nat) : Int) := by rw [i64_in _ (by omega)]; omega
  have hy := hx _ (Qq (d := zqk) (show t < c'.length by omega))
  simp only [zqbv]
  unfold zqbt
  refine v_p (by omega) ?_
  refine v_i (by omega) ?_
  refine v_tr (show (_ + 1) * 8 ≤ _ from by omega) ?_
  refine v_b (by simp) ?_
  simp only [ew]
  refine ih f (i + 1) _ (by omega) (by omega) (by simpa using hc) ht hn ?_
  refine Q2r (fun x hx' => by have := hx x hx'; omega) ?_
  simp only [List.length_append, List.length_singleton]
  omega
theorem Qjy (hn : n ≤ 1000) (h : Inv n r z p c s) (ht : 1 ≤ toks.length ∧ toks.length ≤ 3) : Ans (PInv (n + 2) r) fun β k => zqbz toks z p c s k := by
 unfold zqbz
 simp only [Q0]
 unfold zqby
 have hl := h.lc
 refine v_d (fun _ => v_k (perr (by decide))) fun hz => ?_
 have hj := Q27 hz (by omega)
 refine v_i (Q2c hz (by omega)) ?_
 refine v_b (by rw [decide_eq_true (show (1 : Int) ≤ (toks.length : Int) by omega)]; simp) ?_
 have h' := h.mono (show n ≤ n + 2 by omega) (Nat.le_refl r)
 unfold zqbw
 simp only [Q0]
 generalize hxs : List.drop (Int.toNat (1 : Int)) (List.take (Int.toNat (toks.length : Int)) toks) = xs
 have hx2 : xs.length ≤ 2 := by rw [← hxs]; simp; omega
 refine Qmo _ (by omega) (fun c' h1 h2 => ?_) xs.length fuel 0 c (by omega) (Qo (by omega)) rfl hj hn (fun x hx => h.cs x hx)
 exact v_k fun _ => { h' with lc := by omega, cs := fun x hx => by have := h2 x hx; omega }
end
end
end Go.Lift
namespace Go.Lift
open Go.RowKit Go.IntWalk
noncomputable section
variable [Sl]
set_option linter.unusedSectionVars false
set_option linter.unusedVariables false
set_option linter.unusedSimpArgs false
set_option maxRecDepth 10000
section
variable {n r : Nat} {z : List zqa} {p : List zqe} {c : List zq0} {s : List zq4} {toks : List Tok}
theorem Qkx (t : Nat × Nat) {PP} {K1 : ∀ β : Type, KB β → zqkb β} {K2 : ∀ β : Type, KB β → zqkc β} {xs : List Tok} (hl : xs.length ≤ 1000) (hp : p.length ≤ 2000)
  (h1 : ∀ e, e ≠ 0 → Ans PP fun β k => K1 β k e z p c s) (h2 : ∀ all, all.length ≤ xs.length → Ans PP fun β k => K2 β k (t.1, t.2) z p c s all) : ∀ (j f i : Nat) (all : List Int), i + j = xs.length → j < f → all.length ≤ i →
   Ans PP fun β k => zqkg f (K1 β k) (K2 β k) (t.1, t.2) xs (xs.length : Int) (i : Int) z p c s all := by
 intro j
 induction j with
 | zero =>
  intro f i all hi hf ha
  obtain ⟨f, rfl⟩ : ∃ f', f = f' + 1 := ⟨f - 1, by omega⟩
  simp only [zqkh]
  unfold zqkf
  exact v_n (by omega) (h2 all (by omega))
 | succ j ih =>
  intro f i all hi hf ha
  obtain ⟨f, rfl⟩ : ∃ f', f = f' + 1 := ⟨f - 1, by omega⟩
  have ew : IntKind.i64.wrap ((i : Int) + 1) = ((i + 1 : Nat) : Int) := by rw [i64_in _ (by omega)]; omega
  simp only [zqkh]
  unfold zqkf
  refine v_p (by omega) ?_
  refine v_i (by omega) ?_
  refine v_e (fun β k => Qat _ _ (by show p.length ≤ _; omega) _) ?_
  refine v_e (fun β k => Q4q _ _) ?_
  refine v_nd (fun g => h1 _ g) (fun _ => ?_)
  refine v_r (show (all.length + 1) * 8 ≤ _ by omega) ?_
  simp only [ew]
  exact ih f (i + 1) _ (by omega) (by omega) (by simp; omega)
theorem Qh9 (hn : n ≤ 1000) (h : Inv n r z p c s) (ht : 1 ≤ toks.length ∧ toks.length ≤ 3) : Ans (PInv (n + 2) r) fun β k => zqkl toks z p c s k := by
 unfold zqkl
 simp only [Q0]
 unfold zqkk
 have hl := h.ls
 have hl2 := h.lp
 refine v_d (fun _ => v_k (perr (by decide))) fun hz => ?_
 have hi := Q27 hz (by omega)
 have hx := h.ss _ (Qq (d := (([] : List UInt8), (([] : List zq2), ([] : List (Int × (Int × (Int × (Int × Int)))))))) hi)
 have h' := h.mono (show n ≤ n + 2 by omega) (Nat.le_refl r)
 have hx' := h'.ss _ (Qq (d := (([] : List UInt8), (([] : List zq2), ([] : List (Int × (Int × (Int × (Int × Int)))))))) hi)
 refine v_i (Q2c hz (by omega)) ?_
 refine v_d (fun _ => v_k (perr (by decide))) fun hq => ?_
 have hj := Q27 hq (by have := hx.1.1; omega)
 refine v_i (Q2c hq (by have := hx.1.1; omega)) ?_
 have hy := hx.2 _ (Qq (d := zqq) hj)
 have hy' := hx'.2 _ (Qq (d := zqq) hj)
 refine v_b (by rw [decide_eq_true (show (1 : Int) ≤ (toks.length : Int) by omega)]; simp) ?_
 generalize Int.toNat (IntKind.i64.wrap ((s.length : Int) - 1)) = i at hi hx hx' hj hy hy'
 generalize hjj : Int.toNat (IntKind.i64.wrap (((s.getD i ([], [], [])).2.1.length : Int) - 1)) = j at hj hy hy'
 unfold zqki
 simp only [Q0]
 generalize hxs : List.drop (Int.toNat (1 : Int)) (List.take (Int.toNat (toks.length : Int)) toks) = xs
 have hx2 : xs.length ≤ 2 := by rw [← hxs]; simp; omega
 refine Qkx (i, j) (by omega) (by omega) (fun e he => v_k (perr he)) (fun all ha => ?_) xs.length fuel 0 [] (by omega) (Qo (by omega)) (Nat.zero_le _)
 have hy1 : ((s.getD i zqo).2.1.getD j zqq).2.2.2.2.2.1.length ≤ n := hy.1
 refine v_tr (show (((s.getD i zqo).2.1.getD j zqq).2.2.2.2.2.1.length + all.length) * 8 ≤ _ by omega) ?_
 refine v_b (by simp) ?_
 refine v_k fun _ => { h' with ls := by simp; omega, ss := Q2r h'.ss ⟨⟨by simpa using hx'.1.1, hx'.1.2⟩, Q2r hx'.2 ⟨?_, hy'.2⟩⟩ }
 simp only [List.length_append]
 omega
theorem Qee (hn : n ≤ 1000) (h : Inv n r z p c s) (ht : 2 ≤ toks.length) : Ans (PInv (n + 2) r) fun β k => zqkq toks z p c s k := by
 unfold zqkq
 simp only [Q0]
 unfold zqkp
 have hl := h.ls
 have hl2 := h.lc
 refine v_d (fun _ => v_k (perr (by decide))) fun hz => ?_
 have hi := Q27 hz (by omega)
 have h' := h.mono (show n ≤ n + 2 by omega) (Nat.le_refl r)
 have hx' := h'.ss _ (Qq (d := (([] : List UInt8), (([] : List zq2), ([] : List (Int × (Int × (Int × (Int × Int)))))))) hi)
 refine v_i (Q2c hz (by omega)) ?_
 refine v_d (fun _ => v_k (perr (by decide))) fun hq => ?_
 have hj := Q27 hq (by have := hx'.1.1; omega)
 refine v_i (Q2c hq (by have := hx'.1.1; omega)) ?_
 have hy' := hx'.2 _ (Qq (d := zqq) hj)
 refine v_nd (fun _ => v_k (perr (by decide))) fun _ => ?_
 refine v_i (by omega) ?_
 refine v_e (fun β k => Qkv _ _ (by omega) _) ?_
 refine v_e (fun β k => Q4q _ _) ?_
 refine v_nd (fun g => v_k (perr g)) (fun _ => ?_)
 refine v_i (by omega) ?_
 generalize Int.toNat (IntKind.i64.wrap ((s.length : Int) - 1)) = i at hi hx' hj hy'
 generalize hjj : Int.toNat (IntKind.i64.wrap (((s.getD i ([], [], [])).2.1.length : Int) - 1)) = j at hj hy'
 have key : ∀ (s' : List zq4) (q m : Int), s'.length = s.length → (∀ x ∈ s', (x.2.1.length ≤ n + 2 ∧ x.2.2.length ≤ n + 2) ∧ ∀ l ∈ x.2.1, l.2.2.2.2.2.1.length ≤ n + 2 ∧ l.2.2.2.2.2.2.1.length ≤ n + 2) → j < (s'.getD i ([], [], [])).2.1.length →
   let e := s'.getD i ([], [], [])
   let l := e.2.1.getD j zqq
   let s2 := s'.set i (e.1, (e.2.1.set j (l.1, (l.2.1, (l.2.2.1, (l.2.2.2.1, (l.2.2.2.2.1, (l.2.2.2.2.2.1, (l.2.2.2.2.2.2.1, (q, m)))))))), e.2.2))
   s2.length = s.length ∧ (∀ x ∈ s2, (x.2.1.length ≤ n + 2 ∧ x.2.2.length ≤ n + 2) ∧ ∀ l ∈ x.2.1, l.2.2.2.2.2.1.length ≤ n + 2 ∧ l.2.2.2.2.2.2.1.length ≤ n + 2) ∧ j < (s2.getD i ([], [], [])).2.1.length := by
  intro s' q m h1 h2 h3
  have hi2 : i < s'.length := by omega
  have g1 := h2 _ (Qq (d := (([] : List UInt8), (([] : List zq2), ([] : List (Int × (Int × (Int × (Int × Int)))))))) hi2)
  have g2 := g1.2 _ (Qq (d := zqq) h3)
  refine ⟨by simpa using h1, Q2r h2 ⟨⟨by simpa using g1.1.1, g1.1.2⟩, Q2r g1.2 g2⟩, ?_⟩
  simp only [List.getD, hi2, List.getElem?_set_self, Option.getD_some, List.length_set]
  simpa [List.getD, hi2] using h3
 obtain ⟨a1, a2, a3⟩ := key s _ _ rfl h'.ss hj
 obtain ⟨b1, b2, b3⟩ := key _ _ _ a1 a2 a3
 obtain ⟨d1, d2, d3⟩ := key _ _ _ b1 b2 b3
 refine v_d (fun _ => v_k fun _ => ?_) (fun _ => v_k fun _ => ?_)
 ·exact { h' with ls := by rw [d1]; omega, ss := d2 }
 ·exact { h' with ls := by rw [b1]; omega, ss := b2 }
def EdF (toks : List Tok) : Prop := ∃ i, ∀ {β : Type} (k : Int → Option β), zq7p [[108, 101, 97, 118, 101], [111, 118, 101, 114, 114, 105, 100, 101], [115, 119, 97, 112]] (toks.getD 0 (0, [], 0)).2.1 k = k i
theorem Qmp (t : Nat) (x : Ed) {PP} {K1 : ∀ β : Type, KB β → zqkv β} {K2 : ∀ β : Type, KB β → zqkw β} {xs : List Tok} (hl : xs.length ≤ 2) (hp : p.length ≤ 2000)
  (h1 : ∀ e, e ≠ 0 → Ans PP fun β k => K1 β k e z p c s) (h2 : ∀ all, all.length = 2 → Ans PP fun β k => K2 β k t z p c s x all) : ∀ (j f i : Nat) (all : List Int), i + j = xs.length → j < f → all.length = 2 →
   Ans PP fun β k => zql7 f (K1 β k) (K2 β k) t xs (xs.length : Int) (i : Int) z p c s x all := by
 intro j
 induction j with
 | zero =>
  intro f i all hi hf ha
  obtain ⟨f, rfl⟩ : ∃ f', f = f' + 1 := ⟨f - 1, by omega⟩
  simp only [zql8]
  unfold zql6
  exact v_n (by omega) (h2 all (by omega))
 | succ j ih =>
  intro f i all hi hf ha
  obtain ⟨f, rfl⟩ : ∃ f', f = f' + 1 := ⟨f - 1, by omega⟩
  have ew : IntKind.i64.wrap ((i : Int) + 1) = ((i + 1 : Nat) : Int) := by rw [i64_in _ (by omega)]; omega
  have key : ∀ (q : Int) (b : Bool), Ans PP fun β k => zql4 (fun t4 b1 b2 b3 b4 => K1 β k t4 b1 b2 b3 b4) (fun s2 t532 t542 t552 b1_2 b2_2 b3_2 b4_2 x2 people2 => zql7 f (K1 β k) (K2 β k) s2 t532 t542 (IntKind.i64.wrap (t552 + 1)) b1_2 b2_2 b3_2 b4_2 x2 people2) t (i : Int) q b xs (xs.length : Int) (i : Int) z p c s x all := by
   intro q b
   unfold zql4
   simp only [Q0]
   unfold zql3
   refine v_e (fun β k => Q4q _ _) ?_
   refine v_nd (fun g => h1 _ g) (fun _ => ?_)
   refine v_i (by omega) ?_
   simp only [ew]
   exact ih f (i + 1) _ (by omega) (by omega) (by simpa using ha)
  simp only [zql8]
  unfold zql6
  refine v_p (by omega) ?_
  refine v_i (by omega) ?_
  refine v_e (fun β k => Qat _ _ (by show p.length ≤ _; omega) _) ?_
  refine v_d (fun _ => ?_) (fun _ => key _ _)
  exact v_d (fun _ => key _ _) (fun _ => key _ _)
theorem Q9q (hn : n ≤ 1000) (h : Inv n r z p c s) (ht : 3 ≤ toks.length ∧ toks.length ≤ 5) (hf : EdF toks) : Ans (PInv (n + 2) r) fun β k => zqlc toks z p c s k := by
 obtain ⟨q, hq⟩ := hf
 unfold zqlc
 simp only [Q0]
 unfold zqlb
 have hl := h.ls
 have hl2 := h.lp
 refine v_d (fun _ => v_k (perr (by decide))) fun hz => ?_
 have hi := Q27 hz (by omega)
 have h' := h.mono (show n ≤ n + 2 by omega) (Nat.le_refl r)
 have hx := h.ss _ (Qq (d := zqo) hi)
 have hx' := h'.ss _ (Qq (d := zqo) hi)
 refine v_i (Q2c hz (by omega)) ?_
 generalize Int.toNat (IntKind.i64.wrap ((s.length : Int) - 1)) = i at hi hx hx'
 refine v_i (by omega) ?_
 refine v_e (fun β k => hq _) ?_
 have e2 : IntKind.i64.wrap ((toks.length : Int) - 2) = (toks.length : Int) - 2 := i64_in _ (by omega)
 have e1 : IntKind.i64.wrap ((toks.length : Int) - 1) = (toks.length : Int) - 1 := i64_in _ (by omega)
 simp only [e1, e2]
 refine v_i (by omega) ?_
 refine v_i (by omega) ?_
 refine v_b (by rw [decide_eq_true (show (1 : Int) ≤ (toks.length : Int) - 2 by omega), decide_eq_true (show (toks.length : Int) - 2 ≤ (toks.length : Int) by omega)]; rfl) ?_
 unfold zql9
 simp only [Q0]
 generalize hxs : List.drop (Int.toNat (1 : Int)) (List.take (Int.toNat ((toks.length : Int) - 2)) toks) = xs
 have hx2 : xs.length ≤ 2 := by rw [← hxs]; simp; omega
 refine Qmp i _ hx2 (by omega) (fun e he => v_k (perr he)) (fun all ha => ?_) xs.length fuel 0 [0, 0] (by omega) (Qo (by omega)) rfl
 refine v_i (by omega) ?_
 refine v_i (by omega) ?_
 refine v_tr (show (_ + 1) * 40 ≤ _ from by have := hx.1.2; omega) ?_
 refine v_b (by simp) ?_
 refine v_k fun _ => { h' with ls := by simp; omega, ss := Q2r h'.ss ⟨⟨hx'.1.1, ?_⟩, hx'.2⟩ }
 have := hx.1.2
 simp only [List.length_append, List.length_singleton]
 omega
end
end
end Go.Lift
namespace Go.Lift
open Go.RowKit Go.IntWalk
noncomputable section
variable [Sl]
set_option linter.unusedSectionVars false
set_option linter.unusedVariables false
set_option linter.unusedSimpArgs false
set_option maxRecDepth 10000
def Qjz (toks : List Tok) (z : List zqa) (p : List zqe) (c : List zq0) (s : List zq4) (e : Int) (z' : List zqa) (p' : List zqe) (c' : List zq0) (s' : List zq4) : Prop :=
 ∀ {β : Type} (k1 : zqv1 β) (k2 : zqv2 β) (m i : Nat) (l : List Stm) (line : Int), i < l.length → l.length ≤ 1000 → l.getD i (0, []) = (line, toks) →
  zqvd (m + 1) k1 k2 l (l.length : Int) (i : Int) [] [] [] [] z p c s = cond (!decide (e = 0)) (k1 line e [] [] [] []) (zqvd m k1 k2 l (l.length : Int) ((i : Int) + 1) [] [] [] [] z' p' c' s')
def Q20 (n r : Nat) (toks : List Tok) (z : List zqa) (p : List zqe) (c : List zq0) (s : List zq4) : Prop :=
 ∃ e z' p' c' s', PInv n r e z' p' c' s' ∧ Qjz toks z p c s e z' p' c' s'
section
variable {n r : Nat} {z : List zqa} {p : List zqe} {c : List zq0} {s : List zq4} {toks : List Tok}
theorem build_p1 {β : Type} {k1 : zqv5 β} {k2 : zqv6 β} {e : Int} {l : List Stm} {a b : Int} {st : Stm} {z p c s} :
  zqva k1 k2 e l a b st [] [] [] [] z p c s = cond (!decide (e = 0)) (k1 st.1 e [] [] [] []) (k2 l a b [] [] [] [] z p c s) := by
 unfold zqva
 rw [Q0]
 unfold zqv9
 rfl
theorem Qk0 (hF : ∀ {β : Type} (k : Bool → Option β), zqjj toks k = k true) (h0 : 0 < toks.length) (hw : (toks.getD 0 (0, [], 0)).2.1 = [122, 111, 110, 101]) (h : Ans (PInv n r) fun β k => zq60 toks z p c s k) : Q20 n r toks z p c s := by
 obtain ⟨e, z', p', c', s', hi, hk⟩ := h
 refine ⟨e, z', p', c', s', hi, fun {β} k1 k2 m i l line h1 h2 h3 => ?_⟩
 rw [zqve]
 unfold zqvc
 refine (Q4 (by omega)).trans ?_
 refine (Qf (by omega)).trans ?_
 dsimp only
 rw [Int.toNat_natCast, h3]
 refine (hF _).trans ?_
 refine c_f.trans ?_
 refine (Qf (by show (0 : Int) ≤ 0 ∧ (0 : Int) < (toks.length : Int); omega)).trans ?_
 dsimp only
 rw [show Int.toNat (0 : Int) = 0 from rfl, hw]
 refine (Q4 rfl).trans ?_
 refine (hk _ _).trans ?_
 refine build_p1.trans ?_
 dsimp only
 rw [i64_in ((i : Int) + 1) (by omega)]
theorem Qk1 (hF : ∀ {β : Type} (k : Bool → Option β), zqjj toks k = k true) (h0 : 0 < toks.length) (hw : (toks.getD 0 (0, [], 0)).2.1 = [114, 117, 108, 101]) (h : Ans (PInv n r) fun β k => zqgh toks z p c s k) : Q20 n r toks z p c s := by
 obtain ⟨e, z', p', c', s', hi, hk⟩ := h
 refine ⟨e, z', p', c', s', hi, fun {β} k1 k2 m i l line h1 h2 h3 => ?_⟩
 rw [zqve]
 unfold zqvc
 refine (Q4 (by omega)).trans ?_
 refine (Qf (by omega)).trans ?_
 dsimp only
 rw [Int.toNat_natCast, h3]
 refine (hF _).trans ?_
 refine c_f.trans ?_
 refine (Qf (by show (0 : Int) ≤ 0 ∧ (0 : Int) < (toks.length : Int); omega)).trans ?_
 dsimp only
 rw [show Int.toNat (0 : Int) = 0 from rfl, hw]
 refine (Q2 (by decide)).trans ?_
 refine (Q4 rfl).trans ?_
 refine (hk _ _).trans ?_
 refine build_p1.trans ?_
 dsimp only
 rw [i64_in ((i : Int) + 1) (by omega)]
theorem Qha (hF : ∀ {β : Type} (k : Bool → Option β), zqjj toks k = k true) (h0 : 0 < toks.length) (hw : (toks.getD 0 (0, [], 0)).2.1 = [112, 101, 114, 115, 111, 110]) (h : Ans (PInv n r) fun β k => zqjw toks z p c s k) : Q20 n r toks z p c s := by
 obtain ⟨e, z', p', c', s', hi, hk⟩ := h
 refine ⟨e, z', p', c', s', hi, fun {β} k1 k2 m i l line h1 h2 h3 => ?_⟩
 rw [zqve]
 unfold zqvc
 refine (Q4 (by omega)).trans ?_
 refine (Qf (by omega)).trans ?_
 dsimp only
 rw [Int.toNat_natCast, h3]
 refine (hF _).trans ?_
 refine c_f.trans ?_
 refine (Qf (by show (0 : Int) ≤ 0 ∧ (0 : Int) < (toks.length : Int); omega)).trans ?_
 dsimp only
 rw [show Int.toNat (0 : Int) = 0 from rfl, hw]
 refine (Q2 (by decide)).trans ?_
 refine (Q2 (by decide)).trans ?_
 refine (Q4 rfl).trans ?_
 refine (hk _ _).trans ?_
 refine build_p1.trans ?_
 dsimp only
 rw [i64_in ((i : Int) + 1) (by omega)]
theorem Qiv (hF : ∀ {β : Type} (k : Bool → Option β), zqjj toks k = k true) (h0 : 0 < toks.length) (hw : (toks.getD 0 (0, [], 0)).2.1 = [113, 117, 105, 101, 116]) (h : Ans (PInv n r) fun β k => zqgm toks z p c s k) : Q20 n r toks z p c s := by
 obtain ⟨e, z', p', c', s', hi, hk⟩ := h
 refine ⟨e, z', p', c', s', hi, fun {β} k1 k2 m i l line h1 h2 h3 => ?_⟩
 rw [zqve]
 unfold zqvc
 refine (Q4 (by omega)).trans ?_
 refine (Qf (by omega)).trans ?_
 dsimp only
 rw [Int.toNat_natCast, h3]
 refine (hF _).trans ?_
 refine c_f.trans ?_
 refine (Qf (by show (0 : Int) ≤ 0 ∧ (0 : Int) < (toks.length : Int); omega)).trans ?_
 dsimp only
 rw [show Int.toNat (0 : Int) = 0 from rfl, hw]
 refine (Q2 (by decide)).trans ?_
 refine (Q2 (by decide)).trans ?_
 refine (Q2 (by decide)).trans ?_
 refine (Q4 rfl).trans ?_
 refine (hk _ _).trans ?_
 refine build_p1.trans ?_
 dsimp only
 rw [i64_in ((i : Int) + 1) (by omega)]
theorem Qes (hF : ∀ {β : Type} (k : Bool → Option β), zqjj toks k = k true) (h0 : 0 < toks.length) (hw : (toks.getD 0 (0, [], 0)).2.1 = [99, 97, 108, 101, 110, 100, 97, 114]) (h : Ans (PInv n r) fun β k => zqk1 toks z p c s k) : Q20 n r toks z p c s := by
 obtain ⟨e, z', p', c', s', hi, hk⟩ := h
 refine ⟨e, z', p', c', s', hi, fun {β} k1 k2 m i l line h1 h2 h3 => ?_⟩
 rw [zqve]
 unfold zqvc
 refine (Q4 (by omega)).trans ?_
 refine (Qf (by omega)).trans ?_
 dsimp only
 rw [Int.toNat_natCast, h3]
 refine (hF _).trans ?_
 refine c_f.trans ?_
 refine (Qf (by show (0 : Int) ≤ 0 ∧ (0 : Int) < (toks.length : Int); omega)).trans ?_
 dsimp only
 rw [show Int.toNat (0 : Int) = 0 from rfl, hw]
 refine (Q2 (by decide)).trans ?_
 refine (Q2 (by decide)).trans ?_
 refine (Q2 (by decide)).trans ?_
 refine (Q2 (by decide)).trans ?_
 refine (Q4 rfl).trans ?_
 refine (hk _ _).trans ?_
 refine build_p1.trans ?_
 dsimp only
 rw [i64_in ((i : Int) + 1) (by omega)]
theorem Qk2 (hF : ∀ {β : Type} (k : Bool → Option β), zqjj toks k = k true) (h0 : 0 < toks.length) (hw : (toks.getD 0 (0, [], 0)).2.1 = [100, 97, 121, 115]) (h : Ans (PInv n r) fun β k => zqbz toks z p c s k) : Q20 n r toks z p c s := by
 obtain ⟨e, z', p', c', s', hi, hk⟩ := h
 refine ⟨e, z', p', c', s', hi, fun {β} k1 k2 m i l line h1 h2 h3 => ?_⟩
 rw [zqve]
 unfold zqvc
 refine (Q4 (by omega)).trans ?_
 refine (Qf (by omega)).trans ?_
 dsimp only
 rw [Int.toNat_natCast, h3]
 refine (hF _).trans ?_
 refine c_f.trans ?_
 refine (Qf (by show (0 : Int) ≤ 0 ∧ (0 : Int) < (toks.length : Int); omega)).trans ?_
 dsimp only
 rw [show Int.toNat (0 : Int) = 0 from rfl, hw]
 refine (Q2 (by decide)).trans ?_
 refine (Q2 (by decide)).trans ?_
 refine (Q2 (by decide)).trans ?_
 refine (Q2 (by decide)).trans ?_
 refine (Q2 (by decide)).trans ?_
 refine (Q4 rfl).trans ?_
 refine (hk _ _).trans ?_
 refine build_p1.trans ?_
 dsimp only
 rw [i64_in ((i : Int) + 1) (by omega)]
theorem Qet (hF : ∀ {β : Type} (k : Bool → Option β), zqjj toks k = k true) (h0 : 0 < toks.length) (hw : (toks.getD 0 (0, [], 0)).2.1 = [115, 99, 104, 101, 100, 117, 108, 101]) (h : Ans (PInv n r) fun β k => zq65 toks z p c s k) : Q20 n r toks z p c s := by
 obtain ⟨e, z', p', c', s', hi, hk⟩ := h
 refine ⟨e, z', p', c', s', hi, fun {β} k1 k2 m i l line h1 h2 h3 => ?_⟩
 rw [zqve]
 unfold zqvc
 refine (Q4 (by omega)).trans ?_
 refine (Qf (by omega)).trans ?_
 dsimp only
 rw [Int.toNat_natCast, h3]
 refine (hF _).trans ?_
 refine c_f.trans ?_
 refine (Qf (by show (0 : Int) ≤ 0 ∧ (0 : Int) < (toks.length : Int); omega)).trans ?_
 dsimp only
 rw [show Int.toNat (0 : Int) = 0 from rfl, hw]
 refine (Q2 (by decide)).trans ?_
 refine (Q2 (by decide)).trans ?_
 refine (Q2 (by decide)).trans ?_
 refine (Q2 (by decide)).trans ?_
 refine (Q2 (by decide)).trans ?_
 refine (Q2 (by decide)).trans ?_
 refine (Q4 rfl).trans ?_
 refine (hk _ _).trans ?_
 refine build_p1.trans ?_
 dsimp only
 rw [i64_in ((i : Int) + 1) (by omega)]
theorem Qiw (hF : ∀ {β : Type} (k : Bool → Option β), zqjj toks k = k true) (h0 : 0 < toks.length) (hw : (toks.getD 0 (0, [], 0)).2.1 = [108, 97, 121, 101, 114]) (h : Ans (PInv n r) fun β k => zqk6 toks z p c s k) : Q20 n r toks z p c s := by
 obtain ⟨e, z', p', c', s', hi, hk⟩ := h
 refine ⟨e, z', p', c', s', hi, fun {β} k1 k2 m i l line h1 h2 h3 => ?_⟩
 rw [zqve]
 unfold zqvc
 refine (Q4 (by omega)).trans ?_
 refine (Qf (by omega)).trans ?_
 dsimp only
 rw [Int.toNat_natCast, h3]
 refine (hF _).trans ?_
 refine c_f.trans ?_
 refine (Qf (by show (0 : Int) ≤ 0 ∧ (0 : Int) < (toks.length : Int); omega)).trans ?_
 dsimp only
 rw [show Int.toNat (0 : Int) = 0 from rfl, hw]
 refine (Q2 (by decide)).trans ?_
 refine (Q2 (by decide)).trans ?_
 refine (Q2 (by decide)).trans ?_
 refine (Q2 (by decide)).trans ?_
 refine (Q2 (by decide)).trans ?_
 refine (Q2 (by decide)).trans ?_
 refine (Q2 (by decide)).trans ?_
 refine (Q4 rfl).trans ?_
 refine (hk _ _).trans ?_
 refine build_p1.trans ?_
 dsimp only
 rw [i64_in ((i : Int) + 1) (by omega)]
theorem Qhb (hF : ∀ {β : Type} (k : Bool → Option β), zqjj toks k = k true) (h0 : 0 < toks.length) (hw : (toks.getD 0 (0, [], 0)).2.1 = [109, 101, 109, 98, 101, 114]) (h : Ans (PInv n r) fun β k => zqkl toks z p c s k) : Q20 n r toks z p c s := by
 obtain ⟨e, z', p', c', s', hi, hk⟩ := h
 refine ⟨e, z', p', c', s', hi, fun {β} k1 k2 m i l line h1 h2 h3 => ?_⟩
 rw [zqve]
 unfold zqvc
 refine (Q4 (by omega)).trans ?_
 refine (Qf (by omega)).trans ?_
 dsimp only
 rw [Int.toNat_natCast, h3]
 refine (hF _).trans ?_
 refine c_f.trans ?_
 refine (Qf (by show (0 : Int) ≤ 0 ∧ (0 : Int) < (toks.length : Int); omega)).trans ?_
 dsimp only
 rw [show Int.toNat (0 : Int) = 0 from rfl, hw]
 refine (Q2 (by decide)).trans ?_
 refine (Q2 (by decide)).trans ?_
 refine (Q2 (by decide)).trans ?_
 refine (Q2 (by decide)).trans ?_
 refine (Q2 (by decide)).trans ?_
 refine (Q2 (by decide)).trans ?_
 refine (Q2 (by decide)).trans ?_
 refine (Q2 (by decide)).trans ?_
 refine (Q4 rfl).trans ?_
 refine (hk _ _).trans ?_
 refine build_p1.trans ?_
 dsimp only
 rw [i64_in ((i : Int) + 1) (by omega)]
theorem Qm1 (hF : ∀ {β : Type} (k : Bool → Option β), zqjj toks k = k true) (h0 : 0 < toks.length) (hw : (toks.getD 0 (0, [], 0)).2.1 = [111, 110]) (h : Ans (PInv n r) fun β k => zqgr toks z p c s k) : Q20 n r toks z p c s := by
 obtain ⟨e, z', p', c', s', hi, hk⟩ := h
 refine ⟨e, z', p', c', s', hi, fun {β} k1 k2 m i l line h1 h2 h3 => ?_⟩
 rw [zqve]
 unfold zqvc
 refine (Q4 (by omega)).trans ?_
 refine (Qf (by omega)).trans ?_
 dsimp only
 rw [Int.toNat_natCast, h3]
 refine (hF _).trans ?_
 refine c_f.trans ?_
 refine (Qf (by show (0 : Int) ≤ 0 ∧ (0 : Int) < (toks.length : Int); omega)).trans ?_
 dsimp only
 rw [show Int.toNat (0 : Int) = 0 from rfl, hw]
 refine (Q2 (by decide)).trans ?_
 refine (Q2 (by decide)).trans ?_
 refine (Q2 (by decide)).trans ?_
 refine (Q2 (by decide)).trans ?_
 refine (Q2 (by decide)).trans ?_
 refine (Q2 (by decide)).trans ?_
 refine (Q2 (by decide)).trans ?_
 refine (Q2 (by decide)).trans ?_
 refine (Q2 (by decide)).trans ?_
 refine (Q4 rfl).trans ?_
 refine (hk _ _).trans ?_
 refine build_p1.trans ?_
 dsimp only
 rw [i64_in ((i : Int) + 1) (by omega)]
theorem Qky (hF : ∀ {β : Type} (k : Bool → Option β), zqjj toks k = k true) (h0 : 0 < toks.length) (hw : (toks.getD 0 (0, [], 0)).2.1 = [110, 111, 116]) (h : Ans (PInv n r) fun β k => zqkq toks z p c s k) : Q20 n r toks z p c s := by
 obtain ⟨e, z', p', c', s', hi, hk⟩ := h
 refine ⟨e, z', p', c', s', hi, fun {β} k1 k2 m i l line h1 h2 h3 => ?_⟩
 rw [zqve]
 unfold zqvc
 refine (Q4 (by omega)).trans ?_
 refine (Qf (by omega)).trans ?_
 dsimp only
 rw [Int.toNat_natCast, h3]
 refine (hF _).trans ?_
 refine c_f.trans ?_
 refine (Qf (by show (0 : Int) ≤ 0 ∧ (0 : Int) < (toks.length : Int); omega)).trans ?_
 dsimp only
 rw [show Int.toNat (0 : Int) = 0 from rfl, hw]
 refine (Q2 (by decide)).trans ?_
 refine (Q2 (by decide)).trans ?_
 refine (Q2 (by decide)).trans ?_
 refine (Q2 (by decide)).trans ?_
 refine (Q2 (by decide)).trans ?_
 refine (Q2 (by decide)).trans ?_
 refine (Q2 (by decide)).trans ?_
 refine (Q2 (by decide)).trans ?_
 refine (Q2 (by decide)).trans ?_
 refine (Q2 (by decide)).trans ?_
 refine (Q4 rfl).trans ?_
 refine (hk _ _).trans ?_
 refine build_p1.trans ?_
 dsimp only
 rw [i64_in ((i : Int) + 1) (by omega)]
theorem Qk3 (hF : ∀ {β : Type} (k : Bool → Option β), zqjj toks k = k true) (h0 : 0 < toks.length) (hw : (toks.getD 0 (0, [], 0)).2.1 = [111, 110, 108, 121]) (h : Ans (PInv n r) fun β k => zqkq toks z p c s k) : Q20 n r toks z p c s := by
 obtain ⟨e, z', p', c', s', hi, hk⟩ := h
 refine ⟨e, z', p', c', s', hi, fun {β} k1 k2 m i l line h1 h2 h3 => ?_⟩
 rw [zqve]
 unfold zqvc
 refine (Q4 (by omega)).trans ?_
 refine (Qf (by omega)).trans ?_
 dsimp only
 rw [Int.toNat_natCast, h3]
 refine (hF _).trans ?_
 refine c_f.trans ?_
 refine (Qf (by show (0 : Int) ≤ 0 ∧ (0 : Int) < (toks.length : Int); omega)).trans ?_
 dsimp only
 rw [show Int.toNat (0 : Int) = 0 from rfl, hw]
 refine (Q2 (by decide)).trans ?_
 refine (Q2 (by decide)).trans ?_
 refine (Q2 (by decide)).trans ?_
 refine (Q2 (by decide)).trans ?_
 refine (Q2 (by decide)).trans ?_
 refine (Q2 (by decide)).trans ?_
 refine (Q2 (by decide)).trans ?_
 refine (Q2 (by decide)).trans ?_
 refine (Q2 (by decide)).trans ?_
 refine (Q2 (by decide)).trans ?_
 refine (Q2 (by decide)).trans ?_
 refine (Q4 rfl).trans ?_
 refine (hk _ _).trans ?_
 refine build_p1.trans ?_
 dsimp only
 rw [i64_in ((i : Int) + 1) (by omega)]
theorem Qix (hF : ∀ {β : Type} (k : Bool → Option β), zqjj toks k = k true) (h0 : 0 < toks.length) (hw : (toks.getD 0 (0, [], 0)).2.1 = [108, 101, 97, 118, 101]) (h : Ans (PInv n r) fun β k => zqlc toks z p c s k) : Q20 n r toks z p c s := by
 obtain ⟨e, z', p', c', s', hi, hk⟩ := h
 refine ⟨e, z', p', c', s', hi, fun {β} k1 k2 m i l line h1 h2 h3 => ?_⟩
 rw [zqve]
 unfold zqvc
 refine (Q4 (by omega)).trans ?_
 refine (Qf (by omega)).trans ?_
 dsimp only
 rw [Int.toNat_natCast, h3]
 refine (hF _).trans ?_
 refine c_f.trans ?_
 refine (Qf (by show (0 : Int) ≤ 0 ∧ (0 : Int) < (toks.length : Int); omega)).trans ?_
 dsimp only
 rw [show Int.toNat (0 : Int) = 0 from rfl, hw]
 refine (Q2 (by decide)).trans ?_
 refine (Q2 (by decide)).trans ?_
 refine (Q2 (by decide)).trans ?_
 refine (Q2 (by decide)).trans ?_
 refine (Q2 (by decide)).trans ?_
 refine (Q2 (by decide)).trans ?_
 refine (Q2 (by decide)).trans ?_
 refine (Q2 (by decide)).trans ?_
 refine (Q2 (by decide)).trans ?_
 refine (Q2 (by decide)).trans ?_
 refine (Q2 (by decide)).trans ?_
 refine (Q2 (by decide)).trans ?_
 refine (Q4 rfl).trans ?_
 refine (hk _ _).trans ?_
 refine build_p1.trans ?_
 dsimp only
 rw [i64_in ((i : Int) + 1) (by omega)]
theorem Qeu (hF : ∀ {β : Type} (k : Bool → Option β), zqjj toks k = k true) (h0 : 0 < toks.length) (hw : (toks.getD 0 (0, [], 0)).2.1 = [111, 118, 101, 114, 114, 105, 100, 101]) (h : Ans (PInv n r) fun β k => zqlc toks z p c s k) : Q20 n r toks z p c s := by
 obtain ⟨e, z', p', c', s', hi, hk⟩ := h
 refine ⟨e, z', p', c', s', hi, fun {β} k1 k2 m i l line h1 h2 h3 => ?_⟩
 rw [zqve]
 unfold zqvc
 refine (Q4 (by omega)).trans ?_
 refine (Qf (by omega)).trans ?_
 dsimp only
 rw [Int.toNat_natCast, h3]
 refine (hF _).trans ?_
 refine c_f.trans ?_
 refine (Qf (by show (0 : Int) ≤ 0 ∧ (0 : Int) < (toks.length : Int); omega)).trans ?_
 dsimp only
 rw [show Int.toNat (0 : Int) = 0 from rfl, hw]
 refine (Q2 (by decide)).trans ?_
 refine (Q2 (by decide)).trans ?_
 refine (Q2 (by decide)).trans ?_
 refine (Q2 (by decide)).trans ?_
 refine (Q2 (by decide)).trans ?_
 refine (Q2 (by decide)).trans ?_
 refine (Q2 (by decide)).trans ?_
 refine (Q2 (by decide)).trans ?_
 refine (Q2 (by decide)).trans ?_
 refine (Q2 (by decide)).trans ?_
 refine (Q2 (by decide)).trans ?_
 refine (Q2 (by decide)).trans ?_
 refine (Q2 (by decide)).trans ?_
 refine (Q4 rfl).trans ?_
 refine (hk _ _).trans ?_
 refine build_p1.trans ?_
 dsimp only
 rw [i64_in ((i : Int) + 1) (by omega)]
theorem Qk4 (hF : ∀ {β : Type} (k : Bool → Option β), zqjj toks k = k true) (h0 : 0 < toks.length) (hw : (toks.getD 0 (0, [], 0)).2.1 = [115, 119, 97, 112]) (h : Ans (PInv n r) fun β k => zqlc toks z p c s k) : Q20 n r toks z p c s := by
 obtain ⟨e, z', p', c', s', hi, hk⟩ := h
 refine ⟨e, z', p', c', s', hi, fun {β} k1 k2 m i l line h1 h2 h3 => ?_⟩
 rw [zqve]
 unfold zqvc
 refine (Q4 (by omega)).trans ?_
 refine (Qf (by omega)).trans ?_
 dsimp only
 rw [Int.toNat_natCast, h3]
 refine (hF _).trans ?_
 refine c_f.trans ?_
 refine (Qf (by show (0 : Int) ≤ 0 ∧ (0 : Int) < (toks.length : Int); omega)).trans ?_
 dsimp only
 rw [show Int.toNat (0 : Int) = 0 from rfl, hw]
 refine (Q2 (by decide)).trans ?_
 refine (Q2 (by decide)).trans ?_
 refine (Q2 (by decide)).trans ?_
 refine (Q2 (by decide)).trans ?_
 refine (Q2 (by decide)).trans ?_
 refine (Q2 (by decide)).trans ?_
 refine (Q2 (by decide)).trans ?_
 refine (Q2 (by decide)).trans ?_
 refine (Q2 (by decide)).trans ?_
 refine (Q2 (by decide)).trans ?_
 refine (Q2 (by decide)).trans ?_
 refine (Q2 (by decide)).trans ?_
 refine (Q2 (by decide)).trans ?_
 refine (Q2 (by decide)).trans ?_
 refine (Q4 rfl).trans ?_
 refine (hk _ _).trans ?_
 refine build_p1.trans ?_
 dsimp only
 rw [i64_in ((i : Int) + 1) (by omega)]
def Q1t (toks : List Tok) : List UInt8 := (toks.getD 0 (0, [], 0)).2.1
def Q3h (toks : List Tok) : Nat := if Q1t toks = [114, 117, 108, 101] then 1 else 0
def Qk5 (toks : List Tok) : Prop :=
 (Q1t toks = [122, 111, 110, 101] ∧ 3 ≤ toks.length ∧ -64800 ≤ (toks.getD 2 (0, [], 0)).2.2 ∧ (toks.getD 2 (0, [], 0)).2.2 ≤ 64800) ∨
 (Q1t toks = [114, 117, 108, 101] ∧ 8 ≤ toks.length ∧ Qlf toks) ∨
 (Q1t toks = [112, 101, 114, 115, 111, 110] ∧ (3 ≤ toks.length ∧ toks.length ≤ 1000) ∧ ∀ i, i < toks.length → ((toks.getD i (0, [], 0)).2.1 = [119, 101, 101, 107] ∨ (toks.getD i (0, [], 0)).2.1 = [114, 101, 115, 116]) → i + 1 < toks.length) ∨
 (Q1t toks = [113, 117, 105, 101, 116] ∧ WinF toks) ∨
 (Q1t toks = [99, 97, 108, 101, 110, 100, 97, 114] ∧ 3 ≤ toks.length) ∨
 (Q1t toks = [100, 97, 121, 115] ∧ 1 ≤ toks.length ∧ toks.length ≤ 3) ∨
 (Q1t toks = [115, 99, 104, 101, 100, 117, 108, 101] ∧ 2 ≤ toks.length) ∨
 (Q1t toks = [108, 97, 121, 101, 114] ∧ 7 ≤ toks.length ∧ LayF toks) ∨
 (Q1t toks = [109, 101, 109, 98, 101, 114] ∧ 1 ≤ toks.length ∧ toks.length ≤ 3) ∨
 (Q1t toks = [111, 110] ∧ WinF toks) ∨
 ((Q1t toks = [110, 111, 116] ∨ Q1t toks = [111, 110, 108, 121]) ∧ 2 ≤ toks.length) ∨
 ((Q1t toks = [108, 101, 97, 118, 101] ∨ Q1t toks = [111, 118, 101, 114, 114, 105, 100, 101] ∨ Q1t toks = [115, 119, 97, 112]) ∧ (3 ≤ toks.length ∧ toks.length ≤ 5) ∧ EdF toks)
theorem Q1k {w : List UInt8} (h : Q1t toks = w) (hw : w ≠ [114, 117, 108, 101]) : Q3h toks = 0 := by
 unfold Q3h
 rw [h, if_neg hw]
theorem Qm2 (hn : n ≤ 1000) (hr : r ≤ 1000) (h : Inv n r z p c s) (hF : ∀ {β : Type} (k : Bool → Option β), zqjj toks k = k true) (h0 : 0 < toks.length) (hl : Qk5 toks) : Q20 (n + 2) (r + Q3h toks) toks z p c s := by
 rcases hl with ⟨hw, h1, h2⟩ | ⟨hw, h1, h2⟩ | ⟨hw, h1, h2⟩ | ⟨hw, h1⟩ | ⟨hw, h1⟩ | ⟨hw, h1⟩ | ⟨hw, h1⟩ | ⟨hw, h1, h2⟩ | ⟨hw, h1⟩ | ⟨hw, h1⟩ | ⟨hw, h1⟩ | ⟨hw, h1, h2⟩
 ·rw [Q1k hw (by decide)]; exact Qk0 hF h0 hw (Qjw hn h h1 h2)
 ·have : Q3h toks = 1 := if_pos hw
  rw [this]
  exact Qk1 hF h0 hw (Qjx hn hr h h1 h2)
 ·rw [Q1k hw (by decide)]; exact Qha hF h0 hw (Qh7 hn h h1 h2)
 ·rw [Q1k hw (by decide)]; exact Qiv hF h0 hw (Qit hn h h1)
 ·rw [Q1k hw (by decide)]; exact Qes hF h0 hw (Qeq hn h h1)
 ·rw [Q1k hw (by decide)]; exact Qk2 hF h0 hw (Qjy hn h h1)
 ·rw [Q1k hw (by decide)]; exact Qet hF h0 hw (Qer hn h h1)
 ·rw [Q1k hw (by decide)]; exact Qiw hF h0 hw (Qiu hn h h1 h2)
 ·rw [Q1k hw (by decide)]; exact Qhb hF h0 hw (Qh9 hn h h1)
 ·rw [Q1k hw (by decide)]; exact Qm1 hF h0 hw (Qh8 hn h h1)
 ·rcases hw with hw | hw
  ·rw [Q1k hw (by decide)]; exact Qky hF h0 hw (Qee hn h h1)
  ·rw [Q1k hw (by decide)]; exact Qk3 hF h0 hw (Qee hn h h1)
 ·rcases hw with hw | hw | hw
  ·rw [Q1k hw (by decide)]; exact Qix hF h0 hw (Q9q hn h h1 h2)
  ·rw [Q1k hw (by decide)]; exact Qeu hF h0 hw (Q9q hn h h1 h2)
  ·rw [Q1k hw (by decide)]; exact Qk4 hF h0 hw (Q9q hn h h1 h2)
end
end
end Go.Lift
namespace Go.Lift
open Go.RowKit Go.IntWalk
noncomputable section
variable [Sl]
set_option linter.unusedSectionVars false
set_option linter.unusedVariables false
set_option linter.unusedSimpArgs false
set_option maxRecDepth 10000
def Qf3 (b : zqg) (toks : List Tok) (e : Int) (b' : zqg) : Prop := Qjz toks b.1 b.2.1 b.2.2.1 b.2.2.2 e b'.1 b'.2.1 b'.2.2.1 b'.2.2.2
def InvC (n r : Nat) (b : zqg) : Prop := Inv n r b.1 b.2.1 b.2.2.1 b.2.2.2
def Run : List Ln → zqg → zqg → Prop
 | [], b, b' => b = b'
 | p :: ps, b, b'' => ∃ b', Qf3 b p.2 0 b' ∧ Run ps b' b''
def Q1a : List Ln → Nat
 | [] => 0
 | p :: ps => Q3h p.2 + Q1a ps
def Qj (p : Ln) : Prop := Fine p ∧ Qk5 p.2
theorem Qk6 : ∀ (ps : List Ln) (n r : Nat) (b : zqg), (∀ p ∈ ps, Qj p) → InvC n r b → n + 2 * ps.length ≤ 1000 → r + Q1a ps ≤ 1000 →
  (∃ b', Run ps b b' ∧ InvC (n + 2 * ps.length) (r + Q1a ps) b') ∨ (∃ a p q b' e b'', ps = a ++ p :: q ∧ Run a b b' ∧ InvC (n + 2 * a.length) (r + Q1a a) b' ∧ e ≠ 0 ∧ Qf3 b' p.2 e b'')
 | [], n, r, b, _, hi, _, _ => .inl ⟨b, rfl, hi⟩
 | p :: ps, n, r, b, hg, hi, hn, hr => by
  obtain ⟨hf, hl⟩ := hg p (List.mem_cons_self ..)
  simp only [List.length_cons, Q1a] at hn hr
  obtain ⟨e, z', p', c', s', h1, h2⟩ := Qm2 (by omega) (by omega) hi hf.form hf.few.1 hl
  by_cases he : e = 0
  ·subst he
   rcases Qk6 ps (n + 2) (r + Q3h p.2) (z', p', c', s') (fun q hq => hg q (List.mem_cons_of_mem _ hq)) (h1 rfl) (by omega) (by omega) with ⟨b', g1, g2⟩ | ⟨a, p0, q, b', e', b'', g1, g2, g3, g4, g5⟩
   ·refine .inl ⟨b', ⟨_, h2, g1⟩, ?_⟩
    simp only [List.length_cons, Q1a]
    exact g2.mono (by omega) (by omega)
   ·refine .inr ⟨p :: a, p0, q, b', e', b'', by rw [g1]; rfl, ⟨_, h2, g2⟩, ?_, g4, g5⟩
    simp only [List.length_cons, Q1a]
    exact g3.mono (by omega) (by omega)
  ·exact .inr ⟨[], p, ps, b, e, (z', p', c', s'), rfl, rfl, hi, he, h2⟩
section
variable {β : Type}
theorem Qgf {k1 : zqv1 β} {k2 : zqv2 β} {l : List Stm} {rest : List Stm} (hl : l.length ≤ 1000) : ∀ (a : List Ln) (i m : Nat) (b b' : zqg), Run a b b' → l.drop i = stm i a ++ rest →
  zqvd (m + a.length) k1 k2 l (l.length : Int) (i : Int) [] [] [] [] b.1 b.2.1 b.2.2.1 b.2.2.2 = zqvd m k1 k2 l (l.length : Int) ((i + a.length : Nat) : Int) [] [] [] [] b'.1 b'.2.1 b'.2.2.1 b'.2.2.2
 | [], i, m, b, b', h, _ => by
  have h : b = b' := h
  rw [h]; rfl
 | p :: ps, i, m, b, b'', ⟨b', h1, h2⟩, hd => by
  obtain ⟨hi, hg, hd'⟩ := Q56 (d := ((0 : Int), ([] : List Tok))) (w := ((i : Int) + 1, p.2)) (r := stm (i + 1) ps ++ rest) hd
  rw [List.length_cons, show m + (ps.length + 1) = (m + ps.length) + 1 by omega]
  refine (h1 k1 k2 (m + ps.length) i l _ hi hl hg).trans ?_
  refine (Q53 rfl).trans ?_
  have := Qgf (k1 := k1) (k2 := k2) hl ps (i + 1) m b' b'' h2 hd'
  rw [show ((i + 1 : Nat) : Int) = (i : Int) + 1 by omega] at this
  rw [this, show i + (ps.length + 1) = i + 1 + ps.length by omega]
theorem Qhw : ∀ (n : Nat) (ps qs : List Ln), stm n (ps ++ qs) = stm n ps ++ stm (n + ps.length) qs
 | n, [], qs => by simp [stm]
 | n, p :: ps, qs => by
  show _ :: stm (n + 1) (ps ++ qs) = _
  rw [Qhw (n + 1) ps qs, List.length_cons, show n + 1 + ps.length = n + (ps.length + 1) by omega]
  rfl
theorem Q8e {n : Nat} (h : n ≤ 1000) : ∃ m, fuel = (m + 1) + n := by
 have := Qo (n := n) (by omega)
 exact ⟨fuel - n - 1, by omega⟩
theorem Qau {n r : Nat} {b : zqg} (h : InvC n r b) (hr : r ≤ 6) {z : zqa} (hz : z ∈ b.1) : ZoneOk z := by
 obtain ⟨h1, h2, h3⟩ := h.zs z hz
 have key : ∀ l : List zq8, (∀ u ∈ l, RuleOk u ∧ u.2.1 ≤ u.1 + 1) → (Q1h l).length ≤ 2 * l.length := by
  intro l
  induction l with
  | nil => intro _; simp [Q1h]
  | cons u l ih =>
   intro hu
   have a1 := hu u (List.mem_cons_self ..)
   have a2 := ih fun v hv => hu v (List.mem_cons_of_mem _ hv)
   unfold Q1h at a2 ⊢
   rw [List.flatMap_cons, List.length_append, List.length_cons, Qgd]
   omega
 have := key _ h3
 exact ⟨h1, fun u hu => (h3 u hu).1, by omega, by omega⟩
theorem Qkz {ps : List Ln} {n r : Nat} {b : zqg} (hp : ps.length ≤ 500) (hr : Run ps zqp b) (hi : InvC n r b) (h6 : r ≤ 6) (k : zqg → Int → Int → Option β) :
  zqvi (stm 0 ps) k = cond (!decide (Q6m Q5j b = 0)) (k zqp 0 (Q6m Q5j b)) (k b 0 0) := by
 unfold zqvi
 rw [Q0]
 unfold zqvh
 iterate 15 refine c_t.trans ?_
 unfold zqvf
 rw [Q0]
 obtain ⟨m, hm⟩ := Q8e (n := ps.length) (by omega)
 have hlen := Qae 0 ps
 rw [hm]
 refine (Qgf (rest := []) (by omega) ps 0 (m + 1) zqp b hr (by simp)).trans ?_
 rw [zqve]
 unfold zqvc
 refine (Q2 (by rw [hlen]; omega)).trans ?_
 exact Qhu (b.1, (b.2.1, (b.2.2.1, b.2.2.2))) Q5j (fun z hz k => Qjv (Qau hi h6 hz) k) _
theorem Qk7 {a q : List Ln} {p : Ln} {b b'' : zqg} {e : Int} (hp : (a ++ p :: q).length ≤ 500) (hr : Run a zqp b) (he : e ≠ 0) (hs : Qf3 b p.2 e b'') (k : zqg → Int → Int → Option β) :
  zqvi (stm 0 (a ++ p :: q)) k = k zqp ((a.length : Int) + 1) e := by
 unfold zqvi
 rw [Q0]
 unfold zqvh
 iterate 15 refine c_t.trans ?_
 unfold zqvf
 rw [Q0]
 rw [List.length_append] at hp
 obtain ⟨m, hm⟩ := Q8e (n := a.length) (by omega)
 have hlen := Qae 0 (a ++ p :: q)
 rw [List.length_append] at hlen
 rw [hm]
 have hst : stm 0 (a ++ p :: q) = stm 0 a ++ (((a.length : Int) + 1, p.2) :: stm (a.length + 1) q) := by
  rw [Qhw, Nat.zero_add]; rfl
 refine (Qgf (rest := ((a.length : Int) + 1, p.2) :: stm (a.length + 1) q) (by omega) a 0 (m + 1) zqp b hr (by rw [hst]; rfl)).trans ?_
 have hd : (stm 0 (a ++ p :: q)).drop a.length = ((a.length : Int) + 1, p.2) :: stm (a.length + 1) q := by
  rw [hst]
  exact List.drop_left' (Qae 0 a)
 obtain ⟨hi, hg, _⟩ := Q56 (d := ((0 : Int), ([] : List Tok))) hd
 rw [Nat.zero_add]
 refine (hs _ _ m a.length _ _ hi (by omega) hg).trans ?_
 exact Q54 he
theorem Qdp (h0 : ∀ (k : Int → List Tok → Option β), zqp2 [] k = k 0 []) {ps : List Ln} {n r : Nat} {b : zqg} (hf : ∀ p ∈ ps, Fine p) (hp : ps.length ≤ 500) (hr : Run ps zqp b) (hi : InvC n r b) (h6 : r ≤ 6) (k : zqg → Int → Int → Option β) :
  zqvm (Qh ps) k = cond (!decide (Q6m Q5j b = 0)) (k zqp 0 (Q6m Q5j b)) (k b 0 0) := by
 unfold zqvm
 rw [Q0]
 unfold zqvl
 refine (Qas h0 hf hp _).trans ?_
 refine (Q53 rfl).trans ?_
 exact Qkz hp hr hi h6 _
theorem Ql0 (h0 : ∀ (k : Int → List Tok → Option β), zqp2 [] k = k 0 []) {a q : List Ln} {p : Ln} {b b'' : zqg} {e : Int} (hf : ∀ x ∈ a ++ p :: q, Fine x) (hp : (a ++ p :: q).length ≤ 500) (hr : Run a zqp b) (he : e ≠ 0) (hs : Qf3 b p.2 e b'') (k : zqg → Int → Int → Option β) :
  zqvm (Qh (a ++ p :: q)) k = k zqp ((a.length : Int) + 1) e := by
 unfold zqvm
 rw [Q0]
 unfold zqvl
 refine (Qas h0 hf hp _).trans ?_
 refine (Q53 rfl).trans ?_
 exact Qk7 hp hr he hs _
theorem Qhx {K : zqvv β} {s : List UInt8} {line : Int} (hs : s.length ≤ 1000000) : ∀ (w : List UInt8) (r : List UInt8) (a m : Nat) (n : Int), (∀ c ∈ w, c ≠ 10) → s.drop a = w ++ 10 :: r → n < line → (0 ≤ n ∧ n ≤ 1000) →
  zqvz (m + (w.length + 1)) K s line (a : Int) n = zqvz m K s line ((a + (w.length + 1) : Nat) : Int) (n + 1)
 | [], r, a, m, n, _, hd, hn, hb => by
  obtain ⟨hi, hg, _⟩ := Q56 (d := (0 : UInt8)) hd
  rw [List.length_nil, zqw0]
  unfold zqvy
  refine (Q4 (by omega)).trans ?_
  refine (Q4 hn).trans ?_
  refine (Qf (by omega)).trans ?_
  rw [Int.toNat_natCast, hg]
  refine (Q4 (by decide)).trans ?_
  dsimp only
  rw [i64_in (n + 1) (by omega), i64_in ((a : Int) + 1) (by omega)]
  rfl
 | c :: w, r, a, m, n, hc, hd, hn, hb => by
  obtain ⟨hi, hg, hd'⟩ := Q56 (d := (0 : UInt8)) hd
  have hne : c ≠ 10 := hc c (List.mem_cons_self ..)
  have hc10 : ¬ ((c.toNat : Int) = 10) := fun e => hne (UInt8.toNat_inj.1 (by show c.toNat = 10; omega))
  rw [List.length_cons, show m + (w.length + 1 + 1) = (m + (w.length + 1)) + 1 by omega, zqw0]
  unfold zqvy
  refine (Q4 (by omega)).trans ?_
  refine (Q4 hn).trans ?_
  refine (Qf (by omega)).trans ?_
  rw [Int.toNat_natCast, hg]
  refine (Q2 hc10).trans ?_
  dsimp only
  rw [i64_in ((a : Int) + 1) (by omega)]
  have := Qhx (K := K) (line := line) hs w r (a + 1) m n (fun x hx => hc x (List.mem_cons_of_mem _ hx)) hd' hn hb
  rw [show ((a + 1 : Nat) : Int) = (a : Int) + 1 by omega] at this
  rw [this, show a + (w.length + 1 + 1) = a + 1 + (w.length + 1) by omega]
theorem Qgg {K : zqvv β} {s : List UInt8} {line : Int} (hs : s.length ≤ 1000000) (hl : line ≤ 1000) : ∀ (ps : List Ln) (r : List UInt8) (a m : Nat) (n : Int), (∀ p ∈ ps, Fine p) → s.drop a = Qh ps ++ r → n + ps.length ≤ line → 0 ≤ n →
  zqvz (m + (Qh ps).length) K s line (a : Int) n = zqvz m K s line ((a + (Qh ps).length : Nat) : Int) (n + ps.length)
 | [], r, a, m, n, _, _, _, _ => by simp [Qh]
 | p :: ps, r, a, m, n, hf, hd, hn, h0 => by
  have hp := hf p (List.mem_cons_self ..)
  rw [List.length_cons] at hn
  have e1 : Qh (p :: ps) = p.1 ++ 10 :: Qh ps := Q5i p ps
  have hd1 : s.drop a = p.1 ++ 10 :: (Qh ps ++ r) := by rw [hd, e1]; simp
  have hd2 : s.drop (a + (p.1.length + 1)) = Qh ps ++ r := by
   rw [← List.drop_drop, hd1, show p.1 ++ 10 :: (Qh ps ++ r) = (p.1 ++ [10]) ++ (Qh ps ++ r) by simp]
   exact List.drop_left' (by simp)
  have hlen : (Qh (p :: ps)).length = (p.1.length + 1) + (Qh ps).length := by rw [e1]; simp; omega
  rw [hlen, show m + ((p.1.length + 1) + (Qh ps).length) = (m + (Qh ps).length) + (p.1.length + 1) by omega,
   Qhx hs p.1 _ a (m + (Qh ps).length) n hp.nonl hd1 (by omega) (by omega),
   Qgg hs hl ps r (a + (p.1.length + 1)) m (n + 1) (fun q hq => hf q (List.mem_cons_of_mem _ hq)) hd2 (by omega) (by omega), List.length_cons, Nat.add_assoc]
  rw [show n + 1 + (ps.length : Int) = n + ((ps.length + 1 : Nat) : Int) by omega]
theorem Qm3 {K : zqvv β} {a q : List Ln} (hf : ∀ p ∈ a ++ q, Fine p) (hl : (a ++ q).length ≤ 500) (hq : q ≠ []) :
  zqw1 K (Qh (a ++ q)) ((a.length : Int) + 1) 0 1 = K (Qh (a ++ q)) ((a.length : Int) + 1) ((Qh a).length : Int) := by
 have hL := Q3g hf
 have hA := Q3g (ps := a) fun p hp => hf p (List.mem_append_left _ hp)
 rw [List.length_append] at hl
 unfold zqw1
 rw [Q0]
 have hfu := Qo (n := (Qh a).length + 1) (by omega)
 obtain ⟨m, hm⟩ : ∃ m, fuel = (m + 1) + (Qh a).length := ⟨fuel - (Qh a).length - 1, by omega⟩
 rw [hm]
 have hs : (Qh (a ++ q)).length ≤ 1000000 := by rw [List.length_append] at hL; omega
 refine (Qgg (K := K) (line := (a.length : Int) + 1) hs (by omega) a (Qh q) 0 (m + 1) 1 (fun p hp => hf p (List.mem_append_left _ hp)) (by rw [Q47]; rfl) (by omega) (by omega)).trans ?_
 rw [zqw0]
 unfold zqvy
 have hlt : (Qh a).length < (Qh (a ++ q)).length := by
  rw [Q47, List.length_append]
  cases q with
  | nil => exact absurd rfl hq
  | cons x q => rw [Q5i]; simp only [List.length_append, List.length_cons]; omega
 rw [Nat.zero_add]
 refine (Q4 (by omega)).trans ?_
 refine (Q2 (by omega)).trans ?_
 rfl
end
end
end Go.Lift
namespace Go.Lift
open Go.RowKit Go.IntWalk
noncomputable section
variable [Sl]
set_option linter.unusedSectionVars false
set_option linter.unusedVariables false
set_option linter.unusedSimpArgs false
set_option maxRecDepth 10000
structure SndFacts : Prop where
 sane : ∀ {β : Type} (k : Bool → Option β), zqvq k = k true
 empty : ∀ {β : Type} (k : Int → List Tok → Option β), zqp2 [] k = k 0 []
 good : ∀ p ∈ Q3u, Qj p
 same : ∀ {β : Type} (k : Bool → Option β), zqfn zqp zqp k = k true
theorem Q5k : ∀ (a b : List Ln), Q1a (a ++ b) = Q1a a + Q1a b
 | [], b => (Nat.zero_add _).symm
 | p :: a, b => by
  show Q3h p.2 + Q1a (a ++ b) = Q3h p.2 + Q1a a + Q1a b
  rw [Q5k a b]
  omega
theorem Qk8 (t : List Tok) : Q3h t ≤ 1 := by
 unfold Q3h
 split <;> omega
theorem Ql1 : ∀ p ∈ lnDraw, p ∈ Q3u := fun p hp => List.mem_append_left [ln36, ln37, ln38] hp
section
variable {β : Type}
theorem Ql2 (k : List (List UInt8) → Option β) : zq1m k = k (lnDraw.map (·.1)) := by
 unfold zq1m
 rw [Q0]
 unfold zq1l
 rfl
def Qiy (ls : List Ln) : Prop := (∀ p ∈ ls, p ∈ Q3u) ∧ ls.length ≤ 11 ∧ Q1a ls ≤ 4
theorem Qmq {G : Option β → Prop} (F : SndFacts) {K : zq9o β} (hk : ∀ ls d', Q32 d' → Qiy ls → G (K (Qh ls) d')) : ∀ (j m : Nat) (d : Dice) (ls : List Ln), j < m → Q32 d → (∀ p ∈ ls, p ∈ Q3u) → ls.length + j ≤ 11 → Q1a ls + j ≤ 4 →
  G (zq9v m K (Qh ls) (j : Int) d (lnDraw.map (·.1))) := by
 intro j
 induction j with
 | zero =>
  intro m d ls hm hd h1 h2 h3
  obtain ⟨m, rfl⟩ : ∃ m', m = m' + 1 := ⟨m - 1, by omega⟩
  simp only [zq9w, zq9u]
  exact w_n (by simp) (hk _ _ hd ⟨h1, h2, h3⟩)
 | succ j ih =>
  intro m d ls hm hd h1 h2 h3
  obtain ⟨m, rfl⟩ : ∃ m', m = m' + 1 := ⟨m - 1, by omega⟩
  simp only [zq9w, zq9u]
  refine w_p (by omega) ?_
  have hlen : (lnDraw.map (·.1)).length = 36 := rfl
  rw [hlen]
  refine Qcy hd ⟨by omega, by omega⟩ fun x d1 g1 g2 hd1 => ?_
  refine w_i ⟨g1, g2⟩ ?_
  obtain ⟨q, rfl⟩ : ∃ q : Nat, x = q := ⟨x.toNat, by omega⟩
  rw [Int.toNat_natCast]
  have hq : q < lnDraw.length := by show q < 36; omega
  have hm' : lnDraw.getD q ([], []) ∈ Q3u := Ql1 _ (Qq hq)
  have e : (lnDraw.map (·.1)).getD q [] = (lnDraw.getD q ([], [])).1 := by simp [List.getD, hq]
  rw [e]
  generalize lnDraw.getD q ([], []) = ln at hm'
  have hf := (F.good ln hm').1.len
  have hfl := Q3g (ps := ls) fun p hp => (F.good p (h1 p hp)).1
  refine w_p (by show ln.1.length + 1 ≤ _; omega) ?_
  refine w_p (by rw [List.length_append]; show (Qh ls).length + (ln.1.length + 1) ≤ _; omega) ?_
  rw [i64_in _ (by omega), show ((j + 1 : Nat) : Int) - 1 = (j : Int) by omega]
  have e2 : Qh ls ++ (ln.1 ++ [10]) = Qh (ls ++ [ln]) := by rw [Q47]; simp [Qh]
  rw [e2]
  have := Qk8 ln.2
  refine ih m d1 _ (by omega) hd1 (Q3z h1 hm') (by simp; omega) ?_
  rw [Q5k]
  show Q1a ls + (Q3h ln.2 + 0) + j ≤ 4
  omega
theorem Qgh {G : Option β → Prop} (F : SndFacts) {K : zq9r β} {out : List UInt8} {d : Dice} {ls : List Ln} (hd : Q32 d) (ho : out = Qh ls) (h1 : ∀ p ∈ ls, p ∈ Q3u) (h2 : ls.length ≤ 7) (h3 : Q1a ls = 0)
  (hk : ∀ ls d', Q32 d' → Qiy ls → G (K (Qh ls) d')) : G (zqa0 K out d) := by
 subst ho
 unfold zqa0
 rw [Q0]
 unfold zq9z
 refine w_e (Ql2 _) ?_
 refine Qcy hd ⟨by omega, by omega⟩ fun x d1 g1 g2 hd1 => ?_
 obtain ⟨q, rfl⟩ : ∃ q : Nat, x = q := ⟨x.toNat, by omega⟩
 unfold zq9x
 rw [Q0]
 exact Qmq F (fun ls d' hd' hl => hk ls d' hd' hl) q fuel d1 ls (Qo (by omega)) hd1 h1 (by omega) (by omega)
theorem Qaf : (∀ p ∈ Q9l, p ∈ Q3u) ∧ Q1a Q9l = 0 := by
 refine ⟨fun p hp => ?_, by decide⟩
 simp only [Q9l, List.mem_cons, List.not_mem_nil, or_false] at hp
 simp only [Q3u, List.mem_cons, List.not_mem_nil, or_false]
 rcases hp with rfl | rfl | rfl <;> simp
theorem Qhy : (∀ p ∈ Qco, p ∈ Q3u) ∧ Q1a Qco = 0 := by
 refine ⟨fun p hp => ?_, by decide⟩
 simp only [Qco, List.mem_cons, List.not_mem_nil, or_false] at hp
 simp only [Q3u, List.mem_cons, List.not_mem_nil, or_false]
 rcases hp with rfl | rfl | rfl | rfl <;> simp
theorem Qmr {G : Option β → Prop} (F : SndFacts) {k : List UInt8 → Dice → Option β} {d : Dice} (hd : Q32 d) (hk : ∀ ls d', Q32 d' → Qiy ls → G (k (Qh ls) d')) : G (zqa3 d k) := by
 unfold zqa3
 rw [Q0]
 unfold zqa2
 refine Qcy hd ⟨by omega, by omega⟩ fun x d1 g1 g2 hd1 => ?_
 refine w_d (fun _ => ?_) (fun _ => ?_)
 ·refine Qcy hd1 ⟨by omega, by omega⟩ fun y d2 g3 g4 hd2 => ?_
  refine w_d (fun _ => ?_) (fun _ => ?_)
  ·refine w_p (by decide) ?_
   refine Qgh F (ls := Q9l ++ Qco) hd2 (by rw [Q47]; rfl) (fun p hp => ?_) (by decide) (by rw [Q5k, Qaf.2, Qhy.2]) fun ls d' hd' hl => hk ls d' hd' hl
   rcases List.mem_append.1 hp with h | h
   ·exact Qaf.1 p h
   ·exact Qhy.1 p h
  ·exact Qgh F (ls := Q9l) hd2 rfl Qaf.1 (by decide) Qaf.2 fun ls d' hd' hl => hk ls d' hd' hl
 ·exact Qgh F (ls := []) hd1 rfl (fun p hp => absurd hp List.not_mem_nil) (by decide) rfl fun ls d' hd' hl => hk ls d' hd' hl
theorem Qlg : InvC 0 0 zqp where
 lz := Nat.le_refl _
 lp := Nat.le_refl _
 lc := Nat.le_refl _
 ls := Nat.le_refl _
 zs := fun x hx => absurd hx List.not_mem_nil
 ps := fun x hx => absurd hx List.not_mem_nil
 cs := fun x hx => absurd hx List.not_mem_nil
 ss := fun x hx => absurd hx List.not_mem_nil
theorem Qm4 {K : zqvv β} {s : List UInt8} (hs : s.length ≤ 1000000) : zqw1 K s 0 0 1 = K s 0 0 := by
 unfold zqw1
 rw [Q0]
 obtain ⟨m, hm⟩ := Q8e (n := 0) (by omega)
 rw [hm, Nat.add_zero, zqw0]
 unfold zqvy
 by_cases h : (0 : Int) < (s.length : Int)
 ·refine (Q4 h).trans ?_
  exact Q2 (by decide)
 ·exact Q2 h
theorem Qnq (F : SndFacts) (t : List Int) (k : Bool → Option β) : zqw4 t k = k true := by
 unfold zqw4
 rw [Q0]
 unfold zqw3
 refine (Qku _ _).trans ?_
 by_cases h0 : ¬ (t.length : Int) ≤ 500
 ·rw [decide_eq_false h0]
  exact F.sane _
 have h1 : (t.length : Int) ≤ 500 := by omega
 refine (Q53 h1).trans ?_
 refine (Qly _ _).trans ?_
 refine Qmr (G := fun A => A = k true) F (Qlz h1) fun ls d' hd' hls => ?_
 obtain ⟨g1, g2, g3⟩ := hls
 have hgood : ∀ p ∈ ls, Qj p := fun p hp => F.good p (g1 p hp)
 have hfine : ∀ p ∈ ls, Fine p := fun p hp => (hgood p hp).1
 have hL := Q3g hfine
 rcases Qk6 ls 0 0 zqp hgood Qlg (by omega) (by omega) with ⟨b, r1, r2⟩ | ⟨a, p, q, b, e, b'', r1, r2, r3, r4, r5⟩
 ·refine (Qdp (n := 0 + 2 * ls.length) (r := 0 + Q1a ls) (fun k => F.empty k) hfine (by omega) r1 r2 (by omega) _).trans ?_
  by_cases hv : Q6m Q5j b = 0
  ·refine (Q53 hv).trans ?_
   refine (Q4 rfl).trans ?_
   refine (Q4 rfl).trans ?_
   refine (Qhu b Q5j (fun z hz k => Qjv (Qau r2 (by omega) hz) k) _).trans ?_
   exact (Q4 hv).trans (F.sane _)
  ·refine (Q54 hv).trans ?_
   refine (Q2 hv).trans ?_
   refine (F.same _).trans ?_
   refine c_f.trans ?_
   refine (Qm4 (by omega)).trans ?_
   refine (c_b (by rw [decide_eq_true (show (0 : Int) ≤ ((Qh ls).length : Int) by omega)]; rfl)).trans ?_
   refine (Qdp (n := 0) (r := 0) (ps := []) (fun k => F.empty k) (fun p hp => absurd hp List.not_mem_nil) (by simp) rfl Qlg (by omega) _).trans ?_
   refine c_same.trans ?_
   refine (Q4 rfl).trans ?_
   exact F.sane _
 ·have hpa : ∀ x ∈ a, Fine x := fun x hx => hfine x (by rw [r1]; exact List.mem_append_left _ hx)
  have hna : Q1a a ≤ 4 := by rw [r1, Q5k] at g3; omega
  have hla : a.length ≤ 11 := by rw [r1, List.length_append] at g2; omega
  have hA := Q3g hpa
  rw [r1] at hfine hL g2 ⊢
  refine (Ql0 (fun k => F.empty k) hfine (by omega) r2 r4 r5 _).trans ?_
  refine (Q2 r4).trans ?_
  refine (F.same _).trans ?_
  refine c_f.trans ?_
  refine (Qm3 hfine (by omega) (by simp)).trans ?_
  have hle : (Qh a).length ≤ (Qh (a ++ p :: q)).length := by rw [Q47]; simp
  refine (c_b (by rw [decide_eq_true (show (0 : Int) ≤ ((Qh a).length : Int) by omega), decide_eq_true (show ((Qh a).length : Int) ≤ ((Qh (a ++ p :: q)).length : Int) by omega)]; rfl)).trans ?_
  have e1 : List.drop (Int.toNat (0 : Int)) (List.take (Int.toNat ((Qh a).length : Int)) (Qh (a ++ p :: q))) = Qh a := by
   rw [Int.toNat_natCast, Q47, List.take_left]
   rfl
  rw [e1]
  refine (Qdp (n := 0 + 2 * a.length) (r := 0 + Q1a a) (fun k => F.empty k) hpa (by omega) r2 r3 (by omega) _).trans ?_
  have hne : ¬ ((a.length : Int) + 1 = 0) := by omega
  refine c_same.trans ?_
  refine (Q2 hne).trans ?_
  refine (Q4 rfl).trans ?_
  exact F.sane _
end
end
end Go.Lift
namespace Go.Lift
open Go.RowKit Go.IntWalk
noncomputable section
set_option maxRecDepth 100000
set_option linter.unusedVariables false
theorem Q5u {t : List Tok} (h : (List.range t.length).all (fun i => !(decide ((t.getD i (0, [], 0)).2.1 = [119, 101, 101, 107]) || decide ((t.getD i (0, [], 0)).2.1 = [114, 101, 115, 116])) || decide (i + 1 < t.length)) = true) :
  ∀ i, i < t.length → ((t.getD i (0, [], 0)).2.1 = [119, 101, 101, 107] ∨ (t.getD i (0, [], 0)).2.1 = [114, 101, 115, 116]) → i + 1 < t.length := by
 intro i hi hw
 have := List.all_eq_true.1 h i (List.mem_range.2 hi)
 rcases hw with g | g
 ·rw [decide_eq_true g] at this; simpa using this
 ·rw [decide_eq_true g] at this; simpa using this
theorem Qnr : @Qj ⟨0⟩ ln0 := ⟨@Fine.mk ⟨0⟩ ln0 (fun k => by kernel_rfl) (fun k => by kernel_rfl) (by decide) (by decide) (by decide), .inl ⟨rfl, by decide, by decide, by decide⟩⟩
theorem Qns : @Qj ⟨0⟩ ln1 := ⟨@Fine.mk ⟨0⟩ ln1 (fun k => by kernel_rfl) (fun k => by kernel_rfl) (by decide) (by decide) (by decide), .inl ⟨rfl, by decide, by decide, by decide⟩⟩
theorem Qnt : @Qj ⟨0⟩ ln2 := ⟨@Fine.mk ⟨0⟩ ln2 (fun k => by kernel_rfl) (fun k => by kernel_rfl) (by decide) (by decide) (by decide), .inr (.inl ⟨rfl, by decide, ⟨3, true, 5, true, 6, true, fun k => by kernel_rfl, fun k => by kernel_rfl, fun k => by kernel_rfl, fun _ => ⟨⟨by decide, by decide, by decide, by decide, by decide, by decide, by decide⟩, by decide⟩⟩⟩)⟩
theorem Qnu : @Qj ⟨0⟩ ln3 := ⟨@Fine.mk ⟨0⟩ ln3 (fun k => by kernel_rfl) (fun k => by kernel_rfl) (by decide) (by decide) (by decide), .inr (.inl ⟨rfl, by decide, ⟨10, true, 5, true, 6, true, fun k => by kernel_rfl, fun k => by kernel_rfl, fun k => by kernel_rfl, fun _ => ⟨⟨by decide, by decide, by decide, by decide, by decide, by decide, by decide⟩, by decide⟩⟩⟩)⟩
theorem Qnv : @Qj ⟨0⟩ ln4 := ⟨@Fine.mk ⟨0⟩ ln4 (fun k => by kernel_rfl) (fun k => by kernel_rfl) (by decide) (by decide) (by decide), .inr (.inl ⟨rfl, by decide, ⟨2, true, 3, true, 6, true, fun k => by kernel_rfl, fun k => by kernel_rfl, fun k => by kernel_rfl, fun _ => ⟨⟨by decide, by decide, by decide, by decide, by decide, by decide, by decide⟩, by decide⟩⟩⟩)⟩
theorem Qnw : @Qj ⟨0⟩ ln5 := ⟨@Fine.mk ⟨0⟩ ln5 (fun k => by kernel_rfl) (fun k => by kernel_rfl) (by decide) (by decide) (by decide), .inr (.inl ⟨rfl, by decide, ⟨0, false, 5, true, 6, true, fun k => by kernel_rfl, fun k => by kernel_rfl, fun k => by kernel_rfl, fun h => by cases h⟩⟩)⟩
theorem Qnx : @Qj ⟨0⟩ ln6 := ⟨@Fine.mk ⟨0⟩ ln6 (fun k => by kernel_rfl) (fun k => by kernel_rfl) (by decide) (by decide) (by decide), .inr (.inr (.inl ⟨rfl, by decide, Q5u (by decide)⟩))⟩
theorem Qny : @Qj ⟨0⟩ ln7 := ⟨@Fine.mk ⟨0⟩ ln7 (fun k => by kernel_rfl) (fun k => by kernel_rfl) (by decide) (by decide) (by decide), .inr (.inr (.inl ⟨rfl, by decide, Q5u (by decide)⟩))⟩
theorem Qnz : @Qj ⟨0⟩ ln8 := ⟨@Fine.mk ⟨0⟩ ln8 (fun k => by kernel_rfl) (fun k => by kernel_rfl) (by decide) (by decide) (by decide), .inr (.inr (.inl ⟨rfl, by decide, Q5u (by decide)⟩))⟩
theorem Qo0 : @Qj ⟨0⟩ ln9 := ⟨@Fine.mk ⟨0⟩ ln9 (fun k => by kernel_rfl) (fun k => by kernel_rfl) (by decide) (by decide) (by decide), .inr (.inr (.inl ⟨rfl, by decide, Q5u (by decide)⟩))⟩
theorem Qms : @Qj ⟨0⟩ ln10 := ⟨@Fine.mk ⟨0⟩ ln10 (fun k => by kernel_rfl) (fun k => by kernel_rfl) (by decide) (by decide) (by decide), .inr (.inr (.inl ⟨rfl, by decide, Q5u (by decide)⟩))⟩
theorem Qmt : @Qj ⟨0⟩ ln11 := ⟨@Fine.mk ⟨0⟩ ln11 (fun k => by kernel_rfl) (fun k => by kernel_rfl) (by decide) (by decide) (by decide), .inr (.inr (.inr (.inl ⟨rfl, ⟨(79200, 86400), 0, fun k => by kernel_rfl⟩⟩)))⟩
theorem Qmu : @Qj ⟨0⟩ ln12 := ⟨@Fine.mk ⟨0⟩ ln12 (fun k => by kernel_rfl) (fun k => by kernel_rfl) (by decide) (by decide) (by decide), .inr (.inr (.inr (.inl ⟨rfl, ⟨(86400, 79200), 0, fun k => by kernel_rfl⟩⟩)))⟩
theorem Qmv : @Qj ⟨0⟩ ln13 := ⟨@Fine.mk ⟨0⟩ ln13 (fun k => by kernel_rfl) (fun k => by kernel_rfl) (by decide) (by decide) (by decide), .inr (.inr (.inr (.inl ⟨rfl, ⟨(0, 0), 2, fun k => by kernel_rfl⟩⟩)))⟩
theorem Qmw : @Qj ⟨0⟩ ln14 := ⟨@Fine.mk ⟨0⟩ ln14 (fun k => by kernel_rfl) (fun k => by kernel_rfl) (by decide) (by decide) (by decide), .inr (.inr (.inr (.inr (.inl ⟨rfl, by decide⟩))))⟩
theorem Qmx : @Qj ⟨0⟩ ln15 := ⟨@Fine.mk ⟨0⟩ ln15 (fun k => by kernel_rfl) (fun k => by kernel_rfl) (by decide) (by decide) (by decide), .inr (.inr (.inr (.inr (.inr (.inl ⟨rfl, by decide⟩)))))⟩
theorem Qmy : @Qj ⟨0⟩ ln16 := ⟨@Fine.mk ⟨0⟩ ln16 (fun k => by kernel_rfl) (fun k => by kernel_rfl) (by decide) (by decide) (by decide), .inr (.inr (.inr (.inr (.inr (.inl ⟨rfl, by decide⟩)))))⟩
theorem Qmz : @Qj ⟨0⟩ ln17 := ⟨@Fine.mk ⟨0⟩ ln17 (fun k => by kernel_rfl) (fun k => by kernel_rfl) (by decide) (by decide) (by decide), .inr (.inr (.inr (.inr (.inr (.inr (.inl ⟨rfl, by decide⟩))))))⟩
theorem Qn0 : @Qj ⟨0⟩ ln18 := ⟨@Fine.mk ⟨0⟩ ln18 (fun k => by kernel_rfl) (fun k => by kernel_rfl) (by decide) (by decide) (by decide), .inr (.inr (.inr (.inr (.inr (.inr (.inl ⟨rfl, by decide⟩))))))⟩
theorem Qn1 : @Qj ⟨0⟩ ln19 := ⟨@Fine.mk ⟨0⟩ ln19 (fun k => by kernel_rfl) (fun k => by kernel_rfl) (by decide) (by decide) (by decide), .inr (.inr (.inr (.inr (.inr (.inr (.inr (.inl ⟨rfl, by decide, ⟨1, fun k => by kernel_rfl⟩⟩)))))))⟩
theorem Qn2 : @Qj ⟨0⟩ ln20 := ⟨@Fine.mk ⟨0⟩ ln20 (fun k => by kernel_rfl) (fun k => by kernel_rfl) (by decide) (by decide) (by decide), .inr (.inr (.inr (.inr (.inr (.inr (.inr (.inl ⟨rfl, by decide, ⟨0, fun k => by kernel_rfl⟩⟩)))))))⟩
theorem Qn3 : @Qj ⟨0⟩ ln21 := ⟨@Fine.mk ⟨0⟩ ln21 (fun k => by kernel_rfl) (fun k => by kernel_rfl) (by decide) (by decide) (by decide), .inr (.inr (.inr (.inr (.inr (.inr (.inr (.inl ⟨rfl, by decide, ⟨0, fun k => by kernel_rfl⟩⟩)))))))⟩
theorem Qn4 : @Qj ⟨0⟩ ln22 := ⟨@Fine.mk ⟨0⟩ ln22 (fun k => by kernel_rfl) (fun k => by kernel_rfl) (by decide) (by decide) (by decide), .inr (.inr (.inr (.inr (.inr (.inr (.inr (.inl ⟨rfl, by decide, ⟨-1, fun k => by kernel_rfl⟩⟩)))))))⟩
theorem Qn5 : @Qj ⟨0⟩ ln23 := ⟨@Fine.mk ⟨0⟩ ln23 (fun k => by kernel_rfl) (fun k => by kernel_rfl) (by decide) (by decide) (by decide), .inr (.inr (.inr (.inr (.inr (.inr (.inr (.inr (.inl ⟨rfl, by decide⟩))))))))⟩
theorem Qn6 : @Qj ⟨0⟩ ln24 := ⟨@Fine.mk ⟨0⟩ ln24 (fun k => by kernel_rfl) (fun k => by kernel_rfl) (by decide) (by decide) (by decide), .inr (.inr (.inr (.inr (.inr (.inr (.inr (.inr (.inl ⟨rfl, by decide⟩))))))))⟩
theorem Qn7 : @Qj ⟨0⟩ ln25 := ⟨@Fine.mk ⟨0⟩ ln25 (fun k => by kernel_rfl) (fun k => by kernel_rfl) (by decide) (by decide) (by decide), .inr (.inr (.inr (.inr (.inr (.inr (.inr (.inr (.inl ⟨rfl, by decide⟩))))))))⟩
theorem Qn8 : @Qj ⟨0⟩ ln26 := ⟨@Fine.mk ⟨0⟩ ln26 (fun k => by kernel_rfl) (fun k => by kernel_rfl) (by decide) (by decide) (by decide), .inr (.inr (.inr (.inr (.inr (.inr (.inr (.inr (.inr (.inl ⟨rfl, ⟨(32400, 61200), 0, fun k => by kernel_rfl⟩⟩)))))))))⟩
theorem Qn9 : @Qj ⟨0⟩ ln27 := ⟨@Fine.mk ⟨0⟩ ln27 (fun k => by kernel_rfl) (fun k => by kernel_rfl) (by decide) (by decide) (by decide), .inr (.inr (.inr (.inr (.inr (.inr (.inr (.inr (.inr (.inl ⟨rfl, ⟨(118800, 604800), 0, fun k => by kernel_rfl⟩⟩)))))))))⟩
theorem Qna : @Qj ⟨0⟩ ln28 := ⟨@Fine.mk ⟨0⟩ ln28 (fun k => by kernel_rfl) (fun k => by kernel_rfl) (by decide) (by decide) (by decide), .inr (.inr (.inr (.inr (.inr (.inr (.inr (.inr (.inr (.inr (.inl ⟨.inl rfl, by decide⟩))))))))))⟩
theorem Qnb : @Qj ⟨0⟩ ln29 := ⟨@Fine.mk ⟨0⟩ ln29 (fun k => by kernel_rfl) (fun k => by kernel_rfl) (by decide) (by decide) (by decide), .inr (.inr (.inr (.inr (.inr (.inr (.inr (.inr (.inr (.inr (.inl ⟨.inr rfl, by decide⟩))))))))))⟩
theorem Qnc : @Qj ⟨0⟩ ln30 := ⟨@Fine.mk ⟨0⟩ ln30 (fun k => by kernel_rfl) (fun k => by kernel_rfl) (by decide) (by decide) (by decide), .inr (.inr (.inr (.inr (.inr (.inr (.inr (.inr (.inr (.inr (.inl ⟨.inr rfl, by decide⟩))))))))))⟩
theorem Qnd : @Qj ⟨0⟩ ln31 := ⟨@Fine.mk ⟨0⟩ ln31 (fun k => by kernel_rfl) (fun k => by kernel_rfl) (by decide) (by decide) (by decide), .inr (.inr (.inr (.inr (.inr (.inr (.inr (.inr (.inr (.inr (.inr (⟨.inl rfl, by decide, ⟨0, fun k => by kernel_rfl⟩⟩)))))))))))⟩
theorem Qne : @Qj ⟨0⟩ ln32 := ⟨@Fine.mk ⟨0⟩ ln32 (fun k => by kernel_rfl) (fun k => by kernel_rfl) (by decide) (by decide) (by decide), .inr (.inr (.inr (.inr (.inr (.inr (.inr (.inr (.inr (.inr (.inr (⟨.inr (.inl rfl), by decide, ⟨1, fun k => by kernel_rfl⟩⟩)))))))))))⟩
theorem Qnf : @Qj ⟨0⟩ ln33 := ⟨@Fine.mk ⟨0⟩ ln33 (fun k => by kernel_rfl) (fun k => by kernel_rfl) (by decide) (by decide) (by decide), .inr (.inr (.inr (.inr (.inr (.inr (.inr (.inr (.inr (.inr (.inr (⟨.inr (.inl rfl), by decide, ⟨1, fun k => by kernel_rfl⟩⟩)))))))))))⟩
theorem Qng : @Qj ⟨0⟩ ln34 := ⟨@Fine.mk ⟨0⟩ ln34 (fun k => by kernel_rfl) (fun k => by kernel_rfl) (by decide) (by decide) (by decide), .inr (.inr (.inr (.inr (.inr (.inr (.inr (.inr (.inr (.inr (.inr (⟨.inr (.inr rfl), by decide, ⟨2, fun k => by kernel_rfl⟩⟩)))))))))))⟩
theorem Qnh : @Qj ⟨0⟩ ln35 := ⟨@Fine.mk ⟨0⟩ ln35 (fun k => by kernel_rfl) (fun k => by kernel_rfl) (by decide) (by decide) (by decide), .inr (.inr (.inr (.inr (.inr (.inr (.inr (.inr (.inr (.inr (.inr (⟨.inr (.inr rfl), by decide, ⟨2, fun k => by kernel_rfl⟩⟩)))))))))))⟩
theorem Qni : @Qj ⟨0⟩ ln36 := ⟨@Fine.mk ⟨0⟩ ln36 (fun k => by kernel_rfl) (fun k => by kernel_rfl) (by decide) (by decide) (by decide), .inr (.inr (.inl ⟨rfl, by decide, Q5u (by decide)⟩))⟩
theorem Qnj : @Qj ⟨0⟩ ln37 := ⟨@Fine.mk ⟨0⟩ ln37 (fun k => by kernel_rfl) (fun k => by kernel_rfl) (by decide) (by decide) (by decide), .inr (.inr (.inr (.inr (.inr (.inr (.inl ⟨rfl, by decide⟩))))))⟩
theorem Qnk : @Qj ⟨0⟩ ln38 := ⟨@Fine.mk ⟨0⟩ ln38 (fun k => by kernel_rfl) (fun k => by kernel_rfl) (by decide) (by decide) (by decide), .inr (.inr (.inr (.inr (.inr (.inr (.inr (.inl ⟨rfl, by decide, ⟨2, fun k => by kernel_rfl⟩⟩)))))))⟩
theorem Qm5 : ∀ p ∈ Q3u, @Qj ⟨0⟩ p := by
 intro p hp
 simp only [Q3u, List.mem_cons, List.not_mem_nil, or_false] at hp
 rcases hp with rfl | rfl | rfl | rfl | rfl | rfl | rfl | rfl | rfl | rfl | rfl | rfl | rfl | rfl | rfl | rfl | rfl | rfl | rfl | rfl | rfl | rfl | rfl | rfl | rfl | rfl | rfl | rfl | rfl | rfl | rfl | rfl | rfl | rfl | rfl | rfl | rfl | rfl | rfl
 ·exact Qnr
 ·exact Qns
 ·exact Qnt
 ·exact Qnu
 ·exact Qnv
 ·exact Qnw
 ·exact Qnx
 ·exact Qny
 ·exact Qnz
 ·exact Qo0
 ·exact Qms
 ·exact Qmt
 ·exact Qmu
 ·exact Qmv
 ·exact Qmw
 ·exact Qmx
 ·exact Qmy
 ·exact Qmz
 ·exact Qn0
 ·exact Qn1
 ·exact Qn2
 ·exact Qn3
 ·exact Qn4
 ·exact Qn5
 ·exact Qn6
 ·exact Qn7
 ·exact Qn8
 ·exact Qn9
 ·exact Qna
 ·exact Qnb
 ·exact Qnc
 ·exact Qnd
 ·exact Qne
 ·exact Qnf
 ·exact Qng
 ·exact Qnh
 ·exact Qni
 ·exact Qnj
 ·exact Qnk
theorem Ql3 : @SndFacts ⟨0⟩ := @SndFacts.mk ⟨0⟩ (fun k => by kernel_rfl) (fun k => by kernel_rfl) Qm5 (fun k => by kernel_rfl)
end
end Go.Lift
