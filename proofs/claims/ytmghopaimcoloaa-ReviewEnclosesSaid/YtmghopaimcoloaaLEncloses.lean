/- ReviewEncloses in plain Lean. -/
import Derived.Test.YtmghopaimcoloaaFn0
import Derived.Test.YtmghopaimcoloaaLBase
import Derived.Test.YtmghopaimcoloaaLDice
import Derived.Test.YtmghopaimcoloaaLReview
import Derived.Test.YtmghopaimcoloaaLReview2
import Derived.Test.YtmghopaimcoloaaLReview3
import Derived.Test.YtmghopaimcoloaaLReview4
import Derived.Test.YtmghopaimcoloaaLRank
import Derived.Test.YtmghopaimcoloaaLRatio
namespace Go.Lift
open Go.RowKit Go.IntWalk
noncomputable section
set_option linter.unusedVariables false
set_option linter.unusedSimpArgs false
set_option maxRecDepth 10000

def totI (x : List Int) : Int := x.foldl (· + ·) 0
theorem totI_from : ∀ (l : List Int) (a : Int), l.foldl (· + ·) a = a + totI l
  | [], a => by simp [totI]
  | y :: l, a => by
    simp only [totI, List.foldl_cons]
    rw [totI_from l, totI_from l (0 + y)]
    omega
theorem totI_snoc (l : List Int) (y : Int) : totI (l ++ [y]) = totI l + y := by
  unfold totI
  rw [List.foldl_append]
  rfl
theorem totI_cons (y : Int) (l : List Int) : totI (y :: l) = y + totI l := by
  unfold totI
  rw [List.foldl_cons, totI_from]
  unfold totI
  omega

theorem sumR_cons (r : Rg) (l : List Rg) : sumR (r :: l) = (r.1 + (sumR l).1, r.2 + (sumR l).2) := by
  have := sumR_append [r] l
  simpa [sumR] using this

/-- Where a number goes. -/
theorem enc_p1 {s : List Int} {n num den sum t39 t40 : Int} {l : List Rg} {x : List Int} (hs : s.length ≤ 7) : ∀ (K f : Nat), K < f → K ≤ s.length → (∀ j, K ≤ j → j < s.length → n < s.getD j 0) →
    ∃ kk : Nat, kk ≤ s.length ∧ (∀ j, kk ≤ j → j < s.length → n < s.getD j 0) ∧ (kk = 0 ∨ s.getD (kk - 1) 0 ≤ n) ∧
      ∀ {β : Type} (k1 : law42_ReviewEncloses_p1_K1 β), law42_ReviewEncloses_p1_n f k1 num den sum n (K : Int) t39 t40 l x s = k1 num den sum n (kk : Int) t39 t40 l x s := by
  intro K
  induction K with
  | zero =>
    intro f hf _ h
    obtain ⟨f, rfl⟩ : ∃ f', f = f' + 1 := ⟨f - 1, by omega⟩
    refine ⟨0, by omega, h, .inl rfl, fun k1 => ?_⟩
    rw [law42_ReviewEncloses_p1_step]
    unfold law42_ReviewEncloses_p1_s
    exact c_neg (by omega)
  | succ K ih =>
    intro f hf hK h
    obtain ⟨f, rfl⟩ : ∃ f', f = f' + 1 := ⟨f - 1, by omega⟩
    have e1 : IntKind.i64.wrap (((K + 1 : Nat) : Int) - 1) = K := by rw [i64_in _ (by omega)]; omega
    by_cases hn : n < s.getD K 0
    · obtain ⟨kk, h1, h2, h3, h4⟩ := ih f (by omega) (by omega) fun j hj hjl => by
        rcases Nat.lt_or_ge K j with h5 | h5
        · exact h j (by omega) hjl
        · have : j = K := by omega
          subst this
          exact hn
      refine ⟨kk, h1, h2, h3, fun k1 => ?_⟩
      rw [← h4 k1, law42_ReviewEncloses_p1_step]
      unfold law42_ReviewEncloses_p1_s
      refine (c_pos (by omega)).trans ?_
      simp only [e1, Int.toNat_natCast]
      refine (c_inb (by omega)).trans ?_
      exact c_pos hn
    · refine ⟨K + 1, hK, h, .inr (by simpa using Int.not_lt.1 hn), fun k1 => ?_⟩
      rw [law42_ReviewEncloses_p1_step]
      unfold law42_ReviewEncloses_p1_s
      refine (c_pos (by omega)).trans ?_
      simp only [e1, Int.toNat_natCast]
      refine (c_inb (by omega)).trans ?_
      exact c_neg hn

/-- The sum, and the numbers sorted. -/
theorem enc_p2 {x : List Int} (hx : x.length ≤ 7) (hb : ∀ y ∈ x, 0 ≤ y ∧ y ≤ 1000000) (num den : Int) (l : List Rg) :
    ∃ r : Int × List Int, (r.1 = totI x ∧ r.2 = sortInts x) ∧ ∀ {β : Type} (k1 : law42_ReviewEncloses_p2_K1 β), law42_ReviewEncloses_p2 k1 num den 0 (x.length : Int) 0 l x [] = k1 num den r.1 l x r.2 := by
  have key := count_loop (σ := Int × List Int) (ρ := Int × List Int) (Kt := fun β => law42_ReviewEncloses_p2_K1 β) (fun k1 m i s => law42_ReviewEncloses_p2_n m k1 num den s.1 (x.length : Int) i l x s.2) (fun k1 r => k1 num den r.1 l x r.2) x.length
    (fun i s => s.1 = totI (x.take i) ∧ 0 ≤ s.1 ∧ s.1 ≤ 1000000 * i ∧ s.2.length = i ∧ s.2.Pairwise (fun a b => a ≤ b) ∧ s.2.Perm (x.take i)) (fun r => r.1 = totI x ∧ r.2 = sortInts x)
    (fun i s hi hs => by
      obtain ⟨h1, h2, h3, h4, h5, h6⟩ := hs
      left
      have hg : x.getD i 0 = x[i] := getD_get hi
      have hbx := hb x[i] (List.getElem_mem hi)
      rw [← hg] at hbx
      obtain ⟨kk, g1, g2, g3, g4⟩ := enc_p1 (s := s.2) (n := x.getD i 0) (num := num) (den := den) (sum := s.1 + x.getD i 0) (t39 := (x.length : Int)) (t40 := (i : Int)) (l := l) (x := x) (by omega) s.2.length fuel (lt_fuel (by omega)) (Nat.le_refl _) (fun j hj hjl => by omega)
      refine ⟨(s.1 + x.getD i 0, s.2.take kk ++ x.getD i 0 :: s.2.drop kk), ⟨?_, by simp only; omega, by simp only; omega, ?_, ins_sorted h5 g1 g2 g3, ?_⟩, fun k1 m => ?_⟩
      · simp only
        rw [List.take_succ_eq_append_getElem hi, totI_snoc, h1, hg]
      · simp; omega
      · rw [List.take_succ_eq_append_getElem hi, ← hg]
        exact ((ins_perm _ _ _).trans (h6.cons _)).trans (List.perm_append_singleton _ _).symm
      · have e1 : IntKind.i64.wrap (s.1 + x.getD i 0) = s.1 + x.getD i 0 := i64_in _ (by omega)
        have e2 : IntKind.i64.wrap ((kk : Int) + 1) = ((kk + 1 : Nat) : Int) := by rw [i64_in _ (by omega)]; omega
        have e3 : IntKind.i64.wrap ((i : Int) + 1) = i + 1 := i64_in _ (by omega)
        have hl4 : (s.2 ++ [(0 : Int)]).length = s.2.length + 1 := by simp
        rw [law42_ReviewEncloses_p2_step]
        unfold law42_ReviewEncloses_p2_s
        refine (c_pos (by omega)).trans ?_
        refine (c_inb (by omega)).trans ?_
        simp only [Int.toNat_natCast, e1]
        unfold law42_ReviewEncloses_p1
        refine (g4 _).trans ?_
        refine (c_room (by simp only [List.length_cons, List.length_nil]; omega)).trans ?_
        simp only [e2, e3, Int.toNat_natCast, hl4]
        rw [decide_eq_true (show (0 : Int) ≤ ((kk + 1 : Nat) : Int) by omega), decide_eq_true (show ((kk + 1 : Nat) : Int) ≤ ((s.2.length + 1 : Nat) : Int) by omega), decide_eq_true (show ((s.2.length + 1 : Nat) : Int) ≤ ((s.2.length + 1 : Nat) : Int) by omega),
          decide_eq_true (show (0 : Int) ≤ (kk : Int) by omega), decide_eq_true (show (kk : Int) ≤ ((s.2.length + 1 : Nat) : Int) by omega)]
        simp only [Bool.and_self, Bool.true_and, cond_true]
        have hid := ins_idiom s.2 kk (x.getD i 0) g1
        simp only [hl4] at hid
        rw [hid]
        refine (c_pos ?_).trans rfl
        have : (s.2.take kk ++ x.getD i 0 :: s.2.drop kk).length = s.2.length + 1 := by simp; omega
        have hset := congrArg List.length hid
        rw [List.length_set] at hset
        rw [hset, this]
        omega)
    (fun s hs => by
      obtain ⟨h1, h2, h3, h4, h5, h6⟩ := hs
      rw [List.take_length] at h1 h6
      refine ⟨(s.1, s.2), ⟨h1, ?_⟩, fun k1 m => ?_⟩
      · exact List.Perm.eq_of_pairwise (fun a b _ _ q1 q2 => Int.le_antisymm q1 q2) h5 (sort_sorted x) (h6.trans (sort_perm x).symm)
      · rw [law42_ReviewEncloses_p2_step]
        unfold law42_ReviewEncloses_p2_s
        exact c_neg (by omega))
    fuel (lt_fuel (by omega)) (0, []) ⟨by simp [totI], by simp, by simp, rfl, List.Pairwise.nil, by simp⟩
  obtain ⟨r, h1, h2⟩ := key
  refine ⟨r, h1, fun k1 => ?_⟩
  unfold law42_ReviewEncloses_p2
  exact h2 k1
end
end Go.Lift
