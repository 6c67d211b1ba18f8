/- Chapter 42: the ranges of the laws. -/
import Derived.Test.YtmghopaimcoloaaFn0
import Derived.Test.YtmghopaimcoloaaLBase
import Derived.Test.YtmghopaimcoloaaLDice
import Derived.Test.YtmghopaimcoloaaLReview
namespace Go.Lift
open Go.RowKit Go.IntWalk
noncomputable section
set_option linter.unusedVariables false
set_option linter.unusedSimpArgs false
set_option maxRecDepth 10000

/-- Ranges made by dice, with true values in them. -/
structure MadeOk (l : List Rg) (x : List Int) : Prop where
  len : x.length = l.length
  ok : ∀ r ∈ l, 0 ≤ r.1 ∧ r.1 ≤ r.2 ∧ r.2 ≤ 1000000
  true_ : ∀ i, i < l.length → (l.getD i rd0).1 ≤ x.getD i 0 ∧ x.getD i 0 ≤ (l.getD i rd0).2

theorem ranges_p1 : ∀ (N f : Nat), N < f → ∀ (d : Dice) (l : List Rg) (x : List Int), N ≤ 7 → DiceOk d → l.length + N ≤ 100 → MadeOk l x →
    ∃ (d' : Dice) (l' : List Rg) (x' : List Int), DiceOk d' ∧ MadeOk l' x' ∧ l'.length = l.length + N ∧ ∀ {β : Type} (k1 : law42_ranges_p1_K1 β), law42_ranges_p1_n f k1 (N : Int) d.1 d.2 l x = k1 d'.1 d'.2 l' x'
  | 0, f, hf, d, l, x, _, hd, hl, hm => by
    obtain ⟨f, rfl⟩ : ∃ f', f = f' + 1 := ⟨f - 1, by omega⟩
    refine ⟨d, l, x, hd, hm, by omega, fun k1 => ?_⟩
    rw [law42_ranges_p1_step]
    unfold law42_ranges_p1_s
    exact c_neg (by omega)
  | N + 1, f, hf, d, l, x, hN, hd, hl, hm => by
    obtain ⟨f, rfl⟩ : ∃ f', f = f' + 1 := ⟨f - 1, by omega⟩
    obtain ⟨n, d1, g1, g2, hd1, f1⟩ := next_ok (n := 200) hd (by omega)
    obtain ⟨a, d2, g3, g4, hd2, f2⟩ := next_ok (n := 20) hd1 (by omega)
    obtain ⟨b, d3, g5, g6, hd3, f3⟩ := next_ok (n := 20) hd2 (by omega)
    have hlow : 0 ≤ (if (0 : Int) > n - a then (0 : Int) else n - a) ∧ (if (0 : Int) > n - a then (0 : Int) else n - a) ≤ n := by split <;> omega
    have hlen := hm.len
    have hnew : MadeOk (l ++ [((if (0 : Int) > n - a then (0 : Int) else n - a), n + b)]) (x ++ [n]) := by
      refine ⟨by simp [hm.len], fun r hr => ?_, fun i hi => ?_⟩
      · rcases List.mem_append.1 hr with h | h
        · exact hm.ok r h
        · simp only [List.mem_cons, List.not_mem_nil, or_false] at h
          subst h
          exact ⟨hlow.1, by show _ ≤ n + b; omega, by show n + b ≤ 1000000; omega⟩
      · by_cases h : i < l.length
        · have e1 : (l ++ [((if (0 : Int) > n - a then (0 : Int) else n - a), n + b)]).getD i rd0 = l.getD i rd0 := by simp [List.getD, List.getElem?_append_left h]
          have e2 : (x ++ [n]).getD i 0 = x.getD i 0 := by simp [List.getD, List.getElem?_append_left (show i < x.length by omega)]
          rw [e1, e2]
          exact hm.true_ i h
        · have hi' : i = l.length := by simp at hi; omega
          have e1 : (l ++ [((if (0 : Int) > n - a then (0 : Int) else n - a), n + b)]).getD i rd0 = ((if (0 : Int) > n - a then (0 : Int) else n - a), n + b) := by rw [hi']; simp [List.getD]
          have e2 : (x ++ [n]).getD i 0 = n := by rw [hi', ← hlen]; simp [List.getD]
          rw [e1, e2]
          exact ⟨hlow.2, by show n ≤ n + b; omega⟩
    obtain ⟨d', l', x', h1, h2, h3, h4⟩ := ranges_p1 N f (by omega) d3 _ _ (by omega) hd3 (by simp only [List.length_append, List.length_cons, List.length_nil]; omega) hnew
    refine ⟨d', l', x', h1, h2, by simp at h3; omega, fun k1 => ?_⟩
    rw [← h4 k1, law42_ranges_p1_step]
    unfold law42_ranges_p1_s
    have e1 : ((N + 1 : Nat) : Int) - 1 = N := by omega
    refine (c_pos (by omega)).trans ?_
    refine (f1 _).trans ?_
    refine (f2 _).trans ?_
    refine (f3 _).trans ?_
    simp only [e1]
    rw [i64_in (n - a) (by omega), i64_in (n + b) (by omega), i64_in _ (by omega)]
    refine (c_room (by simp only [List.length_cons, List.length_nil]; omega)).trans ?_
    exact c_room (by simp only [List.length_cons, List.length_nil]; omega)

theorem ranges_ok {d : Dice} (hd : DiceOk d) : ∃ (d' : Dice) (l : List Rg) (x : List Int), DiceOk d' ∧ MadeOk l x ∧ 1 ≤ l.length ∧ l.length ≤ 7 ∧ ∀ {β : Type} (k : Dice → List Rg → List Int → Option β), law42_ranges d k = k d' l x := by
  obtain ⟨n, d1, g1, g2, hd1, f1⟩ := next_ok (n := 7) hd (by omega)
  obtain ⟨d', l, x, h1, h2, h3, h4⟩ := ranges_p1 (1 + n).toNat fuel (lt_fuel (by omega)) d1 [] [] (by omega) hd1 (by simp; omega) ⟨rfl, by simp, by simp⟩
  refine ⟨d', l, x, h1, h2, by simp at h3; omega, by simp at h3; omega, fun k => ?_⟩
  have eN : (((1 + n).toNat : Nat) : Int) = 1 + n := by omega
  rw [eN] at h4
  unfold law42_ranges law42_ranges_s
  refine (f1 _).trans ?_
  rw [i64_in _ (by omega)]
  unfold law42_ranges_p1
  exact h4 _
end
end Go.Lift
