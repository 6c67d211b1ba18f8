/- The dice in plain Lean. -/
import Derived.Test.YtamnjokpncjbfaaFn1
import Derived.Test.YtamnjokpncjbfaaLBase
namespace Go.Lift
open Go.RowKit Go.IntWalk
noncomputable section
set_option linter.unusedVariables false
set_option linter.unusedSimpArgs false

abbrev Dice := List Int × Int
def DiceOk (d : Dice) : Prop := 0 ≤ d.2 ∧ d.2 ≤ d.1.length ∧ d.1.length ≤ 500

theorem light_eq {β : Type} (l : List Int) (k : Bool → Option β) : made_Light l k = k (decide ((l.length : Int) ≤ 500)) := by
  simp only [made_Light, made_Light_s]
theorem roll_eq {β : Type} (l : List Int) (k : Dice → Option β) : made_Roll l k = k (l, 0) := by
  simp only [made_Roll, made_Roll_s]
theorem roll_ok {l : List Int} (h : (l.length : Int) ≤ 500) : DiceOk (l, 0) := ⟨by simp, by simp, by show l.length ≤ 500; omega⟩

theorem next_ok {n : Int} {d : Dice} (hd : DiceOk d) (hn : 1 ≤ n ∧ n ≤ 4611686018427387904) :
    ∃ x d', 0 ≤ x ∧ x < n ∧ DiceOk d' ∧ ∀ {β : Type} (k : Int → Dice → Option β), made_Dice_Next n d k = k x d' := by
  obtain ⟨h1, h2, h3⟩ := hd
  by_cases ha : (d.1.length : Int) ≤ d.2
  · exact ⟨0, d, by omega, by omega, ⟨h1, h2, h3⟩, fun k => by simp (disch := omega) only [made_Dice_Next, made_Dice_Next_s, c_pos]⟩
  · generalize hv : List.getD d.1 (Int.toNat d.2) (0 : Int) = v
    have hm1 := Int.tmod_lt_of_pos v (show 0 < n by omega)
    have hm2 : -n < Int.tmod v n := by
      have h5 := Int.tmod_lt_of_pos (-v) (show 0 < n by omega)
      rw [Int.neg_tmod] at h5
      omega
    have hd' : DiceOk (d.1, d.2 + 1) := ⟨by show (0 : Int) ≤ d.2 + 1; omega, by show d.2 + 1 ≤ (d.1.length : Int); omega, h3⟩
    by_cases hc : Int.tmod v n < 0
    · refine ⟨Int.tmod v n + n, (d.1, d.2 + 1), by omega, by omega, hd', fun k => ?_⟩
      simp (disch := omega) only [made_Dice_Next, made_Dice_Next_s, hv, c_pos, c_neg, c_inb, c_nneg, i64_in]
    · refine ⟨Int.tmod v n, (d.1, d.2 + 1), by omega, by omega, hd', fun k => ?_⟩
      simp (disch := omega) only [made_Dice_Next, made_Dice_Next_s, hv, c_pos, c_neg, c_inb, c_nneg, i64_in]

/-- Next of any n: 0 if there is nothing to choose from. -/
theorem next_any (n : Int) {d : Dice} (hd : DiceOk d) (hn : n ≤ 4611686018427387904) :
    ∃ x d', (0 ≤ x ∧ (1 ≤ n → x < n) ∧ (n < 1 → x = 0)) ∧ DiceOk d' ∧ ∀ {β : Type} (k : Int → Dice → Option β), made_Dice_Next n d k = k x d' := by
  by_cases h : 1 ≤ n
  · obtain ⟨x, d', h1, h2, h3, h4⟩ := next_ok hd ⟨h, hn⟩
    exact ⟨x, d', ⟨h1, fun _ => h2, by omega⟩, h3, h4⟩
  · refine ⟨0, d, ⟨by omega, by omega, by omega⟩, hd, fun k => ?_⟩
    simp only [made_Dice_Next, made_Dice_Next_s]
    by_cases ha : (d.1.length : Int) ≤ d.2
    · simp (disch := omega) only [c_pos]
    · simp (disch := omega) only [c_pos, c_neg]

theorem one_ok {l : List Int} {d : Dice} (hl : 0 < l.length) (hlen : l.length ≤ 1000000) (hd : DiceOk d) :
    ∃ x d', x ∈ l ∧ DiceOk d' ∧ ∀ {β : Type} (k : Int → Dice → Option β), made_Dice_One l d k = k x d' := by
  obtain ⟨x, d', h1, h2, hd', hf⟩ := next_ok (n := (l.length : Int)) hd (by omega)
  have hxn : x.toNat < l.length := by omega
  refine ⟨l.getD x.toNat 0, d', ?_, hd', fun k => ?_⟩
  · simp [List.getD, hxn]
  · simp (disch := omega) only [made_Dice_One, made_Dice_One_s, hf, c_inb]
end
end Go.Lift
