/- constraint.Close in plain Lean. -/
import Derived.Test.YtamnjokpncjbfaaFn1
import Derived.Test.YtamnjokpncjbfaaLBase
import Derived.Test.YtamnjokpncjbfaaLMat
namespace Go.Lift
open Go.RowKit Go.IntWalk
noncomputable section
set_option linter.unusedVariables false
set_option linter.unusedSimpArgs false
set_option maxRecDepth 10000

theorem range_getD {n i : Nat} (h : i < n) : (List.range n).getD i 0 = i := by simp [List.getD, h]

section
variable {β : Type}
theorem close_p3 {n : Nat} (hn : n ≤ 100) {k i : Nat} (hk : k < n) (hi : i < n) {m : Mat} (hm : Sq n m) (a b c d : Int) (k1 : constraint_Close_p3_K1 β) :
    constraint_Close_p3 k1 (n : Int) (k : Int) (i : Int) a b c d (n : Int) 0 m = k1 (n : Int) (k : Int) a b c d (rowW n k i m) := by
  have key := fold_loopI (fun _ m => Sq n m) (fun f j m => constraint_Close_p3_n f k1 (n : Int) (k : Int) (i : Int) a b c d (n : Int) j m) (fun m j => relaxW k i j m) (fun m => k1 (n : Int) (k : Int) a b c d m) 0 (List.range n) m fuel (lt_fuel (by simp; omega)) hm
    (fun j m hj hm => hm.relaxW _ _ _)
    (fun f j m hj hm => by
      have hj : j < n := by simpa using hj
      have e1 : IntKind.i64.wrap ((j : Int) + 1) = j + 1 := i64_in _ (by omega)
      rw [range_getD hj, constraint_Close_p3_step]
      unfold constraint_Close_p3_s
      simp only [Int.toNat_natCast]
      have l0 := hm.len
      have l1 := hm.row i hi
      have l2 := hm.row k hk
      refine (c_pos (by omega)).trans ?_
      refine (c_inb (by omega)).trans ?_
      refine (c_inb (by omega)).trans ?_
      have hq : ∀ (t : Bool), (constraint_Close_p2 (fun (n2 : Int) (k_2 : Int) (i_2 : Int) (t382 : Int) (t392 : Int) (t422 : Int) (t432 : Int) (t462 : Int) (t472 : Int) (m2 : List (List Int)) => constraint_Close_p3_n f k1 n2 k_2 i_2 t382 t392 t422 t432 t462 (IntKind.i64.wrap (t472 + (1 : Int))) m2) (n : Int) (k : Int) (i : Int) (j : Int) a b c d (n : Int) (j : Int) t m : Option β) =
          constraint_Close_p3_n f k1 (n : Int) (k : Int) (i : Int) a b c d (n : Int) ((j : Int) + 1) (if t then setAt m i j (if IntKind.i64.wrap (at2 m i k + at2 m k j) < at2 m i j then IntKind.i64.wrap (at2 m i k + at2 m k j) else at2 m i j) else m) := fun t => by
        unfold constraint_Close_p2 constraint_Close_p2_u constraint_Close_p2_s
        cases t with
        | false =>
          simp only [cond_false, e1]
          rfl
        | true =>
          simp only [cond_true, Int.toNat_natCast, e1]
          refine (c_inb (by omega)).trans ?_
          refine (c_inb (by omega)).trans ?_
          refine (c_inb (by omega)).trans ?_
          refine (c_inb (by omega)).trans ?_
          refine (c_inb (by omega)).trans ?_
          refine (c_inb (by omega)).trans ?_
          refine (c_inb (by omega)).trans ?_
          refine (c_inb (by omega)).trans ?_
          rfl
      by_cases h1 : at2 m i k = BIG
      · refine (c_npos (show (m.getD i []).getD k 0 = (1099511627776 : Int) from h1)).trans ?_
        refine (hq false).trans ?_
        have : relaxW k i j m = m := by unfold relaxW; rw [if_pos (.inl h1)]
        rw [this]
        rfl
      · refine (c_nneg (show ¬ (m.getD i []).getD k 0 = (1099511627776 : Int) from h1)).trans ?_
        refine (c_inb (by omega)).trans ?_
        refine (c_inb (by omega)).trans ?_
        refine (hq _).trans ?_
        by_cases h2 : at2 m k j = BIG
        · have : relaxW k i j m = m := by unfold relaxW; rw [if_pos (.inr h2)]
          rw [this, decide_eq_true (show (m.getD k []).getD j 0 = (1099511627776 : Int) from h2)]
          rfl
        · have : relaxW k i j m = setAt m i j (if IntKind.i64.wrap (at2 m i k + at2 m k j) < at2 m i j then IntKind.i64.wrap (at2 m i k + at2 m k j) else at2 m i j) := by unfold relaxW; rw [if_neg (fun h => h.elim h1 h2)]
          rw [this, decide_eq_false (show ¬ (m.getD k []).getD j 0 = (1099511627776 : Int) from h2)]
          rfl)
    (fun f m hm => by
      rw [constraint_Close_p3_step]
      unfold constraint_Close_p3_s
      exact c_neg (by simp))
  unfold constraint_Close_p3
  exact key
theorem close_p4 {n : Nat} (hn : n ≤ 100) {k : Nat} (hk : k < n) {m : Mat} (hm : Sq n m) (a b : Int) (k1 : constraint_Close_p4_K1 β) :
    constraint_Close_p4 k1 (n : Int) (k : Int) a b (n : Int) 0 m = k1 (n : Int) (k : Int) a b (roundW n k m) := by
  have key := fold_loopI (fun _ m => Sq n m) (fun f j m => constraint_Close_p4_n f k1 (n : Int) (k : Int) a b (n : Int) j m) (fun m i => rowW n k i m) (fun m => k1 (n : Int) (k : Int) a b m) 0 (List.range n) m fuel (lt_fuel (by simp; omega)) hm
    (fun j m hj hm => hm.rowW _ _)
    (fun f j m hj hm => by
      have hj : j < n := by simpa using hj
      have e1 : IntKind.i64.wrap ((j : Int) + 1) = j + 1 := i64_in _ (by omega)
      rw [range_getD hj, constraint_Close_p4_step]
      unfold constraint_Close_p4_s
      refine (c_pos (by omega)).trans ?_
      refine (close_p3 hn hk hj hm _ _ _ _ _).trans ?_
      simp only [e1])
    (fun f m hm => by
      rw [constraint_Close_p4_step]
      unfold constraint_Close_p4_s
      exact c_neg (by simp))
  unfold constraint_Close_p4
  exact key

/-- The rounds of the closure: c rounds from k on. -/
def roundsW (n : Nat) : Nat → Nat → Mat → Option Mat
  | 0, _, m => some m
  | c + 1, k, m => if at2 (roundW n k m) k k < 0 then none else roundsW n c (k + 1) (roundW n k m)

theorem roundsW_sq {n : Nat} : ∀ (c k : Nat) (m m' : Mat), Sq n m → roundsW n c k m = some m' → Sq n m'
  | 0, k, m, m', h, e => by cases e; exact h
  | c + 1, k, m, m', h, e => by
    unfold roundsW at e
    split at e
    · cases e
    · exact roundsW_sq c (k + 1) _ m' (h.roundW k) e

theorem close_p5_n {n : Nat} (hn : n ≤ 100) (k1 : constraint_Close_p5_K1 β) (k2 : constraint_Close_p5_K2 β) : ∀ (c k f : Nat) (m : Mat), k + c = n → c < f → Sq n m →
    constraint_Close_p5_n f k1 k2 (n : Int) (n : Int) (k : Int) m = (match roundsW n c k m with | some m' => k2 (n : Int) m' | none => k1 false [])
  | 0, k, f + 1, m, h, hf, hm => by
    rw [constraint_Close_p5_step]
    unfold constraint_Close_p5_s
    exact c_neg (by omega)
  | c + 1, k, f + 1, m, h, hf, hm => by
    rw [constraint_Close_p5_step]
    unfold constraint_Close_p5_s
    have hk : k < n := by omega
    refine (c_pos (by omega)).trans ?_
    refine (close_p4 hn hk hm _ _ _).trans ?_
    have hm' := hm.roundW k
    have l0 := hm'.len
    have l1 := hm'.row k hk
    have e1 : IntKind.i64.wrap ((k : Int) + 1) = ((k + 1 : Nat) : Int) := i64_in _ (by omega)
    simp only [Int.toNat_natCast]
    refine (c_inb (by omega)).trans ?_
    refine (c_inb (by omega)).trans ?_
    unfold roundsW
    by_cases h2 : at2 (roundW n k m) k k < 0
    · refine (c_pos h2).trans ?_
      rw [if_pos h2]
    · refine (c_neg h2).trans ?_
      rw [if_neg h2, e1]
      exact close_p5_n hn k1 k2 c (k + 1) f _ (by omega) (by omega) hm'
  | _, _, 0, _, _, hf, _ => absurd hf (by omega)

theorem close_p5 {n : Nat} (hn : n ≤ 100) (k1 : constraint_Close_p5_K1 β) (k2 : constraint_Close_p5_K2 β) {m : Mat} (hm : Sq n m) :
    constraint_Close_p5 k1 k2 (n : Int) (n : Int) 0 m = (match roundsW n n 0 m with | some m' => k2 (n : Int) m' | none => k1 false []) := by
  unfold constraint_Close_p5
  exact close_p5_n hn k1 k2 n 0 fuel m (by omega) (lt_fuel (by omega)) hm

/-- No number of the diagonal is less than 0. -/
def diagOk (n : Nat) (m : Mat) : Bool := (List.range n).all fun i => decide (¬ at2 m i i < 0)

theorem close_p6 {n : Nat} (hn : n ≤ 100) (k1 : constraint_Close_p6_K1 β) (k2 : constraint_Close_p6_K2 β) {m : Mat} (hm : Sq n m) :
    constraint_Close_p6 k1 k2 (n : Int) 0 m = cond (diagOk n m) (k2 m) (k1 false []) := by
  have key := check_loop (fun f j => constraint_Close_p6_n f k1 k2 (n : Int) j m) (fun i => decide (¬ at2 m i i < 0)) (k1 false []) (k2 m) 0 (List.range n) fuel (lt_fuel (by simp; omega))
    (fun f j hj => by
      have hj : j < n := by simpa using hj
      have e1 : IntKind.i64.wrap ((j : Int) + 1) = j + 1 := i64_in _ (by omega)
      have l0 := hm.len
      have l1 := hm.row j hj
      rw [range_getD hj, constraint_Close_p6_step]
      unfold constraint_Close_p6_s
      simp only [Int.toNat_natCast, e1]
      refine (c_pos (by omega)).trans ?_
      refine (c_inb (by omega)).trans ?_
      refine (c_inb (by omega)).trans ?_
      by_cases h2 : at2 m j j < 0
      · refine (c_pos h2).trans ?_
        simp [h2]
      · refine (c_neg h2).trans ?_
        simp [h2])
    (fun f => by
      rw [constraint_Close_p6_step]
      unfold constraint_Close_p6_s
      exact c_neg (by simp))
  unfold constraint_Close_p6
  exact key

/-- The diagonal is 0 at most. -/
def diagW (n : Nat) (m : Mat) : Mat := (List.range n).foldl (fun m i => setAt m i i (if 0 < at2 m i i then 0 else at2 m i i)) m
theorem Sq.diagW {n : Nat} {m : Mat} (h : Sq n m) : Sq n (diagW n m) := fold_inv (Sq n) _ (fun m i h => h.setAt _ _ _) _ _ h

theorem close_p1 {n : Nat} (hn : n ≤ 100) (k1 : constraint_Close_p1_K1 β) {m : Mat} (hm : Sq n m) :
    constraint_Close_p1 k1 (n : Int) (n : Int) 0 m = k1 (n : Int) (diagW n m) := by
  have key := fold_loopI (fun _ m => Sq n m) (fun f j m => constraint_Close_p1_n f k1 (n : Int) (n : Int) j m) (fun m i => setAt m i i (if 0 < at2 m i i then 0 else at2 m i i)) (fun m => k1 (n : Int) m) 0 (List.range n) m fuel (lt_fuel (by simp; omega)) hm
    (fun j m hj hm => hm.setAt _ _ _)
    (fun f j m hj hm => by
      have hj : j < n := by simpa using hj
      have e1 : IntKind.i64.wrap ((j : Int) + 1) = j + 1 := i64_in _ (by omega)
      have l0 := hm.len
      have l1 := hm.row j hj
      rw [range_getD hj, constraint_Close_p1_step]
      unfold constraint_Close_p1_s
      simp only [Int.toNat_natCast, e1]
      refine (c_pos (by omega)).trans ?_
      refine (c_inb (by omega)).trans ?_
      refine (c_inb (by omega)).trans ?_
      refine (c_inb (by omega)).trans ?_
      refine (c_inb (by omega)).trans ?_
      rfl)
    (fun f m hm => by
      rw [constraint_Close_p1_step]
      unfold constraint_Close_p1_s
      exact c_neg (by simp))
  unfold constraint_Close_p1
  exact key
end
end
end Go.Lift
