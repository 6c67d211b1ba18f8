/- constraint.direct in plain Lean. -/
import Derived.Test.YtamnjokpncjbfaaFn1
import Derived.Test.YtamnjokpncjbfaaLBase
import Derived.Test.YtamnjokpncjbfaaLMat
import Derived.Test.YtamnjokpncjbfaaLClose
import Derived.Test.YtamnjokpncjbfaaLValid
namespace Go.Lift
open Go.RowKit Go.IntWalk
noncomputable section
set_option linter.unusedVariables false
set_option linter.unusedSimpArgs false
set_option maxRecDepth 10000

def bigM (n : Nat) : Mat := List.replicate n (List.replicate n BIG)
/-- One constraint more. -/
def putW (m : Mat) (d : Diff) : Mat := setAt m d.1.toNat d.2.1.toNat (if d.2.2 < at2 m d.1.toNat d.2.1.toNat then d.2.2 else at2 m d.1.toNat d.2.1.toNat)
def directW (n : Nat) (l : List Diff) : Mat := l.foldl putW (bigM n)

theorem bigM_sq (n : Nat) : Sq n (bigM n) := by
  refine ⟨by simp [bigM], fun i hi => ?_⟩
  simp [bigM, List.getD, hi]
theorem Sq.putW {n : Nat} {m : Mat} (h : Sq n m) (d : Diff) : Sq n (putW m d) := h.setAt _ _ _
theorem directW_sq (n : Nat) (l : List Diff) : Sq n (directW n l) := fold_inv (Sq n) _ (fun m d h => h.putW d) _ _ (bigM_sq n)

theorem set_getD_self {α : Type} {l : List α} {i : Nat} {d : α} (h : i < l.length) : l.set i (l.getD i d) = l := by
  apply List.ext_getElem
  · simp
  · intro j h1 h2
    rw [List.getElem_set]
    split
    · subst_vars; simp [List.getD, h]
    · rfl

theorem fill_row {α : Type} (v : α) (n : Nat) (r : List α) (h : r.length = n) : (List.range n).foldl (fun r j => r.set j v) r = List.replicate n v := by
  have key : ∀ (c : Nat), c ≤ n → (List.range c).foldl (fun r j => r.set j v) r = List.replicate c v ++ r.drop c := by
    intro c
    induction c with
    | zero => intro _; simp
    | succ c ih =>
      intro hc
      rw [List.range_succ, List.foldl_append, ih (by omega)]
      simp only [List.foldl_cons, List.foldl_nil]
      rw [List.set_append_right _ _ (by simp)]
      simp only [List.length_replicate, Nat.sub_self]
      rw [List.drop_eq_getElem_cons (by omega), List.set_cons_zero, List.replicate_succ', List.append_assoc]
      rfl
  rw [key n (Nat.le_refl n), List.drop_eq_nil_of_le (by omega), List.append_nil]

theorem fill_mat (v : Int) (i : Nat) : ∀ (l : List Nat) (out : Mat), i < out.length →
    l.foldl (fun m j => setAt m i j v) out = out.set i (l.foldl (fun r j => r.set j v) (out.getD i []))
  | [], out, h => by simp only [List.foldl_nil]; rw [set_getD_self h]
  | j :: l, out, h => by
    simp only [List.foldl_cons]
    rw [fill_mat v i l _ (by simpa [setAt] using h)]
    unfold setAt
    rw [getD_set_eq h, List.set_set]

section
variable {β : Type}
theorem c_make {n : Nat} {c : Nat} {a b : Option β} (hn : n ≤ 10000) (hc : c ≤ 1000) : cond (decide (0 ≤ (n : Int)) && (decide ((n : Int) = (n : Int)) && (decide (Int.toNat (n : Int) * c ≤ roomMax) && decide ((n : Int) ≤ 9223372036854775807)))) a b = a := by
  have h1 : Int.toNat (n : Int) * c ≤ roomMax := by
    rw [Int.toNat_natCast]
    exact Nat.le_trans (Nat.mul_le_mul hn hc) (by decide)
  rw [decide_eq_true (show (0 : Int) ≤ n by omega), decide_eq_true (rfl : (n : Int) = n), decide_eq_true h1, decide_eq_true (show (n : Int) ≤ 9223372036854775807 by omega)]
  rfl

theorem direct_p1 {n : Nat} (hn : n ≤ 100) (k1 : constraint_direct_p1_K1 β) (l : List Diff) {i : Nat} (hi : i < n) (a b : Int) {out : Mat} (h0 : out.length = n) (h1 : (out.getD i []).length = n) :
    constraint_direct_p1 k1 (n : Int) l (i : Int) a b (n : Int) 0 out = k1 (n : Int) l a b (out.set i (List.replicate n BIG)) := by
  have key := fold_loopI (fun _ (m : Mat) => m.length = n ∧ (m.getD i []).length = n) (fun f j m => constraint_direct_p1_n f k1 (n : Int) l (i : Int) a b (n : Int) j m) (fun m j => setAt m i j BIG) (fun m => k1 (n : Int) l a b m) 0 (List.range n) out fuel (lt_fuel (by simp; omega)) ⟨h0, h1⟩
    (fun j m hj hm => by
      refine ⟨by simp [setAt, hm.1], ?_⟩
      unfold setAt
      rw [getD_set_eq (by omega), List.length_set]
      exact hm.2)
    (fun f j m hj hm => by
      have hj : j < n := by simpa using hj
      have e1 : IntKind.i64.wrap ((j : Int) + 1) = j + 1 := i64_in _ (by omega)
      have l0 := hm.1
      have l1 := hm.2
      rw [range_getD hj, constraint_direct_p1_step]
      unfold constraint_direct_p1_s
      simp only [Int.toNat_natCast, e1]
      refine (c_pos (by omega)).trans ?_
      refine (c_inb (by omega)).trans ?_
      refine (c_inb (by omega)).trans ?_
      rfl)
    (fun f m hm => by
      rw [constraint_direct_p1_step]
      unfold constraint_direct_p1_s
      exact c_neg (by simp))
  unfold constraint_direct_p1
  refine key.trans ?_
  rw [fill_mat BIG i _ _ (by omega), fill_row BIG n _ h1]

theorem direct_p2 {n : Nat} (hn : n ≤ 100) (k1 : constraint_direct_p2_K1 β) (l : List Diff) :
    constraint_direct_p2 k1 (n : Int) l (n : Int) 0 (List.replicate n []) = k1 l (bigM n) := by
  have key := fold_loopI (fun _ (m : Mat) => m.length = n) (fun f j m => constraint_direct_p2_n f k1 (n : Int) l (n : Int) j m) (fun m j => m.set j (List.replicate n BIG)) (fun m => k1 l m) 0 (List.range n) (List.replicate n []) fuel (lt_fuel (by simp; omega)) (by simp)
    (fun j m hj hm => by rw [List.length_set]; exact hm)
    (fun f j m hj hm => by
      have hj : j < n := by simpa using hj
      have e1 : IntKind.i64.wrap ((j : Int) + 1) = j + 1 := i64_in _ (by omega)
      rw [range_getD hj, constraint_direct_p2_step]
      unfold constraint_direct_p2_s
      refine (c_pos (by omega)).trans ?_
      refine (c_make (by omega) (by omega)).trans ?_
      refine (c_inb (by omega)).trans ?_
      simp only [Int.toNat_natCast]
      refine (c_inb (by rw [List.length_set]; omega)).trans ?_
      rw [getD_set_eq (show j < m.length by omega), List.length_replicate]
      refine (direct_p1 hn _ l hj _ _ (by rw [List.length_set]; exact hm) (by rw [getD_set_eq (show j < m.length by omega), List.length_replicate])).trans ?_
      simp only [e1, List.set_set])
    (fun f m hm => by
      rw [constraint_direct_p2_step]
      unfold constraint_direct_p2_s
      exact c_neg (by simp))
  unfold constraint_direct_p2
  refine key.trans ?_
  rw [fill_row (List.replicate n BIG) n _ (by simp)]
  rfl

theorem direct_p3 {n : Nat} (hn : n ≤ 100) (k1 : constraint_direct_p3_K1 β) {l : List Diff} (hl : l.length ≤ 4000) (ho : l.all (diffOk n) = true) {m : Mat} (hm : Sq n m) :
    constraint_direct_p3 k1 l (l.length : Int) 0 m = k1 (l.foldl putW m) := by
  have key := fold_loopI (fun _ (m : Mat) => Sq n m) (fun f j m => constraint_direct_p3_n f k1 l (l.length : Int) j m) putW (fun m => k1 m) ((0 : Int), ((0 : Int), (0 : Int))) l m fuel (lt_fuel (by omega)) hm
    (fun j m hj hm => hm.putW _)
    (fun f j m hj hm => by
      have e1 : IntKind.i64.wrap ((j : Int) + 1) = j + 1 := i64_in _ (by omega)
      rw [constraint_direct_p3_step]
      unfold constraint_direct_p3_s
      refine (c_pos (by omega)).trans ?_
      refine (c_inb (by omega)).trans ?_
      simp only [Int.toNat_natCast, e1]
      have hd : diffOk n (l.getD j ((0 : Int), ((0 : Int), (0 : Int)))) = true := by
        rw [List.all_eq_true] at ho
        refine ho _ ?_
        rw [List.getD, List.getElem?_eq_getElem hj]
        exact List.getElem_mem hj
      have hd := of_decide_eq_true hd
      have l0 := hm.len
      have l1 := hm.row (l.getD j ((0 : Int), ((0 : Int), (0 : Int)))).1.toNat (by omega)
      refine (c_inb (by omega)).trans ?_
      refine (c_inb (by omega)).trans ?_
      refine (c_inb (by omega)).trans ?_
      refine (c_inb (by omega)).trans ?_
      rfl)
    (fun f m hm => by
      rw [constraint_direct_p3_step]
      unfold constraint_direct_p3_s
      exact c_neg (by omega))
  unfold constraint_direct_p3
  exact key

theorem direct_eq {n : Nat} (hn : n ≤ 100) {l : List Diff} (hl : l.length ≤ 4000) (ho : l.all (diffOk n) = true) (k : Mat → Option β) : constraint_direct (n : Int) l k = k (directW n l) := by
  unfold constraint_direct constraint_direct_s
  refine (c_make (by omega) (by omega)).trans ?_
  simp only [Int.toNat_natCast, List.length_replicate]
  refine (direct_p2 hn _ l).trans ?_
  exact direct_p3 hn _ hl ho (bigM_sq n)

/-- What Close returns. -/
def closeW (n : Nat) (l : List Diff) : Option Mat :=
  if validD n l then
    match roundsW n n 0 (diagW n (directW n l)) with
    | some m => if diagOk n m then some m else none
    | none => none
  else none

theorem Close_eq {n : Nat} (h1 : 1 ≤ n) (hn : n ≤ 41) (l : List Diff) (k : Mat → Bool → Option β) : constraint_Close (n : Int) l k = (match closeW n l with | some m => k m true | none => k [] false) := by
  unfold constraint_Close constraint_Close_s
  refine (Valid_eq h1 hn _).trans ?_
  unfold closeW
  by_cases hv : validD n l = true
  · rw [hv]
    have hv' := hv
    unfold validD at hv'
    rw [Bool.and_eq_true] at hv'
    simp only [Bool.not_true, cond_false, if_true]
    refine (direct_eq (by omega) (of_decide_eq_true hv'.1) hv'.2 _).trans ?_
    refine (close_p1 (by omega) _ (directW_sq n l)).trans ?_
    refine (close_p5 (by omega) _ _ (directW_sq n l).diagW).trans ?_
    cases hr : roundsW n n 0 (diagW n (directW n l)) with
    | none => rfl
    | some m =>
      simp only []
      refine (close_p6 (by omega) _ _ (roundsW_sq n 0 _ _ (directW_sq n l).diagW hr)).trans ?_
      cases diagOk n m <;> rfl
  · rw [Bool.eq_false_iff.2 hv]
    rfl
end
end
end Go.Lift
