/- The functions of the package order in plain Lean. -/
import Derived.Test.YtamnjokpncjbfaaFn2
import Derived.Test.YtamnjokpncjbfaaLBase
import Derived.Test.YtamnjokpncjbfaaLMat
import Derived.Test.YtamnjokpncjbfaaLClock
import Derived.Test.YtamnjokpncjbfaaLDice
import Derived.Test.YtamnjokpncjbfaaLRecord
import Derived.Test.YtamnjokpncjbfaaLWhen
import Derived.Test.YtamnjokpncjbfaaLClose
import Derived.Test.YtamnjokpncjbfaaLValid
import Derived.Test.YtamnjokpncjbfaaLDirect
import Derived.Test.YtamnjokpncjbfaaLClosure
import Derived.Test.YtamnjokpncjbfaaLClosure2
import Derived.Test.YtamnjokpncjbfaaLClosure3
import Derived.Test.YtamnjokpncjbfaaLCons
namespace Go.Lift
open Go.RowKit Go.IntWalk
noncomputable section
set_option linter.unusedVariables false
set_option linter.unusedSimpArgs false
set_option maxRecDepth 10000

section
variable {β : Type}
theorem pair_p1_eq (k1 : order_pair_p1_K1 β) (r : Rec) {i j : Nat} (hi : i ≤ 100) (hj : j ≤ 100) {a a2 b b2 : Int} (a3 b3 : List UInt8) (ha : 0 ≤ a ∧ a < r.1.length) (h2 : 0 ≤ a2 ∧ a2 ≤ 8589934592) (h3 : 0 ≤ b2 ∧ b2 ≤ 8589934592) :
    order_pair_p1 k1 (i : Int) (j : Int) r.1 r.2.1 r.2.2.1 r.2.2.2 a a2 a3 b b2 b3 = k1 [((i : Int) + 1, ((j : Int) + 1, (elapsed (driftAt r a) (b2 - a2)).2)), ((j : Int) + 1, ((i : Int) + 1, -(elapsed (driftAt r a) (b2 - a2)).1))] := by
  have e1 : IntKind.i64.wrap ((i : Int) + 1) = i + 1 := i64_in _ (by omega)
  have e2 : IntKind.i64.wrap ((j : Int) + 1) = j + 1 := i64_in _ (by omega)
  have e3 : IntKind.i64.wrap (b2 - a2) = b2 - a2 := i64_in _ (by omega)
  unfold order_pair_p1 order_pair_p1_u order_pair_p1_s
  refine (c_inb ha).trans ?_
  simp only [e1, e2, e3]
  refine (clock_Elapsed_eq _ _ _).trans ?_
  have := @elapsed_bd (driftAt r a) (b2 - a2)
  have e4 : IntKind.i64.wrap (0 - (elapsed (driftAt r a) (b2 - a2)).1) = -(elapsed (driftAt r a) (b2 - a2)).1 := (i64_in _ (by omega)).trans (by omega)
  unfold driftAt at e4 ⊢
  rw [e4]

theorem order_pair_eq {r : Rec} (hv : valid r = true) {i j : Nat} (hi : i < nE r) (hj : j < nE r) (k : List Diff → Option β) : order_pair r (i : Int) (j : Int) k = k (pairD r i j) := by
  have hb := valid_bd hv
  have h1 := valid_ev hv hi
  have h2 := valid_ev hv hj
  unfold nE evAt at *
  unfold order_pair order_pair_s
  refine (c_inb (by omega)).trans ?_
  refine (c_inb (by omega)).trans ?_
  unfold pairD evAt
  simp only [Int.toNat_natCast]
  by_cases hc : (r.2.2.1.getD j (0, 0, [])).2.1 < (r.2.2.1.getD i (0, 0, [])).2.1
  · refine (c_pos hc).trans ?_
    rw [if_pos hc]
    exact pair_p1_eq _ r (by omega) (by omega) _ _ (by omega) (by omega) (by omega)
  · refine (c_neg hc).trans ?_
    rw [if_neg hc]
    exact pair_p1_eq _ r (by omega) (by omega) _ _ (by omega) (by omega) (by omega)

theorem cons_p1 (k1 : order_Constraints_p1_K1 β) (k2 : order_Constraints_p1_K2 β) {r : Rec} (hv : valid r = true) :
    order_Constraints_p1 k1 k2 r.2.2.1 (r.2.2.1.length : Int) 0 r.1 r.2.1 r.2.2.1 r.2.2.2 [] = cond (whensOk r) (k2 r.1 r.2.1 r.2.2.1 r.2.2.2 ((List.range (nE r)).flatMap (evD r))) (k1 false []) := by
  have hb := valid_bd hv
  have key := range_check (nE r) (fun i (s : List Diff) => s.length ≤ 2 * i) (fun f j s => order_Constraints_p1_n f k1 k2 r.2.2.1 (r.2.2.1.length : Int) j r.1 r.2.1 r.2.2.1 r.2.2.2 s) (fun i => (whenAt r i).2)
    (fun s i => s ++ evD r i) (k1 false []) (fun s => k2 r.1 r.2.1 r.2.2.1 r.2.2.2 s) [] fuel (lt_fuel (by unfold nE; omega)) (by simp)
    (fun i s hi hs _ => by simp only [List.length_append, evD, List.length_cons, List.length_nil]; omega)
    (fun f i s hi hs => by
      unfold nE at hi
      have e1 : IntKind.i64.wrap ((i : Int) + 1) = i + 1 := i64_in _ (by omega)
      rw [order_Constraints_p1_step]
      unfold order_Constraints_p1_s
      refine (c_pos (by omega)).trans ?_
      refine (c_inb (by omega)).trans ?_
      simp only [Int.toNat_natCast, e1]
      refine (clock_When_eq _ _ _ _).trans ?_
      have hw : when? (r.1, r.2.1, r.2.2.1, r.2.2.2) (r.2.2.1.getD i (0, 0, [])).1 (r.2.2.1.getD i (0, 0, [])).2.1 = whenAt r i := rfl
      rw [hw]
      cases hk : (whenAt r i).2 with
      | false => rfl
      | true =>
        have hbd := whenAt_bd hk
        have e2 : IntKind.i64.wrap (0 - (whenAt r i).1.1) = -(whenAt r i).1.1 := (i64_in _ (by omega)).trans (by omega)
        simp only [Bool.not_true, cond_false, cond_true, e2]
        refine (c_room (by simp only [List.length_cons, List.length_nil]; omega)).trans ?_
        rfl)
    (fun f s hs => by
      rw [order_Constraints_p1_step]
      unfold order_Constraints_p1_s
      exact c_neg (by unfold nE; omega))
  unfold order_Constraints_p1
  rw [key, foldl_flat]
  rfl

theorem cons_p2 (k1 : order_Constraints_p2_K1 β) {r : Rec} (hv : valid r = true) {i : Nat} (hi : i < nE r) (t52 : List Event) (t53 t54 : Int) (a2 : Int) (a3 : List UInt8) (out : List Diff) (ho : out.length ≤ 4000) :
    order_Constraints_p2 k1 (i : Int) ((i : Int) + 1) t52 t53 t54 r.1 r.2.1 r.2.2.1 r.2.2.2 out (evAt r i).1 a2 a3 = k1 t52 t53 t54 r.1 r.2.1 r.2.2.1 r.2.2.2 (out ++ pairsI r (nE r) i) := by
  have hb := valid_bd hv
  have key : ∀ (c j f : Nat) (s : List Diff), j + c = nE r → i < j → c < f → s.length + 2 * c ≤ 100000 →
      order_Constraints_p2_n f k1 (i : Int) (j : Int) t52 t53 t54 r.1 r.2.1 r.2.2.1 r.2.2.2 s (evAt r i).1 a2 a3 = k1 t52 t53 t54 r.1 r.2.1 r.2.2.1 r.2.2.2 (s ++ (List.range' j c).flatMap (pairIf r i)) := by
    intro c
    induction c with
    | zero =>
      intro j f s hj hij hf hs
      obtain ⟨f, rfl⟩ : ∃ m, f = m + 1 := ⟨f - 1, by omega⟩
      rw [order_Constraints_p2_step]
      unfold order_Constraints_p2_s
      unfold nE at hj
      refine (c_neg (by omega)).trans ?_
      simp
    | succ c ih =>
      intro j f s hj hij hf hs
      obtain ⟨f, rfl⟩ : ∃ m, f = m + 1 := ⟨f - 1, by omega⟩
      rw [order_Constraints_p2_step]
      unfold order_Constraints_p2_s
      have hj' : j < nE r := by omega
      have hjn : (j : Int) < (r.2.2.1.length : Int) := by unfold nE at hj'; omega
      have e1 : IntKind.i64.wrap ((j : Int) + 1) = ((j + 1 : Nat) : Int) := i64_in _ (by unfold nE at hj'; omega)
      refine (c_pos hjn).trans ?_
      refine (c_inb (by omega)).trans ?_
      simp only [Int.toNat_natCast, e1]
      rw [List.range'_succ, List.flatMap_cons]
      have hpi : pairIf r i j = if (evAt r j).1 = (evAt r i).1 then pairD r i j else [] := rfl
      rw [hpi]
      by_cases hh : (evAt r j).1 = (evAt r i).1
      · refine (c_pos (p := (r.2.2.1.getD j ((0 : Int), ((0 : Int), ([] : List UInt8)))).1 = (evAt r i).1) hh).trans ?_
        rw [if_pos hh]
        refine (order_pair_eq hv hi hj' _).trans ?_
        have hp : (pairD r i j).length = 2 := by unfold pairD; split <;> rfl
        refine (c_room (by omega)).trans ?_
        refine (ih (j + 1) f _ (by omega) (by omega) (by omega) (by rw [List.length_append]; omega)).trans ?_
        rw [List.append_assoc]
      · refine (c_neg (p := (r.2.2.1.getD j ((0 : Int), ((0 : Int), ([] : List UInt8)))).1 = (evAt r i).1) hh).trans ?_
        rw [if_neg hh]
        refine (ih (j + 1) f _ (by omega) (by omega) (by omega) (by omega)).trans ?_
        rw [List.nil_append]
  unfold order_Constraints_p2
  have h1 := key (nE r - (i + 1)) (i + 1) fuel out (by omega) (by omega) (lt_fuel (by unfold nE at *; omega)) (by unfold nE at *; omega)
  rw [show ((i : Int) + 1) = ((i + 1 : Nat) : Int) by omega, h1]
  congr 1
  congr 1
  unfold pairsI
  have e : ∀ n, i < n → (List.range n).filter (fun j => decide (i < j)) = List.range' (i + 1) (n - (i + 1)) := by
    intro n
    induction n with
    | zero => intro h; omega
    | succ n ihn =>
      intro h
      rw [List.range_succ, List.filter_append]
      by_cases hin : i < n
      · rw [ihn hin]
        have : n + 1 - (i + 1) = (n - (i + 1)) + 1 := by omega
        rw [this, List.range'_concat]
        simp only [List.filter_cons, List.filter_nil, decide_eq_true hin, if_true]
        congr 2
        omega
      · have hin' : n = i := by omega
        subst hin'
        have : (List.range n).filter (fun j => decide (n < j)) = [] := by
          rw [List.filter_eq_nil_iff]
          intro a ha
          simp only [List.mem_range] at ha
          simp only [decide_eq_true_eq]
          omega
        rw [this]
        simp
  rw [e _ hi]

theorem cons_p3 (k1 : order_Constraints_p3_K1 β) {r : Rec} (hv : valid r = true) (out : List Diff) (ho : out.length ≤ 80) :
    order_Constraints_p3 k1 r.2.2.1 (r.2.2.1.length : Int) 0 r.1 r.2.1 r.2.2.1 r.2.2.2 out = k1 r.1 r.2.1 r.2.2.1 r.2.2.2 (out ++ (List.range (nE r)).flatMap (pairsI r (nE r))) := by
  have hb := valid_bd hv
  have h2 : ∀ i, (pairsI r (nE r) i).length ≤ 80 := fun i => by
    have h3 := flat_len (pairIf r i) 2 ((List.range (nE r)).filter fun j => decide (i < j)) (fun j _ => by
      unfold pairIf pairD
      split
      · split <;> simp
      · simp)
    have h4 := List.length_filter_le (fun j => decide (i < j)) (List.range (nE r))
    rw [List.length_range] at h4
    unfold pairsI nE at *
    omega
  have key := range_fold' (nE r) (fun i (s : List Diff) => s.length ≤ 80 + 80 * i) (fun f j s => order_Constraints_p3_n f k1 r.2.2.1 (r.2.2.1.length : Int) j r.1 r.2.1 r.2.2.1 r.2.2.2 s)
    (fun s i => s ++ pairsI r (nE r) i) (fun s => k1 r.1 r.2.1 r.2.2.1 r.2.2.2 s) out fuel (lt_fuel (by unfold nE; omega)) (by omega)
    (fun i s hi hs => by have := h2 i; rw [List.length_append]; omega)
    (fun f i s hi hs => by
      have hi' := hi
      unfold nE at hi'
      have e1 : IntKind.i64.wrap ((i : Int) + 1) = i + 1 := i64_in _ (by omega)
      rw [order_Constraints_p3_step]
      unfold order_Constraints_p3_s
      refine (c_pos (by omega)).trans ?_
      refine (c_inb (by omega)).trans ?_
      simp only [Int.toNat_natCast, e1]
      refine (cons_p2 _ hv hi _ _ _ _ _ s (by omega)).trans ?_
      simp only [e1])
    (fun f s hs => by
      rw [order_Constraints_p3_step]
      unfold order_Constraints_p3_s
      exact c_neg (by unfold nE; omega))
  unfold order_Constraints_p3
  rw [key, foldl_flat]

theorem cons_p4 (k1 : order_Constraints_p4_K1 β) (l : List Link) (hl : l.length ≤ 1000) (hok : ∀ x ∈ l, 0 ≤ x.1 ∧ x.1 ≤ 1000 ∧ 0 ≤ x.2.1 ∧ x.2.1 ≤ 1000 ∧ 0 ≤ x.2.2 ∧ x.2.2 ≤ 8589934592) (out : List Diff) (ho : out.length ≤ 10000) :
    order_Constraints_p4 k1 l (l.length : Int) 0 out = k1 (out ++ l.map linkD) := by
  have key := fold_loopI (fun i (s : List Diff) => s.length ≤ 10000 + i) (fun f j s => order_Constraints_p4_n f k1 l (l.length : Int) j s)
    (fun s x => s ++ [linkD x]) (fun s => k1 s) ((0 : Int), ((0 : Int), (0 : Int))) l out fuel (lt_fuel (by omega)) (by omega)
    (fun i s hi hs => by simp only [List.length_append, List.length_cons, List.length_nil]; omega)
    (fun f i s hi hs => by
      have e1 : IntKind.i64.wrap ((i : Int) + 1) = i + 1 := i64_in _ (by omega)
      have hx := hok _ (getD_mem (d := ((0 : Int), ((0 : Int), (0 : Int)))) hi)
      rw [order_Constraints_p4_step]
      unfold order_Constraints_p4_s
      refine (c_pos (by omega)).trans ?_
      refine (c_inb (by omega)).trans ?_
      simp only [Int.toNat_natCast, e1]
      generalize l.getD i ((0 : Int), ((0 : Int), (0 : Int))) = x at hx
      have e2 : IntKind.i64.wrap (x.2.1 + 1) = x.2.1 + 1 := i64_in _ (by omega)
      have e3 : IntKind.i64.wrap (x.1 + 1) = x.1 + 1 := i64_in _ (by omega)
      have e4 : IntKind.i64.wrap (0 - x.2.2) = -x.2.2 := (i64_in _ (by omega)).trans (by omega)
      simp only [e2, e3, e4]
      refine (c_room (by simp only [List.length_cons, List.length_nil]; omega)).trans ?_
      rfl)
    (fun f s hs => by
      rw [order_Constraints_p4_step]
      unfold order_Constraints_p4_s
      exact c_neg (by omega))
  unfold order_Constraints_p4
  rw [key]
  have : ∀ (l : List Link) (s : List Diff), l.foldl (fun s x => s ++ [linkD x]) s = s ++ l.map linkD := by
    intro l
    induction l with
    | nil => intro s; simp
    | cons x l ih => intro s; simp only [List.foldl_cons, List.map_cons]; rw [ih, List.append_assoc]; rfl
  rw [this]

theorem Constraints_eq (r : Rec) (k : Bool → List Diff → Option β) : order_Constraints r k = (match consW r with | some l => k true l | none => k false []) := by
  unfold order_Constraints order_Constraints_s
  refine (clock_Valid_eq _ _).trans ?_
  unfold consW
  cases hv : valid r with
  | false => rfl
  | true =>
    have hb := valid_bd hv
    have hp := valid_parts hv
    simp only [Bool.not_true, cond_false, Bool.true_and]
    refine (cons_p1 _ _ hv).trans ?_
    cases hw : whensOk r with
    | false => rfl
    | true =>
      simp only [cond_true, if_true]
      have h1 := flat_len (evD r) 2 (List.range (nE r)) (fun i _ => by simp [evD])
      rw [List.length_range] at h1
      have h2 := cons_len hv
      unfold consL at h2 ⊢
      rw [List.length_append, List.length_map] at h2
      refine (cons_p3 _ hv _ (by unfold nE at *; omega)).trans ?_
      exact cons_p4 _ _ (by omega) (fun x hx => by have := hp.2.2.2 x hx; unfold nE at *; omega) _ (by omega)

theorem closed_eq {r : Rec} (hE : nE r ≤ 100) (k : Mat → Bool → Option β) : order_closed r k = (match closedW r with | some m => k m true | none => k [] false) := by
  unfold order_closed order_closed_s
  refine (Constraints_eq _ _).trans ?_
  unfold closedW
  cases hc : consW r with
  | none => rfl
  | some l =>
    simp only [Bool.not_true, cond_false]
    have e1 : IntKind.i64.wrap ((r.2.2.1.length : Int) + 1) = ((nE r + 1 : Nat) : Int) := i64_in _ (by unfold nE at hE; omega)
    rw [e1]
    have hn : nE r ≤ 40 := by
      unfold consW at hc
      by_cases hh : (valid r && whensOk r) = true
      · rw [Bool.and_eq_true] at hh
        have := valid_bd hh.1
        unfold nE
        omega
      · rw [if_neg hh] at hc
        cases hc
    exact Close_eq (by omega) (by omega) l _

/-- One event is before another one for certain. -/
def bef (m : Mat) (a b : Nat) : Bool := decide (at2 m (b + 1) (a + 1) ≤ -1)
def opn (m : Mat) (a b : Nat) : Bool := !bef m a b && !bef m b a
def cmpN (m : Mat) (a b : Nat) : Int := if bef m a b then -1 else if bef m b a then 1 else 0
def rangeN (m : Mat) (i : Nat) : Int × Int := (-at2 m (i + 1) 0, at2 m 0 (i + 1))
def gapN (m : Mat) (a b : Nat) : Int × Int := (-at2 m (b + 1) (a + 1), at2 m (a + 1) (b + 1))

structure MatB (n : Nat) (m : Mat) : Prop where
  sq : Sq (n + 1) m
  small : n ≤ 100
  bd : ∀ i j, i < n + 1 → j < n + 1 → -9223372036854775807 ≤ at2 m i j ∧ at2 m i j ≤ 9223372036854775807

theorem before_eq {n : Nat} {m : Mat} (h : MatB n m) {a b : Nat} (ha : a < n) (hb : b < n) (k : Bool → Option β) : order_matrix_before m (a : Int) (b : Int) k = k (bef m a b) := by
  have hs := h.small
  have e1 : IntKind.i64.wrap ((a : Int) + 1) = ((a + 1 : Nat) : Int) := i64_in _ (by omega)
  have e2 : IntKind.i64.wrap ((b : Int) + 1) = ((b + 1 : Nat) : Int) := i64_in _ (by omega)
  have l0 := h.sq.len
  have l1 := h.sq.row (b + 1) (by omega)
  unfold order_matrix_before order_matrix_before_s
  simp only [e1, e2, Int.toNat_natCast]
  refine (c_inb (by omega)).trans ?_
  refine (c_inb (by omega)).trans ?_
  rfl

theorem open_eq {n : Nat} {m : Mat} (h : MatB n m) {a b : Nat} (ha : a < n) (hb : b < n) (k : Bool → Option β) : order_matrix_open m (a : Int) (b : Int) k = k (opn m a b) := by
  unfold order_matrix_open order_matrix_open_s
  refine (before_eq h ha hb _).trans ?_
  unfold opn
  cases bef m a b with
  | true => rfl
  | false => exact before_eq h hb ha _

theorem mwhen_eq {n : Nat} {m : Mat} (h : MatB n m) {i : Nat} (hi : i < n) (k : Int × Int → Option β) : order_matrix_when m (i : Int) k = k (rangeN m i) := by
  have hs := h.small
  have e1 : IntKind.i64.wrap ((i : Int) + 1) = ((i + 1 : Nat) : Int) := i64_in _ (by omega)
  have l0 := h.sq.len
  have l1 := h.sq.row (i + 1) (by omega)
  have l2 := h.sq.row 0 (by omega)
  have hb := h.bd (i + 1) 0 (by omega) (by omega)
  have e2 : IntKind.i64.wrap (0 - at2 m (i + 1) 0) = -at2 m (i + 1) 0 := (i64_in _ (by omega)).trans (by omega)
  unfold order_matrix_when order_matrix_when_s
  simp only [e1, Int.toNat_natCast, Int.toNat_zero]
  refine (c_inb (by omega)).trans ?_
  refine (c_inb (by omega)).trans ?_
  refine (c_inb (by omega)).trans ?_
  refine (c_inb (by omega)).trans ?_
  unfold at2 at e2
  rw [e2]
  rfl

theorem oin_eq (n lo hi : Int) (k : Bool → Option β) : order_in n lo hi k = k (inN n lo hi) := by
  simp only [order_in, order_in_s, inN, c_kb]

theorem consistent_eq {r : Rec} (hE : nE r ≤ 100) (k : Bool → Option β) : order_Consistent r k = k (closedW r).isSome := by
  unfold order_Consistent order_Consistent_s
  refine (closed_eq hE _).trans ?_
  cases closedW r <;> rfl

theorem both_eq {r : Rec} (hE : nE r ≤ 100) (a b : Int) (k : Mat → Bool → Option β) : order_both r a b k = (match closedW r with | some m => k m (inN a 0 (nE r - 1) && inN b 0 (nE r - 1)) | none => k [] false) := by
  unfold order_both order_both_s
  refine (closed_eq hE _).trans ?_
  cases closedW r with
  | none => rfl
  | some m =>
    have e1 : IntKind.i64.wrap ((r.2.2.1.length : Int) - 1) = (nE r : Int) - 1 := i64_in _ (by unfold nE at hE; omega)
    simp only [cond_true, e1]
    refine (oin_eq _ _ _ _).trans ?_
    cases inN a 0 (nE r - 1) with
    | false => rfl
    | true => exact oin_eq _ _ _ _

theorem Compare_eq {r : Rec} {m : Mat} (he : closedW r = some m) (h : MatB (nE r) m) {a b : Nat} (ha : a < nE r) (hb : b < nE r) (k : Int → Bool → Option β) : order_Compare r (a : Int) (b : Int) k = k (cmpN m a b) true := by
  unfold order_Compare order_Compare_s
  refine (both_eq h.small _ _ _).trans ?_
  rw [he]
  simp only []
  rw [inN_mk (by omega), inN_mk (by omega)]
  simp only [Bool.and_self, Bool.not_true, cond_false]
  refine (before_eq h ha hb _).trans ?_
  unfold cmpN
  cases bef m a b with
  | true => rfl
  | false =>
    simp only [cond_false]
    refine (before_eq h hb ha _).trans ?_
    cases bef m b a <;> rfl

theorem Gap_eq {r : Rec} {m : Mat} (he : closedW r = some m) (h : MatB (nE r) m) {a b : Nat} (ha : a < nE r) (hb : b < nE r) (k : Int × Int → Bool → Option β) : order_Gap r (a : Int) (b : Int) k = k (gapN m a b) true := by
  have hs := h.small
  have e1 : IntKind.i64.wrap ((a : Int) + 1) = ((a + 1 : Nat) : Int) := i64_in _ (by omega)
  have e2 : IntKind.i64.wrap ((b : Int) + 1) = ((b + 1 : Nat) : Int) := i64_in _ (by omega)
  have l0 := h.sq.len
  have l1 := h.sq.row (b + 1) (by omega)
  have l2 := h.sq.row (a + 1) (by omega)
  have hbd := h.bd (b + 1) (a + 1) (by omega) (by omega)
  have e3 : IntKind.i64.wrap (0 - at2 m (b + 1) (a + 1)) = -at2 m (b + 1) (a + 1) := (i64_in _ (by omega)).trans (by omega)
  unfold order_Gap order_Gap_s
  refine (both_eq h.small _ _ _).trans ?_
  rw [he]
  simp only []
  rw [inN_mk (by omega), inN_mk (by omega)]
  simp only [Bool.and_self, Bool.not_true, cond_false, e1, e2, Int.toNat_natCast]
  refine (c_inb (by omega)).trans ?_
  refine (c_inb (by omega)).trans ?_
  refine (c_inb (by omega)).trans ?_
  refine (c_inb (by omega)).trans ?_
  unfold at2 at e3
  rw [e3]
  rfl

def whensN (n : Nat) (m : Mat) : List (Int × Int) := (List.range n).map (rangeN m)

theorem When_eq {r : Rec} (hE : nE r ≤ 100) (hm : ∀ m, closedW r = some m → MatB (nE r) m) (k : Bool → List (Int × Int) → Option β) :
    order_When r k = (match closedW r with | some m => k true (whensN (nE r) m) | none => k false []) := by
  unfold order_When order_When_s
  refine (closed_eq hE _).trans ?_
  cases he : closedW r with
  | none => rfl
  | some m =>
    have h := hm m he
    have hs := h.small
    simp only [Bool.not_true, cond_false]
    have key := range_fold' (nE r) (fun i (s : List (Int × Int)) => s.length ≤ i) (fun f j s => order_When_p1_n f (fun out => k true out) m (r.2.2.1.length : Int) j s)
      (fun s i => s ++ [rangeN m i]) (fun s => k true s) [] fuel (lt_fuel (by omega)) (by simp)
      (fun i s hi hs => by simp only [List.length_append, List.length_cons, List.length_nil]; omega)
      (fun f i s hi hs => by
        have hi' := hi
        unfold nE at hi'
        have e1 : IntKind.i64.wrap ((i : Int) + 1) = i + 1 := i64_in _ (by omega)
        rw [order_When_p1_step]
        unfold order_When_p1_s
        refine (c_pos (by omega)).trans ?_
        refine (mwhen_eq h hi _).trans ?_
        simp only [e1]
        exact c_room (by simp only [List.length_cons, List.length_nil]; omega))
      (fun f s hs => by
        rw [order_When_p1_step]
        unfold order_When_p1_s
        exact c_neg (by unfold nE; omega))
    unfold order_When_p1
    rw [key]
    have : ∀ (l : List Nat) (s : List (Int × Int)), l.foldl (fun s i => s ++ [rangeN m i]) s = s ++ l.map (rangeN m) := by
      intro l
      induction l with
      | nil => intro s; simp
      | cons x l ih => intro s; simp only [List.foldl_cons, List.map_cons]; rw [ih, List.append_assoc]; rfl
    rw [this]
    rfl
end
end
end Go.Lift
