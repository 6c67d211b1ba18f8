/- order.Fits, order.Allows in plain Lean. -/
import Derived.Test.YtamnjokpncjbfaaFn2
import Derived.Test.YtamnjokpncjbfaaLBase
import Derived.Test.YtamnjokpncjbfaaLMat
import Derived.Test.YtamnjokpncjbfaaLClock
import Derived.Test.YtamnjokpncjbfaaLDice
import Derived.Test.YtamnjokpncjbfaaLRecord
import Derived.Test.YtamnjokpncjbfaaLWhen
import Derived.Test.YtamnjokpncjbfaaLClose
import Derived.Test.YtamnjokpncjbfaaLValid
import Derived.Test.YtamnjokpncjbfaaLDirect
import Derived.Test.YtamnjokpncjbfaaLClosure
import Derived.Test.YtamnjokpncjbfaaLClosure2
import Derived.Test.YtamnjokpncjbfaaLClosure3
import Derived.Test.YtamnjokpncjbfaaLCons
import Derived.Test.YtamnjokpncjbfaaLOrder
import Derived.Test.YtamnjokpncjbfaaLOrder2
namespace Go.Lift
open Go.RowKit Go.IntWalk
noncomputable section
set_option linter.unusedVariables false
set_option linter.unusedSimpArgs false
set_option maxRecDepth 10000

/-- A loop that looks for an element. -/
theorem any_loop {β α : Type} (F : Nat → Int → Option β) (p : α → Bool) (KT KF : Option β) (d : α) (xs : List α) (n : Nat) (hn : xs.length < n)
    (h1 : ∀ (m i : Nat), i < xs.length → F (m + 1) (i : Int) = cond (p (xs.getD i d)) KT (F m ((i : Int) + 1)))
    (h2 : ∀ (m : Nat), F (m + 1) (xs.length : Int) = KF) : F n 0 = cond (xs.any p) KT KF := by
  have h := check_loop F (fun x => !p x) KT KF d xs n hn (fun m i hi => by rw [h1 m i hi]; cases p (xs.getD i d) <;> rfl) h2
  rw [h]
  have : xs.all (fun x => !p x) = !xs.any p := by
    rw [List.all_eq_not_any_not]
    simp
  rw [this]
  cases xs.any p <;> rfl

section
variable {β : Type}
def instB (t : Int) : Bool := inN t 0 8589934592
def bigB (t : Int) : Bool := inN t (-1099511627776) 1099511627776

theorem anyFits1 (l : List Int) (hl : l.length ≤ 100000) (k : Bool → Option β) : slices_ContainsFunc_int_int_vorder_Fits_f1 l k = k (l.any fun t => !instB t) := by
  unfold slices_ContainsFunc_int_int_vorder_Fits_f1 slices_ContainsFunc_int_int_vorder_Fits_f1_s slices_IndexFunc_int_int_vorder_Fits_f1 slices_IndexFunc_int_int_vorder_Fits_f1_s slices_IndexFunc_int_int_vorder_Fits_f1_p1
  refine (any_loop (fun f j => slices_IndexFunc_int_int_vorder_Fits_f1_p1_n f (fun (t4 : Int) => k (decide ((0 : Int) ≤ t4))) (fun _ => k (decide ((0 : Int) ≤ -1))) l (l.length : Int) j) (fun t => !instB t) (k true) (k false) (0 : Int) l fuel (lt_fuel (by omega))
    (fun f j hj => ?_) (fun f => ?_)).trans ?_
  · have e1 : IntKind.i64.wrap ((j : Int) + 1) = j + 1 := i64_in _ (by omega)
    rw [slices_IndexFunc_int_int_vorder_Fits_f1_p1_step]
    unfold slices_IndexFunc_int_int_vorder_Fits_f1_p1_s
    refine (c_pos (by omega)).trans ?_
    refine (c_inb (by omega)).trans ?_
    simp only [Int.toNat_natCast, e1]
    unfold order_Fits_f1 order_Fits_f1_s
    refine (oin_eq _ _ _ _).trans ?_
    unfold instB
    rw [decide_eq_true (show (0 : Int) ≤ j by omega)]
  · rw [slices_IndexFunc_int_int_vorder_Fits_f1_p1_step]
    unfold slices_IndexFunc_int_int_vorder_Fits_f1_p1_s
    exact c_neg (by omega)
  · cases l.any fun t => !instB t <;> rfl

theorem anyFits2 (l : List Int) (hl : l.length ≤ 100000) (k : Bool → Option β) : slices_ContainsFunc_int_int_vconstraint_Fits_f1 l k = k (l.any fun t => !bigB t) := by
  unfold slices_ContainsFunc_int_int_vconstraint_Fits_f1 slices_ContainsFunc_int_int_vconstraint_Fits_f1_s slices_IndexFunc_int_int_vconstraint_Fits_f1 slices_IndexFunc_int_int_vconstraint_Fits_f1_s slices_IndexFunc_int_int_vconstraint_Fits_f1_p1
  refine (any_loop (fun f j => slices_IndexFunc_int_int_vconstraint_Fits_f1_p1_n f (fun (t4 : Int) => k (decide ((0 : Int) ≤ t4))) (fun _ => k (decide ((0 : Int) ≤ -1))) l (l.length : Int) j) (fun t => !bigB t) (k true) (k false) (0 : Int) l fuel (lt_fuel (by omega))
    (fun f j hj => ?_) (fun f => ?_)).trans ?_
  · have e1 : IntKind.i64.wrap ((j : Int) + 1) = j + 1 := i64_in _ (by omega)
    rw [slices_IndexFunc_int_int_vconstraint_Fits_f1_p1_step]
    unfold slices_IndexFunc_int_int_vconstraint_Fits_f1_p1_s
    refine (c_pos (by omega)).trans ?_
    refine (c_inb (by omega)).trans ?_
    simp only [Int.toNat_natCast, e1]
    unfold constraint_Fits_f1 constraint_Fits_f1_s
    refine (constraint_in_eq _ _ _ _).trans ?_
    unfold bigB inN
    rw [decide_eq_true (show (0 : Int) ≤ j by omega)]
  · rw [slices_IndexFunc_int_int_vconstraint_Fits_f1_p1_step]
    unfold slices_IndexFunc_int_int_vconstraint_Fits_f1_p1_s
    exact c_neg (by omega)
  · cases l.any fun t => !bigB t <;> rfl

def brokenW (x : List Int) (d : Diff) : Bool := decide (d.2.2 < x.getD d.2.1.toNat 0 - x.getD d.1.toNat 0)

theorem anyFits3 {n : Nat} (l : List Diff) (hl : l.length ≤ 100000) (ho : l.all (diffOk n) = true) (x : List Int) (hx : x.length = n) (hb : ∀ i, i < n → -1099511627776 ≤ x.getD i 0 ∧ x.getD i 0 ≤ 1099511627776) (k : Bool → List Int → Option β) :
    slices_ContainsFunc_api_Diff_api_Diff_vconstraint_Fits_f2 l x k = k (l.any (brokenW x)) x := by
  unfold slices_ContainsFunc_api_Diff_api_Diff_vconstraint_Fits_f2 slices_ContainsFunc_api_Diff_api_Diff_vconstraint_Fits_f2_s slices_IndexFunc_api_Diff_api_Diff_vconstraint_Fits_f2 slices_IndexFunc_api_Diff_api_Diff_vconstraint_Fits_f2_s slices_IndexFunc_api_Diff_api_Diff_vconstraint_Fits_f2_p1
  refine (any_loop (fun f j => slices_IndexFunc_api_Diff_api_Diff_vconstraint_Fits_f2_p1_n f (fun (t4 : Int) (b : List Int) => k (decide ((0 : Int) ≤ t4)) b) (fun b => k (decide ((0 : Int) ≤ -1)) b) l (l.length : Int) j x) (brokenW x) (k true x) (k false x) ((0 : Int), ((0 : Int), (0 : Int))) l fuel (lt_fuel (by omega))
    (fun f j hj => ?_) (fun f => ?_)).trans ?_
  · have e1 : IntKind.i64.wrap ((j : Int) + 1) = j + 1 := i64_in _ (by omega)
    have hd := of_decide_eq_true (List.all_eq_true.1 ho _ (getD_mem (d := ((0 : Int), ((0 : Int), (0 : Int)))) hj))
    rw [slices_IndexFunc_api_Diff_api_Diff_vconstraint_Fits_f2_p1_step]
    unfold slices_IndexFunc_api_Diff_api_Diff_vconstraint_Fits_f2_p1_s
    refine (c_pos (by omega)).trans ?_
    refine (c_inb (by omega)).trans ?_
    simp only [Int.toNat_natCast, e1]
    generalize l.getD j ((0 : Int), ((0 : Int), (0 : Int))) = d at hd
    have h1 := hb d.2.1.toNat (by omega)
    have h2 := hb d.1.toNat (by omega)
    have e2 : IntKind.i64.wrap (x.getD d.2.1.toNat 0 - x.getD d.1.toNat 0) = x.getD d.2.1.toNat 0 - x.getD d.1.toNat 0 := i64_in _ (by omega)
    unfold constraint_Fits_f2 constraint_Fits_f2_s
    refine (c_inb (by omega)).trans ?_
    refine (c_inb (by omega)).trans ?_
    simp only [e2]
    unfold brokenW
    rw [decide_eq_true (show (0 : Int) ≤ j by omega)]
  · rw [slices_IndexFunc_api_Diff_api_Diff_vconstraint_Fits_f2_p1_step]
    unfold slices_IndexFunc_api_Diff_api_Diff_vconstraint_Fits_f2_p1_s
    exact c_neg (by omega)
  · cases l.any (brokenW x) <;> rfl

/-- constraint.Fits of valid constraints. -/
theorem cFits_eq {n : Nat} (h1 : 1 ≤ n) (hn : n ≤ 41) {l : List Diff} (hv : validD n l = true) (x : List Int) (hx : x.length = n) (k : Bool → Option β) :
    constraint_Fits (n : Int) l x k = k (cond (x.any fun t => !bigB t) false (!l.any (brokenW x))) := by
  have hv' := hv
  unfold validD at hv'
  rw [Bool.and_eq_true] at hv'
  have hl := of_decide_eq_true hv'.1
  unfold constraint_Fits constraint_Fits_s
  refine (Valid_eq h1 hn _).trans ?_
  rw [hv]
  simp only [Bool.not_true, cond_false]
  refine (c_npos (by omega)).trans ?_
  refine (anyFits2 x (by omega) _).trans ?_
  cases hb : x.any fun t => !bigB t with
  | true => rfl
  | false =>
    simp only [cond_false]
    refine (anyFits3 l (by omega) hv'.2 x hx (fun i hi => ?_) _).trans rfl
    rw [List.any_eq_false] at hb
    have := hb (x.getD i 0) (getD_mem (by omega))
    simp only [Bool.not_eq_true, Bool.not_eq_false'] at this
    exact inN_iff.1 this

/-- What Fits says. -/
def fitsW (r : Rec) (times : List Int) : Bool := (closedW r).isSome && (decide (times.length = nE r) && (times.all instB && !(consL r).any (brokenW (0 :: times))))

theorem consW_of_closed {r : Rec} {m : Mat} (e : closedW r = some m) : valid r = true ∧ whensOk r = true ∧ consW r = some (consL r) := by
  unfold closedW at e
  cases hc : consW r with
  | none => rw [hc] at e; cases e
  | some l =>
    have hc' := hc
    unfold consW at hc'
    by_cases hh : (valid r && whensOk r) = true
    · rw [if_pos hh] at hc'
      rw [Bool.and_eq_true] at hh
      cases hc'
      exact ⟨hh.1, hh.2, rfl⟩
    · rw [if_neg hh] at hc'
      cases hc'

theorem Fits_eq {r : Rec} (hE : nE r ≤ 100) (times : List Int) (k : Bool → Option β) : order_Fits r times k = k (fitsW r times) := by
  unfold order_Fits order_Fits_s
  refine (Constraints_eq _ _).trans ?_
  unfold fitsW
  have key : ∀ (b : Bool) (l : List Diff), (∀ m, closedW r = some m → l = consL r) → (order_Consistent r (fun (rConsistent : Bool) =>
      cond (!rConsistent) (k false) (cond (!decide ((List.length times : Int) = (List.length r.2.2.1 : Int))) (k false)
      (slices_ContainsFunc_int_int_vorder_Fits_f1 times (fun (rContainsFuncintint : Bool) => cond rContainsFuncintint (k false)
      (cond (decide ((List.length [(0 : Int)] + List.length times) * 8 ≤ roomMax))
      (constraint_Fits (IntKind.i64.wrap ((List.length times : Int) + (1 : Int))) l ([(0 : Int)] ++ times) (fun (rFits : Bool) => k rFits)) none))))) : Option β) =
      k ((closedW r).isSome && (decide (times.length = nE r) && (times.all instB && !(consL r).any (brokenW (0 :: times))))) := by
    intro b l hl
    refine (consistent_eq hE _).trans ?_
    cases he : closedW r with
    | none => rfl
    | some m =>
      obtain ⟨hv, hw, hc⟩ := consW_of_closed he
      have hll := hl m he
      subst hll
      have hb := valid_bd hv
      simp only [Option.isSome_some, Bool.not_true, cond_false, Bool.true_and]
      by_cases hlen : times.length = nE r
      · refine (c_npos (by unfold nE at hlen; omega)).trans ?_
        rw [decide_eq_true hlen, Bool.true_and]
        have hn : nE r ≤ 40 := by unfold nE; omega
        refine (anyFits1 times (by omega) _).trans ?_
        have ha : times.any (fun t => !instB t) = !times.all instB := by
          rw [List.any_eq_not_all_not]
          simp
        rw [ha]
        cases hi : times.all instB with
        | false => rfl
        | true =>
          simp only [Bool.not_true, cond_false, Bool.true_and]
          refine (c_room (by simp only [List.length_cons, List.length_nil]; omega)).trans ?_
          have e1 : IntKind.i64.wrap ((times.length : Int) + 1) = ((nE r + 1 : Nat) : Int) := (i64_in _ (by omega)).trans (by omega)
          rw [e1]
          refine (cFits_eq (by omega) (by omega) (consL_valid hv hw) _ (by simp [hlen]) _).trans ?_
          have hbig : ([(0 : Int)] ++ times).any (fun t => !bigB t) = false := by
            rw [List.any_eq_false]
            intro t ht
            simp only [List.cons_append, List.nil_append, List.mem_cons] at ht
            have : 0 ≤ t ∧ t ≤ 8589934592 := by
              rcases ht with rfl | ht
              · omega
              · exact inN_iff.1 (List.all_eq_true.1 hi t ht)
            have : bigB t = true := inN_mk (by omega)
            rw [this]
            simp
          rw [hbig]
          rfl
      · refine (c_nneg (by unfold nE at hlen; omega)).trans ?_
        rw [decide_eq_false hlen]
        rfl
  cases hc : consW r with
  | none =>
    refine key false [] (fun m he => ?_)
    rw [(consW_of_closed he).2.2] at hc
    cases hc
  | some l =>
    refine key true l (fun m he => ?_)
    rw [(consW_of_closed he).2.2] at hc
    cases hc
    rfl

/-! ### Allows -/
theorem contains_eq (l : List Int) (hl : l.length ≤ 100000) (v : Int) (k : Bool → Option β) : slices_Contains_int_int l v k = k (l.any fun x => decide (v = x)) := by
  unfold slices_Contains_int_int slices_Contains_int_int_s slices_Index_int_int slices_Index_int_int_s slices_Index_int_int_p1
  refine (any_loop (fun f j => slices_Index_int_int_p1_n f (fun (t4 : Int) => k (decide ((0 : Int) ≤ t4))) (fun _ => k (decide ((0 : Int) ≤ -1))) l v (l.length : Int) j) (fun x => decide (v = x)) (k true) (k false) (0 : Int) l fuel (lt_fuel (by omega))
    (fun f j hj => ?_) (fun f => ?_)).trans ?_
  · have e1 : IntKind.i64.wrap ((j : Int) + 1) = j + 1 := i64_in _ (by omega)
    rw [slices_Index_int_int_p1_step]
    unfold slices_Index_int_int_p1_s
    refine (c_pos (by omega)).trans ?_
    refine (c_inb (by omega)).trans ?_
    simp only [Int.toNat_natCast, e1]
    rw [decide_eq_true (show (0 : Int) ≤ j by omega)]
  · rw [slices_Index_int_int_p1_step]
    unfold slices_Index_int_int_p1_s
    exact c_neg (by omega)
  · cases l.any fun x => decide (v = x) <;> rfl

theorem anyAllows {n : Nat} {m : Mat} (h : MatB n m) (l : List Int) (hl : l.length ≤ 100000) (ho : ∀ y ∈ l, 0 ≤ y ∧ y < n) {x : Int} (hx : 0 ≤ x ∧ x < n) (k : Bool → Mat → Int → Option β) :
    slices_ContainsFunc_int_int_vorder_Allows_f1 l m x k = k (l.any fun y => bef m x.toNat y.toNat) m x := by
  unfold slices_ContainsFunc_int_int_vorder_Allows_f1 slices_ContainsFunc_int_int_vorder_Allows_f1_s slices_IndexFunc_int_int_vorder_Allows_f1 slices_IndexFunc_int_int_vorder_Allows_f1_s slices_IndexFunc_int_int_vorder_Allows_f1_p1
  refine (any_loop (fun f j => slices_IndexFunc_int_int_vorder_Allows_f1_p1_n f (fun (t4 : Int) m x => k (decide ((0 : Int) ≤ t4)) m x) (fun m x => k (decide ((0 : Int) ≤ -1)) m x) l (l.length : Int) j m x) (fun y => bef m x.toNat y.toNat) (k true m x) (k false m x) (0 : Int) l fuel (lt_fuel (by omega))
    (fun f j hj => ?_) (fun f => ?_)).trans ?_
  · have e1 : IntKind.i64.wrap ((j : Int) + 1) = j + 1 := i64_in _ (by omega)
    have hy := ho _ (getD_mem (d := (0 : Int)) hj)
    rw [slices_IndexFunc_int_int_vorder_Allows_f1_p1_step]
    unfold slices_IndexFunc_int_int_vorder_Allows_f1_p1_s
    refine (c_pos (by omega)).trans ?_
    refine (c_inb (by omega)).trans ?_
    simp only [Int.toNat_natCast, e1]
    generalize l.getD j (0 : Int) = y at hy
    unfold order_Allows_f1 order_Allows_f1_s
    have hb := before_eq h (a := x.toNat) (b := y.toNat) (by omega) (by omega) (β := β)
    rw [show ((x.toNat : Nat) : Int) = x by omega, show ((y.toNat : Nat) : Int) = y by omega] at hb
    refine (hb _).trans ?_
    rw [decide_eq_true (show (0 : Int) ≤ j by omega)]
  · rw [slices_IndexFunc_int_int_vorder_Allows_f1_p1_step]
    unfold slices_IndexFunc_int_int_vorder_Allows_f1_p1_s
    exact c_neg (by omega)
  · cases l.any fun y => bef m x.toNat y.toNat <;> rfl

/-- The test of one place of an order. -/
def placeOk (n : Nat) (m : Mat) (l : List Int) (i : Nat) : Bool :=
  inN (l.getD i 0) 0 ((n : Int) - 1) && !((l.take i).any fun x => decide (l.getD i 0 = x)) && !((l.take i).any fun y => bef m (l.getD i 0).toNat y.toNat)
def allowsW (n : Nat) (m : Mat) (l : List Int) : Bool := decide (l.length = n) && (List.range n).all (placeOk n m l)

/-- Places ahead of a place that is looked at are right. -/
theorem allows_loop {n : Nat} {m : Mat} (h : MatB n m) (k1 : order_Allows_p1_K1 β) (k2 : order_Allows_p1_K2 β) (l : List Int) (hl : l.length = n) :
    order_Allows_p1 k1 k2 l l (l.length : Int) 0 m = cond ((List.range n).all (placeOk n m l)) (k2 ()) (k1 false) := by
  have hs := h.small
  have key := range_check (σ := Unit) n (fun i _ => ∀ y ∈ l.take i, 0 ≤ y ∧ y < n) (fun f j _ => order_Allows_p1_n f k1 k2 l l (l.length : Int) j m) (placeOk n m l) (fun s _ => s) (k1 false) (fun _ => k2 ()) () fuel (lt_fuel (by omega)) (fun j hj => by simp at hj)
    (fun i s hi hs hp => by
      intro y hy
      rw [List.take_succ_eq_append_getElem (by omega), List.mem_append] at hy
      rcases hy with hy | hy
      · exact hs y hy
      · simp only [List.mem_cons, List.not_mem_nil, or_false] at hy
        unfold placeOk at hp
        rw [Bool.and_eq_true, Bool.and_eq_true] at hp
        have := inN_iff.1 hp.1.1
        have e : l.getD i 0 = l[i] := by simp [List.getD, show i < l.length by omega]
        rw [e] at this
        omega)
    (fun f i s hi hs' => by
      have e1 : IntKind.i64.wrap ((i : Int) + 1) = i + 1 := i64_in _ (by omega)
      have e2 : IntKind.i64.wrap ((l.length : Int) - 1) = (n : Int) - 1 := (i64_in _ (by omega)).trans (by omega)
      rw [order_Allows_p1_step]
      unfold order_Allows_p1_s
      refine (c_pos (by omega)).trans ?_
      refine (c_inb (by omega)).trans ?_
      simp only [Int.toNat_natCast, Int.toNat_zero, List.drop_zero, e1, e2]
      refine (oin_eq _ _ _ _).trans ?_
      unfold placeOk
      cases hin : inN (l.getD i 0) 0 ((n : Int) - 1) with
      | false => rfl
      | true =>
        have hb := inN_iff.1 hin
        simp only [Bool.not_true, cond_false, Bool.true_and]
        have ht : cond (decide ((0 : Int) ≤ 0) && (decide ((0 : Int) ≤ (i : Int)) && decide ((i : Int) ≤ (l.length : Int)))) = fun (a b : Option β) => a := by
          rw [decide_eq_true (show (0 : Int) ≤ 0 by omega), decide_eq_true (show (0 : Int) ≤ (i : Int) by omega), decide_eq_true (show (i : Int) ≤ (l.length : Int) by omega)]
          rfl
        simp only [ht]
        refine (contains_eq _ (by rw [List.length_take]; omega) _ _).trans ?_
        cases (l.take i).any fun x => decide (l.getD i 0 = x) with
        | true => rfl
        | false =>
          simp only [cond_false, Bool.not_false, Bool.true_and]
          refine (anyAllows h _ (by rw [List.length_take]; omega) hs' (by omega) _).trans ?_
          cases (l.take i).any fun y => bef m (l.getD i 0).toNat y.toNat <;> rfl)
    (fun f s hs => by
      rw [order_Allows_p1_step]
      unfold order_Allows_p1_s
      exact c_neg (by omega))
  unfold order_Allows_p1
  exact key

theorem Allows_eq {r : Rec} {m : Mat} (he : closedW r = some m) (h : MatB (nE r) m) (l : List Int) (k : Bool → Option β) : order_Allows r l k = k (allowsW (nE r) m l) := by
  unfold order_Allows order_Allows_s
  refine (closed_eq h.small _).trans ?_
  rw [he]
  simp only [Bool.not_true, cond_false]
  unfold allowsW
  by_cases hl : l.length = nE r
  · refine (c_npos (by unfold nE at hl; omega)).trans ?_
    refine (allows_loop h _ _ l hl).trans ?_
    rw [decide_eq_true hl]
    cases (List.range (nE r)).all (placeOk (nE r) m l) <;> rfl
  · refine (c_nneg (by unfold nE at hl; omega)).trans ?_
    rw [decide_eq_false hl]
    rfl
end
end
end Go.Lift
