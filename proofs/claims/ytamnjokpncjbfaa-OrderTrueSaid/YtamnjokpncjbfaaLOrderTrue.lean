/- OrderTrue in plain Lean. -/
import Derived.Test.YtamnjokpncjbfaaFn1
import Derived.Test.YtamnjokpncjbfaaLOrder2
import Derived.Test.YtamnjokpncjbfaaLFits
namespace Go.Lift
open Go.RowKit Go.IntWalk
noncomputable section
set_option linter.unusedVariables false
set_option linter.unusedSimpArgs false
set_option maxRecDepth 10000

/-- Times that fulfil all constraints break none. -/
theorem not_broken {r : Rec} (hv : valid r = true) {times : List Int} (s : SolR r (xOf times)) : (consL r).any (brokenW (0 :: times)) = false := by
  rw [List.any_eq_false]
  intro d hd
  have h := (sol_cons hv (xOf times)).2 s d hd
  have e : ∀ j, (0 :: times).getD j 0 = xOf times j := by
    intro j
    cases j with
    | zero => rfl
    | succ j => rw [xOf_succ]; rfl
  unfold brokenW
  rw [e, e, decide_eq_false (by omega)]
  simp

theorem RecOk.times_bd {n : Int} {r : Rec} {ahead times : List Int} (h : RecOk n r ahead times) {i : Nat} (hi : i < nE r) : 864000 ≤ times.getD i 0 ∧ times.getD i 0 < 864300 := by
  have := h.evOk hi
  exact ⟨this.2.2.1, this.2.2.2.1⟩

theorem RecOk.fits {n : Int} {r : Rec} {ahead times : List Int} (h : RecOk n r ahead times) (hn : n ≤ 7) {m : Mat} (hm : ClosedR r m) : fitsW r times = true := by
  have hl : times.length = nE r := h.lenE
  unfold fitsW
  rw [hm.eq, not_broken hm.valid (h.solR (by omega)), decide_eq_true hl]
  simp only [Option.isSome_some, Bool.true_and, Bool.not_false, Bool.and_true, List.all_eq_true]
  intro t ht
  obtain ⟨i, hi, rfl⟩ := List.getElem_of_mem ht
  have := h.times_bd (i := i) (by omega)
  have e : times.getD i 0 = times[i] := by simp [List.getD, hi]
  rw [e] at this
  exact inN_mk (by omega)

section
variable {β : Type} {n : Int} {r : Rec} {ahead times : List Int}

/-- The true gap is in its range. -/
theorem ClosedR.gap {r : Rec} {m : Mat} (hm : ClosedR r m) {x : Nat → Int} (s : SolR r x) {a b : Nat} (ha : a < nE r) (hb : b < nE r) : (gapN m a b).1 ≤ x (b + 1) - x (a + 1) ∧ x (b + 1) - x (a + 1) ≤ (gapN m a b).2 := by
  have h1 := hm.sol s (i := b + 1) (j := a + 1) (by omega) (by omega)
  have h2 := hm.sol s (i := a + 1) (j := b + 1) (by omega) (by omega)
  unfold gapN
  simp only
  omega

theorem ClosedR.bef {r : Rec} {m : Mat} (hm : ClosedR r m) {a b : Nat} (ha : a < nE r) (hb : b < nE r) : bef m a b = true ↔ ∀ x, SolR r x → x (a + 1) < x (b + 1) := by
  unfold Go.Lift.bef
  rw [decide_eq_true_iff, hm.le_iff (i := b + 1) (j := a + 1) (by omega) (by omega)]
  constructor
  · intro h x s
    have := h x s
    omega
  · intro h x s
    have := h x s
    omega

theorem ClosedR.bef_asymm {r : Rec} {m : Mat} (hm : ClosedR r m) {a b : Nat} (ha : a < nE r) (hb : b < nE r) (h : Go.Lift.bef m a b = true) : Go.Lift.bef m b a = false := by
  cases e : Go.Lift.bef m b a with
  | false => rfl
  | true =>
    have h1 := (hm.bef ha hb).1 h _ (hm.row (i := 0) (by omega))
    have h2 := (hm.bef hb ha).1 e _ (hm.row (i := 0) (by omega))
    omega

theorem cmpN_before {m : Mat} {a b : Nat} : cmpN m a b = -1 ↔ bef m a b = true := by
  unfold cmpN
  cases bef m a b <;> cases bef m b a <;> simp

theorem cmpN_cases (m : Mat) (a b : Nat) : cmpN m a b = -1 ∨ cmpN m a b = 0 ∨ cmpN m a b = 1 := by
  unfold cmpN
  cases bef m a b <;> cases bef m b a <;> simp

theorem ClosedR.cmp_after {r : Rec} {m : Mat} (hm : ClosedR r m) {a b : Nat} (ha : a < nE r) (hb : b < nE r) : cmpN m a b = 1 ↔ Go.Lift.bef m b a = true := by
  unfold cmpN
  cases h1 : Go.Lift.bef m a b with
  | true => rw [hm.bef_asymm ha hb h1]; simp
  | false => cases Go.Lift.bef m b a <;> simp

theorem ClosedR.cmp_open {r : Rec} {m : Mat} (hm : ClosedR r m) {a b : Nat} (ha : a < nE r) (hb : b < nE r) : cmpN m a b = 0 ↔ opn m a b = true := by
  unfold cmpN opn
  cases Go.Lift.bef m a b <;> cases Go.Lift.bef m b a <;> simp

theorem ClosedR.cmp_neg {r : Rec} {m : Mat} (hm : ClosedR r m) {a b : Nat} (ha : a < nE r) (hb : b < nE r) : cmpN m b a = -cmpN m a b := by
  unfold cmpN
  cases h1 : Go.Lift.bef m a b with
  | true => rw [hm.bef_asymm ha hb h1]; simp
  | false => cases Go.Lift.bef m b a <;> simp

theorem true_p1' {m : Mat} (hm : ClosedR r m) (hn : nE r ≤ 7) (ht : times.length = nE r) (hb : ∀ i, i < nE r → 0 ≤ times.getD i 0 ∧ times.getD i 0 ≤ 8589934592) (hs : SolR r (xOf times)) (k1 : law40_OrderTrue_p1_K1 β) (k2 : law40_OrderTrue_p1_K2 β) {i : Nat} (hi : i < nE r) (t52 t53 : Int) (w : List (Int × Int)) :
    law40_OrderTrue_p1 k1 k2 (i : Int) t52 t53 (times.length : Int) 0 r.1 r.2.1 r.2.2.1 r.2.2.2 times w = k2 t52 t53 r.1 r.2.1 r.2.2.1 r.2.2.2 times w := by
  have key := pass_loop (nE r) (fun f j => law40_OrderTrue_p1_n f k1 k2 (i : Int) t52 t53 (times.length : Int) j r.1 r.2.1 r.2.2.1 r.2.2.2 times w) (k2 t52 t53 r.1 r.2.1 r.2.2.1 r.2.2.2 times w) fuel (lt_fuel (by omega))
    (fun f j hj => by
      have e1 : IntKind.i64.wrap ((j : Int) + 1) = j + 1 := i64_in _ (by omega)
      have b1 := hb i hi
      have b2 := hb j hj
      have e2 : IntKind.i64.wrap (times.getD j 0 - times.getD i 0) = times.getD j 0 - times.getD i 0 := i64_in _ (by omega)
      have g := hm.gap hs hi hj
      rw [xOf_succ, xOf_succ] at g
      rw [law40_OrderTrue_p1_step]
      unfold law40_OrderTrue_p1_s
      refine (c_pos (by omega)).trans ?_
      refine (Gap_eq hm.eq (hm.matB hn) hi hj _).trans ?_
      refine (Compare_eq hm.eq (hm.matB hn) hi hj _).trans ?_
      refine (c_inb (by omega)).trans ?_
      refine (c_inb (by omega)).trans ?_
      simp only [Int.toNat_natCast, e1, e2, Bool.not_true, cond_false]
      refine (c_neg (by omega)).trans ?_
      refine (c_neg (by omega)).trans ?_
      by_cases h1 : cmpN m i j = -1
      · have h2 := (hm.bef hi hj).1 (cmpN_before.1 h1) _ hs
        rw [xOf_succ, xOf_succ] at h2
        refine (c_pos h1).trans ?_
        refine (c_neg (by omega)).trans ?_
        exact c_neg (by omega)
      · refine (c_neg h1).trans ?_
        by_cases h3 : cmpN m i j = 1
        · have h2 := (hm.bef hj hi).1 ((hm.cmp_after hi hj).1 h3) _ hs
          rw [xOf_succ, xOf_succ] at h2
          refine (c_pos h3).trans ?_
          exact c_neg (by omega)
        · exact c_neg h3)
    (fun f => by
      rw [law40_OrderTrue_p1_step]
      unfold law40_OrderTrue_p1_s
      exact c_neg (by omega))
  unfold law40_OrderTrue_p1
  exact key

theorem whensN_getD {n : Nat} {m : Mat} {i : Nat} (hi : i < n) : (whensN n m).getD i ((0 : Int), (0 : Int)) = rangeN m i := by
  unfold whensN
  simp [List.getD, hi]

theorem ClosedR.range {r : Rec} {m : Mat} (hm : ClosedR r m) {x : Nat → Int} (s : SolR r x) (h0 : x 0 = 0) {i : Nat} (hi : i < nE r) : (rangeN m i).1 ≤ x (i + 1) ∧ x (i + 1) ≤ (rangeN m i).2 := by
  have h1 := hm.sol s (i := i + 1) (j := 0) (by omega) (by omega)
  have h2 := hm.sol s (i := 0) (j := i + 1) (by omega) (by omega)
  unfold rangeN
  simp only
  omega

theorem true_p2' {m : Mat} (hm : ClosedR r m) (hn : nE r ≤ 7) (ht : times.length = nE r) (hb : ∀ i, i < nE r → 0 ≤ times.getD i 0 ∧ times.getD i 0 ≤ 8589934592) (hs : SolR r (xOf times)) (k1 : law40_OrderTrue_p2_K1 β) (k2 : law40_OrderTrue_p2_K2 β) :
    law40_OrderTrue_p2 k1 k2 (times.length : Int) 0 r.1 r.2.1 r.2.2.1 r.2.2.2 times (whensN (nE r) m) = k2 () := by
  have key := pass_loop (nE r) (fun f j => law40_OrderTrue_p2_n f k1 k2 (times.length : Int) j r.1 r.2.1 r.2.2.1 r.2.2.2 times (whensN (nE r) m)) (k2 ()) fuel (lt_fuel (by omega))
    (fun f j hj => by
      have e1 : IntKind.i64.wrap ((j : Int) + 1) = j + 1 := i64_in _ (by omega)
      have hw : (whensN (nE r) m).length = nE r := by unfold whensN; simp
      have g := hm.range hs rfl hj
      rw [xOf_succ] at g
      rw [law40_OrderTrue_p2_step]
      unfold law40_OrderTrue_p2_s
      simp only [Int.toNat_natCast, whensN_getD hj]
      refine (c_pos (by omega)).trans ?_
      refine (c_inb (by omega)).trans ?_
      refine (c_inb (by omega)).trans ?_
      refine (c_neg (by omega)).trans ?_
      refine (c_inb (by omega)).trans ?_
      refine (c_inb (by omega)).trans ?_
      refine (c_neg (by omega)).trans ?_
      refine (true_p1' hm hn ht hb hs _ _ hj _ _ _).trans ?_
      simp only [e1])
    (fun f => by
      rw [law40_OrderTrue_p2_step]
      unfold law40_OrderTrue_p2_s
      exact c_neg (by omega))
  unfold law40_OrderTrue_p2
  exact key

theorem orderTrue {t : List Int} (k : Bool → Option β) : law40_OrderTrue t k = k true := by
  unfold law40_OrderTrue law40_OrderTrue_s
  refine (light_eq _ _).trans ?_
  by_cases hl : (t.length : Int) ≤ 500
  · refine (c_npos hl).trans ?_
    refine (roll_eq _ _).trans ?_
    obtain ⟨r, d, times, ahead, hr, hd, f1⟩ := record_ok 7 (by omega) (roll_ok hl)
    refine (f1 _).trans ?_
    obtain ⟨m, hm⟩ := hr.closed (by omega)
    have hn : nE r ≤ 7 := by have := hr.nE_le; omega
    have hlen : times.length = nE r := hr.lenE
    refine (When_some hm.eq (hm.matB hn) _).trans ?_
    refine c_nt.trans ?_
    refine (Consistent_some hm.eq (hm.matB hn) _).trans ?_
    refine c_nt.trans ?_
    refine (Fits_eq (by omega) _ _).trans ?_
    rw [hr.fits (by omega) hm]
    refine c_nt.trans ?_
    refine (c_npos (by unfold whensN; simp; omega)).trans ?_
    refine (true_p2' hm hn hlen (fun i hi => ?_) (hr.solR (by omega)) _ _).trans ?_
    · have := hr.times_bd hi
      omega
    exact sane40_eq _
  · refine (c_nneg hl).trans ?_
    exact sane40_eq _
end
end
end Go.Lift
