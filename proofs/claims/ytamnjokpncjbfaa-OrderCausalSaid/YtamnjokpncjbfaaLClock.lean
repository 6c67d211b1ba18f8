/- Clocks in plain Lean: what the forms of the chapter 38, the program's and the reference's, compute. -/
import Derived.Test.YtamnjokpncjbfaaFn2
import Derived.Test.YtamnjokpncjbfaaLBase
namespace Go.Lift
open Go.RowKit Go.IntWalk
noncomputable section
set_option linter.unusedVariables false
set_option linter.unusedSimpArgs false

def inN (n low high : Int) : Bool := decide (low ≤ n) && decide (n ≤ high)
theorem inN_iff {n low high : Int} : inN n low high = true ↔ low ≤ n ∧ n ≤ high := by simp [inN]
theorem inN_mk {n low high : Int} (h : low ≤ n ∧ n ≤ high) : inN n low high = true := inN_iff.2 h

abbrev Host := List UInt8 × Int
abbrev Sync := Int × Int × Int × Int
abbrev Event := Int × Int × List UInt8
abbrev Link := Int × Int × Int
abbrev Rec := List Host × List Sync × List Event × List Link

/-- The numbers of a comparison are right. -/
def okSync (s : Sync) : Bool := inN s.2.1 0 8589934592 && (inN s.2.2.1 0 8589934592 && (inN s.2.2.2 0 8589934592 && decide (s.2.2.1 ≤ s.2.2.2)))
def vHost (h : Host) : Bool := inN h.2 0 500000
def vSync (n : Nat) (s : Sync) : Bool := inN s.1 0 ((n : Int) - 1) && okSync s
def vEvent (n : Nat) (e : Event) : Bool := inN e.1 0 ((n : Int) - 1) && inN e.2.1 0 8589934592
def vLink (n : Nat) (l : Link) : Bool := inN l.1 0 ((n : Int) - 1) && (inN l.2.1 0 ((n : Int) - 1) && (!decide (l.1 = l.2.1) && inN l.2.2 0 8589934592))
def small (r : Rec) : Bool := !decide ((8 : Int) < r.1.length) && (!decide ((64 : Int) < r.2.1.length) && (!decide ((40 : Int) < r.2.2.1.length) && !decide ((64 : Int) < r.2.2.2.length)))
def valid (r : Rec) : Bool := small r && (r.1.all vHost && (r.2.1.all (vSync r.1.length) && (r.2.2.1.all (vEvent r.1.length) && r.2.2.2.all (vLink r.2.2.1.length))))

/-- How far the time advances while a clock advances. -/
def elapsed (drift d : Int) : Int × Int :=
  cond (inN drift 0 500000 && inN d 0 8589934592) (d * 1000000 / (1000000 + drift), (d * 1000000 + (1000000 - drift) - 1) / (1000000 - drift)) (0, 0)
def w64 (n : Int) : Int := IntKind.i64.wrap n
def fromS (h : Host) (s : Sync) (c : Int) : Int × Int :=
  cond (vHost h && (okSync s && inN c 0 8589934592))
    (cond (decide (s.2.1 ≤ c)) (s.2.2.1 + (elapsed h.2 (c - s.2.1)).1, s.2.2.2 + (elapsed h.2 (c - s.2.1)).2) (s.2.2.1 - (elapsed h.2 (s.2.1 - c)).2, s.2.2.2 - (elapsed h.2 (s.2.1 - c)).1))
    (-1099511627776, 1099511627776)
def meet2 (a b : Int × Int) : Int × Int := (if b.1 > a.1 then b.1 else a.1, if b.2 < a.2 then b.2 else a.2)
def whenR (r : Rec) (host c : Int) : Int × Int :=
  r.2.1.foldl (fun out s => cond (decide (s.1 = host)) (meet2 out (fromS (r.1.getD host.toNat ([], 0)) s c)) out) (0, 8589934592)
def when? (r : Rec) (host c : Int) : (Int × Int) × Bool :=
  cond (valid r && (inN host 0 ((r.1.length : Int) - 1) && inN c 0 8589934592)) (whenR r host c, !decide ((whenR r host c).2 < (whenR r host c).1)) ((0, 0), false)
def movedE (x d : Int) : Int :=
  cond (decide (x = -1099511627776) || decide (x = 1099511627776)) x
    (if (1099511627776 : Int) < (if (-1099511627776 : Int) > w64 (x + d) then (-1099511627776 : Int) else w64 (x + d)) then (1099511627776 : Int) else (if (-1099511627776 : Int) > w64 (x + d) then (-1099511627776 : Int) else w64 (x + d)))
def bnd (n : Int) : Bool := inN n (-1099511627776) 1099511627776
def shiftR (a : Int × Int) (d : Int) : Int × Int := cond (bnd a.1 && (bnd a.2 && bnd d)) (movedE a.1 d, movedE a.2 d) a

section
variable {β : Type}
theorem clock_in_eq (n lo hi : Int) (k : Bool → Option β) : clock_in n lo hi k = k (inN n lo hi) := by
  simp only [clock_in, clock_in_s, inN, c_kb]
theorem clock_instant_eq (n : Int) (k : Bool → Option β) : clock_instant n k = k (inN n 0 8589934592) := by
  simp only [clock_instant, clock_instant_s, clock_in_eq]
theorem clock_compared_eq (s : Sync) (k : Bool → Option β) : clock_compared s k = k (okSync s) := by
  simp only [clock_compared, clock_compared_s, clock_instant_eq, c_kb, okSync]

theorem clock_Valid_p1_eq (k1 : clock_Valid_p1_K1 β) (k2 : clock_Valid_p1_K2 β) (xs : List Host) (hx : xs.length ≤ 1000000) (r : List Host) (r2 : List Sync) (r3 : List Event) (r4 : List Link) :
    clock_Valid_p1 k1 k2 xs xs.length 0 r r2 r3 r4 = cond (xs.all vHost) (k2 r r2 r3 r4) (k1 false) := by
  refine check_loop (fun m i => clock_Valid_p1_n m k1 k2 xs xs.length i r r2 r3 r4) vHost _ _ ([], 0) xs fuel (lt_fuel (by omega)) (fun m i hi => ?_) (fun m => ?_)
  · simp (disch := omega) only [clock_Valid_p1_step, clock_Valid_p1_s, clock_in_eq, c_pos, c_inb, c_not, i64_in, Int.toNat_natCast, vHost]
  · simp (disch := omega) only [clock_Valid_p1_step, clock_Valid_p1_s, c_neg]

theorem clock_Valid_p2_eq (k1 : clock_Valid_p2_K1 β) (k2 : clock_Valid_p2_K2 β) (xs : List Sync) (hx : xs.length ≤ 1000000) (r : List Host) (hr : r.length ≤ 1000000) (r2 : List Sync) (r3 : List Event) (r4 : List Link) :
    clock_Valid_p2 k1 k2 xs xs.length 0 r r2 r3 r4 = cond (xs.all (vSync r.length)) (k2 r r2 r3 r4) (k1 false) := by
  refine check_loop (fun m i => clock_Valid_p2_n m k1 k2 xs xs.length i r r2 r3 r4) (vSync r.length) _ _ (0, 0, 0, 0) xs fuel (lt_fuel (by omega)) (fun m i hi => ?_) (fun m => ?_)
  · simp (disch := omega) only [clock_Valid_p2_step, clock_Valid_p2_s, clock_in_eq, clock_compared_eq, c_pos, c_inb, c_not, i64_in, Int.toNat_natCast, vSync, c_and]
  · simp (disch := omega) only [clock_Valid_p2_step, clock_Valid_p2_s, c_neg]

theorem clock_Valid_p3_eq (k1 : clock_Valid_p3_K1 β) (k2 : clock_Valid_p3_K2 β) (xs : List Event) (hx : xs.length ≤ 1000000) (r : List Host) (hr : r.length ≤ 1000000) (r2 : List Sync) (r3 : List Event) (r4 : List Link) :
    clock_Valid_p3 k1 k2 xs xs.length 0 r r2 r3 r4 = cond (xs.all (vEvent r.length)) (k2 r r2 r3 r4) (k1 false) := by
  refine check_loop (fun m i => clock_Valid_p3_n m k1 k2 xs xs.length i r r2 r3 r4) (vEvent r.length) _ _ (0, 0, []) xs fuel (lt_fuel (by omega)) (fun m i hi => ?_) (fun m => ?_)
  · simp (disch := omega) only [clock_Valid_p3_step, clock_Valid_p3_s, clock_in_eq, clock_instant_eq, c_pos, c_inb, c_not, i64_in, Int.toNat_natCast, vEvent, c_and]
  · simp (disch := omega) only [clock_Valid_p3_step, clock_Valid_p3_s, c_neg]

theorem clock_Valid_p4_eq (k1 : clock_Valid_p4_K1 β) (k2 : clock_Valid_p4_K2 β) (xs : List Link) (hx : xs.length ≤ 1000000) (r : List Host) (r2 : List Sync) (r3 : List Event) (hr : r3.length ≤ 1000000) (r4 : List Link) :
    clock_Valid_p4 k1 k2 xs xs.length 0 r r2 r3 r4 = cond (xs.all (vLink r3.length)) (k2 ()) (k1 false) := by
  refine check_loop (fun m i => clock_Valid_p4_n m k1 k2 xs xs.length i r r2 r3 r4) (vLink r3.length) _ _ (0, 0, 0) xs fuel (lt_fuel (by omega)) (fun m i hi => ?_) (fun m => ?_)
  · simp (disch := omega) only [clock_Valid_p4_step, clock_Valid_p4_s, clock_in_eq, clock_instant_eq, c_pos, c_inb, c_not, i64_in, Int.toNat_natCast, vLink, c_nand, c_and, Bool.not_not]
  · simp (disch := omega) only [clock_Valid_p4_step, clock_Valid_p4_s, c_neg]

theorem clock_Valid_eq (r : Rec) (k : Bool → Option β) : clock_Valid r k = k (valid r) := by
  simp only [clock_Valid, clock_Valid_s]
  by_cases h1 : (8 : Int) < r.1.length
  · simp [valid, small, h1]
  by_cases h2 : (64 : Int) < r.2.1.length
  · simp [valid, small, h1, h2]
  by_cases h3 : (40 : Int) < r.2.2.1.length
  · simp [valid, small, h1, h2, h3]
  by_cases h4 : (64 : Int) < r.2.2.2.length
  · simp [valid, small, h1, h2, h3, h4]
  rw [decide_eq_false h1, decide_eq_false h2, decide_eq_false h3, decide_eq_false h4]
  simp only [c_f]
  rw [clock_Valid_p1_eq _ _ _ (by omega), clock_Valid_p2_eq _ _ _ (by omega) _ (by omega), clock_Valid_p3_eq _ _ _ (by omega) _ (by omega), clock_Valid_p4_eq _ _ _ (by omega) _ _ _ (by omega)]
  simp only [c_kb, c_k, valid, small, decide_eq_false h1, decide_eq_false h2, decide_eq_false h3, decide_eq_false h4, Bool.not_false, Bool.true_and]
  apply k_eq
  cases r.1.all vHost <;> cases r.2.1.all (vSync r.1.length) <;> cases r.2.2.1.all (vEvent r.1.length) <;> cases r.2.2.2.all (vLink r.2.2.1.length) <;> rfl

theorem clock_Elapsed_eq (drift d : Int) (k : Int → Int → Option β) : clock_Elapsed drift d k = k (elapsed drift d).1 (elapsed drift d).2 := by
  simp only [clock_Elapsed, clock_Elapsed_s, clock_in_eq, clock_instant_eq, elapsed]
  cases h1 : inN drift 0 500000 with
  | false => rfl
  | true =>
    cases h2 : inN d 0 8589934592 with
    | false => rfl
    | true =>
      have h1 := inN_iff.1 h1
      have h2 := inN_iff.1 h2
      simp (disch := omega) only [clock_Elapsed_f1, clock_Elapsed_f1_s, Bool.not_true, c_f, Bool.and_true, cond_true, i64_in, i64_quo, c_nneg]

theorem elapsed_bd {drift d : Int} : 0 ≤ (elapsed drift d).1 ∧ (elapsed drift d).1 ≤ 8589934592 ∧ 0 ≤ (elapsed drift d).2 ∧ (elapsed drift d).2 ≤ 17179869184 := by
  unfold elapsed
  cases h : inN drift 0 500000 && inN d 0 8589934592 with
  | false => simp
  | true =>
    simp only [cond_true]
    rw [Bool.and_eq_true, inN_iff, inN_iff] at h
    have hp1 : (0 : Int) < 1000000 + drift := by omega
    have hp2 : (0 : Int) < 1000000 - drift := by omega
    refine ⟨Int.ediv_nonneg (by omega) (by omega), ?_, Int.ediv_nonneg (by omega) (by omega), ?_⟩
    · apply Int.le_of_lt_add_one
      rw [Int.ediv_lt_iff_lt_mul hp1]
      have : (8589934592 + 1) * 1000000 ≤ (8589934592 + 1) * (1000000 + drift) := Int.mul_le_mul_of_nonneg_left (by omega) (by omega)
      omega
    · apply Int.le_of_lt_add_one
      rw [Int.ediv_lt_iff_lt_mul hp2]
      have : (17179869184 + 1) * 500000 ≤ (17179869184 + 1) * (1000000 - drift) := Int.mul_le_mul_of_nonneg_left (by omega) (by omega)
      omega

theorem clock_From_eq (h : Host) (s : Sync) (c : Int) (k : Int × Int → Option β) : clock_From h s c k = k (fromS h s c) := by
  simp only [clock_From, clock_From_s, clock_in_eq, clock_compared_eq, clock_instant_eq, clock_Elapsed_eq, fromS, vHost]
  cases h1 : inN h.2 0 500000 with
  | false => rfl
  | true =>
    cases h2 : okSync s with
    | false => rfl
    | true =>
      cases h3 : inN c 0 8589934592 with
      | false => rfl
      | true =>
        simp only [okSync, Bool.and_eq_true, inN_iff, decide_eq_true_eq] at h2
        have h3 := inN_iff.1 h3
        simp only [Bool.not_true, c_f, Bool.and_true, cond_true]
        have e1 := @elapsed_bd h.2 (c - s.2.1)
        have e2 := @elapsed_bd h.2 (s.2.1 - c)
        by_cases h4 : s.2.1 ≤ c
        · simp (disch := omega) only [c_pos, i64_in, decide_eq_true h4, cond_true]
        · simp (disch := omega) only [c_neg, i64_in, decide_eq_false h4, cond_false]

theorem clock_Meet_eq (a b : Int × Int) (k : Int × Int → Option β) : clock_Meet a b k = k (meet2 a b) := by simp only [clock_Meet, clock_Meet_s, meet2]
theorem clock_Empty_eq (a : Int × Int) (k : Bool → Option β) : clock_Empty a k = k (decide (a.2 < a.1)) := by simp only [clock_Empty, clock_Empty_s]
theorem clock_When_p1_eq (k1 : clock_When_p1_K1 β) (host c : Int) (xs : List Sync) (hx : xs.length ≤ 1000000) (r : List Host) (hh : 0 ≤ host ∧ host < r.length) (r2 : List Sync) (r3 : List Event) (r4 : List Link) (a b : Int) (o : Int × Int) :
    clock_When_p1 k1 host c xs xs.length 0 r r2 r3 r4 a b o.1 o.2 = k1 a b (xs.foldl (fun out s => cond (decide (s.1 = host)) (meet2 out (fromS (r.getD host.toNat ([], 0)) s c)) out) o).1 (xs.foldl (fun out s => cond (decide (s.1 = host)) (meet2 out (fromS (r.getD host.toNat ([], 0)) s c)) out) o).2 := by
  refine fold_loop (σ := Int × Int) (fun m i o => clock_When_p1_n m k1 host c xs xs.length i r r2 r3 r4 a b o.1 o.2) (fun out s => cond (decide (s.1 = host)) (meet2 out (fromS (r.getD host.toNat ([], 0)) s c)) out) (fun o => k1 a b o.1 o.2) (0, 0, 0, 0) xs o fuel (lt_fuel (by omega)) (fun m i s hi => ?_) (fun m s => ?_)
  · simp (disch := omega) only [clock_When_p1_step, clock_When_p1_s, clock_From_eq, clock_Meet_eq, c_pos, c_inb, i64_in, Int.toNat_natCast]
    cases decide ((xs.getD i (0, 0, 0, 0)).1 = host) <;> rfl
  · simp (disch := omega) only [clock_When_p1_step, clock_When_p1_s, c_neg]

theorem valid_bd {r : Rec} (h : valid r = true) : r.1.length ≤ 8 ∧ r.2.1.length ≤ 64 ∧ r.2.2.1.length ≤ 40 ∧ r.2.2.2.length ≤ 64 := by
  simp [valid, small] at h
  omega

theorem clock_When_eq (r : Rec) (host c : Int) (k : Int × Int → Bool → Option β) : clock_When r host c k = k (when? r host c).1 (when? r host c).2 := by
  simp only [clock_When, clock_When_s, clock_Valid_eq, clock_in_eq, clock_instant_eq, clock_Empty_eq, when?]
  cases h1 : valid r with
  | false => rfl
  | true =>
    have hb := valid_bd h1
    simp (disch := omega) only [i64_in, Bool.not_true, c_f, Bool.true_and]
    cases h2 : inN host 0 ((r.1.length : Int) - 1) with
    | false => rfl
    | true =>
      cases h3 : inN c 0 8589934592 with
      | false => rfl
      | true =>
        have h2 := inN_iff.1 h2
        simp only [Bool.not_true, c_f, Bool.and_true, cond_true]
        rw [clock_When_p1_eq _ host c r.2.1 (by omega) r.1 (by omega) r.2.1 r.2.2.1 r.2.2.2 0 0 (0, 8589934592)]
        rfl

theorem clock_moved_eq (x d : Int) (k : Int → Option β) : clock_moved x d k = k (movedE x d) := by
  simp only [clock_moved, clock_moved_s, movedE, w64]
  cases decide (x = (-1099511627776 : Int)) <;> cases decide (x = (1099511627776 : Int)) <;> rfl
theorem clock_bound_eq (n : Int) (k : Bool → Option β) : clock_bound n k = k (bnd n) := by simp only [clock_bound, clock_bound_s, clock_in_eq, bnd]
theorem clock_Shift_eq (a : Int × Int) (d : Int) (k : Int × Int → Option β) : clock_Shift a d k = k (shiftR a d) := by
  simp only [clock_Shift, clock_Shift_s, clock_bound_eq, clock_moved_eq, shiftR]
  cases bnd a.1 <;> cases bnd a.2 <;> cases bnd d <;> rfl
end
end
end Go.Lift
