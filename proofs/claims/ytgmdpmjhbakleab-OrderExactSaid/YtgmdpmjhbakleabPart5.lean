/- Clocks in plain Lean: what the forms of the chapter 38, the program's and the reference's, compute. -/
import Derived.Test.YtgmdpmjhbakleabPart4
namespace Go.Lift
open Go.RowKit Go.IntWalk
noncomputable section
set_option linter.unusedVariables false
set_option linter.unusedSimpArgs false

def inN (n low high : Int) : Bool := decide (low ≤ n) && decide (n ≤ high)
theorem inN_iff {n low high : Int} : inN n low high = true ↔ low ≤ n ∧ n ≤ high := by simp [inN]
theorem inN_mk {n low high : Int} (h : low ≤ n ∧ n ≤ high) : inN n low high = true := inN_iff.2 h

abbrev Host := List UInt8 × Int
abbrev Sync := Int × Int × Int × Int
abbrev Event := Int × Int × List UInt8
abbrev Link := Int × Int × Int
abbrev Rec := List Host × List Sync × List Event × List Link

/-- The numbers of a comparison are right. -/
def okSync (s : Sync) : Bool := inN s.2.1 0 8589934592 && (inN s.2.2.1 0 8589934592 && (inN s.2.2.2 0 8589934592 && decide (s.2.2.1 ≤ s.2.2.2)))
def vHost (h : Host) : Bool := inN h.2 0 500000
def vSync (n : Nat) (s : Sync) : Bool := inN s.1 0 ((n : Int) - 1) && okSync s
def vEvent (n : Nat) (e : Event) : Bool := inN e.1 0 ((n : Int) - 1) && inN e.2.1 0 8589934592
def vLink (n : Nat) (l : Link) : Bool := inN l.1 0 ((n : Int) - 1) && (inN l.2.1 0 ((n : Int) - 1) && (!decide (l.1 = l.2.1) && inN l.2.2 0 8589934592))
def small (r : Rec) : Bool := !decide ((8 : Int) < r.1.length) && (!decide ((64 : Int) < r.2.1.length) && (!decide ((40 : Int) < r.2.2.1.length) && !decide ((64 : Int) < r.2.2.2.length)))
def valid (r : Rec) : Bool := small r && (r.1.all vHost && (r.2.1.all (vSync r.1.length) && (r.2.2.1.all (vEvent r.1.length) && r.2.2.2.all (vLink r.2.2.1.length))))

/-- How far the time advances while a clock advances. -/
def elapsed (drift d : Int) : Int × Int :=
  cond (inN drift 0 500000 && inN d 0 8589934592) (d * 1000000 / (1000000 + drift), (d * 1000000 + (1000000 - drift) - 1) / (1000000 - drift)) (0, 0)
def fromS (h : Host) (s : Sync) (c : Int) : Int × Int :=
  cond (vHost h && (okSync s && inN c 0 8589934592))
    (cond (decide (s.2.1 ≤ c)) (s.2.2.1 + (elapsed h.2 (c - s.2.1)).1, s.2.2.2 + (elapsed h.2 (c - s.2.1)).2) (s.2.2.1 - (elapsed h.2 (s.2.1 - c)).2, s.2.2.2 - (elapsed h.2 (s.2.1 - c)).1))
    (-1099511627776, 1099511627776)
def meet2 (a b : Int × Int) : Int × Int := (if b.1 > a.1 then b.1 else a.1, if b.2 < a.2 then b.2 else a.2)
def whenR (r : Rec) (host c : Int) : Int × Int :=
  r.2.1.foldl (fun out s => cond (decide (s.1 = host)) (meet2 out (fromS (r.1.getD host.toNat ([], 0)) s c)) out) (0, 8589934592)
def when? (r : Rec) (host c : Int) : (Int × Int) × Bool :=
  cond (valid r && (inN host 0 ((r.1.length : Int) - 1) && inN c 0 8589934592)) (whenR r host c, !decide ((whenR r host c).2 < (whenR r host c).1)) ((0, 0), false)
section
variable {β : Type}
theorem clock_in_eq (n lo hi : Int) (k : Bool → Option β) : zq55 n lo hi k = k (inN n lo hi) := by
  simp only [zq55, zq52, inN, c_kb]
theorem clock_instant_eq (n : Int) (k : Bool → Option β) : zq5c n k = k (inN n 0 8589934592) := by
  simp only [zq5c, zq59, clock_in_eq]
theorem clock_compared_eq (s : Sync) (k : Bool → Option β) : zqe5 s k = k (okSync s) := by
  simp only [zqe5, zqe2, clock_instant_eq, c_kb, okSync]

theorem clock_Valid_p1_eq (k1 : zqhi β) (k2 : zqhj β) (xs : List Host) (hx : xs.length ≤ 1000000) (r : List Host) (r2 : List Sync) (r3 : List Event) (r4 : List Link) :
    zqij k1 k2 xs xs.length 0 r r2 r3 r4 = cond (xs.all vHost) (k2 r r2 r3 r4) (k1 false) := by
  refine check_loop (fun m i => zqih m k1 k2 xs xs.length i r r2 r3 r4) vHost _ _ ([], 0) xs fuel (lt_fuel (by omega)) (fun m i hi => ?_) (fun m => ?_)
  · simp (disch := omega) only [zqii, zqi2, clock_in_eq, c_pos, c_inb, c_not, i64_in, Int.toNat_natCast, vHost]
  · simp (disch := omega) only [zqii, zqi2, c_neg]

theorem clock_Valid_p2_eq (k1 : zqhn β) (k2 : zqho β) (xs : List Sync) (hx : xs.length ≤ 1000000) (r : List Host) (hr : r.length ≤ 1000000) (r2 : List Sync) (r3 : List Event) (r4 : List Link) :
    zqin k1 k2 xs xs.length 0 r r2 r3 r4 = cond (xs.all (vSync r.length)) (k2 r r2 r3 r4) (k1 false) := by
  refine check_loop (fun m i => zqil m k1 k2 xs xs.length i r r2 r3 r4) (vSync r.length) _ _ (0, 0, 0, 0) xs fuel (lt_fuel (by omega)) (fun m i hi => ?_) (fun m => ?_)
  · simp (disch := omega) only [zqim, zqi5, clock_in_eq, clock_compared_eq, c_pos, c_inb, c_not, i64_in, Int.toNat_natCast, vSync, c_and]
  · simp (disch := omega) only [zqim, zqi5, c_neg]

theorem clock_Valid_p3_eq (k1 : zqhs β) (k2 : zqht β) (xs : List Event) (hx : xs.length ≤ 1000000) (r : List Host) (hr : r.length ≤ 1000000) (r2 : List Sync) (r3 : List Event) (r4 : List Link) :
    zqir k1 k2 xs xs.length 0 r r2 r3 r4 = cond (xs.all (vEvent r.length)) (k2 r r2 r3 r4) (k1 false) := by
  refine check_loop (fun m i => zqip m k1 k2 xs xs.length i r r2 r3 r4) (vEvent r.length) _ _ (0, 0, []) xs fuel (lt_fuel (by omega)) (fun m i hi => ?_) (fun m => ?_)
  · simp (disch := omega) only [zqiq, zqi8, clock_in_eq, clock_instant_eq, c_pos, c_inb, c_not, i64_in, Int.toNat_natCast, vEvent, c_and]
  · simp (disch := omega) only [zqiq, zqi8, c_neg]

theorem clock_Valid_p4_eq (k1 : zqhx β) (k2 : zqhy β) (xs : List Link) (hx : xs.length ≤ 1000000) (r : List Host) (r2 : List Sync) (r3 : List Event) (hr : r3.length ≤ 1000000) (r4 : List Link) :
    zqiv k1 k2 xs xs.length 0 r r2 r3 r4 = cond (xs.all (vLink r3.length)) (k2 ()) (k1 false) := by
  refine check_loop (fun m i => zqit m k1 k2 xs xs.length i r r2 r3 r4) (vLink r3.length) _ _ (0, 0, 0) xs fuel (lt_fuel (by omega)) (fun m i hi => ?_) (fun m => ?_)
  · simp (disch := omega) only [zqiu, zqib, clock_in_eq, clock_instant_eq, c_pos, c_inb, c_not, i64_in, Int.toNat_natCast, vLink, c_nand, c_and, Bool.not_not]
  · simp (disch := omega) only [zqiu, zqib, c_neg]

theorem clock_Valid_eq (r : Rec) (k : Bool → Option β) : zqix r k = k (valid r) := by
  simp only [zqix, zqie]
  by_cases h1 : (8 : Int) < r.1.length
  · simp [valid, small, h1]
  by_cases h2 : (64 : Int) < r.2.1.length
  · simp [valid, small, h1, h2]
  by_cases h3 : (40 : Int) < r.2.2.1.length
  · simp [valid, small, h1, h2, h3]
  by_cases h4 : (64 : Int) < r.2.2.2.length
  · simp [valid, small, h1, h2, h3, h4]
  rw [decide_eq_false h1, decide_eq_false h2, decide_eq_false h3, decide_eq_false h4]
  simp only [c_f]
  rw [clock_Valid_p1_eq _ _ _ (by omega), clock_Valid_p2_eq _ _ _ (by omega) _ (by omega), clock_Valid_p3_eq _ _ _ (by omega) _ (by omega), clock_Valid_p4_eq _ _ _ (by omega) _ _ _ (by omega)]
  simp only [c_kb, c_k, valid, small, decide_eq_false h1, decide_eq_false h2, decide_eq_false h3, decide_eq_false h4, Bool.not_false, Bool.true_and]
  apply k_eq
  cases r.1.all vHost <;> cases r.2.1.all (vSync r.1.length) <;> cases r.2.2.1.all (vEvent r.1.length) <;> cases r.2.2.2.all (vLink r.2.2.1.length) <;> rfl

theorem clock_Elapsed_eq (drift d : Int) (k : Int → Int → Option β) : zqec drift d k = k (elapsed drift d).1 (elapsed drift d).2 := by
  simp only [zqec, zqe9, clock_in_eq, clock_instant_eq, elapsed]
  cases h1 : inN drift 0 500000 with
  | false => rfl
  | true =>
    cases h2 : inN d 0 8589934592 with
    | false => rfl
    | true =>
      have h1 := inN_iff.1 h1
      have h2 := inN_iff.1 h2
      simp (disch := omega) only [zq7r, zq7o, Bool.not_true, c_f, Bool.and_true, cond_true, i64_in, i64_quo, c_nneg]

theorem elapsed_bd {drift d : Int} : 0 ≤ (elapsed drift d).1 ∧ (elapsed drift d).1 ≤ 8589934592 ∧ 0 ≤ (elapsed drift d).2 ∧ (elapsed drift d).2 ≤ 17179869184 := by
  unfold elapsed
  cases h : inN drift 0 500000 && inN d 0 8589934592 with
  | false => simp
  | true =>
    simp only [cond_true]
    rw [Bool.and_eq_true, inN_iff, inN_iff] at h
    have hp1 : (0 : Int) < 1000000 + drift := by omega
    have hp2 : (0 : Int) < 1000000 - drift := by omega
    refine ⟨Int.ediv_nonneg (by omega) (by omega), ?_, Int.ediv_nonneg (by omega) (by omega), ?_⟩
    · apply Int.le_of_lt_add_one
      rw [Int.ediv_lt_iff_lt_mul hp1]
      have : (8589934592 + 1) * 1000000 ≤ (8589934592 + 1) * (1000000 + drift) := Int.mul_le_mul_of_nonneg_left (by omega) (by omega)
      omega
    · apply Int.le_of_lt_add_one
      rw [Int.ediv_lt_iff_lt_mul hp2]
      have : (17179869184 + 1) * 500000 ≤ (17179869184 + 1) * (1000000 - drift) := Int.mul_le_mul_of_nonneg_left (by omega) (by omega)
      omega

theorem clock_From_eq (h : Host) (s : Sync) (c : Int) (k : Int × Int → Option β) : zqk2 h s c k = k (fromS h s c) := by
  simp only [zqk2, zqjz, clock_in_eq, clock_compared_eq, clock_instant_eq, clock_Elapsed_eq, fromS, vHost]
  cases h1 : inN h.2 0 500000 with
  | false => rfl
  | true =>
    cases h2 : okSync s with
    | false => rfl
    | true =>
      cases h3 : inN c 0 8589934592 with
      | false => rfl
      | true =>
        simp only [okSync, Bool.and_eq_true, inN_iff, decide_eq_true_eq] at h2
        have h3 := inN_iff.1 h3
        simp only [Bool.not_true, c_f, Bool.and_true, cond_true]
        have e1 := @elapsed_bd h.2 (c - s.2.1)
        have e2 := @elapsed_bd h.2 (s.2.1 - c)
        by_cases h4 : s.2.1 ≤ c
        · simp (disch := omega) only [c_pos, i64_in, decide_eq_true h4, cond_true]
        · simp (disch := omega) only [c_neg, i64_in, decide_eq_false h4, cond_false]

theorem clock_Meet_eq (a b : Int × Int) (k : Int × Int → Option β) : zq5j a b k = k (meet2 a b) := by simp only [zq5j, zq5g, meet2]
theorem clock_Empty_eq (a : Int × Int) (k : Bool → Option β) : zq5q a k = k (decide (a.2 < a.1)) := by simp only [zq5q, zq5n]
theorem clock_When_p1_eq (k1 : zqlv β) (host c : Int) (xs : List Sync) (hx : xs.length ≤ 1000000) (r : List Host) (hh : 0 ≤ host ∧ host < r.length) (r2 : List Sync) (r3 : List Event) (r4 : List Link) (a b : Int) (o : Int × Int) :
    zqm7 k1 host c xs xs.length 0 r r2 r3 r4 a b o.1 o.2 = k1 a b (xs.foldl (fun out s => cond (decide (s.1 = host)) (meet2 out (fromS (r.getD host.toNat ([], 0)) s c)) out) o).1 (xs.foldl (fun out s => cond (decide (s.1 = host)) (meet2 out (fromS (r.getD host.toNat ([], 0)) s c)) out) o).2 := by
  refine fold_loop (σ := Int × Int) (fun m i o => zqm5 m k1 host c xs xs.length i r r2 r3 r4 a b o.1 o.2) (fun out s => cond (decide (s.1 = host)) (meet2 out (fromS (r.getD host.toNat ([], 0)) s c)) out) (fun o => k1 a b o.1 o.2) (0, 0, 0, 0) xs o fuel (lt_fuel (by omega)) (fun m i s hi => ?_) (fun m s => ?_)
  · simp (disch := omega) only [zqm6, zqlz, clock_From_eq, clock_Meet_eq, c_pos, c_inb, i64_in, Int.toNat_natCast]
    cases decide ((xs.getD i (0, 0, 0, 0)).1 = host) <;> rfl
  · simp (disch := omega) only [zqm6, zqlz, c_neg]

theorem valid_bd {r : Rec} (h : valid r = true) : r.1.length ≤ 8 ∧ r.2.1.length ≤ 64 ∧ r.2.2.1.length ≤ 40 ∧ r.2.2.2.length ≤ 64 := by
  simp [valid, small] at h
  omega

theorem clock_When_eq (r : Rec) (host c : Int) (k : Int × Int → Bool → Option β) : zqm9 r host c k = k (when? r host c).1 (when? r host c).2 := by
  simp only [zqm9, zqm2, clock_Valid_eq, clock_in_eq, clock_instant_eq, clock_Empty_eq, when?]
  cases h1 : valid r with
  | false => rfl
  | true =>
    have hb := valid_bd h1
    simp (disch := omega) only [i64_in, Bool.not_true, c_f, Bool.true_and]
    cases h2 : inN host 0 ((r.1.length : Int) - 1) with
    | false => rfl
    | true =>
      cases h3 : inN c 0 8589934592 with
      | false => rfl
      | true =>
        have h2 := inN_iff.1 h2
        simp only [Bool.not_true, c_f, Bool.and_true, cond_true]
        rw [clock_When_p1_eq _ host c r.2.1 (by omega) r.1 (by omega) r.2.1 r.2.2.1 r.2.2.2 0 0 (0, 8589934592)]
        rfl

end
end
end Go.Lift

/- The dice in plain Lean. -/
namespace Go.Lift
open Go.RowKit Go.IntWalk
noncomputable section
set_option linter.unusedVariables false
set_option linter.unusedSimpArgs false

abbrev Dice := List Int × Int
def DiceOk (d : Dice) : Prop := 0 ≤ d.2 ∧ d.2 ≤ d.1.length ∧ d.1.length ≤ 500

theorem light_eq {β : Type} (l : List Int) (k : Bool → Option β) : zqb l k = k (decide ((l.length : Int) ≤ 500)) := by
  simp only [zqb, zq8]
theorem roll_eq {β : Type} (l : List Int) (k : Dice → Option β) : zqi l k = k (l, 0) := by
  simp only [zqi, zqf]
theorem roll_ok {l : List Int} (h : (l.length : Int) ≤ 500) : DiceOk (l, 0) := ⟨by simp, by simp, by show l.length ≤ 500; omega⟩

theorem next_ok {n : Int} {d : Dice} (hd : DiceOk d) (hn : 1 ≤ n ∧ n ≤ 4611686018427387904) :
    ∃ x d', 0 ≤ x ∧ x < n ∧ DiceOk d' ∧ ∀ {β : Type} (k : Int → Dice → Option β), zq2a n d k = k x d' := by
  obtain ⟨h1, h2, h3⟩ := hd
  by_cases ha : (d.1.length : Int) ≤ d.2
  · exact ⟨0, d, by omega, by omega, ⟨h1, h2, h3⟩, fun k => by simp (disch := omega) only [zq2a, zq27, c_pos]⟩
  · generalize hv : List.getD d.1 (Int.toNat d.2) (0 : Int) = v
    have hm1 := Int.tmod_lt_of_pos v (show 0 < n by omega)
    have hm2 : -n < Int.tmod v n := by
      have h5 := Int.tmod_lt_of_pos (-v) (show 0 < n by omega)
      rw [Int.neg_tmod] at h5
      omega
    have hd' : DiceOk (d.1, d.2 + 1) := ⟨by show (0 : Int) ≤ d.2 + 1; omega, by show d.2 + 1 ≤ (d.1.length : Int); omega, h3⟩
    by_cases hc : Int.tmod v n < 0
    · refine ⟨Int.tmod v n + n, (d.1, d.2 + 1), by omega, by omega, hd', fun k => ?_⟩
      simp (disch := omega) only [zq2a, zq27, hv, c_pos, c_neg, c_inb, c_nneg, i64_in]
    · refine ⟨Int.tmod v n, (d.1, d.2 + 1), by omega, by omega, hd', fun k => ?_⟩
      simp (disch := omega) only [zq2a, zq27, hv, c_pos, c_neg, c_inb, c_nneg, i64_in]

theorem one_ok {l : List Int} {d : Dice} (hl : 0 < l.length) (hlen : l.length ≤ 1000000) (hd : DiceOk d) :
    ∃ x d', x ∈ l ∧ DiceOk d' ∧ ∀ {β : Type} (k : Int → Dice → Option β), zq2o l d k = k x d' := by
  obtain ⟨x, d', h1, h2, hd', hf⟩ := next_ok (n := (l.length : Int)) hd (by omega)
  have hxn : x.toNat < l.length := by omega
  refine ⟨l.getD x.toNat 0, d', ?_, hd', fun k => ?_⟩
  · simp [List.getD, hxn]
  · simp (disch := omega) only [zq2o, zq2l, hf, c_inb]
end
end Go.Lift

/- Records made by the dice, in plain Lean. -/
namespace Go.Lift
open Go.RowKit Go.IntWalk
noncomputable section
set_option linter.unusedVariables false
set_option linter.unusedSimpArgs false

structure HostsOk (hosts : List Host) (ahead : List Int) : Prop where
  len : ahead.length = hosts.length
  most : hosts.length ≤ 3
  drift : ∀ h ∈ hosts, h.2 = 0 ∨ h.2 = 100 ∨ h.2 = 50000 ∨ h.2 = 500000
  off : ∀ a ∈ ahead, a = 0 ∨ a = 7 ∨ a = 100
/-- A comparison at a true time. -/
def SyncOk (nh : Nat) (ahead : List Int) (s : Sync) : Prop :=
  0 ≤ s.1 ∧ s.1 < nh ∧ ∃ t, 864000 ≤ t ∧ t < 864400 ∧ s.2.1 = t + ahead.getD s.1.toNat 0 ∧ t - 20 ≤ s.2.2.1 ∧ s.2.2.1 ≤ t ∧ t ≤ s.2.2.2 ∧ s.2.2.2 ≤ t + 15
def EventOk (nh : Nat) (ahead : List Int) (e : Event) (t : Int) : Prop :=
  0 ≤ e.1 ∧ e.1 < nh ∧ 864000 ≤ t ∧ t < 864300 ∧ e.2.1 = t + ahead.getD e.1.toNat 0
def LinkOk (times : List Int) (l : Link) : Prop :=
  0 ≤ l.1 ∧ l.1 < times.length ∧ 0 ≤ l.2.1 ∧ l.2.1 < times.length ∧ l.1 ≠ l.2.1 ∧ 0 ≤ l.2.2 ∧ times.getD l.1.toNat 0 + l.2.2 ≤ times.getD l.2.1.toNat 0
/-- What a record of the dice is. -/
structure RecOk (n : Int) (r : Rec) (ahead times : List Int) : Prop where
  hosts : HostsOk r.1 ahead
  some_ : 1 ≤ r.1.length
  fewS : r.2.1.length ≤ 8
  syncs : ∀ s ∈ r.2.1, SyncOk r.1.length ahead s
  lenE : times.length = r.2.2.1.length
  fewE : (r.2.2.1.length : Int) ≤ n
  events : ∀ i, i < r.2.2.1.length → EventOk r.1.length ahead (r.2.2.1.getD i (0, 0, [])) (times.getD i 0)
  fewL : r.2.2.2.length ≤ 8
  links : ∀ l ∈ r.2.2.2, LinkOk times l

theorem getD_mem {α : Type} {l : List α} {i : Nat} {d : α} (h : i < l.length) : l.getD i d ∈ l := by simp [List.getD, h]
theorem getD_append {α : Type} {l l' : List α} {i : Nat} {d : α} (h : i < l.length) : (l ++ l').getD i d = l.getD i d := by simp [List.getD, List.getElem?_append_left h]
theorem getD_last {α : Type} {l : List α} {x d : α} : (l ++ [x]).getD l.length d = x := by simp [List.getD]

theorem record_p1 (n N : Int) (hN : 1 ≤ N ∧ N ≤ 3) {d : Dice} (hd : DiceOk d) :
    ∃ q : Dice × List Int × List Host, (DiceOk q.1 ∧ HostsOk q.2.2 q.2.1 ∧ (q.2.2.length : Int) = N) ∧
      ∀ {β : Type} (k : zq96 β), zqaa k n N d.1 d.2 [] [] [] [] [] [] [] [] [] = k n q.1.1 q.1.2 q.2.1 [] [] [] [] q.2.2 [] [] [] := by
  refine while_loop (σ := Int × Dice × List Int × List Host) (ρ := Dice × List Int × List Host) (Kt := zq96)
    (fun k m s => zqa8 m k n s.1 s.2.1.1 s.2.1.2 s.2.2.1 [] [] [] [] s.2.2.2 [] [] []) (fun k q => k n q.1.1 q.1.2 q.2.1 [] [] [] [] q.2.2 [] [] [])
    (fun s => 0 ≤ s.1 ∧ s.1 + s.2.2.2.length = N ∧ DiceOk s.2.1 ∧ HostsOk s.2.2.2 s.2.2.1) (fun s => s.1.toNat) _ ?_ fuel (N, d, [], []) ⟨by omega, by simp, hd, ⟨rfl, by simp, by simp, by simp⟩⟩ (lt_fuel (by show N.toNat < _; omega))
  rintro ⟨i, d, ahead, hosts⟩ ⟨h0, h1, h2, h3⟩
  simp only at h0 h1 h2 h3
  have hl := h3.len
  by_cases hi : 0 < i
  · left
    obtain ⟨x, d1, hx, hd1, f1⟩ := one_ok (l := [0, 0, 100, 50000, 500000]) (by simp) (by simp) h2
    obtain ⟨y, d2, hy, hd2, f2⟩ := one_ok (l := [0, 7, 100]) (by simp) (by simp) hd1
    refine ⟨(i - 1, d2, ahead ++ [y], hosts ++ [(List.getD [[100, 98], [119, 101, 98], [108, 98]] hosts.length [], x)]), ⟨by simp only; omega, by simp; omega, hd2, ?_⟩, by simp only; omega, fun k m => ?_⟩
    · refine ⟨by simp [hl], by simp; omega, fun h hh => ?_, fun a ha => ?_⟩
      · simp only [List.mem_append, List.mem_singleton] at hh
        rcases hh with hh | rfl
        · exact h3.drift h hh
        · simpa using hx
      · simp only [List.mem_append, List.mem_singleton] at ha
        rcases ha with ha | rfl
        · exact h3.off a ha
        · simpa using hy
    · simp (disch := omega) only [zqa9, zq9q, pair_eta, c_pos, c_inb, c_room, f1, f2, i64_in, List.length_cons, List.length_nil, Int.toNat_natCast]
  · right
    exact ⟨(d, ahead, hosts), ⟨h2, h3, by simp only; omega⟩, fun k m => by simp (disch := omega) only [zqa9, zq9q, c_neg]⟩

theorem ahead_bd {hosts : List Host} {ahead : List Int} (h : HostsOk hosts ahead) (i : Nat) : 0 ≤ ahead.getD i 0 ∧ ahead.getD i 0 ≤ 100 := by
  by_cases hi : i < ahead.length
  · have := h.off _ (getD_mem (d := 0) hi)
    omega
  · simp [List.getD, hi]

theorem record_p2 (n N : Int) (hN : 0 ≤ N ∧ N ≤ 4) {d : Dice} (hd : DiceOk d) {hosts : List Host} {ahead : List Int} (hh : HostsOk hosts ahead) (h1 : 1 ≤ hosts.length) :
    ∃ q : Dice × List Sync, (DiceOk q.1 ∧ (q.2.length : Int) = N ∧ ∀ s ∈ q.2, SyncOk hosts.length ahead s) ∧
      ∀ {β : Type} (k : zq9a β), zqae k n N d.1 d.2 ahead [] [] [] [] hosts [] [] [] = k n q.1.1 q.1.2 ahead [] [] [] [] hosts q.2 [] [] := by
  have hl := hh.len
  have hm := hh.most
  refine while_loop (σ := Int × Dice × List Sync) (ρ := Dice × List Sync) (Kt := zq9a)
    (fun k m s => zqac m k n s.1 s.2.1.1 s.2.1.2 ahead [] [] [] [] hosts s.2.2 [] []) (fun k q => k n q.1.1 q.1.2 ahead [] [] [] [] hosts q.2 [] [])
    (fun s => 0 ≤ s.1 ∧ s.1 + s.2.2.length = N ∧ DiceOk s.2.1 ∧ ∀ x ∈ s.2.2, SyncOk hosts.length ahead x) (fun s => s.1.toNat) _ ?_ fuel (N, d, []) ⟨by omega, by simp, hd, by simp⟩ (lt_fuel (by show N.toNat < _; omega))
  rintro ⟨i, d, syncs⟩ ⟨h0, h1', h2, h3⟩
  simp only at h0 h1' h2 h3
  by_cases hi : 0 < i
  · left
    obtain ⟨x, d1, hx0, hx1, hd1, f1⟩ := next_ok (n := (hosts.length : Int)) h2 (by omega)
    obtain ⟨y, d2, hy0, hy1, hd2, f2⟩ := next_ok (n := 400) hd1 (by omega)
    obtain ⟨z, d3, hz, hd3, f3⟩ := one_ok (l := [0, 3, 20]) (by simp) (by simp) hd2
    obtain ⟨u, d4, hu, hd4, f4⟩ := one_ok (l := [0, 2, 15]) (by simp) (by simp) hd3
    simp only [List.mem_cons, List.not_mem_nil, or_false] at hz hu
    have ha := ahead_bd hh x.toNat
    refine ⟨(i - 1, d4, syncs ++ [(x, 864000 + y + ahead.getD x.toNat 0, 864000 + y - z, 864000 + y + u)]), ⟨by simp only; omega, by simp; omega, hd4, ?_⟩, by simp only; omega, fun k m => ?_⟩
    · intro s hs
      simp only [List.mem_append, List.mem_singleton] at hs
      rcases hs with hs | rfl
      · exact h3 s hs
      · exact ⟨hx0, hx1, 864000 + y, by omega, by omega, rfl, by simp only; omega, by simp only; omega, by simp only; omega, by simp only; omega⟩
    · simp (disch := omega) only [zqad, zq9t, pair_eta, c_pos, c_inb, c_room, f1, f2, f3, f4, i64_in, List.length_cons, List.length_nil, Int.toNat_natCast]
  · right
    exact ⟨(d, syncs), ⟨h2, by simp only; omega, h3⟩, fun k m => by simp (disch := omega) only [zqad, zq9t, c_neg]⟩

theorem record_p3 (N : Int) (hN : 0 ≤ N ∧ N ≤ 1000) {d : Dice} (hd : DiceOk d) {hosts : List Host} {ahead : List Int} (hh : HostsOk hosts ahead) (h1 : 1 ≤ hosts.length) (syncs : List Sync) :
    ∃ q : Dice × List Int × List Event, (DiceOk q.1 ∧ (q.2.2.length : Int) = N ∧ q.2.1.length = q.2.2.length ∧ ∀ i, i < q.2.2.length → EventOk hosts.length ahead (q.2.2.getD i (0, 0, [])) (q.2.1.getD i 0)) ∧
      ∀ {β : Type} (k : zq9e β), zqai k N d.1 d.2 ahead [] [] [] [] [] hosts syncs [] [] = k q.1.1 q.1.2 q.2.1 [] [] [] [] hosts syncs q.2.2 [] := by
  have hl := hh.len
  have hm := hh.most
  refine while_loop (σ := Int × Dice × List Int × List Event) (ρ := Dice × List Int × List Event) (Kt := zq9e)
    (fun k m s => zqag m k s.1 s.2.1.1 s.2.1.2 ahead s.2.2.1 [] [] [] [] hosts syncs s.2.2.2 []) (fun k q => k q.1.1 q.1.2 q.2.1 [] [] [] [] hosts syncs q.2.2 [])
    (fun s => 0 ≤ s.1 ∧ s.1 + s.2.2.2.length = N ∧ s.2.2.1.length = s.2.2.2.length ∧ DiceOk s.2.1 ∧ ∀ i, i < s.2.2.2.length → EventOk hosts.length ahead (s.2.2.2.getD i (0, 0, [])) (s.2.2.1.getD i 0)) (fun s => s.1.toNat) _ ?_ fuel (N, d, [], []) ⟨by omega, by simp, rfl, hd, by simp⟩ (lt_fuel (by show N.toNat < _; omega))
  rintro ⟨i, d, times, evs⟩ ⟨h0, h1', hlen, h2, h3⟩
  simp only at h0 h1' hlen h2 h3
  by_cases hi : 0 < i
  · left
    obtain ⟨x, d1, hx0, hx1, hd1, f1⟩ := next_ok (n := (hosts.length : Int)) h2 (by omega)
    obtain ⟨y, d2, hy0, hy1, hd2, f2⟩ := next_ok (n := 300) hd1 (by omega)
    obtain ⟨z, d3, hz0, hz1, hd3, f3⟩ := next_ok (n := 3) hd2 (by omega)
    have ha := ahead_bd hh x.toNat
    refine ⟨(i - 1, d3, times ++ [864000 + y], evs ++ [(x, 864000 + y + ahead.getD x.toNat 0, List.getD [[117, 112], [100, 111, 119, 110], [115, 108, 111, 119]] z.toNat [])]), ⟨by simp only; omega, by simp; omega, by simp [hlen], hd3, ?_⟩, by simp only; omega, fun k m => ?_⟩
    · intro j hj
      simp only [List.length_append, List.length_singleton] at hj
      by_cases hj' : j < evs.length
      · rw [getD_append hj', getD_append (by omega)]
        exact h3 j hj'
      · obtain rfl : j = evs.length := by omega
        simp only
        rw [getD_last]
        rw [← hlen, getD_last]
        exact ⟨hx0, hx1, by omega, by omega, rfl⟩
    · simp (disch := omega) only [zqah, zq9w, pair_eta, c_pos, c_inb, c_room, f1, f2, f3, i64_in, List.length_cons, List.length_nil, Int.toNat_natCast]
  · right
    exact ⟨(d, times, evs), ⟨h2, by simp only; omega, hlen, h3⟩, fun k m => by simp (disch := omega) only [zqah, zq9w, c_neg]⟩

theorem record_p5 (N : Int) (hN : 0 ≤ N ∧ N ≤ 3) {d : Dice} (hd : DiceOk d) (hosts : List Host) (syncs : List Sync) (evs : List Event) {times : List Int} (ht : times.length ≤ 1000) (hb : ∀ i, i < times.length → 864000 ≤ times.getD i 0 ∧ times.getD i 0 < 864300) :
    ∃ q : Dice × List Link, (DiceOk q.1 ∧ q.2.length ≤ 3 ∧ ∀ l ∈ q.2, LinkOk times l) ∧
      ∀ {β : Type} (k : zq9m β), zqao k N d.1 d.2 times [] [] [] [] hosts syncs evs [] = k q.1.1 q.1.2 times [] [] [] [] hosts syncs evs q.2 := by
  refine while_loop (σ := Int × Dice × List Link) (ρ := Dice × List Link) (Kt := zq9m)
    (fun k m s => zqam m k s.1 s.2.1.1 s.2.1.2 times [] [] [] [] hosts syncs evs s.2.2) (fun k q => k q.1.1 q.1.2 times [] [] [] [] hosts syncs evs q.2)
    (fun s => 0 ≤ s.1 ∧ s.1 + s.2.2.length ≤ N ∧ DiceOk s.2.1 ∧ ∀ x ∈ s.2.2, LinkOk times x) (fun s => s.1.toNat) _ ?_ fuel (N, d, []) ⟨by omega, by simp, hd, by simp⟩ (lt_fuel (by show N.toNat < _; omega))
  rintro ⟨i, d, links⟩ ⟨h0, h1', h2, h3⟩
  simp only at h0 h1' h2 h3
  by_cases hi : 0 < i
  · by_cases ht1 : (1 : Int) < times.length
    · left
      obtain ⟨x, d1, hx0, hx1, hd1, f1⟩ := next_ok (n := (times.length : Int)) h2 (by omega)
      obtain ⟨y, d2, hy0, hy1, hd2, f2⟩ := next_ok (n := (times.length : Int)) hd1 (by omega)
      by_cases hxy : x = y
      · refine ⟨(i - 1, d2, links), ⟨by simp only; omega, by simp only; omega, hd2, h3⟩, by simp only; omega, fun k m => ?_⟩
        simp (disch := omega) only [zqan, zqa2, zqak, zqa0, zq9z, pair_eta, c_pos, c_npos, c_f, f1, f2, i64_in]
      · have bx := hb x.toNat (by omega)
        have by_ := hb y.toNat (by omega)
        by_cases hle : times.getD x.toNat 0 ≤ times.getD y.toNat 0
        · obtain ⟨z, d3, hz0, hz1, hd3, f3⟩ := next_ok (n := times.getD y.toNat 0 - times.getD x.toNat 0 + 1) hd2 (by omega)
          refine ⟨(i - 1, d3, links ++ [(x, y, z)]), ⟨by simp only; omega, by simp; omega, hd3, ?_⟩, by simp only; omega, fun k m => ?_⟩
          · intro l hl
            simp only [List.mem_append, List.mem_singleton] at hl
            rcases hl with hl | rfl
            · exact h3 l hl
            · exact ⟨hx0, hx1, hy0, hy1, hxy, hz0, by simp only; omega⟩
          · simp (disch := omega) only [zqan, zqa2, zqak, zqa0, zq9z, pair_eta, c_pos, c_nneg, c_inb, c_room, f1, f2, f3, i64_in, List.length_cons, List.length_nil]
        · refine ⟨(i - 1, d2, links), ⟨by simp only; omega, by simp only; omega, hd2, h3⟩, by simp only; omega, fun k m => ?_⟩
          simp (disch := omega) only [zqan, zqa2, zqak, zqa0, zq9z, pair_eta, c_pos, c_nneg, c_inb, c_neg, f1, f2, i64_in]
    · right
      exact ⟨(d, links), ⟨h2, by simp only; omega, h3⟩, fun k m => by simp (disch := omega) only [zqan, zqa2, c_pos, c_neg]⟩
  · right
    exact ⟨(d, links), ⟨h2, by simp only; omega, h3⟩, fun k m => by simp (disch := omega) only [zqan, zqa2, c_neg]⟩

theorem record_ok4 (n : Int) (hn : 0 ≤ n ∧ n ≤ 900) {d : Dice} (hd : DiceOk d) :
    ∃ r d' times ahead, RecOk n r ahead times ∧ DiceOk d' ∧ (r.2.1.length ≤ 4 ∧ r.2.2.2.length ≤ 3) ∧ ∀ {β : Type} (k : zq4 → Dice → List Int → Option β), zqaq n d k = k r d' times := by
  obtain ⟨x, d1, hx0, hx1, hd1, f1⟩ := next_ok (n := 3) hd (by omega)
  obtain ⟨⟨d2, ahead, hosts⟩, ⟨hd2, hh, hN⟩, f2⟩ := record_p1 n (1 + x) (by omega) hd1
  simp only at hd2 hh hN f2
  obtain ⟨y, d3, hy0, hy1, hd3, f3⟩ := next_ok (n := 5) hd2 (by omega)
  obtain ⟨⟨d4, syncs⟩, ⟨hd4, hs, hsy⟩, f4⟩ := record_p2 n y (by omega) hd3 hh (by omega)
  simp only at hd4 hs hsy f4
  obtain ⟨z, d5, hz0, hz1, hd5, f5⟩ := next_ok (n := n + 1) hd4 (by omega)
  obtain ⟨⟨d6, times, evs⟩, ⟨hd6, he, hte, hev⟩, f6⟩ := record_p3 z (by omega) hd5 hh (by omega) syncs
  simp only at hd6 he hte hev f6
  obtain ⟨u, d7, hu0, hu1, hd7, f7⟩ := next_ok (n := 4) hd6 (by omega)
  obtain ⟨⟨d8, links⟩, ⟨hd8, hl, hli⟩, f8⟩ := record_p5 u (by omega) hd7 hosts syncs evs (times := times) (by omega) (fun i hi => ⟨(hev i (by omega)).2.2.1, (hev i (by omega)).2.2.2.1⟩)
  simp only at hd8 hl hli f8
  refine ⟨(hosts, syncs, evs, links), d8, times, ahead, ⟨hh, by simp only; omega, by simp only; omega, hsy, hte, by simp only; omega, hev, by simp only; omega, hli⟩, hd8, ⟨by simp only; omega, hl⟩, fun k => ?_⟩
  simp (disch := omega) only [zqaq, zqa5, f1, f2, f3, f4, f5, f6, f7, f8, i64_in, pair_eta]

theorem record_ok (n : Int) (hn : 0 ≤ n ∧ n ≤ 900) {d : Dice} (hd : DiceOk d) :
    ∃ r d' times ahead, RecOk n r ahead times ∧ DiceOk d' ∧ ∀ {β : Type} (k : zq4 → Dice → List Int → Option β), zqaq n d k = k r d' times := by
  obtain ⟨r, d', times, ahead, h1, h2, _, h3⟩ := record_ok4 n hn hd
  exact ⟨r, d', times, ahead, h1, h2, h3⟩

/-- A record of the dice is valid. -/
theorem RecOk.valid {n : Int} {r : Rec} {ahead times : List Int} (h : RecOk n r ahead times) (hn : n ≤ 40) : valid r = true := by
  obtain ⟨hosts, syncs, evs, links⟩ := r
  have hE := h.fewE
  have hS := h.fewS
  have hL := h.fewL
  have hm := h.hosts.most
  have hle := h.lenE
  simp only at hE hS hL hm hle
  have key : ∀ (l : List Int) (i : Nat), (∀ a ∈ l, a = 0 ∨ a = 7 ∨ a = 100) → 0 ≤ l.getD i 0 ∧ l.getD i 0 ≤ 100 := by
    intro l i hl
    by_cases hi : i < l.length
    · have := hl _ (getD_mem (d := 0) hi); omega
    · simp [List.getD, hi]
  have hev : ∀ e ∈ evs, vEvent hosts.length e = true := by
    intro e he
    obtain ⟨i, hi, rfl⟩ := List.getElem_of_mem he
    have := h.events i hi
    simp only at this
    rw [show evs.getD i (0, 0, []) = evs[i] by simp [List.getD, hi]] at this
    obtain ⟨a1, a2, a3, a4, a5⟩ := this
    have := key ahead evs[i].1.toNat h.hosts.off
    simp only [vEvent, Bool.and_eq_true, inN_iff]
    omega
  have hsy : ∀ s ∈ syncs, vSync hosts.length s = true := by
    intro s hs
    obtain ⟨a1, a2, t, a3, a4, a5, a6, a7, a8, a9⟩ := h.syncs s hs
    have := key ahead s.1.toNat h.hosts.off
    simp only [vSync, okSync, Bool.and_eq_true, inN_iff, decide_eq_true_eq]
    simp only at a2
    omega
  have hli : ∀ l ∈ links, vLink evs.length l = true := by
    intro l hl
    obtain ⟨a1, a2, a3, a4, a5, a6, a7⟩ := h.links l hl
    have b1 := h.events l.1.toNat (by simp only; omega)
    have b2 := h.events l.2.1.toNat (by simp only; omega)
    obtain ⟨-, -, c1, c2, -⟩ := b1
    obtain ⟨-, -, c3, c4, -⟩ := b2
    simp only [vLink, Bool.and_eq_true, inN_iff, Bool.not_eq_true', decide_eq_false_iff_not]
    omega
  have hho : ∀ x ∈ hosts, vHost x = true := by
    intro x hx
    have := h.hosts.drift x hx
    simp only [vHost, inN_iff]
    omega
  simp only [Go.Lift.valid, small, Bool.and_eq_true, List.all_eq_true, Bool.not_eq_true', decide_eq_false_iff_not]
  exact ⟨⟨by omega, by omega, by omega, by omega⟩, hho, hsy, hev, hli⟩

end
end Go.Lift

/- When a clock showed a reading. -/
namespace Go.Lift
open Go.RowKit Go.IntWalk
noncomputable section
set_option linter.unusedVariables false
set_option linter.unusedSimpArgs false

theorem elapsed_le {drift d : Int} (h1 : 0 ≤ drift ∧ drift ≤ 500000) (h2 : 0 ≤ d ∧ d ≤ 8589934592) : (elapsed drift d).1 ≤ d ∧ d ≤ (elapsed drift d).2 := by
  unfold elapsed
  rw [inN_mk h1, inN_mk h2]
  simp only [Bool.and_true, cond_true]
  have hp1 : (0 : Int) < 1000000 + drift := by omega
  have hp2 : (0 : Int) < 1000000 - drift := by omega
  constructor
  · apply Int.le_of_lt_add_one
    rw [Int.ediv_lt_iff_lt_mul hp1]
    have : (d + 1) * 1000000 ≤ (d + 1) * (1000000 + drift) := Int.mul_le_mul_of_nonneg_left (by omega) (by omega)
    omega
  · rw [Int.le_ediv_iff_mul_le hp2]
    have : d * (1000000 - drift) ≤ d * 1000000 := Int.mul_le_mul_of_nonneg_left (by omega) (by omega)
    omega

/-- What a comparison says of a reading, if its numbers are right. -/
theorem fromS_eq {h : Host} {s : Sync} {c : Int} (h1 : 0 ≤ h.2 ∧ h.2 ≤ 500000) (h2 : okSync s = true) (h3 : 0 ≤ c ∧ c ≤ 8589934592) :
    fromS h s c = if s.2.1 ≤ c then (s.2.2.1 + (elapsed h.2 (c - s.2.1)).1, s.2.2.2 + (elapsed h.2 (c - s.2.1)).2) else (s.2.2.1 - (elapsed h.2 (s.2.1 - c)).2, s.2.2.2 - (elapsed h.2 (s.2.1 - c)).1) := by
  unfold fromS
  rw [h2, inN_mk h3, vHost, inN_mk h1]
  simp only [Bool.and_self, cond_true]
  split <;> rename_i hc
  · rw [decide_eq_true hc]; rfl
  · rw [decide_eq_false hc]; rfl

/-- The range that a true comparison gives has the true time. -/
theorem fromS_true {h : Host} {s : Sync} {c t a : Int} (h1 : 0 ≤ h.2 ∧ h.2 ≤ 500000) (h2 : okSync s = true) (h3 : 0 ≤ c ∧ c ≤ 8589934592) (hs : s.2.1 = t + a) (hl : s.2.2.1 ≤ t) (hh : t ≤ s.2.2.2) :
    (fromS h s c).1 ≤ c - a ∧ c - a ≤ (fromS h s c).2 := by
  rw [fromS_eq h1 h2 h3]
  simp only [okSync, Bool.and_eq_true, inN_iff, decide_eq_true_eq] at h2
  split
  · have := elapsed_le h1 (d := c - s.2.1) (by omega)
    simp only; omega
  · have := elapsed_le h1 (d := s.2.1 - c) (by omega)
    simp only; omega

theorem meet2_eq (a b : Int × Int) : meet2 a b = (max a.1 b.1, min a.2 b.2) := by
  unfold meet2
  congr 1
  · omega
  · omega

/-- The ranges that the comparisons of a host give. -/
def froms (hosts : List Host) (host c : Int) (syncs : List Sync) : List (Int × Int) := (syncs.filter fun s => decide (s.1 = host)).map fun s => fromS (hosts.getD host.toNat ([], 0)) s c

theorem whenR_eq (r : Rec) (host c : Int) : whenR r host c = (froms r.1 host c r.2.1).foldl meet2 (0, 8589934592) := by
  unfold whenR froms
  generalize ((0 : Int), (8589934592 : Int)) = o
  induction r.2.1 generalizing o with
  | nil => rfl
  | cons s l ih =>
    simp only [List.foldl_cons, ih, List.filter_cons]
    cases decide (s.1 = host) <;> rfl

theorem foldl_meet_in {x : Int} : ∀ {l : List (Int × Int)} {o : Int × Int}, o.1 ≤ x ∧ x ≤ o.2 → (∀ f ∈ l, f.1 ≤ x ∧ x ≤ f.2) → (l.foldl meet2 o).1 ≤ x ∧ x ≤ (l.foldl meet2 o).2
  | [], o, h, _ => h
  | f :: l, o, h, hl => by
    have h1 := hl f (by simp)
    refine foldl_meet_in (o := meet2 o f) ?_ fun g hg => hl g (by simp [hg])
    rw [meet2_eq]
    simp only; omega

theorem foldl_meet_bd : ∀ {l : List (Int × Int)} {o : Int × Int}, o.1 ≤ (l.foldl meet2 o).1 ∧ (l.foldl meet2 o).2 ≤ o.2
  | [], o => ⟨Int.le_refl _, Int.le_refl _⟩
  | f :: l, o => by
    have := @foldl_meet_bd l (meet2 o f)
    rw [meet2_eq] at this
    rw [List.foldl_cons, meet2_eq]
    simp only at this
    omega

section
variable {n : Int} {r : Rec} {ahead times : List Int}
theorem RecOk.sync_ok (h : RecOk n r ahead times) {s : Sync} (hs : s ∈ r.2.1) : okSync s = true ∧ 864000 ≤ s.2.1 ∧ s.2.1 ≤ 864500 ∧ 863980 ≤ s.2.2.1 ∧ s.2.2.2 ≤ 864415 := by
  obtain ⟨a1, a2, t, a3, a4, a5, a6, a7, a8, a9⟩ := h.syncs s hs
  have := ahead_bd h.hosts s.1.toNat
  refine ⟨?_, by omega, by omega, by omega, by omega⟩
  simp only [okSync, Bool.and_eq_true, inN_iff, decide_eq_true_eq]
  omega
theorem RecOk.drift_ok (h : RecOk n r ahead times) (i : Nat) : 0 ≤ (r.1.getD i ([], 0)).2 ∧ (r.1.getD i ([], 0)).2 ≤ 500000 := by
  by_cases hi : i < r.1.length
  · have := h.hosts.drift _ (getD_mem (d := ([], 0)) hi); omega
  · simp [List.getD, hi]

theorem RecOk.froms_true (h : RecOk n r ahead times) {host c : Int} (hh : 0 ≤ host ∧ host < r.1.length) (hc : 0 ≤ c ∧ c ≤ 8589934592) :
    ∀ f ∈ froms r.1 host c r.2.1, f.1 ≤ c - ahead.getD host.toNat 0 ∧ c - ahead.getD host.toNat 0 ≤ f.2 := by
  intro f hf
  simp only [froms, List.mem_map, List.mem_filter, decide_eq_true_eq] at hf
  obtain ⟨s, ⟨hs, rfl⟩, rfl⟩ := hf
  obtain ⟨a1, a2, t, a3, a4, a5, a6, a7, a8, a9⟩ := h.syncs s hs
  exact fromS_true (h.drift_ok _) (h.sync_ok hs).1 hc a5 a7 a8

theorem RecOk.when_true (h : RecOk n r ahead times) {host c : Int} (hh : 0 ≤ host ∧ host < r.1.length) (hc : 100 ≤ c ∧ c ≤ 8589934592) :
    (whenR r host c).1 ≤ c - ahead.getD host.toNat 0 ∧ c - ahead.getD host.toNat 0 ≤ (whenR r host c).2 := by
  rw [whenR_eq]
  have := ahead_bd h.hosts host.toNat
  exact foldl_meet_in (by simp only; omega) (h.froms_true hh (by omega))

theorem RecOk.when? (h : RecOk n r ahead times) (hn : n ≤ 40) {host c : Int} (hh : 0 ≤ host ∧ host < r.1.length) (hc : 100 ≤ c ∧ c ≤ 8589934592) : when? r host c = (whenR r host c, true) := by
  have h1 := h.when_true hh hc
  unfold Go.Lift.when?
  rw [h.valid hn, inN_mk (by omega), inN_mk (by omega)]
  simp only [Bool.and_self, cond_true]
  rw [decide_eq_false (by omega)]
  rfl
end

end
end Go.Lift

/- constraint.Close in plain Lean. -/
namespace Go.Lift
open Go.RowKit Go.IntWalk
noncomputable section
set_option linter.unusedVariables false
set_option linter.unusedSimpArgs false
set_option maxRecDepth 10000

theorem range_getD {n i : Nat} (h : i < n) : (List.range n).getD i 0 = i := by simp [List.getD, h]

section
variable {β : Type}
theorem close_p3 {n : Nat} (hn : n ≤ 100) {k i : Nat} (hk : k < n) (hi : i < n) {m : Mat} (hm : Sq n m) (a b c d : Int) (k1 : zqtj β) :
    zquu k1 (n : Int) (k : Int) (i : Int) a b c d (n : Int) 0 m = k1 (n : Int) (k : Int) a b c d (rowW n k i m) := by
  have key := fold_loopI (fun _ m => Sq n m) (fun f j m => zqus f k1 (n : Int) (k : Int) (i : Int) a b c d (n : Int) j m) (fun m j => relaxW k i j m) (fun m => k1 (n : Int) (k : Int) a b c d m) 0 (List.range n) m fuel (lt_fuel (by simp; omega)) hm
    (fun j m hj hm => hm.relaxW _ _ _)
    (fun f j m hj hm => by
      have hj : j < n := by simpa using hj
      have e1 : IntKind.i64.wrap ((j : Int) + 1) = j + 1 := i64_in _ (by omega)
      rw [range_getD hj, zqut]
      unfold zqu7
      simp only [Int.toNat_natCast]
      have l0 := hm.len
      have l1 := hm.row i hi
      have l2 := hm.row k hk
      refine (c_pos (by omega)).trans ?_
      refine (c_inb (by omega)).trans ?_
      refine (c_inb (by omega)).trans ?_
      have hq : ∀ (t : Bool), (zquq (fun (n2 : Int) (k_2 : Int) (i_2 : Int) (t382 : Int) (t392 : Int) (t422 : Int) (t432 : Int) (t462 : Int) (t472 : Int) (m2 : List (List Int)) => zqus f k1 n2 k_2 i_2 t382 t392 t422 t432 t462 (IntKind.i64.wrap (t472 + (1 : Int))) m2) (n : Int) (k : Int) (i : Int) (j : Int) a b c d (n : Int) (j : Int) t m : Option β) =
          zqus f k1 (n : Int) (k : Int) (i : Int) a b c d (n : Int) ((j : Int) + 1) (if t then setAt m i j (if IntKind.i64.wrap (at2 m i k + at2 m k j) < at2 m i j then IntKind.i64.wrap (at2 m i k + at2 m k j) else at2 m i j) else m) := fun t => by
        unfold zquq zqu5 zqu4
        cases t with
        | false =>
          simp only [cond_false, e1]
          rfl
        | true =>
          simp only [cond_true, Int.toNat_natCast, e1]
          refine (c_inb (by omega)).trans ?_
          refine (c_inb (by omega)).trans ?_
          refine (c_inb (by omega)).trans ?_
          refine (c_inb (by omega)).trans ?_
          refine (c_inb (by omega)).trans ?_
          refine (c_inb (by omega)).trans ?_
          refine (c_inb (by omega)).trans ?_
          refine (c_inb (by omega)).trans ?_
          rfl
      by_cases h1 : at2 m i k = BIG
      · refine (c_npos (show (m.getD i []).getD k 0 = (1099511627776 : Int) from h1)).trans ?_
        refine (hq false).trans ?_
        have : relaxW k i j m = m := by unfold relaxW; rw [if_pos (.inl h1)]
        rw [this]
        rfl
      · refine (c_nneg (show ¬ (m.getD i []).getD k 0 = (1099511627776 : Int) from h1)).trans ?_
        refine (c_inb (by omega)).trans ?_
        refine (c_inb (by omega)).trans ?_
        refine (hq _).trans ?_
        by_cases h2 : at2 m k j = BIG
        · have : relaxW k i j m = m := by unfold relaxW; rw [if_pos (.inr h2)]
          rw [this, decide_eq_true (show (m.getD k []).getD j 0 = (1099511627776 : Int) from h2)]
          rfl
        · have : relaxW k i j m = setAt m i j (if IntKind.i64.wrap (at2 m i k + at2 m k j) < at2 m i j then IntKind.i64.wrap (at2 m i k + at2 m k j) else at2 m i j) := by unfold relaxW; rw [if_neg (fun h => h.elim h1 h2)]
          rw [this, decide_eq_false (show ¬ (m.getD k []).getD j 0 = (1099511627776 : Int) from h2)]
          rfl)
    (fun f m hm => by
      rw [zqut]
      unfold zqu7
      exact c_neg (by simp))
  unfold zquu
  exact key
theorem close_p4 {n : Nat} (hn : n ≤ 100) {k : Nat} (hk : k < n) {m : Mat} (hm : Sq n m) (a b : Int) (k1 : zqtn β) :
    zquy k1 (n : Int) (k : Int) a b (n : Int) 0 m = k1 (n : Int) (k : Int) a b (roundW n k m) := by
  have key := fold_loopI (fun _ m => Sq n m) (fun f j m => zquw f k1 (n : Int) (k : Int) a b (n : Int) j m) (fun m i => rowW n k i m) (fun m => k1 (n : Int) (k : Int) a b m) 0 (List.range n) m fuel (lt_fuel (by simp; omega)) hm
    (fun j m hj hm => hm.rowW _ _)
    (fun f j m hj hm => by
      have hj : j < n := by simpa using hj
      have e1 : IntKind.i64.wrap ((j : Int) + 1) = j + 1 := i64_in _ (by omega)
      rw [range_getD hj, zqux]
      unfold zqua
      refine (c_pos (by omega)).trans ?_
      refine (close_p3 hn hk hj hm _ _ _ _ _).trans ?_
      simp only [e1])
    (fun f m hm => by
      rw [zqux]
      unfold zqua
      exact c_neg (by simp))
  unfold zquy
  exact key

/-- The rounds of the closure: c rounds from k on. -/
def roundsW (n : Nat) : Nat → Nat → Mat → Option Mat
  | 0, _, m => some m
  | c + 1, k, m => if at2 (roundW n k m) k k < 0 then none else roundsW n c (k + 1) (roundW n k m)

theorem roundsW_sq {n : Nat} : ∀ (c k : Nat) (m m' : Mat), Sq n m → roundsW n c k m = some m' → Sq n m'
  | 0, k, m, m', h, e => by cases e; exact h
  | c + 1, k, m, m', h, e => by
    unfold roundsW at e
    split at e
    · cases e
    · exact roundsW_sq c (k + 1) _ m' (h.roundW k) e

theorem close_p5_n {n : Nat} (hn : n ≤ 100) (k1 : zqtr β) (k2 : zqts β) : ∀ (c k f : Nat) (m : Mat), k + c = n → c < f → Sq n m →
    zqv0 f k1 k2 (n : Int) (n : Int) (k : Int) m = (match roundsW n c k m with | some m' => k2 (n : Int) m' | none => k1 false [])
  | 0, k, f + 1, m, h, hf, hm => by
    rw [zqv1]
    unfold zqud
    exact c_neg (by omega)
  | c + 1, k, f + 1, m, h, hf, hm => by
    rw [zqv1]
    unfold zqud
    have hk : k < n := by omega
    refine (c_pos (by omega)).trans ?_
    refine (close_p4 hn hk hm _ _ _).trans ?_
    have hm' := hm.roundW k
    have l0 := hm'.len
    have l1 := hm'.row k hk
    have e1 : IntKind.i64.wrap ((k : Int) + 1) = ((k + 1 : Nat) : Int) := i64_in _ (by omega)
    simp only [Int.toNat_natCast]
    refine (c_inb (by omega)).trans ?_
    refine (c_inb (by omega)).trans ?_
    unfold roundsW
    by_cases h2 : at2 (roundW n k m) k k < 0
    · refine (c_pos h2).trans ?_
      rw [if_pos h2]
    · refine (c_neg h2).trans ?_
      rw [if_neg h2, e1]
      exact close_p5_n hn k1 k2 c (k + 1) f _ (by omega) (by omega) hm'
  | _, _, 0, _, _, hf, _ => absurd hf (by omega)

theorem close_p5 {n : Nat} (hn : n ≤ 100) (k1 : zqtr β) (k2 : zqts β) {m : Mat} (hm : Sq n m) :
    zqv2 k1 k2 (n : Int) (n : Int) 0 m = (match roundsW n n 0 m with | some m' => k2 (n : Int) m' | none => k1 false []) := by
  unfold zqv2
  exact close_p5_n hn k1 k2 n 0 fuel m (by omega) (lt_fuel (by omega)) hm

/-- No number of the diagonal is less than 0. -/
def diagOk (n : Nat) (m : Mat) : Bool := (List.range n).all fun i => decide (¬ at2 m i i < 0)

theorem close_p6 {n : Nat} (hn : n ≤ 100) (k1 : zqtw β) (k2 : zqtx β) {m : Mat} (hm : Sq n m) :
    zqv6 k1 k2 (n : Int) 0 m = cond (diagOk n m) (k2 m) (k1 false []) := by
  have key := check_loop (fun f j => zqv4 f k1 k2 (n : Int) j m) (fun i => decide (¬ at2 m i i < 0)) (k1 false []) (k2 m) 0 (List.range n) fuel (lt_fuel (by simp; omega))
    (fun f j hj => by
      have hj : j < n := by simpa using hj
      have e1 : IntKind.i64.wrap ((j : Int) + 1) = j + 1 := i64_in _ (by omega)
      have l0 := hm.len
      have l1 := hm.row j hj
      rw [range_getD hj, zqv5]
      unfold zqug
      simp only [Int.toNat_natCast, e1]
      refine (c_pos (by omega)).trans ?_
      refine (c_inb (by omega)).trans ?_
      refine (c_inb (by omega)).trans ?_
      by_cases h2 : at2 m j j < 0
      · refine (c_pos h2).trans ?_
        simp [h2]
      · refine (c_neg h2).trans ?_
        simp [h2])
    (fun f => by
      rw [zqv5]
      unfold zqug
      exact c_neg (by simp))
  unfold zqv6
  exact key

/-- The diagonal is 0 at most. -/
def diagW (n : Nat) (m : Mat) : Mat := (List.range n).foldl (fun m i => setAt m i i (if 0 < at2 m i i then 0 else at2 m i i)) m
theorem Sq.diagW {n : Nat} {m : Mat} (h : Sq n m) : Sq n (diagW n m) := fold_inv (Sq n) _ (fun m i h => h.setAt _ _ _) _ _ h

theorem close_p1 {n : Nat} (hn : n ≤ 100) (k1 : zqtb β) {m : Mat} (hm : Sq n m) :
    zquo k1 (n : Int) (n : Int) 0 m = k1 (n : Int) (diagW n m) := by
  have key := fold_loopI (fun _ m => Sq n m) (fun f j m => zqum f k1 (n : Int) (n : Int) j m) (fun m i => setAt m i i (if 0 < at2 m i i then 0 else at2 m i i)) (fun m => k1 (n : Int) m) 0 (List.range n) m fuel (lt_fuel (by simp; omega)) hm
    (fun j m hj hm => hm.setAt _ _ _)
    (fun f j m hj hm => by
      have hj : j < n := by simpa using hj
      have e1 : IntKind.i64.wrap ((j : Int) + 1) = j + 1 := i64_in _ (by omega)
      have l0 := hm.len
      have l1 := hm.row j hj
      rw [range_getD hj, zqun]
      unfold zqu1
      simp only [Int.toNat_natCast, e1]
      refine (c_pos (by omega)).trans ?_
      refine (c_inb (by omega)).trans ?_
      refine (c_inb (by omega)).trans ?_
      refine (c_inb (by omega)).trans ?_
      refine (c_inb (by omega)).trans ?_
      rfl)
    (fun f m hm => by
      rw [zqun]
      unfold zqu1
      exact c_neg (by simp))
  unfold zquo
  exact key
end
end
end Go.Lift

/- constraint.Valid and constraint.direct in plain Lean. -/
namespace Go.Lift
open Go.RowKit Go.IntWalk
noncomputable section
set_option linter.unusedVariables false
set_option linter.unusedSimpArgs false
set_option maxRecDepth 10000

abbrev Diff := Int × (Int × Int)
section
variable {β : Type}
theorem constraint_in_eq (n low high : Int) (k : Bool → Option β) : zq6u n low high k = k (decide (low ≤ n) && decide (n ≤ high)) := by
  unfold zq6u zq6r
  by_cases h : low ≤ n <;> simp [h]

def diffOk (n : Nat) (d : Diff) : Bool := decide (0 ≤ d.1 ∧ d.1 < n ∧ 0 ≤ d.2.1 ∧ d.2.1 < n ∧ -17179869184 ≤ d.2.2 ∧ d.2.2 ≤ 17179869184)

theorem Valid_f1_eq {n : Nat} (hn : n ≤ 100) (d : Diff) (k : Bool → Int → Option β) : zq92 d (n : Int) k = k (!diffOk n d) (n : Int) := by
  have e1 : IntKind.i64.wrap ((n : Int) - 1) = n - 1 := i64_in _ (by omega)
  unfold zq92 zq8z
  simp only [constraint_in_eq, e1]
  unfold diffOk
  by_cases h1 : 0 ≤ d.1 ∧ d.1 ≤ (n : Int) - 1
  · rw [decide_eq_true h1.1, decide_eq_true h1.2]
    simp only [Bool.and_self, Bool.not_true, cond_false]
    by_cases h2 : 0 ≤ d.2.1 ∧ d.2.1 ≤ (n : Int) - 1
    · rw [decide_eq_true h2.1, decide_eq_true h2.2]
      simp only [Bool.and_self, Bool.not_true, cond_false]
      congr 1
      congr 1
      rw [← Bool.decide_and]
      exact decide_eq_decide.2 (by omega)
    · rw [show (decide (0 ≤ d.2.1) && decide (d.2.1 ≤ (n : Int) - 1)) = false by rw [← Bool.decide_and]; exact decide_eq_false h2]
      simp only [Bool.not_false, cond_true]
      congr 1
      rw [decide_eq_false (by omega)]
      rfl
  · rw [show (decide (0 ≤ d.1) && decide (d.1 ≤ (n : Int) - 1)) = false by rw [← Bool.decide_and]; exact decide_eq_false h1]
    simp only [Bool.not_false, cond_true]
    congr 1
    rw [decide_eq_false (by omega)]
    rfl

theorem any_eq {n : Nat} (hn : n ≤ 100) {l : List Diff} (hl : l.length ≤ 100000) (k : Bool → Int → Option β) :
    zqt0 l (n : Int) k = k (!l.all (diffOk n)) (n : Int) := by
  unfold zqt0 zqsx
  unfold zqmz zqms
  unfold zqmx
  refine (check_loop (fun f j => zqmv f (fun (t4 : Int) (b0_2 : Int) => k (decide ((0 : Int) ≤ t4)) b0_2) (fun (b0_2 : Int) => k (decide ((0 : Int) ≤ -1)) b0_2) l (l.length : Int) j (n : Int)) (diffOk n) (k true (n : Int)) (k false (n : Int)) ((0 : Int), ((0 : Int), (0 : Int))) l fuel (lt_fuel (by omega))
    (fun f j hj => ?_) (fun f => ?_)).trans ?_
  · have e1 : IntKind.i64.wrap ((j : Int) + 1) = j + 1 := i64_in _ (by omega)
    rw [zqmw]
    unfold zqmp
    refine (c_pos (by omega)).trans ?_
    refine (c_inb (by omega)).trans ?_
    simp only [Int.toNat_natCast, e1]
    refine (Valid_f1_eq hn _ _).trans ?_
    cases h : diffOk n (l.getD j ((0 : Int), ((0 : Int), (0 : Int)))) with
    | true => simp
    | false => simp
  · rw [zqmw]
    unfold zqmp
    refine (c_neg (by omega)).trans ?_
    simp
  · cases l.all (diffOk n) <;> rfl

def validD (n : Nat) (l : List Diff) : Bool := decide (l.length ≤ 4000) && l.all (diffOk n)

theorem Valid_eq {n : Nat} (h1 : 1 ≤ n) (hn : n ≤ 41) {l : List Diff} (k : Bool → Option β) : zqt7 (n : Int) l k = k (validD n l) := by
  unfold zqt7 zqt4
  refine (constraint_in_eq _ _ _ _).trans ?_
  rw [decide_eq_true (show (1 : Int) ≤ n by omega), decide_eq_true (show (n : Int) ≤ 41 by omega)]
  simp only [Bool.and_self, Bool.not_true, cond_false]
  unfold validD
  by_cases hl : l.length ≤ 4000
  · refine (c_neg (by omega)).trans ?_
    refine (any_eq (by omega) (by omega) _).trans ?_
    rw [decide_eq_true hl]
    simp
  · refine (c_pos (by omega)).trans ?_
    rw [decide_eq_false hl]
    rfl
end
end
end Go.Lift

/- constraint.direct in plain Lean. -/
namespace Go.Lift
open Go.RowKit Go.IntWalk
noncomputable section
set_option linter.unusedVariables false
set_option linter.unusedSimpArgs false
set_option maxRecDepth 10000

def bigM (n : Nat) : Mat := List.replicate n (List.replicate n BIG)
/-- One constraint more. -/
def putW (m : Mat) (d : Diff) : Mat := setAt m d.1.toNat d.2.1.toNat (if d.2.2 < at2 m d.1.toNat d.2.1.toNat then d.2.2 else at2 m d.1.toNat d.2.1.toNat)
def directW (n : Nat) (l : List Diff) : Mat := l.foldl putW (bigM n)

theorem bigM_sq (n : Nat) : Sq n (bigM n) := by
  refine ⟨by simp [bigM], fun i hi => ?_⟩
  simp [bigM, List.getD, hi]
theorem Sq.putW {n : Nat} {m : Mat} (h : Sq n m) (d : Diff) : Sq n (putW m d) := h.setAt _ _ _
theorem directW_sq (n : Nat) (l : List Diff) : Sq n (directW n l) := fold_inv (Sq n) _ (fun m d h => h.putW d) _ _ (bigM_sq n)

theorem set_getD_self {α : Type} {l : List α} {i : Nat} {d : α} (h : i < l.length) : l.set i (l.getD i d) = l := by
  apply List.ext_getElem
  · simp
  · intro j h1 h2
    rw [List.getElem_set]
    split
    · subst_vars; simp [List.getD, h]
    · rfl

theorem fill_row {α : Type} (v : α) (n : Nat) (r : List α) (h : r.length = n) : (List.range n).foldl (fun r j => r.set j v) r = List.replicate n v := by
  have key : ∀ (c : Nat), c ≤ n → (List.range c).foldl (fun r j => r.set j v) r = List.replicate c v ++ r.drop c := by
    intro c
    induction c with
    | zero => intro _; simp
    | succ c ih =>
      intro hc
      rw [List.range_succ, List.foldl_append, ih (by omega)]
      simp only [List.foldl_cons, List.foldl_nil]
      rw [List.set_append_right _ _ (by simp)]
      simp only [List.length_replicate, Nat.sub_self]
      rw [List.drop_eq_getElem_cons (by omega), List.set_cons_zero, List.replicate_succ', List.append_assoc]
      rfl
  rw [key n (Nat.le_refl n), List.drop_eq_nil_of_le (by omega), List.append_nil]

theorem fill_mat (v : Int) (i : Nat) : ∀ (l : List Nat) (out : Mat), i < out.length →
    l.foldl (fun m j => setAt m i j v) out = out.set i (l.foldl (fun r j => r.set j v) (out.getD i []))
  | [], out, h => by simp only [List.foldl_nil]; rw [set_getD_self h]
  | j :: l, out, h => by
    simp only [List.foldl_cons]
    rw [fill_mat v i l _ (by simpa [setAt] using h)]
    unfold setAt
    rw [getD_set_eq h, List.set_set]

section
variable {β : Type}
theorem c_make {n : Nat} {c : Nat} {a b : Option β} (hn : n ≤ 10000) (hc : c ≤ 1000) : cond (decide (0 ≤ (n : Int)) && (decide ((n : Int) = (n : Int)) && (decide (Int.toNat (n : Int) * c ≤ roomMax) && decide ((n : Int) ≤ 9223372036854775807)))) a b = a := by
  have h1 : Int.toNat (n : Int) * c ≤ roomMax := by
    rw [Int.toNat_natCast]
    exact Nat.le_trans (Nat.mul_le_mul hn hc) (by decide)
  rw [decide_eq_true (show (0 : Int) ≤ n by omega), decide_eq_true (rfl : (n : Int) = n), decide_eq_true h1, decide_eq_true (show (n : Int) ≤ 9223372036854775807 by omega)]
  rfl

theorem direct_p1 {n : Nat} (hn : n ≤ 100) (k1 : zq7v β) (l : List Diff) {i : Nat} (hi : i < n) (a b : Int) {out : Mat} (h0 : out.length = n) (h1 : (out.getD i []).length = n) :
    zq8l k1 (n : Int) l (i : Int) a b (n : Int) 0 out = k1 (n : Int) l a b (out.set i (List.replicate n BIG)) := by
  have key := fold_loopI (fun _ (m : Mat) => m.length = n ∧ (m.getD i []).length = n) (fun f j m => zq8j f k1 (n : Int) l (i : Int) a b (n : Int) j m) (fun m j => setAt m i j BIG) (fun m => k1 (n : Int) l a b m) 0 (List.range n) out fuel (lt_fuel (by simp; omega)) ⟨h0, h1⟩
    (fun j m hj hm => by
      refine ⟨by simp [setAt, hm.1], ?_⟩
      unfold setAt
      rw [getD_set_eq (by omega), List.length_set]
      exact hm.2)
    (fun f j m hj hm => by
      have hj : j < n := by simpa using hj
      have e1 : IntKind.i64.wrap ((j : Int) + 1) = j + 1 := i64_in _ (by omega)
      have l0 := hm.1
      have l1 := hm.2
      rw [range_getD hj, zq8k]
      unfold zq87
      simp only [Int.toNat_natCast, e1]
      refine (c_pos (by omega)).trans ?_
      refine (c_inb (by omega)).trans ?_
      refine (c_inb (by omega)).trans ?_
      rfl)
    (fun f m hm => by
      rw [zq8k]
      unfold zq87
      exact c_neg (by simp))
  unfold zq8l
  refine key.trans ?_
  rw [fill_mat BIG i _ _ (by omega), fill_row BIG n _ h1]

theorem direct_p2 {n : Nat} (hn : n ≤ 100) (k1 : zq7z β) (l : List Diff) :
    zq8p k1 (n : Int) l (n : Int) 0 (List.replicate n []) = k1 l (bigM n) := by
  have key := fold_loopI (fun _ (m : Mat) => m.length = n) (fun f j m => zq8n f k1 (n : Int) l (n : Int) j m) (fun m j => m.set j (List.replicate n BIG)) (fun m => k1 l m) 0 (List.range n) (List.replicate n []) fuel (lt_fuel (by simp; omega)) (by simp)
    (fun j m hj hm => by rw [List.length_set]; exact hm)
    (fun f j m hj hm => by
      have hj : j < n := by simpa using hj
      have e1 : IntKind.i64.wrap ((j : Int) + 1) = j + 1 := i64_in _ (by omega)
      rw [range_getD hj, zq8o]
      unfold zq8a
      refine (c_pos (by omega)).trans ?_
      refine (c_make (by omega) (by omega)).trans ?_
      refine (c_inb (by omega)).trans ?_
      simp only [Int.toNat_natCast]
      refine (c_inb (by rw [List.length_set]; omega)).trans ?_
      rw [getD_set_eq (show j < m.length by omega), List.length_replicate]
      refine (direct_p1 hn _ l hj _ _ (by rw [List.length_set]; exact hm) (by rw [getD_set_eq (show j < m.length by omega), List.length_replicate])).trans ?_
      simp only [e1, List.set_set])
    (fun f m hm => by
      rw [zq8o]
      unfold zq8a
      exact c_neg (by simp))
  unfold zq8p
  refine key.trans ?_
  rw [fill_row (List.replicate n BIG) n _ (by simp)]
  rfl

theorem direct_p3 {n : Nat} (hn : n ≤ 100) (k1 : zq83 β) {l : List Diff} (hl : l.length ≤ 4000) (ho : l.all (diffOk n) = true) {m : Mat} (hm : Sq n m) :
    zq8t k1 l (l.length : Int) 0 m = k1 (l.foldl putW m) := by
  have key := fold_loopI (fun _ (m : Mat) => Sq n m) (fun f j m => zq8r f k1 l (l.length : Int) j m) putW (fun m => k1 m) ((0 : Int), ((0 : Int), (0 : Int))) l m fuel (lt_fuel (by omega)) hm
    (fun j m hj hm => hm.putW _)
    (fun f j m hj hm => by
      have e1 : IntKind.i64.wrap ((j : Int) + 1) = j + 1 := i64_in _ (by omega)
      rw [zq8s]
      unfold zq8d
      refine (c_pos (by omega)).trans ?_
      refine (c_inb (by omega)).trans ?_
      simp only [Int.toNat_natCast, e1]
      have hd : diffOk n (l.getD j ((0 : Int), ((0 : Int), (0 : Int)))) = true := by
        rw [List.all_eq_true] at ho
        refine ho _ ?_
        rw [List.getD, List.getElem?_eq_getElem hj]
        exact List.getElem_mem hj
      have hd := of_decide_eq_true hd
      have l0 := hm.len
      have l1 := hm.row (l.getD j ((0 : Int), ((0 : Int), (0 : Int)))).1.toNat (by omega)
      refine (c_inb (by omega)).trans ?_
      refine (c_inb (by omega)).trans ?_
      refine (c_inb (by omega)).trans ?_
      refine (c_inb (by omega)).trans ?_
      rfl)
    (fun f m hm => by
      rw [zq8s]
      unfold zq8d
      exact c_neg (by omega))
  unfold zq8t
  exact key

theorem direct_eq {n : Nat} (hn : n ≤ 100) {l : List Diff} (hl : l.length ≤ 4000) (ho : l.all (diffOk n) = true) (k : Mat → Option β) : zq8v (n : Int) l k = k (directW n l) := by
  unfold zq8v zq8g
  refine (c_make (by omega) (by omega)).trans ?_
  simp only [Int.toNat_natCast, List.length_replicate]
  refine (direct_p2 hn _ l).trans ?_
  exact direct_p3 hn _ hl ho (bigM_sq n)

/-- What Close returns. -/
def closeW (n : Nat) (l : List Diff) : Option Mat :=
  if validD n l then
    match roundsW n n 0 (diagW n (directW n l)) with
    | some m => if diagOk n m then some m else none
    | none => none
  else none

theorem Close_eq {n : Nat} (h1 : 1 ≤ n) (hn : n ≤ 41) (l : List Diff) (k : Mat → Bool → Option β) : zqv8 (n : Int) l k = (match closeW n l with | some m => k m true | none => k [] false) := by
  unfold zqv8 zquj
  refine (Valid_eq h1 hn _).trans ?_
  unfold closeW
  by_cases hv : validD n l = true
  · rw [hv]
    have hv' := hv
    unfold validD at hv'
    rw [Bool.and_eq_true] at hv'
    simp only [Bool.not_true, cond_false, if_true]
    refine (direct_eq (by omega) (of_decide_eq_true hv'.1) hv'.2 _).trans ?_
    refine (close_p1 (by omega) _ (directW_sq n l)).trans ?_
    refine (close_p5 (by omega) _ _ (directW_sq n l).diagW).trans ?_
    cases hr : roundsW n n 0 (diagW n (directW n l)) with
    | none => rfl
    | some m =>
      simp only []
      refine (close_p6 (by omega) _ _ (roundsW_sq n 0 _ _ (directW_sq n l).diagW hr)).trans ?_
      cases diagOk n m <;> rfl
  · rw [Bool.eq_false_iff.2 hv]
    rfl
end
end
end Go.Lift

/- The theory of the closure. -/
namespace Go.Lift
open Go.RowKit Go.IntWalk
noncomputable section
set_option linter.unusedVariables false
set_option linter.unusedSimpArgs false
set_option maxRecDepth 10000

theorem wrap_in {x : Int} (h : -9223372036854775808 ≤ x ∧ x ≤ 9223372036854775807) : IntKind.i64.wrap x = x := i64_in _ h

theorem range_fold {σ : Type} (g : σ → Nat → σ) (s : σ) (c : Nat) : (List.range (c + 1)).foldl g s = g ((List.range c).foldl g s) c := by
  rw [List.range_succ, List.foldl_append]; rfl

/-- What a round needs. -/
structure RH (n k : Nat) (m : Mat) : Prop where
  sq : Sq n m
  zero : at2 m k k = 0
  row : ∀ j, j < n → -1125899906842624 ≤ at2 m k j ∧ at2 m k j < 1099511627776
  col : ∀ i, i < n → -1125899906842624 ≤ at2 m i k ∧ at2 m i k < 1099511627776

theorem relax_at {n k i j : Nat} {m : Mat} (hm : Sq n m) (hi : i < n) (hj : j < n) (h1 : -1125899906842624 ≤ at2 m i k ∧ at2 m i k < 1099511627776) (h2 : -1125899906842624 ≤ at2 m k j ∧ at2 m k j < 1099511627776) (a b : Nat) :
    at2 (relaxW k i j m) a b = if a = i ∧ b = j then min (at2 m i j) (at2 m i k + at2 m k j) else at2 m a b := by
  have hB : BIG = 1099511627776 := rfl
  unfold relaxW
  rw [if_neg (by omega), at_setAt hm hi hj, wrap_in (by omega)]
  split
  · split <;> omega
  · rfl

theorem row_at {n k i : Nat} {m : Mat} (h : RH n k m) (hk : k < n) (hi : i < n) : ∀ (c : Nat), c ≤ n → Sq n ((List.range c).foldl (fun m j => relaxW k i j m) m) ∧ ∀ a b, a < n → b < n →
    at2 ((List.range c).foldl (fun m j => relaxW k i j m) m) a b = if a = i ∧ b < c then min (at2 m a b) (at2 m a k + at2 m k b) else at2 m a b := by
  intro c
  induction c with
  | zero =>
    intro _
    refine ⟨h.sq, fun a b _ _ => ?_⟩
    rw [if_neg (by omega)]
    rfl
  | succ c ih =>
    intro hc
    obtain ⟨s1, s2⟩ := ih (by omega)
    rw [range_fold]
    refine ⟨s1.relaxW _ _ _, fun a b ha hb => ?_⟩
    have z := h.zero
    have r := h.row c (by omega)
    have cc := h.col i hi
    have ck := h.col k hk
    have q1 : at2 ((List.range c).foldl (fun m j => relaxW k i j m) m) i k = at2 m i k := by
      rw [s2 i k hi hk]; split <;> omega
    have q2 : at2 ((List.range c).foldl (fun m j => relaxW k i j m) m) k c = at2 m k c := by
      rw [s2 k c hk (by omega), if_neg (by omega)]
    rw [relax_at s1 hi (by omega) (by rw [q1]; exact cc) (by rw [q2]; exact r), q1, q2, s2 i c hi (by omega), s2 a b ha hb]
    rw [if_neg (show ¬ (i = i ∧ c < c) by omega)]
    by_cases e1 : a = i
    · subst e1
      by_cases e2 : b = c
      · subst e2
        rw [if_pos ⟨rfl, rfl⟩, if_pos (by omega)]
      · rw [if_neg (fun h => e2 h.2)]
        by_cases e3 : b < c
        · rw [if_pos (by omega), if_pos (by omega)]
        · rw [if_neg (by omega), if_neg (by omega)]
    · rw [if_neg (fun h => e1 h.1), if_neg (fun h => e1 h.1), if_neg (fun h => e1 h.1)]

theorem rowW_at {n k i : Nat} {m : Mat} (h : RH n k m) (hk : k < n) (hi : i < n) (a b : Nat) (ha : a < n) (hb : b < n) :
    at2 (rowW n k i m) a b = if a = i then min (at2 m a b) (at2 m a k + at2 m k b) else at2 m a b := by
  refine ((row_at h hk hi n (Nat.le_refl n)).2 a b ha hb).trans ?_
  by_cases e : a = i
  · rw [if_pos ⟨e, hb⟩, if_pos e]
  · rw [if_neg (fun h => e h.1), if_neg e]

theorem rounds_at {n k : Nat} {m : Mat} (h : RH n k m) (hk : k < n) : ∀ (c : Nat), c ≤ n → RH n k ((List.range c).foldl (fun m i => rowW n k i m) m) ∧ ∀ a b, a < n → b < n →
    at2 ((List.range c).foldl (fun m i => rowW n k i m) m) a b = if a < c then min (at2 m a b) (at2 m a k + at2 m k b) else at2 m a b := by
  intro c
  induction c with
  | zero =>
    intro _
    refine ⟨h, fun a b _ _ => ?_⟩
    rw [if_neg (by omega)]
    rfl
  | succ c ih =>
    intro hc
    obtain ⟨s1, s2⟩ := ih (by omega)
    rw [range_fold]
    have hh : ∀ a b, a < n → b < n → at2 (rowW n k c ((List.range c).foldl (fun m i => rowW n k i m) m)) a b = if a < c + 1 then min (at2 m a b) (at2 m a k + at2 m k b) else at2 m a b := by
      intro a b ha hb
      rw [rowW_at s1 hk (by omega) a b ha hb]
      have z := h.zero
      have e1 : at2 ((List.range c).foldl (fun m i => rowW n k i m) m) k b = at2 m k b := by rw [s2 k b hk hb]; split <;> omega
      have e2 : at2 ((List.range c).foldl (fun m i => rowW n k i m) m) a k = at2 m a k := by rw [s2 a k ha hk]; split <;> omega
      rw [e1, e2, s2 a b ha hb]
      split <;> split <;> split <;> omega
    refine ⟨⟨s1.sq.rowW _ _, ?_, ?_, ?_⟩, hh⟩
    · rw [hh k k hk hk]
      have z := h.zero
      split <;> omega
    · intro j hj
      rw [hh k j hk hj]
      have z := h.zero
      have := h.row j hj
      split <;> omega
    · intro i hi
      rw [hh i k hi hk]
      have z := h.zero
      have := h.col i hi
      split <;> omega

theorem roundW_at {n k : Nat} {m : Mat} (h : RH n k m) (hk : k < n) (a b : Nat) (ha : a < n) (hb : b < n) :
    at2 (roundW n k m) a b = min (at2 m a b) (at2 m a k + at2 m k b) := by
  refine ((rounds_at h hk n (Nat.le_refl n)).2 a b ha hb).trans ?_
  rw [if_pos ha]

/- Entries never grow, whatever they are. -/
def Le (n : Nat) (m' m : Mat) : Prop := ∀ a b, a < n → b < n → at2 m' a b ≤ at2 m a b
theorem Le.refl {n : Nat} (m : Mat) : Le n m m := fun _ _ _ _ => Int.le_refl _
theorem Le.trans {n : Nat} {a b c : Mat} (h : Le n a b) (g : Le n b c) : Le n a c := fun i j hi hj => Int.le_trans (h i j hi hj) (g i j hi hj)

theorem relax_le {n k i j : Nat} {m : Mat} (hm : Sq n m) (hi : i < n) (hj : j < n) : Le n (relaxW k i j m) m := by
  intro a b ha hb
  unfold relaxW
  split
  · exact Int.le_refl _
  · rw [at_setAt hm hi hj]
    split
    · rename_i e
      rw [e.1, e.2]
      split <;> omega
    · exact Int.le_refl _

theorem fold_le {n : Nat} (g : Mat → Nat → Mat) (h1 : ∀ m j, Sq n m → Sq n (g m j)) (h2 : ∀ m j, Sq n m → j < n → Le n (g m j) m) : ∀ (l : List Nat) (m : Mat), Sq n m → (∀ x ∈ l, x < n) → Le n (l.foldl g m) m
  | [], m, _, _ => Le.refl m
  | x :: l, m, hm, hl => (fold_le g h1 h2 l (g m x) (h1 m x hm) (fun y hy => hl y (List.mem_cons_of_mem _ hy))).trans (h2 m x hm (hl x (List.mem_cons_self ..)))

theorem row_le {n k i : Nat} {m : Mat} (hm : Sq n m) (hi : i < n) : Le n (rowW n k i m) m :=
  fold_le _ (fun m j h => h.relaxW k i j) (fun m j h hj => relax_le h hi hj) _ m hm (fun x hx => by simpa using hx)
theorem round_le {n k : Nat} {m : Mat} (hm : Sq n m) : Le n (roundW n k m) m :=
  fold_le _ (fun m j h => h.rowW k j) (fun m j h hj => row_le h hj) _ m hm (fun x hx => by simpa using hx)
theorem rounds_le {n : Nat} : ∀ (c k : Nat) (m m' : Mat), Sq n m → roundsW n c k m = some m' → Le n m' m
  | 0, k, m, m', h, e => by cases e; exact Le.refl m
  | c + 1, k, m, m', h, e => by
    unfold roundsW at e
    split at e
    · cases e
    · exact (rounds_le c (k + 1) _ m' (h.roundW k) e).trans (round_le h)
end
end Go.Lift

/- The theory of the closure, 2: the rounds. -/
namespace Go.Lift
open Go.RowKit Go.IntWalk
noncomputable section
set_option linter.unusedVariables false
set_option linter.unusedSimpArgs false
set_option maxRecDepth 10000

/-- The matrix at the beginning. -/
structure Inv0 (n : Nat) (m : Mat) : Prop where
  sq : Sq n m
  lo : ∀ i j, i < n → j < n → -17179869184 ≤ at2 m i j
  row : ∀ j, j < n → at2 m 0 j ≤ 17179869184
  neg : ∀ i, i < n → at2 m i 0 ≤ 0
  diag : ∀ i, i < n → at2 m i i ≤ 0

/-- The matrix behind k rounds. -/
structure Inv (n k : Nat) (W m : Mat) : Prop where
  sq : Sq n m
  hi : ∀ i j, i < n → j < n → at2 m i j ≤ 34359738368
  diag : ∀ i, i < n → at2 m i i ≤ 0
  le : Le n m W
  tri : ∀ a, a < k → a < n → ∀ i j, i < n → j < n → at2 m i j ≤ at2 m i a + at2 m a j
  dl : ∀ i j, i < n → j < n → at2 m i j = at2 W i j ∨ ∃ b, b < k ∧ b < n ∧ at2 m i b + at2 W b j ≤ at2 m i j
  dr : ∀ i j, i < n → j < n → at2 m i j = at2 W i j ∨ ∃ b, b < k ∧ b < n ∧ at2 W i b + at2 m b j ≤ at2 m i j

/-- Numbers whose differences are within a matrix. -/
def SolM (n : Nat) (m : Mat) (x : Nat → Int) : Prop := ∀ i j, i < n → j < n → x j - x i ≤ at2 m i j

theorem Inv0.rh {n : Nat} {m : Mat} (h : Inv0 n m) (hn : 0 < n) (z : at2 m 0 0 = 0) : RH n 0 m :=
  ⟨h.sq, z, fun j hj => by have := h.lo 0 j hn hj; have := h.row j hj; omega, fun i hi => by have := h.lo i 0 hi hn; have := h.neg i hi; omega⟩

theorem Inv0.step {n : Nat} {m : Mat} (h : Inv0 n m) (hn : 0 < n) (z : at2 m 0 0 = 0) : Inv n 1 m (roundW n 0 m) := by
  have e := roundW_at (h.rh hn z) hn
  refine ⟨h.sq.roundW _, fun i j hi hj => ?_, fun i hi => ?_, fun i j hi hj => ?_, fun a ha ha' i j hi hj => ?_, fun i j hi hj => ?_, fun i j hi hj => ?_⟩
  · rw [e i j hi hj]
    have := h.neg i hi; have := h.row j hj
    omega
  · rw [e i i hi hi]
    have := h.diag i hi
    omega
  · rw [e i j hi hj]
    omega
  · obtain rfl : a = 0 := by omega
    rw [e i j hi hj, e i 0 hi hn, e 0 j hn hj]
    omega
  · by_cases hc : at2 m i j ≤ at2 m i 0 + at2 m 0 j
    · left; rw [e i j hi hj]; omega
    · right
      refine ⟨0, by omega, hn, ?_⟩
      rw [e i j hi hj, e i 0 hi hn]
      omega
  · by_cases hc : at2 m i j ≤ at2 m i 0 + at2 m 0 j
    · left; rw [e i j hi hj]; omega
    · right
      refine ⟨0, by omega, hn, ?_⟩
      rw [e i j hi hj, e 0 j hn hj]
      omega

/-- No entry is far below 0, if the diagonal is not. -/
theorem Inv.lo {n k : Nat} {W m : Mat} (h : Inv n k W m) (hk : 1 ≤ k) (w : Inv0 n W) (hn : 0 < n) (z : ∀ i, i < n → 0 ≤ at2 m i i) {i j : Nat} (hi : i < n) (hj : j < n) : -51539607552 ≤ at2 m i j := by
  have row0 : ∀ j, j < n → 0 ≤ at2 m 0 j ∧ at2 m 0 j ≤ 17179869184 := fun j hj => by
    have h1 := h.tri 0 (by omega) hn j j hj hj
    have := z j hj
    have := h.le j 0 hj hn
    have := w.neg j hj
    have := h.le 0 j hn hj
    have := w.row j hj
    omega
  have done : ∀ c b, c < k → c < n → b < n → -17179869184 ≤ at2 m c b := fun c b hc hcn hb => by
    have h1 := h.tri c hc hcn 0 b hn hb
    have := row0 b hb
    have := row0 c hcn
    omega
  have half : ∀ i b, i < n → b < n → -34359738368 ≤ at2 m i b := fun i b hi hb => by
    rcases h.dr i b hi hb with h1 | ⟨c, hc, hcn, h1⟩
    · have := w.lo i b hi hb
      omega
    · have := w.lo i c hi hcn
      have := done c b hc hcn hb
      omega
  have := half i j hi hj
  omega

theorem Inv.rh {n k : Nat} {W m : Mat} (h : Inv n k W m) (hk1 : 1 ≤ k) (hk : k < n) (w : Inv0 n W) (z : ∀ i, i < n → 0 ≤ at2 m i i) : RH n k m :=
  ⟨h.sq, by have := z k hk; have := h.diag k hk; omega,
    fun j hj => by have := h.lo hk1 w (by omega) z hk hj; have := h.hi k j hk hj; omega, fun i hi => by have := h.lo hk1 w (by omega) z hi hk; have := h.hi i k hi hk; omega⟩

theorem Inv.step {n k : Nat} {W m : Mat} (h : Inv n k W m) (hk : k < n) (r : RH n k m) : Inv n (k + 1) W (roundW n k m) := by
  have e := roundW_at r hk
  have z := r.zero
  refine ⟨h.sq.roundW _, fun i j hi hj => ?_, fun i hi => ?_, fun i j hi hj => ?_, fun a ha ha' i j hi hj => ?_, fun i j hi hj => ?_, fun i j hi hj => ?_⟩
  · rw [e i j hi hj]
    have := h.hi i j hi hj
    omega
  · rw [e i i hi hi]
    have := h.diag i hi
    omega
  · rw [e i j hi hj]
    have := h.le i j hi hj
    omega
  · rw [e i j hi hj, e i a hi ha', e a j ha' hj]
    by_cases q : a = k
    · subst q
      omega
    · have t := h.tri a (by omega) ha'
      have t1 := t i j hi hj
      have t2 := t k j hk hj
      have t3 := t i k hi hk
      have t4 := t k k hk hk
      omega
  · by_cases hc : at2 m i j ≤ at2 m i k + at2 m k j
    · rcases h.dl i j hi hj with h1 | ⟨b, hb, hbn, h1⟩
      · left; rw [e i j hi hj]; omega
      · right
        refine ⟨b, by omega, hbn, ?_⟩
        rw [e i j hi hj, e i b hi hbn]
        omega
    · right
      rcases h.dl k j hk hj with h1 | ⟨b, hb, hbn, h1⟩
      · refine ⟨k, by omega, hk, ?_⟩
        rw [e i j hi hj, e i k hi hk]
        omega
      · refine ⟨b, by omega, hbn, ?_⟩
        rw [e i j hi hj, e i b hi hbn]
        omega
  · by_cases hc : at2 m i j ≤ at2 m i k + at2 m k j
    · rcases h.dr i j hi hj with h1 | ⟨b, hb, hbn, h1⟩
      · left; rw [e i j hi hj]; omega
      · right
        refine ⟨b, by omega, hbn, ?_⟩
        rw [e i j hi hj, e b j hbn hj]
        omega
    · right
      rcases h.dr i k hi hk with h1 | ⟨b, hb, hbn, h1⟩
      · refine ⟨k, by omega, hk, ?_⟩
        rw [e i j hi hj, e k j hk hj]
        omega
      · refine ⟨b, by omega, hbn, ?_⟩
        rw [e i j hi hj, e b j hbn hj]
        omega

theorem SolM.step {n k : Nat} {m : Mat} {x : Nat → Int} (s : SolM n m x) (h : RH n k m) (hk : k < n) : SolM n (roundW n k m) x := by
  intro i j hi hj
  rw [roundW_at h hk i j hi hj]
  have := s i j hi hj; have := s i k hi hk; have := s k j hk hj
  omega

theorem rounds_final {n : Nat} {W : Mat} (w : Inv0 n W) : ∀ (c k : Nat) (m m' : Mat), k + c = n → 1 ≤ k → Inv n k W m → roundsW n c k m = some m' → (∀ i, i < n → 0 ≤ at2 m' i i) → Inv n n W m' ∧ ∀ x, SolM n m x → SolM n m' x
  | 0, k, m, m', h, _, hi, e, _ => by
    cases e
    obtain rfl : k = n := by omega
    exact ⟨hi, fun x s => s⟩
  | c + 1, k, m, m', h, h1, hi, e, z => by
    have hk : k < n := by omega
    have zz : ∀ i, i < n → 0 ≤ at2 m i i := fun i hi' => by
      have := rounds_le (c + 1) k m m' hi.sq e i i hi' hi'
      have := z i hi'
      omega
    have r := hi.rh h1 hk w zz
    unfold roundsW at e
    split at e
    · cases e
    · have := rounds_final w c (k + 1) _ m' (by omega) (by omega) (hi.step hk r) e z
      exact ⟨this.1, fun x s => this.2 x (s.step r hk)⟩

theorem SolM.diag {n : Nat} {m : Mat} {x : Nat → Int} (s : SolM n m x) {i : Nat} (hi : i < n) : 0 ≤ at2 m i i := by
  have := s i i hi hi
  omega

theorem rounds_exist {n : Nat} {W : Mat} (w : Inv0 n W) {x : Nat → Int} : ∀ (c k : Nat) (m : Mat), k + c = n → 1 ≤ k → Inv n k W m → SolM n m x → ∃ m', roundsW n c k m = some m' ∧ SolM n m' x
  | 0, k, m, h, _, hi, s => ⟨m, rfl, s⟩
  | c + 1, k, m, h, h1, hi, s => by
    have hk : k < n := by omega
    have r := hi.rh h1 hk w (fun i hi => s.diag hi)
    have s' := s.step r hk
    unfold roundsW
    rw [if_neg (by have := s'.diag hk; omega)]
    exact rounds_exist w c (k + 1) _ (by omega) (by omega) (hi.step hk r) s'

/-- All that is known of a closed matrix. -/
structure ClosedM (n : Nat) (W m : Mat) : Prop where
  inv : Inv n n W m
  start : Inv0 n W
  zero : ∀ i, i < n → at2 m i i = 0
  le : Le n m W
  sol : ∀ x, SolM n W x → SolM n m x

theorem closed_final {n : Nat} (h1 : 1 ≤ n) {W m : Mat} (h : Inv0 n W) (e : roundsW n n 0 W = some m) (z : ∀ i, i < n → 0 ≤ at2 m i i) : ClosedM n W m := by
  have le := rounds_le n 0 W m h.sq e
  have zz : at2 W 0 0 = 0 := by
    have := le 0 0 h1 h1
    have := z 0 h1
    have := h.diag 0 h1
    omega
  obtain ⟨c, rfl⟩ : ∃ c, n = c + 1 := ⟨n - 1, by omega⟩
  unfold roundsW at e
  split at e
  · cases e
  · have := rounds_final h c 1 _ m (by omega) (by omega) (h.step h1 zz) e z
    refine ⟨this.1, h, fun i hi => ?_, le, fun x s => this.2 x (s.step (h.rh h1 zz) h1)⟩
    have := this.1.diag i hi
    have := z i hi
    omega

theorem closed_exist {n : Nat} (h1 : 1 ≤ n) {W : Mat} (h : Inv0 n W) {x : Nat → Int} (s : SolM n W x) : ∃ m, roundsW n n 0 W = some m ∧ ClosedM n W m := by
  have zz : at2 W 0 0 = 0 := by
    have := s.diag h1
    have := h.diag 0 h1
    omega
  have s' := s.step (h.rh h1 zz) h1
  obtain ⟨c, rfl⟩ : ∃ c, n = c + 1 := ⟨n - 1, by omega⟩
  obtain ⟨m', e, s''⟩ := rounds_exist h c 1 _ (by omega) (by omega) (h.step h1 zz) s'
  have e' : roundsW (c + 1) (c + 1) 0 W = some m' := by
    unfold roundsW
    rw [if_neg (by have := s'.diag h1; omega)]
    exact e
  exact ⟨m', e', closed_final h1 h e' (fun i hi => s''.diag hi)⟩

theorem ClosedM.tri {n : Nat} {W m : Mat} (h : ClosedM n W m) {i a j : Nat} (hi : i < n) (ha : a < n) (hj : j < n) : at2 m i j ≤ at2 m i a + at2 m a j := h.inv.tri a ha ha i j hi hj
theorem ClosedM.lo {n : Nat} {W m : Mat} (h : ClosedM n W m) (h1 : 1 ≤ n) {i j : Nat} (hi : i < n) (hj : j < n) : -51539607552 ≤ at2 m i j :=
  h.inv.lo h1 h.start h1 (fun i hi => by have := h.zero i hi; omega) hi hj

/-- Each row is a solution. -/
theorem ClosedM.row {n : Nat} {W m : Mat} (h : ClosedM n W m) {r : Nat} (hr : r < n) : SolM n W (fun j => at2 m r j) := by
  intro i j hi hj
  have := h.tri hr hi hj
  have := h.le i j hi hj
  show at2 m r j - at2 m r i ≤ at2 W i j
  omega
end
end Go.Lift

/- The theory of the closure, 3: constraints. -/
namespace Go.Lift
open Go.RowKit Go.IntWalk
noncomputable section
set_option linter.unusedVariables false
set_option linter.unusedSimpArgs false
set_option maxRecDepth 10000

/-- Numbers that fulfil all constraints. -/
def Sol (l : List Diff) (x : Nat → Int) : Prop := ∀ d ∈ l, x d.2.1.toNat - x d.1.toNat ≤ d.2.2

theorem put_at {n : Nat} {m : Mat} (h : Sq n m) {d : Diff} (hd : diffOk n d = true) (a b : Nat) :
    at2 (putW m d) a b = if a = d.1.toNat ∧ b = d.2.1.toNat then min (at2 m a b) d.2.2 else at2 m a b := by
  have hd := of_decide_eq_true hd
  unfold putW
  rw [at_setAt h (by omega) (by omega)]
  split
  · rename_i e
    rw [e.1, e.2]
    split <;> omega
  · rfl

theorem big_at {n : Nat} {i j : Nat} (hi : i < n) (hj : j < n) : at2 (bigM n) i j = 1099511627776 := by
  unfold at2 bigM
  simp [List.getD, hi, hj]

/-- The direct bounds: what is under all of them. -/
theorem direct_glb {n : Nat} : ∀ (l : List Diff), l.all (diffOk n) = true → ∀ (m : Mat), Sq n m → ∀ i j (v : Int), v ≤ at2 (l.foldl putW m) i j ↔ v ≤ at2 m i j ∧ ∀ d ∈ l, d.1.toNat = i → d.2.1.toNat = j → v ≤ d.2.2
  | [], _, m, hm, i, j, v => by simp
  | d :: l, ho, m, hm, i, j, v => by
    rw [List.all_cons, Bool.and_eq_true] at ho
    simp only [List.foldl_cons]
    rw [direct_glb l ho.2 _ (hm.putW d) i j v, put_at hm ho.1]
    simp only [List.mem_cons, forall_eq_or_imp]
    by_cases e : i = d.1.toNat ∧ j = d.2.1.toNat
    · rw [if_pos e]
      constructor
      · intro h
        refine ⟨by omega, fun _ _ => by omega, h.2⟩
      · intro h
        have := h.2.1 e.1.symm e.2.symm
        exact ⟨by omega, h.2.2⟩
    · rw [if_neg e]
      constructor
      · intro h
        exact ⟨h.1, fun a b => absurd ⟨a.symm, b.symm⟩ e, h.2⟩
      · intro h
        exact ⟨h.1, h.2.2⟩

theorem diag_at {n : Nat} {m : Mat} (hm : Sq n m) {i j : Nat} (hi : i < n) (hj : j < n) : at2 (diagW n m) i j = if i = j then min (at2 m i j) 0 else at2 m i j := by
  have key : ∀ c, c ≤ n → Sq n ((List.range c).foldl (fun m i => setAt m i i (if 0 < at2 m i i then 0 else at2 m i i)) m) ∧ ∀ a b, a < n → b < n →
      at2 ((List.range c).foldl (fun m i => setAt m i i (if 0 < at2 m i i then 0 else at2 m i i)) m) a b = if a = b ∧ a < c then min (at2 m a b) 0 else at2 m a b := by
    intro c
    induction c with
    | zero =>
      intro _
      refine ⟨hm, fun a b _ _ => ?_⟩
      rw [if_neg (by omega)]
      rfl
    | succ c ih =>
      intro hc
      obtain ⟨s1, s2⟩ := ih (by omega)
      rw [range_fold]
      refine ⟨s1.setAt _ _ _, fun a b ha hb => ?_⟩
      rw [at_setAt s1 (by omega) (by omega), s2 c c (by omega) (by omega), s2 a b ha hb, if_neg (show ¬ (c = c ∧ c < c) by omega)]
      by_cases e : a = c ∧ b = c
      · rw [if_pos e, if_pos (show a = b ∧ a < c + 1 by omega), e.1, e.2]
        split <;> omega
      · rw [if_neg e]
        by_cases e2 : a = b ∧ a < c
        · rw [if_pos e2, if_pos (show a = b ∧ a < c + 1 by omega)]
        · rw [if_neg e2, if_neg (show ¬ (a = b ∧ a < c + 1) by omega)]
  refine ((key n (Nat.le_refl n)).2 i j hi hj).trans ?_
  by_cases e : i = j
  · rw [if_pos ⟨e, hi⟩, if_pos e]
  · rw [if_neg (fun h => e h.1), if_neg e]

/-- The matrix at the beginning. -/
def startW (n : Nat) (l : List Diff) : Mat := diagW n (directW n l)

theorem start_glb {n : Nat} {l : List Diff} (ho : l.all (diffOk n) = true) {i j : Nat} (hi : i < n) (hj : j < n) (v : Int) :
    v ≤ at2 (startW n l) i j ↔ v ≤ 1099511627776 ∧ (∀ d ∈ l, d.1.toNat = i → d.2.1.toNat = j → v ≤ d.2.2) ∧ (i = j → v ≤ 0) := by
  unfold startW
  rw [diag_at (directW_sq n l) hi hj]
  have g := direct_glb l ho (bigM n) (bigM_sq n) i j v
  rw [big_at hi hj] at g
  by_cases e : i = j
  · rw [if_pos e]
    constructor
    · intro h
      have := g.1 (by unfold directW at h; omega)
      exact ⟨this.1, this.2, fun _ => by omega⟩
    · intro h
      have := g.2 ⟨h.1, h.2.1⟩
      have := h.2.2 e
      unfold directW
      omega
  · rw [if_neg e]
    constructor
    · intro h
      have := g.1 h
      exact ⟨this.1, this.2, fun h => absurd h e⟩
    · intro h
      exact g.2 ⟨h.1, h.2.1⟩

theorem start_le {n : Nat} {l : List Diff} (ho : l.all (diffOk n) = true) {d : Diff} (hd : d ∈ l) : at2 (startW n l) d.1.toNat d.2.1.toNat ≤ d.2.2 := by
  have h := of_decide_eq_true (List.all_eq_true.1 ho d hd)
  exact ((start_glb ho (by omega) (by omega) _).1 (Int.le_refl _)).2.1 d hd rfl rfl

/-- Every variable has both bounds against the variable 0. -/
structure Conn (n : Nat) (l : List Diff) : Prop where
  pos : 1 ≤ n
  small : n ≤ 41
  valid : validD n l = true
  up : ∀ i, 1 ≤ i → i < n → ∃ d ∈ l, d.1.toNat = 0 ∧ d.2.1.toNat = i
  down : ∀ i, 1 ≤ i → i < n → ∃ d ∈ l, d.1.toNat = i ∧ d.2.1.toNat = 0 ∧ d.2.2 ≤ 0

theorem Conn.all {n : Nat} {l : List Diff} (h : Conn n l) : l.all (diffOk n) = true := by
  have := h.valid
  unfold validD at this
  rw [Bool.and_eq_true] at this
  exact this.2

theorem Conn.inv {n : Nat} {l : List Diff} (h : Conn n l) : Inv0 n (startW n l) := by
  have ho := h.all
  refine ⟨(directW_sq n l).diagW, fun i j hi hj => ?_, fun j hj => ?_, fun i hi => ?_, fun i hi => ?_⟩
  · rw [start_glb ho hi hj]
    refine ⟨by omega, fun d hd _ _ => ?_, by omega⟩
    have := of_decide_eq_true (List.all_eq_true.1 ho d hd)
    omega
  · by_cases e : j = 0
    · subst e
      have := ((start_glb ho h.pos h.pos _).1 (Int.le_refl _)).2.2 rfl
      omega
    · obtain ⟨d, hd, e1, e2⟩ := h.up j (by omega) hj
      have := start_le ho hd
      have := of_decide_eq_true (List.all_eq_true.1 ho d hd)
      rw [e1, e2] at *
      omega
  · by_cases e : i = 0
    · subst e
      have := ((start_glb ho h.pos h.pos _).1 (Int.le_refl _)).2.2 rfl
      omega
    · obtain ⟨d, hd, e1, e2, e3⟩ := h.down i (by omega) hi
      have h1 := start_le ho hd
      rw [e1, e2] at h1
      omega
  · exact ((start_glb ho hi hi _).1 (Int.le_refl _)).2.2 rfl

/-- Solutions of the constraints, as far as numbers below BIG go. -/
theorem sol_iff {n : Nat} {l : List Diff} (ho : l.all (diffOk n) = true) (x : Nat → Int) (hx : ∀ i j, i < n → j < n → x j - x i ≤ 1099511627776) : SolM n (startW n l) x ↔ Sol l x := by
  constructor
  · intro h d hd
    have hh := of_decide_eq_true (List.all_eq_true.1 ho d hd)
    have := h d.1.toNat d.2.1.toNat (by omega) (by omega)
    have := start_le ho hd
    omega
  · intro h i j hi hj
    rw [start_glb ho hi hj]
    refine ⟨hx i j hi hj, fun d hd e1 e2 => ?_, fun e => by subst e; omega⟩
    have := h d hd
    rw [e1, e2] at this
    exact this

/-- All that is known of what Close returns. -/
structure CloseOk (n : Nat) (l : List Diff) (m : Mat) : Prop where
  sq : Sq n m
  lo : ∀ i j, i < n → j < n → -4398046511104 ≤ at2 m i j
  hi : ∀ i j, i < n → j < n → at2 m i j ≤ 34359738368
  zero : ∀ i, i < n → at2 m i i = 0
  tri : ∀ i a j, i < n → a < n → j < n → at2 m i j ≤ at2 m i a + at2 m a j
  /-- no solution goes beyond -/
  sol : ∀ x, Sol l x → ∀ i j, i < n → j < n → x j - x i ≤ at2 m i j
  /-- each row is a solution -/
  row : ∀ r, r < n → Sol l (fun j => at2 m r j)

/-- A solution is bounded. -/
theorem Conn.bounded {n : Nat} {l : List Diff} (h : Conn n l) {x : Nat → Int} (s : Sol l x) : ∀ i j, i < n → j < n → x j - x i ≤ 1099511627776 := by
  have ho := h.all
  intro i j hi hj
  have a : x j - x 0 ≤ 17179869184 := by
    by_cases e : j = 0
    · subst e; omega
    · obtain ⟨d, hd, e1, e2⟩ := h.up j (by omega) hj
      have := s d hd
      have := of_decide_eq_true (List.all_eq_true.1 ho d hd)
      rw [e1, e2] at *
      omega
  have b : x 0 - x i ≤ 17179869184 := by
    by_cases e : i = 0
    · subst e; omega
    · obtain ⟨d, hd, e1, e2, e3⟩ := h.down i (by omega) hi
      have := s d hd
      rw [e1, e2] at this
      omega
  omega

theorem ClosedM.ok {n : Nat} {l : List Diff} (h : Conn n l) {m : Mat} (c : ClosedM n (startW n l) m) : CloseOk n l m := by
  have ho := h.all
  have hs := h.small
  refine ⟨c.inv.sq, fun i j hi hj => ?_, c.inv.hi, c.zero, fun i a j hi ha hj => c.tri hi ha hj, fun x s i j hi hj => ?_, fun r hr => ?_⟩
  · have := c.lo h.pos hi hj
    omega
  · exact c.sol x ((sol_iff ho x (h.bounded s)).2 s) i j hi hj
  · intro d hd
    have hh := of_decide_eq_true (List.all_eq_true.1 ho d hd)
    have := c.row hr d.1.toNat d.2.1.toNat (by omega) (by omega)
    have := start_le ho hd
    omega

theorem diagOk_iff {n : Nat} {m : Mat} : diagOk n m = true ↔ ∀ i, i < n → 0 ≤ at2 m i i := by
  unfold diagOk
  rw [List.all_eq_true]
  constructor
  · intro h i hi
    have := of_decide_eq_true (h i (by simpa using hi))
    omega
  · intro h i hi
    have := h i (by simpa using hi)
    exact decide_eq_true (by omega)

/-- If Close returns a matrix, all is known of it. -/
theorem close_ok {n : Nat} {l : List Diff} (h : Conn n l) {m : Mat} (e : closeW n l = some m) : CloseOk n l m := by
  unfold closeW at e
  rw [if_pos h.valid] at e
  cases hr : roundsW n n 0 (diagW n (directW n l)) with
  | none => rw [hr] at e; cases e
  | some m' =>
    rw [hr] at e
    simp only [] at e
    by_cases hd : diagOk n m' = true
    · rw [if_pos hd] at e
      cases e
      exact (closed_final h.pos h.inv hr (diagOk_iff.1 hd)).ok h
    · rw [if_neg hd] at e; cases e

/-- If there is a solution, Close returns a matrix. -/
theorem close_some {n : Nat} {l : List Diff} (h : Conn n l) {x : Nat → Int} (s : Sol l x) : ∃ m, closeW n l = some m ∧ CloseOk n l m := by
  obtain ⟨m, hr, c⟩ := closed_exist h.pos h.inv ((sol_iff h.all x (h.bounded s)).2 s)
  refine ⟨m, ?_, c.ok h⟩
  unfold closeW
  rw [if_pos h.valid]
  have hr' : roundsW n n 0 (diagW n (directW n l)) = some m := hr
  rw [hr']
  simp only []
  rw [if_pos (diagOk_iff.2 (fun i hi => by have := c.zero i hi; omega))]
end
end Go.Lift

/- The constraints of a record, and what their solutions are. -/
namespace Go.Lift
open Go.RowKit Go.IntWalk
noncomputable section
set_option linter.unusedVariables false
set_option linter.unusedSimpArgs false
set_option maxRecDepth 10000

theorem foldl_flat {α γ : Type} (f : α → List γ) : ∀ (l : List α) (s : List γ), l.foldl (fun s x => s ++ f x) s = s ++ l.flatMap f
  | [], s => by simp
  | x :: l, s => by
    simp only [List.foldl_cons, List.flatMap_cons]
    rw [foldl_flat f l, List.append_assoc]

/-- A loop with a test at each element: out, or on. -/
theorem fold_check {β α σ : Type} (I : Nat → σ → Prop) (F : Nat → Int → σ → Option β) (p : α → Bool) (g : σ → α → σ) (E : Option β) (K : σ → Option β) (d : α) (xs : List α) (s : σ) (n : Nat) (hn : xs.length < n) (h0 : I 0 s)
    (hI : ∀ (i : Nat) s, i < xs.length → I i s → p (xs.getD i d) = true → I (i + 1) (g s (xs.getD i d)))
    (h1 : ∀ (m i : Nat) s, i < xs.length → I i s → F (m + 1) (i : Int) s = cond (p (xs.getD i d)) (F m ((i : Int) + 1) (g s (xs.getD i d))) E)
    (h2 : ∀ (m : Nat) s, I xs.length s → F (m + 1) (xs.length : Int) s = K s) : F n 0 s = cond (xs.all p) (K (xs.foldl g s)) E := by
  have key : ∀ (r : List α) (j fuel : Nat) (s : σ), xs.drop j = r → j + r.length = xs.length → r.length < fuel → I j s → F fuel (j : Int) s = cond (r.all p) (K (r.foldl g s)) E := by
    intro r
    induction r with
    | nil =>
      intro j fuel s hd hj hf hs
      obtain ⟨m, rfl⟩ : ∃ m, fuel = m + 1 := ⟨fuel - 1, by omega⟩
      simp only [List.length_nil, Nat.add_zero] at hj
      subst hj
      exact h2 m s hs
    | cons x r ih =>
      intro j fuel s hd hj hf hs
      obtain ⟨m, rfl⟩ : ∃ m, fuel = m + 1 := ⟨fuel - 1, by omega⟩
      simp only [List.length_cons] at hj hf
      have h3 : j < xs.length := by omega
      have hx : xs.getD j d = x := by
        rw [List.drop_eq_getElem_cons h3] at hd
        injection hd with hd1 hd2
        simp [List.getD, h3, hd1]
      have hr : xs.drop (j + 1) = r := by
        rw [List.drop_eq_getElem_cons h3] at hd
        injection hd with hd1 hd2
      rw [h1 m j s h3 hs, hx]
      have := hI j s h3 hs
      rw [hx] at this
      simp only [List.all_cons, List.foldl_cons]
      cases hp : p x with
      | true => simpa using ih (j + 1) m (g s x) hr (by omega) (by omega) (this hp)
      | false => rfl
  exact key xs 0 n s rfl (by simp) hn h0

/-- The same over the numbers below n. -/
theorem range_check {β σ : Type} (n : Nat) (I : Nat → σ → Prop) (F : Nat → Int → σ → Option β) (p : Nat → Bool) (g : σ → Nat → σ) (E : Option β) (K : σ → Option β) (s : σ) (N : Nat) (hn : n < N) (h0 : I 0 s)
    (hI : ∀ (i : Nat) s, i < n → I i s → p i = true → I (i + 1) (g s i))
    (h1 : ∀ (m i : Nat) s, i < n → I i s → F (m + 1) (i : Int) s = cond (p i) (F m ((i : Int) + 1) (g s i)) E)
    (h2 : ∀ (m : Nat) s, I n s → F (m + 1) (n : Int) s = K s) : F N 0 s = cond ((List.range n).all p) (K ((List.range n).foldl g s)) E := by
  have hl : (List.range n).length = n := List.length_range
  refine fold_check I F p g E K 0 (List.range n) s N (by omega) h0 (fun i s hi hs => ?_) (fun m i s hi hs => ?_) (fun m s hs => ?_)
  · rw [range_getD (by omega)]
    exact hI i s (by omega) hs
  · rw [range_getD (by omega)]
    exact h1 m i s (by omega) hs
  · rw [hl] at hs ⊢
    exact h2 m s hs

theorem range_fold' {β σ : Type} (n : Nat) (I : Nat → σ → Prop) (F : Nat → Int → σ → Option β) (g : σ → Nat → σ) (K : σ → Option β) (s : σ) (N : Nat) (hn : n < N) (h0 : I 0 s)
    (hI : ∀ (i : Nat) s, i < n → I i s → I (i + 1) (g s i))
    (h1 : ∀ (m i : Nat) s, i < n → I i s → F (m + 1) (i : Int) s = F m ((i : Int) + 1) (g s i))
    (h2 : ∀ (m : Nat) s, I n s → F (m + 1) (n : Int) s = K s) : F N 0 s = K ((List.range n).foldl g s) := by
  have h := range_check n I F (fun _ => true) g none K s N hn h0 (fun i s hi hs _ => hI i s hi hs) h1 h2
  rw [h]
  have : (List.range n).all (fun _ => true) = true := by simp
  rw [this]
  rfl

def evAt (r : Rec) (i : Nat) : Event := r.2.2.1.getD i (0, 0, [])
def whenAt (r : Rec) (i : Nat) : (Int × Int) × Bool := when? r (evAt r i).1 (evAt r i).2.1
def driftAt (r : Rec) (h : Int) : Int := (r.1.getD h.toNat ([], 0)).2
def evD (r : Rec) (i : Nat) : List Diff := [(0, ((i : Int) + 1, (whenAt r i).1.2)), ((i : Int) + 1, (0, -(whenAt r i).1.1))]
def pairD (r : Rec) (i j : Nat) : List Diff :=
  if (evAt r j).2.1 < (evAt r i).2.1 then
    [((j : Int) + 1, ((i : Int) + 1, (elapsed (driftAt r (evAt r j).1) ((evAt r i).2.1 - (evAt r j).2.1)).2)), ((i : Int) + 1, ((j : Int) + 1, -(elapsed (driftAt r (evAt r j).1) ((evAt r i).2.1 - (evAt r j).2.1)).1))]
  else
    [((i : Int) + 1, ((j : Int) + 1, (elapsed (driftAt r (evAt r i).1) ((evAt r j).2.1 - (evAt r i).2.1)).2)), ((j : Int) + 1, ((i : Int) + 1, -(elapsed (driftAt r (evAt r i).1) ((evAt r j).2.1 - (evAt r i).2.1)).1))]
def pairIf (r : Rec) (i j : Nat) : List Diff := if (evAt r j).1 = (evAt r i).1 then pairD r i j else []
def pairsI (r : Rec) (n i : Nat) : List Diff := ((List.range n).filter fun j => decide (i < j)).flatMap (pairIf r i)
def linkD (l : Link) : Diff := (l.2.1 + 1, (l.1 + 1, -l.2.2))
def nE (r : Rec) : Nat := r.2.2.1.length
def whensOk (r : Rec) : Bool := (List.range (nE r)).all fun i => (whenAt r i).2
def consL (r : Rec) : List Diff := (List.range (nE r)).flatMap (evD r) ++ (List.range (nE r)).flatMap (pairsI r (nE r)) ++ r.2.2.2.map linkD
/-- The constraints of a record. -/
def consW (r : Rec) : Option (List Diff) := if valid r && whensOk r then some (consL r) else none

/-- Times that fit a record. -/
structure SolR (r : Rec) (x : Nat → Int) : Prop where
  ev : ∀ i, i < nE r → x (i + 1) - x 0 ≤ (whenAt r i).1.2 ∧ x 0 - x (i + 1) ≤ -(whenAt r i).1.1
  pair : ∀ i j, i < nE r → j < nE r → i ≠ j → (evAt r i).1 = (evAt r j).1 → (evAt r i).2.1 ≤ (evAt r j).2.1 →
    (elapsed (driftAt r (evAt r i).1) ((evAt r j).2.1 - (evAt r i).2.1)).1 ≤ x (j + 1) - x (i + 1) ∧ x (j + 1) - x (i + 1) ≤ (elapsed (driftAt r (evAt r i).1) ((evAt r j).2.1 - (evAt r i).2.1)).2
  link : ∀ l ∈ r.2.2.2, l.2.2 ≤ x (l.2.1.toNat + 1) - x (l.1.toNat + 1)

theorem valid_parts {r : Rec} (h : valid r = true) : (∀ h ∈ r.1, 0 ≤ h.2 ∧ h.2 ≤ 500000) ∧ (∀ s ∈ r.2.1, 0 ≤ s.1 ∧ s.1 < r.1.length ∧ okSync s = true) ∧
    (∀ e ∈ r.2.2.1, 0 ≤ e.1 ∧ e.1 < r.1.length ∧ 0 ≤ e.2.1 ∧ e.2.1 ≤ 8589934592) ∧
    (∀ l ∈ r.2.2.2, 0 ≤ l.1 ∧ l.1 < nE r ∧ 0 ≤ l.2.1 ∧ l.2.1 < nE r ∧ l.1 ≠ l.2.1 ∧ 0 ≤ l.2.2 ∧ l.2.2 ≤ 8589934592) := by
  unfold valid at h
  simp only [Bool.and_eq_true, List.all_eq_true] at h
  obtain ⟨_, h1, h2, h3, h4⟩ := h
  refine ⟨fun x hx => ?_, fun x hx => ?_, fun x hx => ?_, fun x hx => ?_⟩
  · exact inN_iff.1 (h1 x hx)
  · have := h2 x hx
    simp only [vSync, Bool.and_eq_true, inN_iff] at this
    exact ⟨by omega, by omega, this.2⟩
  · have := h3 x hx
    simp only [vEvent, Bool.and_eq_true, inN_iff] at this
    omega
  · have := h4 x hx
    simp only [vLink, Bool.and_eq_true, inN_iff, Bool.not_eq_true', decide_eq_false_iff_not] at this
    unfold nE
    omega

theorem valid_ev {r : Rec} (h : valid r = true) {i : Nat} (hi : i < nE r) : 0 ≤ (evAt r i).1 ∧ (evAt r i).1 < r.1.length ∧ 0 ≤ (evAt r i).2.1 ∧ (evAt r i).2.1 ≤ 8589934592 :=
  (valid_parts h).2.2.1 _ (getD_mem hi)

theorem elapsed_zero (d : Int) : elapsed d 0 = (0, 0) := by
  unfold elapsed
  by_cases h : inN d 0 500000 = true
  · have := inN_iff.1 h
    rw [h, inN_mk (by omega)]
    simp only [Bool.and_self, cond_true]
    rw [Int.zero_mul, Int.zero_ediv]
    congr 1
    exact Int.ediv_eq_zero_of_lt (by omega) (by omega)
  · rw [Bool.eq_false_iff.2 h]
    rfl

theorem mem_pairs {r : Rec} {n : Nat} {d : Diff} : d ∈ (List.range n).flatMap (pairsI r n) ↔ ∃ i j, i < j ∧ j < n ∧ (evAt r j).1 = (evAt r i).1 ∧ d ∈ pairD r i j := by
  simp only [List.mem_flatMap, pairsI, List.mem_filter, List.mem_range, decide_eq_true_eq, pairIf]
  constructor
  · rintro ⟨i, hi, j, ⟨hj, hij⟩, hd⟩
    split at hd
    · rename_i e
      exact ⟨i, j, hij, hj, e, hd⟩
    · cases hd
  · rintro ⟨i, j, hij, hj, e, hd⟩
    exact ⟨i, by omega, j, ⟨hj, hij⟩, by rw [if_pos e]; exact hd⟩

theorem mem_cons {r : Rec} {d : Diff} : d ∈ consL r ↔ (∃ i, i < nE r ∧ d ∈ evD r i) ∨ (∃ i j, i < j ∧ j < nE r ∧ (evAt r j).1 = (evAt r i).1 ∧ d ∈ pairD r i j) ∨ ∃ l ∈ r.2.2.2, d = linkD l := by
  unfold consL
  rw [List.mem_append, List.mem_append, mem_pairs, or_assoc]
  simp only [List.mem_flatMap, List.mem_range, List.mem_map, eq_comm]

theorem pairD_sol {r : Rec} {i j : Nat} {x : Nat → Int} : (∀ d ∈ pairD r i j, x d.2.1.toNat - x d.1.toNat ≤ d.2.2) ↔
    (if (evAt r j).2.1 < (evAt r i).2.1 then
      (elapsed (driftAt r (evAt r j).1) ((evAt r i).2.1 - (evAt r j).2.1)).1 ≤ x (i + 1) - x (j + 1) ∧ x (i + 1) - x (j + 1) ≤ (elapsed (driftAt r (evAt r j).1) ((evAt r i).2.1 - (evAt r j).2.1)).2
    else (elapsed (driftAt r (evAt r i).1) ((evAt r j).2.1 - (evAt r i).2.1)).1 ≤ x (j + 1) - x (i + 1) ∧ x (j + 1) - x (i + 1) ≤ (elapsed (driftAt r (evAt r i).1) ((evAt r j).2.1 - (evAt r i).2.1)).2) := by
  have ei : ((i : Int) + 1).toNat = i + 1 := by omega
  have ej : ((j : Int) + 1).toNat = j + 1 := by omega
  unfold pairD
  split
  · simp only [List.mem_cons, List.not_mem_nil, or_false, forall_eq_or_imp, forall_eq, ei, ej]
    omega
  · simp only [List.mem_cons, List.not_mem_nil, or_false, forall_eq_or_imp, forall_eq, ei, ej]
    omega

theorem sol_cons {r : Rec} (hv : valid r = true) (x : Nat → Int) : Sol (consL r) x ↔ SolR r x := by
  have hp := valid_parts hv
  constructor
  · intro h
    refine ⟨fun i hi => ?_, fun i j hi hj hij hh hc => ?_, fun l hl => ?_⟩
    · have h1 := h (0, ((i : Int) + 1, (whenAt r i).1.2)) (mem_cons.2 (.inl ⟨i, hi, by simp [evD]⟩))
      have h2 := h ((i : Int) + 1, (0, -(whenAt r i).1.1)) (mem_cons.2 (.inl ⟨i, hi, by simp [evD]⟩))
      have e : ((i : Int) + 1).toNat = i + 1 := by omega
      simp only [e, Int.toNat_zero] at h1 h2
      exact ⟨h1, h2⟩
    · rcases Nat.lt_or_gt_of_ne hij with hl | hl
      · have := pairD_sol.1 (fun d hd => h d (mem_cons.2 (.inr (.inl ⟨i, j, hl, hj, hh.symm, hd⟩))))
        rw [if_neg (by omega)] at this
        exact this
      · have := pairD_sol.1 (fun d hd => h d (mem_cons.2 (.inr (.inl ⟨j, i, hl, hi, hh, hd⟩))))
        by_cases e : (evAt r i).2.1 = (evAt r j).2.1
        · rw [if_neg (by omega), e, Int.sub_self, elapsed_zero] at this
          rw [e, Int.sub_self, elapsed_zero]
          simp only at this ⊢
          omega
        · rw [if_pos (by omega)] at this
          exact this
    · have h1 := h (linkD l) (mem_cons.2 (.inr (.inr ⟨l, hl, rfl⟩)))
      have := hp.2.2.2 l hl
      have e1 : (l.1 + 1).toNat = l.1.toNat + 1 := by omega
      have e2 : (l.2.1 + 1).toNat = l.2.1.toNat + 1 := by omega
      simp only [linkD, e1, e2] at h1
      omega
  · intro h d hd
    rcases mem_cons.1 hd with ⟨i, hi, hd⟩ | ⟨i, j, hij, hj, hh, hd⟩ | ⟨l, hl, rfl⟩
    · have := h.ev i hi
      have e : ((i : Int) + 1).toNat = i + 1 := by omega
      simp only [evD, List.mem_cons, List.not_mem_nil, or_false] at hd
      rcases hd with rfl | rfl
      · simp only [e, Int.toNat_zero]
        exact this.1
      · simp only [e, Int.toNat_zero]
        exact this.2
    · refine pairD_sol.2 ?_ d hd
      split
      · rename_i hc
        exact h.pair j i hj (by omega) (by omega) hh (by omega)
      · rename_i hc
        exact h.pair i j (by omega) hj (by omega) hh.symm (by omega)
    · have := h.link l hl
      have hb := hp.2.2.2 l hl
      have e1 : (l.1 + 1).toNat = l.1.toNat + 1 := by omega
      have e2 : (l.2.1 + 1).toNat = l.2.1.toNat + 1 := by omega
      simp only [linkD, e1, e2]
      omega

theorem flat_len {α γ : Type} (f : α → List γ) (c : Nat) : ∀ l : List α, (∀ x ∈ l, (f x).length ≤ c) → (l.flatMap f).length ≤ l.length * c
  | [], _ => by simp
  | x :: l, h => by
    have h1 := h x (by simp)
    have h2 := flat_len f c l (fun y hy => h y (by simp [hy]))
    simp only [List.flatMap_cons, List.length_append, List.length_cons, Nat.succ_mul]
    omega

theorem cons_len {r : Rec} (hv : valid r = true) : (consL r).length ≤ 4000 := by
  have hb := valid_bd hv
  have h1 := flat_len (evD r) 2 (List.range (nE r)) (fun i _ => by simp [evD])
  have h2 : ∀ i ∈ List.range (nE r), (pairsI r (nE r) i).length ≤ 80 := fun i _ => by
    have h3 := flat_len (pairIf r i) 2 ((List.range (nE r)).filter fun j => decide (i < j)) (fun j _ => by
      unfold pairIf pairD
      split
      · split <;> simp
      · simp)
    have h4 := List.length_filter_le (fun j => decide (i < j)) (List.range (nE r))
    rw [List.length_range] at h4
    unfold pairsI nE at *
    omega
  have h3 := flat_len (pairsI r (nE r)) 80 _ h2
  unfold consL
  rw [List.length_append, List.length_append, List.length_map]
  rw [List.length_range] at h1 h3
  unfold nE at *
  omega

/-- The ranges of the readings. -/
theorem whenAt_bd {r : Rec} {i : Nat} (h : (whenAt r i).2 = true) : 0 ≤ (whenAt r i).1.1 ∧ (whenAt r i).1.1 ≤ (whenAt r i).1.2 ∧ (whenAt r i).1.2 ≤ 8589934592 := by
  unfold whenAt Go.Lift.when? at h ⊢
  cases hc : (valid r && (inN (evAt r i).1 0 ((r.1.length : Int) - 1) && inN (evAt r i).2.1 0 8589934592)) with
  | false => rw [hc] at h; cases h
  | true =>
    rw [hc] at h
    simp only [cond_true, Bool.not_eq_true', decide_eq_false_iff_not] at h ⊢
    rw [whenR_eq] at h ⊢
    have := @foldl_meet_bd (froms r.1 (evAt r i).1 (evAt r i).2.1 r.2.1) (0, 8589934592)
    simp only at this
    omega

theorem whensOk_iff {r : Rec} : whensOk r = true ↔ ∀ i, i < nE r → (whenAt r i).2 = true := by
  unfold whensOk
  rw [List.all_eq_true]
  simp only [List.mem_range]

theorem consL_ok {r : Rec} (hv : valid r = true) (hw : whensOk r = true) : (consL r).all (diffOk (nE r + 1)) = true := by
  rw [List.all_eq_true]
  intro d hd
  have hp := valid_parts hv
  unfold diffOk
  apply decide_eq_true
  rcases mem_cons.1 hd with ⟨i, hi, hd⟩ | ⟨i, j, hij, hj, hh, hd⟩ | ⟨l, hl, rfl⟩
  · have := whenAt_bd (whensOk_iff.1 hw i hi)
    simp only [evD, List.mem_cons, List.not_mem_nil, or_false] at hd
    rcases hd with rfl | rfl <;> simp only <;> omega
  · unfold pairD at hd
    split at hd <;> simp only [List.mem_cons, List.not_mem_nil, or_false] at hd
    · have := @elapsed_bd (driftAt r (evAt r j).1) ((evAt r i).2.1 - (evAt r j).2.1)
      rcases hd with rfl | rfl <;> simp only <;> omega
    · have := @elapsed_bd (driftAt r (evAt r i).1) ((evAt r j).2.1 - (evAt r i).2.1)
      rcases hd with rfl | rfl <;> simp only <;> omega
  · have := hp.2.2.2 l hl
    simp only [linkD]
    omega

theorem consL_valid {r : Rec} (hv : valid r = true) (hw : whensOk r = true) : validD (nE r + 1) (consL r) = true := by
  unfold validD
  rw [decide_eq_true (cons_len hv), consL_ok hv hw]
  rfl

/-- Every variable is bound both ways. -/
theorem cons_conn {r : Rec} (hv : valid r = true) (hw : whensOk r = true) : Conn (nE r + 1) (consL r) := by
  have hn : nE r ≤ 40 := (valid_bd hv).2.2.1
  refine ⟨by omega, by omega, consL_valid hv hw, fun i h1 h2 => ?_, fun i h1 h2 => ?_⟩
  · refine ⟨(0, (((i - 1 : Nat) : Int) + 1, (whenAt r (i - 1)).1.2)), mem_cons.2 (.inl ⟨i - 1, by omega, by simp [evD]⟩), rfl, ?_⟩
    simp only
    omega
  · refine ⟨(((i - 1 : Nat) : Int) + 1, (0, -(whenAt r (i - 1)).1.1)), mem_cons.2 (.inl ⟨i - 1, by omega, by simp [evD]⟩), ?_, rfl, ?_⟩
    · simp only
      omega
    · have := whenAt_bd (whensOk_iff.1 hw (i - 1) (by omega))
      simp only
      omega

/-- The matrix of a record. -/
def closedW (r : Rec) : Option Mat := match consW r with | some l => closeW (nE r + 1) l | none => none

theorem CloseOk.le_iff {n : Nat} {l : List Diff} {m : Mat} (h : CloseOk n l m) {i j : Nat} (hi : i < n) (hj : j < n) (c : Int) : at2 m i j ≤ c ↔ ∀ x, Sol l x → x j - x i ≤ c := by
  constructor
  · intro hc x s
    exact Int.le_trans (h.sol x s i j hi hj) hc
  · intro hx
    have := hx _ (h.row i hi)
    have := h.zero i hi
    omega

/-- What is known of a record that has a matrix. -/
structure ClosedR (r : Rec) (m : Mat) : Prop where
  valid : valid r = true
  whens : whensOk r = true
  eq : closedW r = some m
  ok : CloseOk (nE r + 1) (consL r) m

theorem closed_some' {r : Rec} (hv : Go.Lift.valid r = true) (hw : whensOk r = true) {x : Nat → Int} (s : SolR r x) : ∃ m, ClosedR r m := by
  obtain ⟨m, e, h⟩ := close_some (cons_conn hv hw) ((sol_cons hv x).2 s)
  refine ⟨m, hv, hw, ?_, h⟩
  unfold closedW consW
  rw [hv, hw]
  exact e

theorem closed_some {r : Rec} (hv : Go.Lift.valid r = true) (hw : whensOk r = true) (hn : nE r ≤ 7) {x : Nat → Int} (s : SolR r x) : ∃ m, ClosedR r m := closed_some' hv hw s

theorem closed_ok' {r : Rec} {m : Mat} (e : closedW r = some m) : ClosedR r m := by
  unfold closedW consW at e
  by_cases h : (Go.Lift.valid r && whensOk r) = true
  · have e0 := e
    rw [if_pos h] at e
    rw [Bool.and_eq_true] at h
    refine ⟨h.1, h.2, ?_, close_ok (cons_conn h.1 h.2) e⟩
    unfold closedW consW
    exact e0
  · rw [if_neg h] at e
    cases e

theorem ClosedR.le_iff {r : Rec} {m : Mat} (h : ClosedR r m) {i j : Nat} (hi : i < nE r + 1) (hj : j < nE r + 1) (c : Int) : at2 m i j ≤ c ↔ ∀ x, SolR r x → x j - x i ≤ c := by
  rw [h.ok.le_iff hi hj]
  exact ⟨fun g x s => g x ((sol_cons h.valid x).2 s), fun g x s => g x ((sol_cons h.valid x).1 s)⟩

theorem ClosedR.row {r : Rec} {m : Mat} (h : ClosedR r m) {i : Nat} (hi : i < nE r + 1) : SolR r (fun j => at2 m i j) := (sol_cons h.valid _).1 (h.ok.row i hi)

theorem ClosedR.sol {r : Rec} {m : Mat} (h : ClosedR r m) {x : Nat → Int} (s : SolR r x) {i j : Nat} (hi : i < nE r + 1) (hj : j < nE r + 1) : x j - x i ≤ at2 m i j :=
  (h.le_iff hi hj _).1 (Int.le_refl _) x s

end
end Go.Lift

/- The functions of the package order in plain Lean. -/
namespace Go.Lift
open Go.RowKit Go.IntWalk
noncomputable section
set_option linter.unusedVariables false
set_option linter.unusedSimpArgs false
set_option maxRecDepth 10000

section
variable {β : Type}
theorem pair_p1_eq (k1 : zqj1 β) (r : Rec) {i j : Nat} (hi : i ≤ 100) (hj : j ≤ 100) {a a2 b b2 : Int} (a3 b3 : List UInt8) (ha : 0 ≤ a ∧ a < r.1.length) (h2 : 0 ≤ a2 ∧ a2 ≤ 8589934592) (h3 : 0 ≤ b2 ∧ b2 ≤ 8589934592) :
    zqjb k1 (i : Int) (j : Int) r.1 r.2.1 r.2.2.1 r.2.2.2 a a2 a3 b b2 b3 = k1 [((i : Int) + 1, ((j : Int) + 1, (elapsed (driftAt r a) (b2 - a2)).2)), ((j : Int) + 1, ((i : Int) + 1, -(elapsed (driftAt r a) (b2 - a2)).1))] := by
  have e1 : IntKind.i64.wrap ((i : Int) + 1) = i + 1 := i64_in _ (by omega)
  have e2 : IntKind.i64.wrap ((j : Int) + 1) = j + 1 := i64_in _ (by omega)
  have e3 : IntKind.i64.wrap (b2 - a2) = b2 - a2 := i64_in _ (by omega)
  unfold zqjb zqj6 zqj5
  refine (c_inb ha).trans ?_
  simp only [e1, e2, e3]
  refine (clock_Elapsed_eq _ _ _).trans ?_
  have := @elapsed_bd (driftAt r a) (b2 - a2)
  have e4 : IntKind.i64.wrap (0 - (elapsed (driftAt r a) (b2 - a2)).1) = -(elapsed (driftAt r a) (b2 - a2)).1 := (i64_in _ (by omega)).trans (by omega)
  unfold driftAt at e4 ⊢
  rw [e4]

theorem order_pair_eq {r : Rec} (hv : valid r = true) {i j : Nat} (hi : i < nE r) (hj : j < nE r) (k : List Diff → Option β) : zqjd r (i : Int) (j : Int) k = k (pairD r i j) := by
  have hb := valid_bd hv
  have h1 := valid_ev hv hi
  have h2 := valid_ev hv hj
  unfold nE evAt at *
  unfold zqjd zqj8
  refine (c_inb (by omega)).trans ?_
  refine (c_inb (by omega)).trans ?_
  unfold pairD evAt
  simp only [Int.toNat_natCast]
  by_cases hc : (r.2.2.1.getD j (0, 0, [])).2.1 < (r.2.2.1.getD i (0, 0, [])).2.1
  · refine (c_pos hc).trans ?_
    rw [if_pos hc]
    exact pair_p1_eq _ r (by omega) (by omega) _ _ (by omega) (by omega) (by omega)
  · refine (c_neg hc).trans ?_
    rw [if_neg hc]
    exact pair_p1_eq _ r (by omega) (by omega) _ _ (by omega) (by omega) (by omega)

theorem cons_p1 (k1 : zqn3 β) (k2 : zqn4 β) {r : Rec} (hv : valid r = true) :
    zqo1 k1 k2 r.2.2.1 (r.2.2.1.length : Int) 0 r.1 r.2.1 r.2.2.1 r.2.2.2 [] = cond (whensOk r) (k2 r.1 r.2.1 r.2.2.1 r.2.2.2 ((List.range (nE r)).flatMap (evD r))) (k1 false []) := by
  have hb := valid_bd hv
  have key := range_check (nE r) (fun i (s : List Diff) => s.length ≤ 2 * i) (fun f j s => zqnz f k1 k2 r.2.2.1 (r.2.2.1.length : Int) j r.1 r.2.1 r.2.2.1 r.2.2.2 s) (fun i => (whenAt r i).2)
    (fun s i => s ++ evD r i) (k1 false []) (fun s => k2 r.1 r.2.1 r.2.2.1 r.2.2.2 s) [] fuel (lt_fuel (by unfold nE; omega)) (by simp)
    (fun i s hi hs _ => by simp only [List.length_append, evD, List.length_cons, List.length_nil]; omega)
    (fun f i s hi hs => by
      unfold nE at hi
      have e1 : IntKind.i64.wrap ((i : Int) + 1) = i + 1 := i64_in _ (by omega)
      rw [zqo0]
      unfold zqnk
      refine (c_pos (by omega)).trans ?_
      refine (c_inb (by omega)).trans ?_
      simp only [Int.toNat_natCast, e1]
      refine (clock_When_eq _ _ _ _).trans ?_
      have hw : when? (r.1, r.2.1, r.2.2.1, r.2.2.2) (r.2.2.1.getD i (0, 0, [])).1 (r.2.2.1.getD i (0, 0, [])).2.1 = whenAt r i := rfl
      rw [hw]
      cases hk : (whenAt r i).2 with
      | false => rfl
      | true =>
        have hbd := whenAt_bd hk
        have e2 : IntKind.i64.wrap (0 - (whenAt r i).1.1) = -(whenAt r i).1.1 := (i64_in _ (by omega)).trans (by omega)
        simp only [Bool.not_true, cond_false, cond_true, e2]
        refine (c_room (by simp only [List.length_cons, List.length_nil]; omega)).trans ?_
        rfl)
    (fun f s hs => by
      rw [zqo0]
      unfold zqnk
      exact c_neg (by unfold nE; omega))
  unfold zqo1
  rw [key, foldl_flat]
  rfl

theorem cons_p2 (k1 : zqn8 β) {r : Rec} (hv : valid r = true) {i : Nat} (hi : i < nE r) (t52 : List Event) (t53 t54 : Int) (a2 : Int) (a3 : List UInt8) (out : List Diff) (ho : out.length ≤ 4000) :
    zqo5 k1 (i : Int) ((i : Int) + 1) t52 t53 t54 r.1 r.2.1 r.2.2.1 r.2.2.2 out (evAt r i).1 a2 a3 = k1 t52 t53 t54 r.1 r.2.1 r.2.2.1 r.2.2.2 (out ++ pairsI r (nE r) i) := by
  have hb := valid_bd hv
  have key : ∀ (c j f : Nat) (s : List Diff), j + c = nE r → i < j → c < f → s.length + 2 * c ≤ 100000 →
      zqo3 f k1 (i : Int) (j : Int) t52 t53 t54 r.1 r.2.1 r.2.2.1 r.2.2.2 s (evAt r i).1 a2 a3 = k1 t52 t53 t54 r.1 r.2.1 r.2.2.1 r.2.2.2 (s ++ (List.range' j c).flatMap (pairIf r i)) := by
    intro c
    induction c with
    | zero =>
      intro j f s hj hij hf hs
      obtain ⟨f, rfl⟩ : ∃ m, f = m + 1 := ⟨f - 1, by omega⟩
      rw [zqo4]
      unfold zqnn
      unfold nE at hj
      refine (c_neg (by omega)).trans ?_
      simp
    | succ c ih =>
      intro j f s hj hij hf hs
      obtain ⟨f, rfl⟩ : ∃ m, f = m + 1 := ⟨f - 1, by omega⟩
      rw [zqo4]
      unfold zqnn
      have hj' : j < nE r := by omega
      have hjn : (j : Int) < (r.2.2.1.length : Int) := by unfold nE at hj'; omega
      have e1 : IntKind.i64.wrap ((j : Int) + 1) = ((j + 1 : Nat) : Int) := i64_in _ (by unfold nE at hj'; omega)
      refine (c_pos hjn).trans ?_
      refine (c_inb (by omega)).trans ?_
      simp only [Int.toNat_natCast, e1]
      rw [List.range'_succ, List.flatMap_cons]
      have hpi : pairIf r i j = if (evAt r j).1 = (evAt r i).1 then pairD r i j else [] := rfl
      rw [hpi]
      by_cases hh : (evAt r j).1 = (evAt r i).1
      · refine (c_pos (p := (r.2.2.1.getD j ((0 : Int), ((0 : Int), ([] : List UInt8)))).1 = (evAt r i).1) hh).trans ?_
        rw [if_pos hh]
        refine (order_pair_eq hv hi hj' _).trans ?_
        have hp : (pairD r i j).length = 2 := by unfold pairD; split <;> rfl
        refine (c_room (by omega)).trans ?_
        refine (ih (j + 1) f _ (by omega) (by omega) (by omega) (by rw [List.length_append]; omega)).trans ?_
        rw [List.append_assoc]
      · refine (c_neg (p := (r.2.2.1.getD j ((0 : Int), ((0 : Int), ([] : List UInt8)))).1 = (evAt r i).1) hh).trans ?_
        rw [if_neg hh]
        refine (ih (j + 1) f _ (by omega) (by omega) (by omega) (by omega)).trans ?_
        rw [List.nil_append]
  unfold zqo5
  have h1 := key (nE r - (i + 1)) (i + 1) fuel out (by omega) (by omega) (lt_fuel (by unfold nE at *; omega)) (by unfold nE at *; omega)
  rw [show ((i : Int) + 1) = ((i + 1 : Nat) : Int) by omega, h1]
  congr 1
  congr 1
  unfold pairsI
  have e : ∀ n, i < n → (List.range n).filter (fun j => decide (i < j)) = List.range' (i + 1) (n - (i + 1)) := by
    intro n
    induction n with
    | zero => intro h; omega
    | succ n ihn =>
      intro h
      rw [List.range_succ, List.filter_append]
      by_cases hin : i < n
      · rw [ihn hin]
        have : n + 1 - (i + 1) = (n - (i + 1)) + 1 := by omega
        rw [this, List.range'_concat]
        simp only [List.filter_cons, List.filter_nil, decide_eq_true hin, if_true]
        congr 2
        omega
      · have hin' : n = i := by omega
        subst hin'
        have : (List.range n).filter (fun j => decide (n < j)) = [] := by
          rw [List.filter_eq_nil_iff]
          intro a ha
          simp only [List.mem_range] at ha
          simp only [decide_eq_true_eq]
          omega
        rw [this]
        simp
  rw [e _ hi]

theorem cons_p3 (k1 : zqnc β) {r : Rec} (hv : valid r = true) (out : List Diff) (ho : out.length ≤ 80) :
    zqo9 k1 r.2.2.1 (r.2.2.1.length : Int) 0 r.1 r.2.1 r.2.2.1 r.2.2.2 out = k1 r.1 r.2.1 r.2.2.1 r.2.2.2 (out ++ (List.range (nE r)).flatMap (pairsI r (nE r))) := by
  have hb := valid_bd hv
  have h2 : ∀ i, (pairsI r (nE r) i).length ≤ 80 := fun i => by
    have h3 := flat_len (pairIf r i) 2 ((List.range (nE r)).filter fun j => decide (i < j)) (fun j _ => by
      unfold pairIf pairD
      split
      · split <;> simp
      · simp)
    have h4 := List.length_filter_le (fun j => decide (i < j)) (List.range (nE r))
    rw [List.length_range] at h4
    unfold pairsI nE at *
    omega
  have key := range_fold' (nE r) (fun i (s : List Diff) => s.length ≤ 80 + 80 * i) (fun f j s => zqo7 f k1 r.2.2.1 (r.2.2.1.length : Int) j r.1 r.2.1 r.2.2.1 r.2.2.2 s)
    (fun s i => s ++ pairsI r (nE r) i) (fun s => k1 r.1 r.2.1 r.2.2.1 r.2.2.2 s) out fuel (lt_fuel (by unfold nE; omega)) (by omega)
    (fun i s hi hs => by have := h2 i; rw [List.length_append]; omega)
    (fun f i s hi hs => by
      have hi' := hi
      unfold nE at hi'
      have e1 : IntKind.i64.wrap ((i : Int) + 1) = i + 1 := i64_in _ (by omega)
      rw [zqo8]
      unfold zqnq
      refine (c_pos (by omega)).trans ?_
      refine (c_inb (by omega)).trans ?_
      simp only [Int.toNat_natCast, e1]
      refine (cons_p2 _ hv hi _ _ _ _ _ s (by omega)).trans ?_
      simp only [e1])
    (fun f s hs => by
      rw [zqo8]
      unfold zqnq
      exact c_neg (by unfold nE; omega))
  unfold zqo9
  rw [key, foldl_flat]

theorem cons_p4 (k1 : zqng β) (l : List Link) (hl : l.length ≤ 1000) (hok : ∀ x ∈ l, 0 ≤ x.1 ∧ x.1 ≤ 1000 ∧ 0 ≤ x.2.1 ∧ x.2.1 ≤ 1000 ∧ 0 ≤ x.2.2 ∧ x.2.2 ≤ 8589934592) (out : List Diff) (ho : out.length ≤ 10000) :
    zqod k1 l (l.length : Int) 0 out = k1 (out ++ l.map linkD) := by
  have key := fold_loopI (fun i (s : List Diff) => s.length ≤ 10000 + i) (fun f j s => zqob f k1 l (l.length : Int) j s)
    (fun s x => s ++ [linkD x]) (fun s => k1 s) ((0 : Int), ((0 : Int), (0 : Int))) l out fuel (lt_fuel (by omega)) (by omega)
    (fun i s hi hs => by simp only [List.length_append, List.length_cons, List.length_nil]; omega)
    (fun f i s hi hs => by
      have e1 : IntKind.i64.wrap ((i : Int) + 1) = i + 1 := i64_in _ (by omega)
      have hx := hok _ (getD_mem (d := ((0 : Int), ((0 : Int), (0 : Int)))) hi)
      rw [zqoc]
      unfold zqnt
      refine (c_pos (by omega)).trans ?_
      refine (c_inb (by omega)).trans ?_
      simp only [Int.toNat_natCast, e1]
      generalize l.getD i ((0 : Int), ((0 : Int), (0 : Int))) = x at hx
      have e2 : IntKind.i64.wrap (x.2.1 + 1) = x.2.1 + 1 := i64_in _ (by omega)
      have e3 : IntKind.i64.wrap (x.1 + 1) = x.1 + 1 := i64_in _ (by omega)
      have e4 : IntKind.i64.wrap (0 - x.2.2) = -x.2.2 := (i64_in _ (by omega)).trans (by omega)
      simp only [e2, e3, e4]
      refine (c_room (by simp only [List.length_cons, List.length_nil]; omega)).trans ?_
      rfl)
    (fun f s hs => by
      rw [zqoc]
      unfold zqnt
      exact c_neg (by omega))
  unfold zqod
  rw [key]
  have : ∀ (l : List Link) (s : List Diff), l.foldl (fun s x => s ++ [linkD x]) s = s ++ l.map linkD := by
    intro l
    induction l with
    | nil => intro s; simp
    | cons x l ih => intro s; simp only [List.foldl_cons, List.map_cons]; rw [ih, List.append_assoc]; rfl
  rw [this]

theorem Constraints_eq (r : Rec) (k : Bool → List Diff → Option β) : zqof r k = (match consW r with | some l => k true l | none => k false []) := by
  unfold zqof zqnw
  refine (clock_Valid_eq _ _).trans ?_
  unfold consW
  cases hv : valid r with
  | false => rfl
  | true =>
    have hb := valid_bd hv
    have hp := valid_parts hv
    simp only [Bool.not_true, cond_false, Bool.true_and]
    refine (cons_p1 _ _ hv).trans ?_
    cases hw : whensOk r with
    | false => rfl
    | true =>
      simp only [cond_true, if_true]
      have h1 := flat_len (evD r) 2 (List.range (nE r)) (fun i _ => by simp [evD])
      rw [List.length_range] at h1
      have h2 := cons_len hv
      unfold consL at h2 ⊢
      rw [List.length_append, List.length_map] at h2
      refine (cons_p3 _ hv _ (by unfold nE at *; omega)).trans ?_
      exact cons_p4 _ _ (by omega) (fun x hx => by have := hp.2.2.2 x hx; unfold nE at *; omega) _ (by omega)

theorem closed_eq {r : Rec} (hE : nE r ≤ 100) (k : Mat → Bool → Option β) : zqvf r k = (match closedW r with | some m => k m true | none => k [] false) := by
  unfold zqvf zqvc
  refine (Constraints_eq _ _).trans ?_
  unfold closedW
  cases hc : consW r with
  | none => rfl
  | some l =>
    simp only [Bool.not_true, cond_false]
    have e1 : IntKind.i64.wrap ((r.2.2.1.length : Int) + 1) = ((nE r + 1 : Nat) : Int) := i64_in _ (by unfold nE at hE; omega)
    rw [e1]
    have hn : nE r ≤ 40 := by
      unfold consW at hc
      by_cases hh : (valid r && whensOk r) = true
      · rw [Bool.and_eq_true] at hh
        have := valid_bd hh.1
        unfold nE
        omega
      · rw [if_neg hh] at hc
        cases hc
    exact Close_eq (by omega) (by omega) l _

/-- One event is before another one for certain. -/
def bef (m : Mat) (a b : Nat) : Bool := decide (at2 m (b + 1) (a + 1) ≤ -1)
def opn (m : Mat) (a b : Nat) : Bool := !bef m a b && !bef m b a
def cmpN (m : Mat) (a b : Nat) : Int := if bef m a b then -1 else if bef m b a then 1 else 0
def rangeN (m : Mat) (i : Nat) : Int × Int := (-at2 m (i + 1) 0, at2 m 0 (i + 1))
def gapN (m : Mat) (a b : Nat) : Int × Int := (-at2 m (b + 1) (a + 1), at2 m (a + 1) (b + 1))

structure MatB (n : Nat) (m : Mat) : Prop where
  sq : Sq (n + 1) m
  small : n ≤ 100
  bd : ∀ i j, i < n + 1 → j < n + 1 → -9223372036854775807 ≤ at2 m i j ∧ at2 m i j ≤ 9223372036854775807

theorem before_eq {n : Nat} {m : Mat} (h : MatB n m) {a b : Nat} (ha : a < n) (hb : b < n) (k : Bool → Option β) : zq32 m (a : Int) (b : Int) k = k (bef m a b) := by
  have hs := h.small
  have e1 : IntKind.i64.wrap ((a : Int) + 1) = ((a + 1 : Nat) : Int) := i64_in _ (by omega)
  have e2 : IntKind.i64.wrap ((b : Int) + 1) = ((b + 1 : Nat) : Int) := i64_in _ (by omega)
  have l0 := h.sq.len
  have l1 := h.sq.row (b + 1) (by omega)
  unfold zq32 zq2z
  simp only [e1, e2, Int.toNat_natCast]
  refine (c_inb (by omega)).trans ?_
  refine (c_inb (by omega)).trans ?_
  rfl

theorem open_eq {n : Nat} {m : Mat} (h : MatB n m) {a b : Nat} (ha : a < n) (hb : b < n) (k : Bool → Option β) : zq46 m (a : Int) (b : Int) k = k (opn m a b) := by
  unfold zq46 zq43
  refine (before_eq h ha hb _).trans ?_
  unfold opn
  cases bef m a b with
  | true => rfl
  | false => exact before_eq h hb ha _

theorem mwhen_eq {n : Nat} {m : Mat} (h : MatB n m) {i : Nat} (hi : i < n) (k : Int × Int → Option β) : zq2v m (i : Int) k = k (rangeN m i) := by
  have hs := h.small
  have e1 : IntKind.i64.wrap ((i : Int) + 1) = ((i + 1 : Nat) : Int) := i64_in _ (by omega)
  have l0 := h.sq.len
  have l1 := h.sq.row (i + 1) (by omega)
  have l2 := h.sq.row 0 (by omega)
  have hb := h.bd (i + 1) 0 (by omega) (by omega)
  have e2 : IntKind.i64.wrap (0 - at2 m (i + 1) 0) = -at2 m (i + 1) 0 := (i64_in _ (by omega)).trans (by omega)
  unfold zq2v zq2s
  simp only [e1, Int.toNat_natCast, Int.toNat_zero]
  refine (c_inb (by omega)).trans ?_
  refine (c_inb (by omega)).trans ?_
  refine (c_inb (by omega)).trans ?_
  refine (c_inb (by omega)).trans ?_
  unfold at2 at e2
  rw [e2]
  rfl

theorem oin_eq (n lo hi : Int) (k : Bool → Option β) : zq4k n lo hi k = k (inN n lo hi) := by
  simp only [zq4k, zq4h, inN, c_kb]

theorem consistent_eq {r : Rec} (hE : nE r ≤ 100) (k : Bool → Option β) : zqvt r k = k (closedW r).isSome := by
  unfold zqvt zqvq
  refine (closed_eq hE _).trans ?_
  cases closedW r <;> rfl

theorem both_eq {r : Rec} (hE : nE r ≤ 100) (a b : Int) (k : Mat → Bool → Option β) : zqvm r a b k = (match closedW r with | some m => k m (inN a 0 (nE r - 1) && inN b 0 (nE r - 1)) | none => k [] false) := by
  unfold zqvm zqvj
  refine (closed_eq hE _).trans ?_
  cases closedW r with
  | none => rfl
  | some m =>
    have e1 : IntKind.i64.wrap ((r.2.2.1.length : Int) - 1) = (nE r : Int) - 1 := i64_in _ (by unfold nE at hE; omega)
    simp only [cond_true, e1]
    refine (oin_eq _ _ _ _).trans ?_
    cases inN a 0 (nE r - 1) with
    | false => rfl
    | true => exact oin_eq _ _ _ _

theorem Compare_eq {r : Rec} {m : Mat} (he : closedW r = some m) (h : MatB (nE r) m) {a b : Nat} (ha : a < nE r) (hb : b < nE r) (k : Int → Bool → Option β) : zqym r (a : Int) (b : Int) k = k (cmpN m a b) true := by
  unfold zqym zqyj
  refine (both_eq h.small _ _ _).trans ?_
  rw [he]
  simp only []
  rw [inN_mk (by omega), inN_mk (by omega)]
  simp only [Bool.and_self, Bool.not_true, cond_false]
  refine (before_eq h ha hb _).trans ?_
  unfold cmpN
  cases bef m a b with
  | true => rfl
  | false =>
    simp only [cond_false]
    refine (before_eq h hb ha _).trans ?_
    cases bef m b a <;> rfl

theorem Gap_eq {r : Rec} {m : Mat} (he : closedW r = some m) (h : MatB (nE r) m) {a b : Nat} (ha : a < nE r) (hb : b < nE r) (k : Int × Int → Bool → Option β) : zqyf r (a : Int) (b : Int) k = k (gapN m a b) true := by
  have hs := h.small
  have e1 : IntKind.i64.wrap ((a : Int) + 1) = ((a + 1 : Nat) : Int) := i64_in _ (by omega)
  have e2 : IntKind.i64.wrap ((b : Int) + 1) = ((b + 1 : Nat) : Int) := i64_in _ (by omega)
  have l0 := h.sq.len
  have l1 := h.sq.row (b + 1) (by omega)
  have l2 := h.sq.row (a + 1) (by omega)
  have hbd := h.bd (b + 1) (a + 1) (by omega) (by omega)
  have e3 : IntKind.i64.wrap (0 - at2 m (b + 1) (a + 1)) = -at2 m (b + 1) (a + 1) := (i64_in _ (by omega)).trans (by omega)
  unfold zqyf zqyc
  refine (both_eq h.small _ _ _).trans ?_
  rw [he]
  simp only []
  rw [inN_mk (by omega), inN_mk (by omega)]
  simp only [Bool.and_self, Bool.not_true, cond_false, e1, e2, Int.toNat_natCast]
  refine (c_inb (by omega)).trans ?_
  refine (c_inb (by omega)).trans ?_
  refine (c_inb (by omega)).trans ?_
  refine (c_inb (by omega)).trans ?_
  unfold at2 at e3
  rw [e3]
  rfl

def whensN (n : Nat) (m : Mat) : List (Int × Int) := (List.range n).map (rangeN m)

theorem When_eq {r : Rec} (hE : nE r ≤ 100) (hm : ∀ m, closedW r = some m → MatB (nE r) m) (k : Bool → List (Int × Int) → Option β) :
    zqwb r k = (match closedW r with | some m => k true (whensN (nE r) m) | none => k false []) := by
  unfold zqwb zqw4
  refine (closed_eq hE _).trans ?_
  cases he : closedW r with
  | none => rfl
  | some m =>
    have h := hm m he
    have hs := h.small
    simp only [Bool.not_true, cond_false]
    have key := range_fold' (nE r) (fun i (s : List (Int × Int)) => s.length ≤ i) (fun f j s => zqw7 f (fun out => k true out) m (r.2.2.1.length : Int) j s)
      (fun s i => s ++ [rangeN m i]) (fun s => k true s) [] fuel (lt_fuel (by omega)) (by simp)
      (fun i s hi hs => by simp only [List.length_append, List.length_cons, List.length_nil]; omega)
      (fun f i s hi hs => by
        have hi' := hi
        unfold nE at hi'
        have e1 : IntKind.i64.wrap ((i : Int) + 1) = i + 1 := i64_in _ (by omega)
        rw [zqw8]
        unfold zqw1
        refine (c_pos (by omega)).trans ?_
        refine (mwhen_eq h hi _).trans ?_
        simp only [e1]
        exact c_room (by simp only [List.length_cons, List.length_nil]; omega))
      (fun f s hs => by
        rw [zqw8]
        unfold zqw1
        exact c_neg (by unfold nE; omega))
    unfold zqw9
    rw [key]
    have : ∀ (l : List Nat) (s : List (Int × Int)), l.foldl (fun s i => s ++ [rangeN m i]) s = s ++ l.map (rangeN m) := by
      intro l
      induction l with
      | nil => intro s; simp
      | cons x l ih => intro s; simp only [List.foldl_cons, List.map_cons]; rw [ih, List.append_assoc]; rfl
    rw [this]
    rfl
end
end
end Go.Lift

/- Records of the dice and their order; the example of the chapter. -/
namespace Go.Lift
open Go.RowKit Go.IntWalk
noncomputable section
set_option linter.unusedVariables false
set_option linter.unusedSimpArgs false
set_option maxRecDepth 10000

/-- A loop that only looks and always goes on. -/
theorem pass_loop {β : Type} (n : Nat) (F : Nat → Int → Option β) (K : Option β) (N : Nat) (hn : n < N)
    (h1 : ∀ (m i : Nat), i < n → F (m + 1) (i : Int) = F m ((i : Int) + 1))
    (h2 : ∀ (m : Nat), F (m + 1) (n : Int) = K) : F N 0 = K :=
  range_fold' (σ := Unit) n (fun _ _ => True) (fun m i _ => F m i) (fun s _ => s) (fun _ => K) () N hn trivial (fun _ _ _ _ => trivial) (fun m i _ hi _ => h1 m i hi) (fun m _ _ => h2 m)

/-- The true times as a solution. -/
def xOf (times : List Int) (j : Nat) : Int := if j = 0 then 0 else times.getD (j - 1) 0
theorem xOf_zero (times : List Int) : xOf times 0 = 0 := rfl
theorem xOf_succ (times : List Int) (j : Nat) : xOf times (j + 1) = times.getD j 0 := by unfold xOf; rw [if_neg (by omega)]; rfl

section
variable {n : Int} {r : Rec} {ahead times : List Int}
theorem RecOk.nE_le (h : RecOk n r ahead times) : (nE r : Int) ≤ n := h.fewE
theorem RecOk.evOk (h : RecOk n r ahead times) {i : Nat} (hi : i < nE r) : EventOk r.1.length ahead (evAt r i) (times.getD i 0) := h.events i hi

theorem RecOk.whenAt (h : RecOk n r ahead times) (hn : n ≤ 40) {i : Nat} (hi : i < nE r) : (whenAt r i).2 = true ∧ (whenAt r i).1.1 ≤ times.getD i 0 ∧ times.getD i 0 ≤ (whenAt r i).1.2 := by
  obtain ⟨a1, a2, a3, a4, a5⟩ := h.evOk hi
  have hb := ahead_bd h.hosts (evAt r i).1.toNat
  have e := h.when? hn (host := (evAt r i).1) (c := (evAt r i).2.1) ⟨a1, a2⟩ (by omega)
  have t := h.when_true (host := (evAt r i).1) (c := (evAt r i).2.1) ⟨a1, a2⟩ (by omega)
  unfold Go.Lift.whenAt
  rw [e]
  refine ⟨rfl, ?_, ?_⟩ <;> simp only <;> omega

theorem RecOk.whens (h : RecOk n r ahead times) (hn : n ≤ 40) : whensOk r = true := whensOk_iff.2 fun i hi => (h.whenAt hn hi).1

theorem RecOk.solR (h : RecOk n r ahead times) (hn : n ≤ 40) : SolR r (xOf times) := by
  refine ⟨fun i hi => ?_, fun i j hi hj hij hh hc => ?_, fun l hl => ?_⟩
  · have := h.whenAt hn hi
    rw [xOf_succ, xOf_zero]
    omega
  · obtain ⟨a1, a2, a3, a4, a5⟩ := h.evOk hi
    obtain ⟨b1, b2, b3, b4, b5⟩ := h.evOk hj
    rw [xOf_succ, xOf_succ]
    rw [← hh] at b5
    have hd : 0 ≤ driftAt r (evAt r i).1 ∧ driftAt r (evAt r i).1 ≤ 500000 := h.drift_ok _
    have := elapsed_le hd (d := (evAt r j).2.1 - (evAt r i).2.1) (by omega)
    omega
  · have := h.links l hl
    unfold LinkOk at this
    rw [xOf_succ, xOf_succ]
    omega

theorem RecOk.closed (h : RecOk n r ahead times) (hn : n ≤ 7) : ∃ m, ClosedR r m := by
  have := h.nE_le
  exact closed_some (h.valid (by omega)) (h.whens (by omega)) (by omega) (h.solR (by omega))
end

section
variable {β : Type}
theorem c_nt {a b : Option β} : cond (!true) a b = b := rfl
theorem c_nf {a b : Option β} : cond (!false) a b = a := rfl

/-- The loops of Open. -/
def openL (n : Nat) (m : Mat) (a : Nat) : List (Int × Int) := ((List.range' (a + 1) (n - (a + 1))).filter fun b => opn m a b).map fun (b : Nat) => ((a : Int), (b : Int))

theorem open_p1 {n : Nat} {m : Mat} (h : MatB n m) (k1 : zqxj β) {a : Nat} (ha : a < n) (r : List Host) (r2 : List Sync) (r3 : List Event) (r4 : List Link) (hr : r3.length = n) (t15 t16 : Int) (out : List (Int × Int)) (ho : out.length ≤ 100000) :
    zqy2 k1 m true (a : Int) ((a : Int) + 1) t15 t16 r r2 r3 r4 out = k1 m true t15 t16 r r2 r3 r4 (out ++ openL n m a) := by
  have hs := h.small
  have key : ∀ (c b f : Nat) (s : List (Int × Int)), b + c = n → c < f → s.length + c ≤ 100100 →
      zqy0 f k1 m true (a : Int) (b : Int) t15 t16 r r2 r3 r4 s = k1 m true t15 t16 r r2 r3 r4 (s ++ ((List.range' b c).filter fun b => opn m a b).map fun (b : Nat) => ((a : Int), (b : Int))) := by
    intro c
    induction c with
    | zero =>
      intro b f s hb hf hs'
      obtain ⟨f, rfl⟩ : ∃ m, f = m + 1 := ⟨f - 1, by omega⟩
      rw [zqy1]
      unfold zqxr
      refine (c_neg (by omega)).trans ?_
      simp
    | succ c ih =>
      intro b f s hb hf hs'
      obtain ⟨f, rfl⟩ : ∃ m, f = m + 1 := ⟨f - 1, by omega⟩
      have e1 : IntKind.i64.wrap ((b : Int) + 1) = ((b + 1 : Nat) : Int) := i64_in _ (by omega)
      rw [zqy1]
      unfold zqxr
      refine (c_pos (by omega)).trans ?_
      simp only [cond_true, e1]
      refine (open_eq h ha (by omega) _).trans ?_
      rw [List.range'_succ, List.filter_cons]
      cases ho : opn m a b with
      | true =>
        simp only [cond_true, if_true, List.map_cons]
        refine (c_room (by simp only [List.length_cons, List.length_nil]; omega)).trans ?_
        refine (ih (b + 1) f _ (by omega) (by omega) (by simp only [List.length_append, List.length_cons, List.length_nil]; omega)).trans ?_
        rw [List.append_assoc]
        rfl
      | false => exact ih (b + 1) f _ (by omega) (by omega) (by omega)
  unfold zqy2
  have := key (n - (a + 1)) (a + 1) fuel out (by omega) (lt_fuel (by omega)) (by omega)
  rw [show ((a : Int) + 1) = ((a + 1 : Nat) : Int) by omega, this]
  rfl

def openW (n : Nat) (m : Mat) : List (Int × Int) := (List.range n).flatMap (openL n m)

theorem openL_len (n : Nat) (m : Mat) (a : Nat) : (openL n m a).length ≤ n := by
  unfold openL
  rw [List.length_map]
  have := List.length_filter_le (fun b => opn m a b) (List.range' (a + 1) (n - (a + 1)))
  rw [List.length_range'] at this
  omega

theorem Open_eq {r : Rec} {m : Mat} (he : closedW r = some m) (h : MatB (nE r) m) (k : List (Int × Int) → Option β) : zqy8 r k = k (openW (nE r) m) := by
  have hs := h.small
  unfold zqy8 zqxx
  refine (closed_eq hs _).trans ?_
  rw [he]
  simp only []
  have key := range_fold' (nE r) (fun i (s : List (Int × Int)) => s.length ≤ 100 * i) (fun f j s => zqy4 f (fun out => k out) m true (r.2.2.1.length : Int) j r.1 r.2.1 r.2.2.1 r.2.2.2 s)
    (fun s i => s ++ openL (nE r) m i) (fun s => k s) [] fuel (lt_fuel (by omega)) (by simp)
    (fun i s hi hs => by have := openL_len (nE r) m i; rw [List.length_append]; omega)
    (fun f i s hi hs' => by
      have hi' := hi
      unfold nE at hi'
      have e1 : IntKind.i64.wrap ((i : Int) + 1) = i + 1 := i64_in _ (by omega)
      rw [zqy5]
      unfold zqxu
      refine (c_pos (by omega)).trans ?_
      simp only [e1]
      refine (open_p1 h _ hi _ _ _ _ rfl _ _ s (by omega)).trans ?_
      simp only [e1])
    (fun f s hs => by
      rw [zqy5]
      unfold zqxu
      exact c_neg (by unfold nE; omega))
  unfold zqy6
  rw [key, foldl_flat]
  rfl

theorem Open_none {r : Rec} (he : closedW r = none) (hE : nE r ≤ 100) (k : List (Int × Int) → Option β) : zqy8 r k = k [] := by
  unfold zqy8 zqxx
  refine (closed_eq hE _).trans ?_
  rw [he]
  simp only []
  have key := pass_loop (nE r) (fun f j => zqy4 f (fun out => k out) [] false (r.2.2.1.length : Int) j r.1 r.2.1 r.2.2.1 r.2.2.2 []) (k []) fuel (lt_fuel (by omega))
    (fun f i hi => by
      have hi' := hi
      unfold nE at hi'
      have e1 : IntKind.i64.wrap ((i : Int) + 1) = i + 1 := i64_in _ (by unfold nE at hE; omega)
      rw [zqy5]
      unfold zqxu
      refine (c_pos (by omega)).trans ?_
      simp only [e1]
      have : zqy2 (fun (m2 : Mat) ok2 t152 t162 r_5 r_6 r_7 r_8 out2 => zqy4 f (fun out => k out) m2 ok2 t152 (IntKind.i64.wrap (t162 + 1)) r_5 r_6 r_7 r_8 out2) ([] : Mat) false (i : Int) ((i : Int) + 1) (r.2.2.1.length : Int) (i : Int) r.1 r.2.1 r.2.2.1 r.2.2.2 [] =
          zqy4 f (fun out => k out) [] false (r.2.2.1.length : Int) (IntKind.i64.wrap ((i : Int) + 1)) r.1 r.2.1 r.2.2.1 r.2.2.2 [] := by
        unfold zqy2
        rw [show fuel = (fuel - 1) + 1 by decide, zqy1]
        unfold zqxr
        cases decide ((i : Int) + 1 < (r.2.2.1.length : Int)) <;> rfl
      refine this.trans ?_
      rw [e1])
    (fun f => by
      rw [zqy5]
      unfold zqxu
      exact c_neg (by unfold nE; omega))
  unfold zqy6
  exact key
end

section
variable {β : Type}
theorem sane40_eq (k : Bool → Option β) : zqzc k = k true := by
  kernel_rfl
end
end
end Go.Lift

/- The reference of the chapter 38 in plain Lean. -/
namespace Go.Lift
open Go.RowKit Go.IntWalk
noncomputable section
set_option linter.unusedVariables false
set_option linter.unusedSimpArgs false

section
variable {β : Type}
theorem ref25_In_eq (n lo hi : Int) (k : Bool → Option β) : zq4d n lo hi k = k (inN n lo hi) := by
  simp only [zq4d, zq4a, inN, c_kb]
theorem ref38_Valid_p1_eq (k1 : zqba β) (k2 : zqbb β) (r : List Host) (hr : r.length ≤ 1000000) (r2 : List Sync) (r3 : List Event) (r4 : List Link) :
    zqcb k1 k2 0 r r2 r3 r4 = cond (r.all vHost) (k2 r r2 r3 r4) (k1 false) := by
  refine check_loop (fun m i => zqc9 m k1 k2 i r r2 r3 r4) vHost _ _ ([], 0) r fuel (lt_fuel (by omega)) (fun m i hi => ?_) (fun m => ?_)
  · simp (disch := omega) only [zqca, zqbu, ref25_In_eq, c_pos, c_inb, c_not, i64_in, Int.toNat_natCast, vHost]
  · simp (disch := omega) only [zqca, zqbu, c_neg]

theorem vSync_ref (n : Nat) (e : Sync) : vSync n e = (inN e.1 0 ((n : Int) - 1) && (inN e.2.1 0 8589934592 && (inN e.2.2.1 0 e.2.2.2 && !decide ((8589934592 : Int) < e.2.2.2)))) := by
  rw [Bool.eq_iff_iff]
  simp [vSync, okSync, inN]
  omega

theorem ref38_Valid_p2_eq (k1 : zqbf β) (k2 : zqbg β) (r : List Host) (hr : r.length ≤ 1000000) (r2 : List Sync) (hr2 : r2.length ≤ 1000000) (r3 : List Event) (r4 : List Link) :
    zqcf k1 k2 0 r r2 r3 r4 = cond (r2.all (vSync r.length)) (k2 r r2 r3 r4) (k1 false) := by
  refine check_loop (fun m i => zqcd m k1 k2 i r r2 r3 r4) (vSync r.length) _ _ (0, 0, 0, 0) r2 fuel (lt_fuel (by omega)) (fun m i hi => ?_) (fun m => ?_)
  · simp (disch := omega) only [zqce, zqbx, ref25_In_eq, c_pos, c_inb, c_not, i64_in, Int.toNat_natCast, vSync_ref, c_andn, c_and]
  · simp (disch := omega) only [zqce, zqbx, c_neg]

theorem ref38_Valid_p3_eq (k1 : zqbk β) (k2 : zqbl β) (r : List Host) (hr : r.length ≤ 1000000) (r2 : List Sync) (r3 : List Event) (hr3 : r3.length ≤ 1000000) (r4 : List Link) :
    zqcj k1 k2 0 r r2 r3 r4 = cond (r3.all (vEvent r.length)) (k2 r r2 r3 r4) (k1 false) := by
  refine check_loop (fun m i => zqch m k1 k2 i r r2 r3 r4) (vEvent r.length) _ _ (0, 0, []) r3 fuel (lt_fuel (by omega)) (fun m i hi => ?_) (fun m => ?_)
  · simp (disch := omega) only [zqci, zqc0, ref25_In_eq, c_pos, c_inb, c_not, i64_in, Int.toNat_natCast, vEvent, c_and]
  · simp (disch := omega) only [zqci, zqc0, c_neg]

theorem ref38_Valid_p4_eq (k1 : zqbp β) (k2 : zqbq β) (r : List Host) (r2 : List Sync) (r3 : List Event) (hr3 : r3.length ≤ 1000000) (r4 : List Link) (hr4 : r4.length ≤ 1000000) :
    zqcn k1 k2 0 r r2 r3 r4 = cond (r4.all (vLink r3.length)) (k2 ()) (k1 false) := by
  refine check_loop (fun m i => zqcl m k1 k2 i r r2 r3 r4) (vLink r3.length) _ _ (0, 0, 0) r4 fuel (lt_fuel (by omega)) (fun m i hi => ?_) (fun m => ?_)
  · simp (disch := omega) only [zqcm, zqc3, ref25_In_eq, c_pos, c_inb, c_not, i64_in, Int.toNat_natCast, vLink, c_nand, c_and, Bool.not_not]
  · simp (disch := omega) only [zqcm, zqc3, c_neg]

theorem ref38_Valid_eq (r : Rec) (k : Bool → Option β) : zqcp r k = k (valid r) := by
  simp only [zqcp, zqc6]
  by_cases h1 : (8 : Int) < r.1.length
  · simp [valid, small, h1]
  by_cases h2 : (64 : Int) < r.2.1.length
  · simp [valid, small, h1, h2]
  by_cases h3 : (40 : Int) < r.2.2.1.length
  · simp [valid, small, h1, h2, h3]
  by_cases h4 : (64 : Int) < r.2.2.2.length
  · simp [valid, small, h1, h2, h3, h4]
  rw [decide_eq_false h1, decide_eq_false h2, decide_eq_false h3, decide_eq_false h4]
  simp only [c_f]
  rw [ref38_Valid_p1_eq _ _ _ (by omega), ref38_Valid_p2_eq _ _ _ (by omega) _ (by omega), ref38_Valid_p3_eq _ _ _ (by omega) _ _ (by omega), ref38_Valid_p4_eq _ _ _ _ _ (by omega) _ (by omega)]
  simp only [c_kb, c_k, valid, small, decide_eq_false h1, decide_eq_false h2, decide_eq_false h3, decide_eq_false h4, Bool.not_false, Bool.true_and]
  apply k_eq
  cases r.1.all vHost <;> cases r.2.1.all (vSync r.1.length) <;> cases r.2.2.1.all (vEvent r.1.length) <;> cases r.2.2.2.all (vLink r.2.2.1.length) <;> rfl

theorem ref38_Elapsed_eq (drift d : Int) (k : Int → Int → Option β) : zqcw drift d k = k (elapsed drift d).1 (elapsed drift d).2 := by
  simp only [zqcw, zqct, ref25_In_eq, elapsed]
  cases h1 : inN drift 0 500000 with
  | false => rfl
  | true =>
    cases h2 : inN d 0 8589934592 with
    | false => rfl
    | true =>
      have h1 := inN_iff.1 h1
      have h2 := inN_iff.1 h2
      simp (disch := omega) only [Bool.not_true, c_f, Bool.and_true, cond_true, i64_in, i64_quo, c_nneg]
      congr 2
      omega

theorem ref38_From_eq (h : Host) (s : Sync) (c : Int) (k : Int × Int → Option β) : zqej h s c k = k (fromS h s c) := by
  rw [← clock_From_eq h s c k]
  simp only [zqk2, zqjz, clock_in_eq, clock_compared_eq, clock_instant_eq, clock_Elapsed_eq, zqej, zqeg, ref25_In_eq, ref38_Elapsed_eq]
  have : okSync s = (inN s.2.1 0 8589934592 && (inN s.2.2.1 0 s.2.2.2 && !decide ((8589934592 : Int) < s.2.2.2))) := by
    rw [Bool.eq_iff_iff]; simp [okSync, inN]; omega
  rw [this]
  cases inN h.2 0 500000 <;> cases inN s.2.1 0 8589934592 <;> cases inN s.2.2.1 0 s.2.2.2 <;> cases decide ((8589934592 : Int) < s.2.2.2) <;> rfl

theorem ref38_Meet_eq (a b : Int × Int) (k : Int × Int → Option β) : zq5x a b k = k (meet2 a b) := by simp only [zq5x, zq5u, meet2]
theorem ref38_Empty_eq (a : Int × Int) (k : Bool → Option β) : zq64 a k = k (decide (a.2 < a.1)) := by simp only [zq64, zq61]

theorem ref38_When_p1_eq (k1 : zqjh β) (host c : Int) (r : List Host) (hh : 0 ≤ host ∧ host < r.length) (r2 : List Sync) (hx : r2.length ≤ 1000000) (r3 : List Event) (r4 : List Link) (a b : Int) (o : Int × Int) :
    zqjt k1 host c 0 r r2 r3 r4 a b o.1 o.2 = k1 a b (r2.foldl (fun out s => cond (decide (s.1 = host)) (meet2 out (fromS (r.getD host.toNat ([], 0)) s c)) out) o).1 (r2.foldl (fun out s => cond (decide (s.1 = host)) (meet2 out (fromS (r.getD host.toNat ([], 0)) s c)) out) o).2 := by
  refine fold_loop (σ := Int × Int) (fun m i o => zqjr m k1 host c i r r2 r3 r4 a b o.1 o.2) (fun out s => cond (decide (s.1 = host)) (meet2 out (fromS (r.getD host.toNat ([], 0)) s c)) out) (fun o => k1 a b o.1 o.2) (0, 0, 0, 0) r2 o fuel (lt_fuel (by omega)) (fun m i s hi => ?_) (fun m s => ?_)
  · simp (disch := omega) only [zqjs, zqjl, ref38_From_eq, ref38_Meet_eq, c_pos, c_inb, i64_in, Int.toNat_natCast]
    cases decide ((r2.getD i (0, 0, 0, 0)).1 = host) <;> rfl
  · simp (disch := omega) only [zqjs, zqjl, c_neg]

theorem ref38_When_eq (r : Rec) (host c : Int) (k : Int × Int → Bool → Option β) : zqjv r host c k = k (when? r host c).1 (when? r host c).2 := by
  simp only [zqjv, zqjo, ref38_Valid_eq, ref25_In_eq, ref38_Empty_eq, when?]
  cases h1 : valid r with
  | false => rfl
  | true =>
    have hb := valid_bd h1
    simp (disch := omega) only [i64_in, Bool.not_true, c_f, Bool.true_and]
    cases h2 : inN host 0 ((r.1.length : Int) - 1) with
    | false => rfl
    | true =>
      cases h3 : inN c 0 8589934592 with
      | false => rfl
      | true =>
        have h2 := inN_iff.1 h2
        simp only [Bool.not_true, c_f, Bool.and_true, cond_true]
        rw [ref38_When_p1_eq _ host c r.1 (by omega) r.2.1 (by omega) r.2.2.1 r.2.2.2 0 0 (0, 8589934592)]
        rfl

end
end
end Go.Lift

/- The reference of the chapter 39 in plain Lean. -/
namespace Go.Lift
open Go.RowKit Go.IntWalk
noncomputable section
set_option linter.unusedVariables false
set_option linter.unusedSimpArgs false
set_option maxRecDepth 10000

/-! ### The rounds, with a look at the whole diagonal behind each -/
def refRounds (n : Nat) : Nat → Nat → Mat → Option Mat
  | 0, _, m => some m
  | c + 1, k, m => if diagOk n (roundW n k m) then refRounds n c (k + 1) (roundW n k m) else none

theorem refRounds_eq {n : Nat} : ∀ (c k : Nat) (m : Mat), Sq n m → k + (c + 1) = n → refRounds n (c + 1) k m = (match roundsW n (c + 1) k m with | some m' => if diagOk n m' then some m' else none | none => none) := by
  intro c
  induction c with
  | zero =>
    intro k m hm hk
    have h1 := hm.roundW k
    unfold refRounds roundsW
    cases hd : diagOk n (roundW n k m) with
    | true =>
      have := diagOk_iff.1 hd k (by omega)
      rw [if_neg (show ¬ at2 (roundW n k m) k k < 0 by omega)]
      simp [refRounds, roundsW, hd]
    | false =>
      simp only [Bool.false_eq_true, if_false]
      by_cases hk0 : at2 (roundW n k m) k k < 0
      · rw [if_pos hk0]
      · rw [if_neg hk0]
        simp [roundsW, hd]
  | succ c ih =>
    intro k m hm hk
    have h1 := hm.roundW k
    have e : roundsW n (c + 1 + 1) k m = if at2 (roundW n k m) k k < 0 then none else roundsW n (c + 1) (k + 1) (roundW n k m) := rfl
    have e' : refRounds n (c + 1 + 1) k m = if diagOk n (roundW n k m) then refRounds n (c + 1) (k + 1) (roundW n k m) else none := rfl
    rw [e, e']
    cases hd : diagOk n (roundW n k m) with
    | true =>
      have := diagOk_iff.1 hd k (by omega)
      rw [if_neg (show ¬ at2 (roundW n k m) k k < 0 by omega), if_pos rfl]
      exact ih (k + 1) _ h1 (by omega)
    | false =>
      rw [if_neg (by simp)]
      split
      · rename_i m' heq
        split at heq
        · cases heq
        · have hle := rounds_le (c + 1) (k + 1) _ m' h1 heq
          have hd' : diagOk n m' = false := by
            cases hx : diagOk n m' with
            | false => rfl
            | true =>
              have : diagOk n (roundW n k m) = true := diagOk_iff.2 (fun i hi => by
                have := diagOk_iff.1 hx i hi
                have := hle i i hi hi
                omega)
              rw [hd] at this
              cases this
          rw [hd']
          rfl
      · rfl

/-! ### The beginning -/
def initM (n : Nat) : Mat := (List.range n).map fun i => (List.replicate n BIG).set i 0
theorem initM_sq (n : Nat) : Sq n (initM n) := by
  refine ⟨by simp [initM], fun i hi => ?_⟩
  simp [initM, List.getD, hi]
theorem initM_at {n i j : Nat} (hi : i < n) (hj : j < n) : at2 (initM n) i j = if i = j then 0 else 1099511627776 := by
  unfold at2 initM
  have : ((List.range n).map fun i => (List.replicate n BIG).set i 0).getD i [] = (List.replicate n BIG).set i 0 := by simp [List.getD, hi]
  rw [this]
  by_cases h : i = j
  · rw [if_pos h, ← h, getD_set_eq (by simp; exact hi)]
  · rw [if_neg h, getD_set_ne h]
    simp [List.getD, hj]

def noSelf (l : List Diff) : Prop := ∀ d ∈ l, d.1.toNat ≠ d.2.1.toNat

theorem fold_put_sq {n : Nat} (l : List Diff) {m : Mat} (hm : Sq n m) : Sq n (l.foldl putW m) := fold_inv (Sq n) _ (fun m d h => h.putW d) _ _ hm

theorem start_init {n : Nat} {l : List Diff} (ho : l.all (diffOk n) = true) (hs : noSelf l) : l.foldl putW (initM n) = startW n l := by
  refine mat_ext (fold_put_sq l (initM_sq n)) (directW_sq n l).diagW (fun i j hi hj => ?_)
  have g1 := direct_glb l ho (initM n) (initM_sq n) i j
  have g2 := start_glb ho hi hj
  have key : ∀ v, v ≤ at2 (l.foldl putW (initM n)) i j ↔ v ≤ at2 (startW n l) i j := by
    intro v
    rw [g1 v, g2 v, initM_at hi hj]
    by_cases h : i = j
    · rw [if_pos h]
      constructor
      · intro hv
        exact ⟨by omega, hv.2, fun _ => hv.1⟩
      · intro hv
        exact ⟨hv.2.2 h, hv.2.1⟩
    · rw [if_neg h]
      constructor
      · intro hv
        exact ⟨hv.1, hv.2, fun e => absurd e h⟩
      · intro hv
        exact ⟨hv.1, hv.2.1⟩
  exact Int.le_antisymm ((key _).1 (Int.le_refl _)) ((key _).2 (Int.le_refl _))

/-- No entry is beyond BIG. -/
def Cap (n : Nat) (m : Mat) : Prop := ∀ i j, i < n → j < n → at2 m i j ≤ 1099511627776
theorem Cap.le {n : Nat} {m m' : Mat} (h : Cap n m) (hl : Le n m' m) : Cap n m' := fun i j hi hj => Int.le_trans (hl i j hi hj) (h i j hi hj)
theorem Cap.relax {n : Nat} {m : Mat} (h : Cap n m) (hm : Sq n m) {k i j : Nat} (hi : i < n) (hj : j < n) : Cap n (relaxW k i j m) := h.le (relax_le hm hi hj)
theorem start_cap {n : Nat} {l : List Diff} (ho : l.all (diffOk n) = true) : Cap n (startW n l) := fun i j hi hj => ((start_glb ho hi hj _).1 (Int.le_refl _)).1

section
variable {β : Type}
theorem ref39_Valid_eq {n : Nat} (h1 : 1 ≤ n) (hn : n ≤ 41) {l : List Diff} (k : Bool → Option β) : zq7k (n : Int) l k = k (validD n l) := by
  unfold zq7k zq7d
  refine (ref25_In_eq _ _ _ _).trans ?_
  rw [inN_mk (by omega)]
  refine c_nt.trans ?_
  unfold validD
  by_cases hl : l.length ≤ 4000
  · refine (c_neg (by omega)).trans ?_
    rw [decide_eq_true hl, Bool.true_and]
    unfold zq7i
    refine (check_loop (fun f j => zq7g f (fun t => k t) (fun _ => k true) (n : Int) l j) (diffOk n) (k false) (k true) ((0 : Int), ((0 : Int), (0 : Int))) l fuel (lt_fuel (by omega)) (fun f j hj => ?_) (fun f => ?_)).trans ?_
    · have e1 : IntKind.i64.wrap ((j : Int) + 1) = j + 1 := i64_in _ (by omega)
      have e2 : IntKind.i64.wrap ((n : Int) - 1) = n - 1 := i64_in _ (by omega)
      rw [zq7h]
      unfold zq7a
      simp only [Int.toNat_natCast, e1, e2]
      refine (c_pos (by omega)).trans ?_
      refine (c_inb (by omega)).trans ?_
      generalize l.getD j ((0 : Int), ((0 : Int), (0 : Int))) = d
      refine (ref25_In_eq _ _ _ _).trans ?_
      unfold diffOk
      by_cases a1 : 0 ≤ d.1 ∧ d.1 ≤ (n : Int) - 1
      · rw [inN_mk a1]
        refine c_nt.trans ?_
        refine (c_inb (by omega)).trans ?_
        refine (ref25_In_eq _ _ _ _).trans ?_
        by_cases a2 : 0 ≤ d.2.1 ∧ d.2.1 ≤ (n : Int) - 1
        · rw [inN_mk a2]
          refine c_nt.trans ?_
          refine (c_inb (by omega)).trans ?_
          refine (ref25_In_eq _ _ _ _).trans ?_
          by_cases a3 : -17179869184 ≤ d.2.2 ∧ d.2.2 ≤ 17179869184
          · rw [inN_mk a3, decide_eq_true (show (0 ≤ d.1 ∧ d.1 < (n : Int) ∧ 0 ≤ d.2.1 ∧ d.2.1 < (n : Int) ∧ -17179869184 ≤ d.2.2 ∧ d.2.2 ≤ 17179869184) by omega)]
            rfl
          · have : inN d.2.2 (-17179869184) 17179869184 = false := Bool.eq_false_iff.2 (fun h => a3 (inN_iff.1 h))
            rw [this, decide_eq_false (show ¬ (0 ≤ d.1 ∧ d.1 < (n : Int) ∧ 0 ≤ d.2.1 ∧ d.2.1 < (n : Int) ∧ -17179869184 ≤ d.2.2 ∧ d.2.2 ≤ 17179869184) by omega)]
            rfl
        · have : inN d.2.1 0 ((n : Int) - 1) = false := Bool.eq_false_iff.2 (fun h => a2 (inN_iff.1 h))
          rw [this, decide_eq_false (show ¬ (0 ≤ d.1 ∧ d.1 < (n : Int) ∧ 0 ≤ d.2.1 ∧ d.2.1 < (n : Int) ∧ -17179869184 ≤ d.2.2 ∧ d.2.2 ≤ 17179869184) by omega)]
          rfl
      · have : inN d.1 0 ((n : Int) - 1) = false := Bool.eq_false_iff.2 (fun h => a1 (inN_iff.1 h))
        rw [this, decide_eq_false (show ¬ (0 ≤ d.1 ∧ d.1 < (n : Int) ∧ 0 ≤ d.2.1 ∧ d.2.1 < (n : Int) ∧ -17179869184 ≤ d.2.2 ∧ d.2.2 ≤ 17179869184) by omega)]
        rfl
    · rw [zq7h]
      unfold zq7a
      exact c_neg (by omega)
    · cases l.all (diffOk n) <;> rfl
  · refine (c_pos (by omega)).trans ?_
    rw [decide_eq_false hl]
    rfl

theorem rclose_p1 {n : Nat} (hn : n ≤ 100) (k1 : zqen β) (l : List Diff) (i : Int) (d : Mat) :
    zqgf k1 (n : Int) l i 0 d [] = k1 (n : Int) l i d (List.replicate n BIG) := by
  have key := range_fold' n (fun i (s : List Int) => s.length = i) (fun f j s => zqgd f k1 (n : Int) l i j d s) (fun s _ => s ++ [BIG]) (fun s => k1 (n : Int) l i d s) [] fuel (lt_fuel (by omega)) rfl
    (fun i s hi hs => by simp [hs])
    (fun f j s hj hs => by
      have e1 : IntKind.i64.wrap ((j : Int) + 1) = j + 1 := i64_in _ (by omega)
      rw [zqge]
      unfold zqfm
      simp only [e1]
      refine (c_pos (by omega)).trans ?_
      exact c_room (by simp only [List.length_cons, List.length_nil]; omega))
    (fun f s hs => by
      rw [zqge]
      unfold zqfm
      exact c_neg (by omega))
  unfold zqgf
  rw [key]
  congr 1
  have : ∀ c, (List.range c).foldl (fun (s : List Int) _ => s ++ [BIG]) [] = List.replicate c BIG := by
    intro c
    induction c with
    | zero => rfl
    | succ c ih => rw [range_fold, ih, List.replicate_succ']
  exact this n

theorem rclose_p2 {n : Nat} (hn : n ≤ 100) (k1 : zqer β) (l : List Diff) :
    zqgj k1 (n : Int) l 0 [] = k1 (n : Int) l (initM n) := by
  have key := range_fold' n (fun i (s : Mat) => s.length = i) (fun f j s => zqgh f k1 (n : Int) l j s) (fun s i => s ++ [(List.replicate n BIG).set i 0]) (fun s => k1 (n : Int) l s) [] fuel (lt_fuel (by omega)) rfl
    (fun i s hi hs => by simp [hs])
    (fun f j s hj hs => by
      have e1 : IntKind.i64.wrap ((j : Int) + 1) = j + 1 := i64_in _ (by omega)
      rw [zqgi]
      unfold zqfp
      refine (c_pos (by omega)).trans ?_
      refine (rclose_p1 hn _ _ _ _).trans ?_
      simp only [Int.toNat_natCast, e1]
      refine (c_inb (by simp; omega)).trans ?_
      exact c_room (by simp only [List.length_cons, List.length_nil]; omega))
    (fun f s hs => by
      rw [zqgi]
      unfold zqfp
      exact c_neg (by omega))
  unfold zqgj
  rw [key]
  congr 1
  have : ∀ (l : List Nat) (s : Mat), l.foldl (fun (s : Mat) i => s ++ [(List.replicate n BIG).set i 0]) s = s ++ l.map fun i => (List.replicate n BIG).set i 0 := by
    intro l
    induction l with
    | nil => intro s; simp
    | cons x l ih => intro s; simp only [List.foldl_cons, List.map_cons]; rw [ih, List.append_assoc]; rfl
  rw [this]
  rfl

theorem rclose_p3 {n : Nat} (hn : n ≤ 100) (k1 : zqev β) (k2 : zqew β) {l : List Diff} (hl : l.length ≤ 4000) (ho : l.all (diffOk n) = true) (hs : noSelf l) {m : Mat} (hm : Sq n m) :
    zqgn k1 k2 (n : Int) l 0 m = k2 (n : Int) (l.foldl putW m) := by
  have key := fold_loopI (fun _ (m : Mat) => Sq n m) (fun f j m => zqgl f k1 k2 (n : Int) l j m) putW (fun m => k2 (n : Int) m) ((0 : Int), ((0 : Int), (0 : Int))) l m fuel (lt_fuel (by omega)) hm
    (fun j m hj hm => hm.putW _)
    (fun f j m hj hm => by
      have e1 : IntKind.i64.wrap ((j : Int) + 1) = j + 1 := i64_in _ (by omega)
      have hmem := getD_mem (d := ((0 : Int), ((0 : Int), (0 : Int)))) hj
      have hd := of_decide_eq_true (List.all_eq_true.1 ho _ hmem)
      have hns := hs _ hmem
      have l0 := hm.len
      have l1 := hm.row (l.getD j ((0 : Int), ((0 : Int), (0 : Int)))).1.toNat (by omega)
      rw [zqgm]
      unfold zqfs
      simp only [Int.toNat_natCast, e1]
      refine (c_pos (by omega)).trans ?_
      refine (c_inb (by omega)).trans ?_
      refine (c_inb (by omega)).trans ?_
      refine (c_inb (by omega)).trans ?_
      refine (c_inb (by omega)).trans ?_
      refine (c_inb (by omega)).trans ?_
      refine (c_inb (by omega)).trans ?_
      refine (c_inb (by omega)).trans ?_
      refine (c_inb (by omega)).trans ?_
      refine (c_inb (by omega)).trans ?_
      refine (c_inb (by omega)).trans ?_
      refine (c_inb (by omega)).trans ?_
      refine (c_neg (by omega)).trans ?_
      rfl)
    (fun f m hm => by
      rw [zqgm]
      unfold zqfs
      exact c_neg (by omega))
  unfold zqgn
  exact key

theorem rclose_p5 {n : Nat} (hn : n ≤ 100) {k i : Nat} (hk : k < n) (hi : i < n) {m : Mat} (hm : Sq n m) (hc : Cap n m) (k1 : zqf4 β) :
    zqgt k1 (n : Int) (k : Int) (i : Int) 0 m = k1 (n : Int) (k : Int) (i : Int) (rowW n k i m) := by
  have key := range_fold' n (fun _ (m : Mat) => Sq n m ∧ Cap n m) (fun f j m => zqgr f k1 (n : Int) (k : Int) (i : Int) j m) (fun m j => relaxW k i j m) (fun m => k1 (n : Int) (k : Int) (i : Int) m) m fuel (lt_fuel (by omega)) ⟨hm, hc⟩
    (fun j m hj hm => ⟨hm.1.relaxW _ _ _, hm.2.relax hm.1 hi hj⟩)
    (fun f j m hj hm => by
      have e1 : IntKind.i64.wrap ((j : Int) + 1) = j + 1 := i64_in _ (by omega)
      have l0 := hm.1.len
      have l1 := hm.1.row i hi
      have l2 := hm.1.row k hk
      have c1 := hm.2 i k hi hk
      have c2 := hm.2 k j hk hj
      rw [zqgs]
      unfold zqfy
      simp only [Int.toNat_natCast]
      refine (c_pos (by omega)).trans ?_
      refine (c_inb (by omega)).trans ?_
      refine (c_inb (by omega)).trans ?_
      have hq : ∀ (t : Bool), (zqgp (fun (n2 : Int) (k_2 : Int) (i_2 : Int) (j2 : Int) (d2 : Mat) => zqgr f k1 n2 k_2 i_2 (IntKind.i64.wrap (j2 + (1 : Int))) d2) (n : Int) (k : Int) (i : Int) (j : Int) t m : Option β) =
          zqgr f k1 (n : Int) (k : Int) (i : Int) ((j : Int) + 1) (if t then setAt m i j (if IntKind.i64.wrap (at2 m i k + at2 m k j) < at2 m i j then IntKind.i64.wrap (at2 m i k + at2 m k j) else at2 m i j) else m) := fun t => by
        unfold zqgp zqfw zqfv
        cases t with
        | false =>
          simp only [cond_false, e1]
          rfl
        | true =>
          simp only [cond_true, Int.toNat_natCast, e1]
          refine (c_inb (by omega)).trans ?_
          refine (c_inb (by omega)).trans ?_
          refine (c_inb (by omega)).trans ?_
          refine (c_inb (by omega)).trans ?_
          refine (c_inb (by omega)).trans ?_
          refine (c_inb (by omega)).trans ?_
          refine (c_inb (by omega)).trans ?_
          refine (c_inb (by omega)).trans ?_
          rfl
      by_cases h1 : at2 m i k = BIG
      · refine (c_neg (p := (m.getD i []).getD k 0 < (1099511627776 : Int)) (show ¬ at2 m i k < 1099511627776 by rw [h1]; decide)).trans ?_
        refine (hq false).trans ?_
        have : relaxW k i j m = m := by unfold relaxW; rw [if_pos (.inl h1)]
        rw [this]
        rfl
      · have h1' : at2 m i k < 1099511627776 := by
          have : at2 m i k ≠ 1099511627776 := h1
          omega
        refine (c_pos (p := (m.getD i []).getD k 0 < (1099511627776 : Int)) h1').trans ?_
        refine (c_inb (by omega)).trans ?_
        refine (c_inb (by omega)).trans ?_
        refine (hq _).trans ?_
        by_cases h2 : at2 m k j = BIG
        · have : relaxW k i j m = m := by unfold relaxW; rw [if_pos (.inr h2)]
          rw [this, decide_eq_false (show ¬ (m.getD k []).getD j 0 < (1099511627776 : Int) from by
            have h3 : (m.getD k []).getD j 0 = 1099511627776 := h2
            omega)]
          rfl
        · have h2' : at2 m k j < 1099511627776 := by
            have : at2 m k j ≠ 1099511627776 := h2
            omega
          have : relaxW k i j m = setAt m i j (if IntKind.i64.wrap (at2 m i k + at2 m k j) < at2 m i j then IntKind.i64.wrap (at2 m i k + at2 m k j) else at2 m i j) := by unfold relaxW; rw [if_neg (fun h => h.elim h1 h2)]
          rw [this, decide_eq_true (show (m.getD k []).getD j 0 < (1099511627776 : Int) from h2')]
          rfl)
    (fun f m hm => by
      rw [zqgs]
      unfold zqfy
      exact c_neg (by omega))
  unfold zqgt
  exact key

theorem cap_rowW {n k i : Nat} {m : Mat} (hm : Sq n m) (hc : Cap n m) (hi : i < n) : Cap n (rowW n k i m) := by
  unfold rowW
  have key : ∀ (l : List Nat) (m : Mat), (∀ j ∈ l, j < n) → Sq n m → Cap n m → Cap n (l.foldl (fun m j => relaxW k i j m) m) := by
    intro l
    induction l with
    | nil => intro m _ _ hc; exact hc
    | cons x l ih => intro m hl hm hc; exact ih _ (fun j hj => hl j (by simp [hj])) (hm.relaxW _ _ _) (hc.relax hm hi (hl x (by simp)))
  exact key _ _ (fun j hj => List.mem_range.1 hj) hm hc

theorem rclose_p6 {n : Nat} (hn : n ≤ 100) {k : Nat} (hk : k < n) {m : Mat} (hm : Sq n m) (hc : Cap n m) (k1 : zqf8 β) :
    zqgx k1 (n : Int) (k : Int) 0 m = k1 (n : Int) (k : Int) (roundW n k m) := by
  have key := range_fold' n (fun _ (m : Mat) => Sq n m ∧ Cap n m) (fun f j m => zqgv f k1 (n : Int) (k : Int) j m) (fun m i => rowW n k i m) (fun m => k1 (n : Int) (k : Int) m) m fuel (lt_fuel (by omega)) ⟨hm, hc⟩
    (fun j m hj hm => ⟨hm.1.rowW _ _, cap_rowW hm.1 hm.2 hj⟩)
    (fun f j m hj hm => by
      have e1 : IntKind.i64.wrap ((j : Int) + 1) = j + 1 := i64_in _ (by omega)
      rw [zqgw]
      unfold zqg1
      refine (c_pos (by omega)).trans ?_
      refine (rclose_p5 hn hk hj hm.1 hm.2 _).trans ?_
      simp only [e1])
    (fun f m hm => by
      rw [zqgw]
      unfold zqg1
      exact c_neg (by omega))
  unfold zqgx
  exact key

theorem cap_roundW {n k : Nat} {m : Mat} (hm : Sq n m) (hc : Cap n m) : Cap n (roundW n k m) := by
  unfold roundW
  have key : ∀ (l : List Nat) (m : Mat), (∀ j ∈ l, j < n) → Sq n m → Cap n m → Cap n (l.foldl (fun m i => rowW n k i m) m) := by
    intro l
    induction l with
    | nil => intro m _ _ hc; exact hc
    | cons x l ih => intro m hl hm hc; exact ih _ (fun j hj => hl j (by simp [hj])) (hm.rowW _ _) (cap_rowW hm hc (hl x (by simp)))
  exact key _ _ (fun j hj => List.mem_range.1 hj) hm hc

theorem rclose_p7 {n : Nat} (hn : n ≤ 100) (k1 : zqfc β) (k2 : zqfd β) (k : Int) {m : Mat} (hm : Sq n m) :
    zqh1 k1 k2 (n : Int) k 0 m = cond (diagOk n m) (k2 (n : Int) k m) (k1 false []) := by
  have key := range_check (σ := Unit) n (fun _ _ => True) (fun f j _ => zqgz f k1 k2 (n : Int) k j m) (fun i => decide (¬ at2 m i i < 0)) (fun s _ => s) (k1 false []) (fun _ => k2 (n : Int) k m) () fuel (lt_fuel (by omega)) trivial (fun _ _ _ _ _ => trivial)
    (fun f j _ hj _ => by
      have e1 : IntKind.i64.wrap ((j : Int) + 1) = j + 1 := i64_in _ (by omega)
      have l0 := hm.len
      have l1 := hm.row j hj
      rw [zqh0]
      unfold zqg4
      simp only [Int.toNat_natCast, e1]
      refine (c_pos (by omega)).trans ?_
      refine (c_inb (by omega)).trans ?_
      refine (c_inb (by omega)).trans ?_
      by_cases h2 : at2 m j j < 0
      · refine (c_pos h2).trans ?_
        simp [h2]
      · refine (c_neg h2).trans ?_
        simp [h2])
    (fun f _ _ => by
      rw [zqh0]
      unfold zqg4
      exact c_neg (by omega))
  unfold zqh1
  exact key

theorem rclose_p8 {n : Nat} (hn : n ≤ 100) (k1 : zqfh β) (k2 : zqfi β) : ∀ (c k f : Nat) (m : Mat), k + c = n → c < f → Sq n m → Cap n m →
    zqh3 f k1 k2 (n : Int) (k : Int) m = (match refRounds n c k m with | some m' => k2 m' | none => k1 false [])
  | 0, k, f + 1, m, h, hf, hm, hc => by
    rw [zqh4]
    unfold zqg7
    exact c_neg (by omega)
  | c + 1, k, f + 1, m, h, hf, hm, hc => by
    have hk : k < n := by omega
    have e1 : IntKind.i64.wrap ((k : Int) + 1) = ((k + 1 : Nat) : Int) := i64_in _ (by omega)
    rw [zqh4]
    unfold zqg7
    refine (c_pos (by omega)).trans ?_
    refine (rclose_p6 hn hk hm hc _).trans ?_
    refine (rclose_p7 hn _ _ _ (hm.roundW k)).trans ?_
    unfold refRounds
    cases hd : diagOk n (roundW n k m) with
    | false => rfl
    | true =>
      simp only [if_true, e1]
      refine c_t.trans ?_
      exact rclose_p8 hn k1 k2 c (k + 1) f _ (by omega) (by omega) (hm.roundW k) (cap_roundW hm hc)
  | _, _, 0, _, _, hf, _, _ => absurd hf (by omega)

theorem ref39_Close_eq {n : Nat} (h1 : 1 ≤ n) (hn : n ≤ 41) {l : List Diff} (hs : noSelf l) (k : Mat → Bool → Option β) : zqh7 (n : Int) l k = (match closeW n l with | some m => k m true | none => k [] false) := by
  unfold zqh7 zqga
  refine (ref39_Valid_eq h1 hn _).trans ?_
  unfold closeW
  by_cases hv : validD n l = true
  · rw [hv]
    have hv' := hv
    unfold validD at hv'
    rw [Bool.and_eq_true] at hv'
    refine c_nt.trans ?_
    rw [if_pos rfl]
    refine (rclose_p2 (by omega) _ _).trans ?_
    refine (rclose_p3 (by omega) _ _ (of_decide_eq_true hv'.1) hv'.2 hs (initM_sq n)).trans ?_
    rw [start_init hv'.2 hs]
    unfold zqh5
    refine (rclose_p8 (by omega) _ _ n 0 fuel _ (by omega) (lt_fuel (by omega)) (directW_sq n l).diagW (start_cap hv'.2)).trans ?_
    obtain ⟨c, rfl⟩ : ∃ c, n = c + 1 := ⟨n - 1, by omega⟩
    have e := refRounds_eq c 0 _ (directW_sq (c + 1) l).diagW (by omega)
    revert e
    generalize refRounds (c + 1) (c + 1) 0 (diagW (c + 1) (directW (c + 1) l)) = R
    intro e
    subst e
    cases roundsW (c + 1) (c + 1) 0 (diagW (c + 1) (directW (c + 1) l)) with
    | none => exact rfl
    | some m => exact rfl
  · rw [Bool.eq_false_iff.2 hv]
    refine c_nf.trans ?_
    rw [if_neg (by simp)]
end
end
end Go.Lift

/- order.Fits, order.Allows in plain Lean. -/
namespace Go.Lift
open Go.RowKit Go.IntWalk
noncomputable section
set_option linter.unusedVariables false
set_option linter.unusedSimpArgs false
set_option maxRecDepth 10000

/-- A loop that looks for an element. -/
theorem any_loop {β α : Type} (F : Nat → Int → Option β) (p : α → Bool) (KT KF : Option β) (d : α) (xs : List α) (n : Nat) (hn : xs.length < n)
    (h1 : ∀ (m i : Nat), i < xs.length → F (m + 1) (i : Int) = cond (p (xs.getD i d)) KT (F m ((i : Int) + 1)))
    (h2 : ∀ (m : Nat), F (m + 1) (xs.length : Int) = KF) : F n 0 = cond (xs.any p) KT KF := by
  have h := check_loop F (fun x => !p x) KT KF d xs n hn (fun m i hi => by rw [h1 m i hi]; cases p (xs.getD i d) <;> rfl) h2
  rw [h]
  have : xs.all (fun x => !p x) = !xs.any p := by
    rw [List.all_eq_not_any_not]
    simp
  rw [this]
  cases xs.any p <;> rfl

section
variable {β : Type}
def instB (t : Int) : Bool := inN t 0 8589934592
def bigB (t : Int) : Bool := inN t (-1099511627776) 1099511627776

theorem anyFits1 (l : List Int) (hl : l.length ≤ 100000) (k : Bool → Option β) : zq10z l k = k (l.any fun t => !instB t) := by
  unfold zq10z zq10w zq10l zq10e zq10j
  refine (any_loop (fun f j => zq10h f (fun (t4 : Int) => k (decide ((0 : Int) ≤ t4))) (fun _ => k (decide ((0 : Int) ≤ -1))) l (l.length : Int) j) (fun t => !instB t) (k true) (k false) (0 : Int) l fuel (lt_fuel (by omega))
    (fun f j hj => ?_) (fun f => ?_)).trans ?_
  · have e1 : IntKind.i64.wrap ((j : Int) + 1) = j + 1 := i64_in _ (by omega)
    rw [zq10i]
    unfold zq10b
    refine (c_pos (by omega)).trans ?_
    refine (c_inb (by omega)).trans ?_
    simp only [Int.toNat_natCast, e1]
    unfold zq4y zq4v
    refine (oin_eq _ _ _ _).trans ?_
    unfold instB
    rw [decide_eq_true (show (0 : Int) ≤ j by omega)]
  · rw [zq10i]
    unfold zq10b
    exact c_neg (by omega)
  · cases l.any fun t => !instB t <;> rfl

theorem anyFits2 (l : List Int) (hl : l.length ≤ 100000) (k : Bool → Option β) : zqzj l k = k (l.any fun t => !bigB t) := by
  unfold zqzj zqzg zqz5 zqyy zqz3
  refine (any_loop (fun f j => zqz1 f (fun (t4 : Int) => k (decide ((0 : Int) ≤ t4))) (fun _ => k (decide ((0 : Int) ≤ -1))) l (l.length : Int) j) (fun t => !bigB t) (k true) (k false) (0 : Int) l fuel (lt_fuel (by omega))
    (fun f j hj => ?_) (fun f => ?_)).trans ?_
  · have e1 : IntKind.i64.wrap ((j : Int) + 1) = j + 1 := i64_in _ (by omega)
    rw [zqz2]
    unfold zqyv
    refine (c_pos (by omega)).trans ?_
    refine (c_inb (by omega)).trans ?_
    simp only [Int.toNat_natCast, e1]
    unfold zqhe zqhb
    refine (constraint_in_eq _ _ _ _).trans ?_
    unfold bigB inN
    rw [decide_eq_true (show (0 : Int) ≤ j by omega)]
  · rw [zqz2]
    unfold zqyv
    exact c_neg (by omega)
  · cases l.any fun t => !bigB t <;> rfl

def brokenW (x : List Int) (d : Diff) : Bool := decide (d.2.2 < x.getD d.2.1.toNat 0 - x.getD d.1.toNat 0)

theorem anyFits3 {n : Nat} (l : List Diff) (hl : l.length ≤ 100000) (ho : l.all (diffOk n) = true) (x : List Int) (hx : x.length = n) (hb : ∀ i, i < n → -1099511627776 ≤ x.getD i 0 ∧ x.getD i 0 ≤ 1099511627776) (k : Bool → List Int → Option β) :
    zq128 l x k = k (l.any (brokenW x)) x := by
  unfold zq128 zq125 zq121 zq11u zq11z
  refine (any_loop (fun f j => zq11x f (fun (t4 : Int) (b : List Int) => k (decide ((0 : Int) ≤ t4)) b) (fun b => k (decide ((0 : Int) ≤ -1)) b) l (l.length : Int) j x) (brokenW x) (k true x) (k false x) ((0 : Int), ((0 : Int), (0 : Int))) l fuel (lt_fuel (by omega))
    (fun f j hj => ?_) (fun f => ?_)).trans ?_
  · have e1 : IntKind.i64.wrap ((j : Int) + 1) = j + 1 := i64_in _ (by omega)
    have hd := of_decide_eq_true (List.all_eq_true.1 ho _ (getD_mem (d := ((0 : Int), ((0 : Int), (0 : Int)))) hj))
    rw [zq11y]
    unfold zq11r
    refine (c_pos (by omega)).trans ?_
    refine (c_inb (by omega)).trans ?_
    simp only [Int.toNat_natCast, e1]
    generalize l.getD j ((0 : Int), ((0 : Int), (0 : Int))) = d at hd
    have h1 := hb d.2.1.toNat (by omega)
    have h2 := hb d.1.toNat (by omega)
    have e2 : IntKind.i64.wrap (x.getD d.2.1.toNat 0 - x.getD d.1.toNat 0) = x.getD d.2.1.toNat 0 - x.getD d.1.toNat 0 := i64_in _ (by omega)
    unfold zq71 zq6y
    refine (c_inb (by omega)).trans ?_
    refine (c_inb (by omega)).trans ?_
    simp only [e2]
    unfold brokenW
    rw [decide_eq_true (show (0 : Int) ≤ j by omega)]
  · rw [zq11y]
    unfold zq11r
    exact c_neg (by omega)
  · cases l.any (brokenW x) <;> rfl

/-- constraint.Fits of valid constraints. -/
theorem cFits_eq {n : Nat} (h1 : 1 ≤ n) (hn : n ≤ 41) {l : List Diff} (hv : validD n l = true) (x : List Int) (hx : x.length = n) (k : Bool → Option β) :
    zq12f (n : Int) l x k = k (cond (x.any fun t => !bigB t) false (!l.any (brokenW x))) := by
  have hv' := hv
  unfold validD at hv'
  rw [Bool.and_eq_true] at hv'
  have hl := of_decide_eq_true hv'.1
  unfold zq12f zq12c
  refine (Valid_eq h1 hn _).trans ?_
  rw [hv]
  simp only [Bool.not_true, cond_false]
  refine (c_npos (by omega)).trans ?_
  refine (anyFits2 x (by omega) _).trans ?_
  cases hb : x.any fun t => !bigB t with
  | true => rfl
  | false =>
    simp only [cond_false]
    refine (anyFits3 l (by omega) hv'.2 x hx (fun i hi => ?_) _).trans rfl
    rw [List.any_eq_false] at hb
    have := hb (x.getD i 0) (getD_mem (by omega))
    simp only [Bool.not_eq_true, Bool.not_eq_false'] at this
    exact inN_iff.1 this

/-- What Fits says. -/
def fitsW (r : Rec) (times : List Int) : Bool := (closedW r).isSome && (decide (times.length = nE r) && (times.all instB && !(consL r).any (brokenW (0 :: times))))

theorem consW_of_closed {r : Rec} {m : Mat} (e : closedW r = some m) : valid r = true ∧ whensOk r = true ∧ consW r = some (consL r) := by
  unfold closedW at e
  cases hc : consW r with
  | none => rw [hc] at e; cases e
  | some l =>
    have hc' := hc
    unfold consW at hc'
    by_cases hh : (valid r && whensOk r) = true
    · rw [if_pos hh] at hc'
      rw [Bool.and_eq_true] at hh
      cases hc'
      exact ⟨hh.1, hh.2, rfl⟩
    · rw [if_neg hh] at hc'
      cases hc'

theorem Fits_eq {r : Rec} (hE : nE r ≤ 100) (times : List Int) (k : Bool → Option β) : zq12m r times k = k (fitsW r times) := by
  unfold zq12m zq12j
  refine (Constraints_eq _ _).trans ?_
  unfold fitsW
  have key : ∀ (b : Bool) (l : List Diff), (∀ m, closedW r = some m → l = consL r) → (zqvt r (fun (rConsistent : Bool) =>
      cond (!rConsistent) (k false) (cond (!decide ((List.length times : Int) = (List.length r.2.2.1 : Int))) (k false)
      (zq10z times (fun (rContainsFuncintint : Bool) => cond rContainsFuncintint (k false)
      (cond (decide ((List.length [(0 : Int)] + List.length times) * 8 ≤ roomMax))
      (zq12f (IntKind.i64.wrap ((List.length times : Int) + (1 : Int))) l ([(0 : Int)] ++ times) (fun (rFits : Bool) => k rFits)) none))))) : Option β) =
      k ((closedW r).isSome && (decide (times.length = nE r) && (times.all instB && !(consL r).any (brokenW (0 :: times))))) := by
    intro b l hl
    refine (consistent_eq hE _).trans ?_
    cases he : closedW r with
    | none => rfl
    | some m =>
      obtain ⟨hv, hw, hc⟩ := consW_of_closed he
      have hll := hl m he
      subst hll
      have hb := valid_bd hv
      simp only [Option.isSome_some, Bool.not_true, cond_false, Bool.true_and]
      by_cases hlen : times.length = nE r
      · refine (c_npos (by unfold nE at hlen; omega)).trans ?_
        rw [decide_eq_true hlen, Bool.true_and]
        have hn : nE r ≤ 40 := by unfold nE; omega
        refine (anyFits1 times (by omega) _).trans ?_
        have ha : times.any (fun t => !instB t) = !times.all instB := by
          rw [List.any_eq_not_all_not]
          simp
        rw [ha]
        cases hi : times.all instB with
        | false => rfl
        | true =>
          simp only [Bool.not_true, cond_false, Bool.true_and]
          refine (c_room (by simp only [List.length_cons, List.length_nil]; omega)).trans ?_
          have e1 : IntKind.i64.wrap ((times.length : Int) + 1) = ((nE r + 1 : Nat) : Int) := (i64_in _ (by omega)).trans (by omega)
          rw [e1]
          refine (cFits_eq (by omega) (by omega) (consL_valid hv hw) _ (by simp [hlen]) _).trans ?_
          have hbig : ([(0 : Int)] ++ times).any (fun t => !bigB t) = false := by
            rw [List.any_eq_false]
            intro t ht
            simp only [List.cons_append, List.nil_append, List.mem_cons] at ht
            have : 0 ≤ t ∧ t ≤ 8589934592 := by
              rcases ht with rfl | ht
              · omega
              · exact inN_iff.1 (List.all_eq_true.1 hi t ht)
            have : bigB t = true := inN_mk (by omega)
            rw [this]
            simp
          rw [hbig]
          rfl
      · refine (c_nneg (by unfold nE at hlen; omega)).trans ?_
        rw [decide_eq_false hlen]
        rfl
  cases hc : consW r with
  | none =>
    refine key false [] (fun m he => ?_)
    rw [(consW_of_closed he).2.2] at hc
    cases hc
  | some l =>
    refine key true l (fun m he => ?_)
    rw [(consW_of_closed he).2.2] at hc
    cases hc
    rfl

/-! ### Allows -/
theorem contains_eq (l : List Int) (hl : l.length ≤ 100000) (v : Int) (k : Bool → Option β) : zqd3 l v k = k (l.any fun x => decide (v = x)) := by
  unfold zqd3 zqd0 zq6n zq6g zq6l
  refine (any_loop (fun f j => zq6j f (fun (t4 : Int) => k (decide ((0 : Int) ≤ t4))) (fun _ => k (decide ((0 : Int) ≤ -1))) l v (l.length : Int) j) (fun x => decide (v = x)) (k true) (k false) (0 : Int) l fuel (lt_fuel (by omega))
    (fun f j hj => ?_) (fun f => ?_)).trans ?_
  · have e1 : IntKind.i64.wrap ((j : Int) + 1) = j + 1 := i64_in _ (by omega)
    rw [zq6k]
    unfold zq6d
    refine (c_pos (by omega)).trans ?_
    refine (c_inb (by omega)).trans ?_
    simp only [Int.toNat_natCast, e1]
    rw [decide_eq_true (show (0 : Int) ≤ j by omega)]
  · rw [zq6k]
    unfold zq6d
    exact c_neg (by omega)
  · cases l.any fun x => decide (v = x) <;> rfl

theorem anyAllows {n : Nat} {m : Mat} (h : MatB n m) (l : List Int) (hl : l.length ≤ 100000) (ho : ∀ y ∈ l, 0 ≤ y ∧ y < n) {x : Int} (hx : 0 ≤ x ∧ x < n) (k : Bool → Mat → Int → Option β) :
    zq10s l m x k = k (l.any fun y => bef m x.toNat y.toNat) m x := by
  unfold zq10s zq10p zq102 zqzv zq100
  refine (any_loop (fun f j => zqzy f (fun (t4 : Int) m x => k (decide ((0 : Int) ≤ t4)) m x) (fun m x => k (decide ((0 : Int) ≤ -1)) m x) l (l.length : Int) j m x) (fun y => bef m x.toNat y.toNat) (k true m x) (k false m x) (0 : Int) l fuel (lt_fuel (by omega))
    (fun f j hj => ?_) (fun f => ?_)).trans ?_
  · have e1 : IntKind.i64.wrap ((j : Int) + 1) = j + 1 := i64_in _ (by omega)
    have hy := ho _ (getD_mem (d := (0 : Int)) hj)
    rw [zqzz]
    unfold zqzs
    refine (c_pos (by omega)).trans ?_
    refine (c_inb (by omega)).trans ?_
    simp only [Int.toNat_natCast, e1]
    generalize l.getD j (0 : Int) = y at hy
    unfold zq4r zq4o
    have hb := before_eq h (a := x.toNat) (b := y.toNat) (by omega) (by omega) (β := β)
    rw [show ((x.toNat : Nat) : Int) = x by omega, show ((y.toNat : Nat) : Int) = y by omega] at hb
    refine (hb _).trans ?_
    rw [decide_eq_true (show (0 : Int) ≤ j by omega)]
  · rw [zqzz]
    unfold zqzs
    exact c_neg (by omega)
  · cases l.any fun y => bef m x.toNat y.toNat <;> rfl

/-- The test of one place of an order. -/
def placeOk (n : Nat) (m : Mat) (l : List Int) (i : Nat) : Bool :=
  inN (l.getD i 0) 0 ((n : Int) - 1) && !((l.take i).any fun x => decide (l.getD i 0 = x)) && !((l.take i).any fun y => bef m (l.getD i 0).toNat y.toNat)
def allowsW (n : Nat) (m : Mat) (l : List Int) : Bool := decide (l.length = n) && (List.range n).all (placeOk n m l)

/-- Places ahead of a place that is looked at are right. -/
theorem allows_loop {n : Nat} {m : Mat} (h : MatB n m) (k1 : zq113 β) (k2 : zq114 β) (l : List Int) (hl : l.length = n) :
    zq11g k1 k2 l l (l.length : Int) 0 m = cond ((List.range n).all (placeOk n m l)) (k2 ()) (k1 false) := by
  have hs := h.small
  have key := range_check (σ := Unit) n (fun i _ => ∀ y ∈ l.take i, 0 ≤ y ∧ y < n) (fun f j _ => zq11e f k1 k2 l l (l.length : Int) j m) (placeOk n m l) (fun s _ => s) (k1 false) (fun _ => k2 ()) () fuel (lt_fuel (by omega)) (fun j hj => by simp at hj)
    (fun i s hi hs hp => by
      intro y hy
      rw [List.take_succ_eq_append_getElem (by omega), List.mem_append] at hy
      rcases hy with hy | hy
      · exact hs y hy
      · simp only [List.mem_cons, List.not_mem_nil, or_false] at hy
        unfold placeOk at hp
        rw [Bool.and_eq_true, Bool.and_eq_true] at hp
        have := inN_iff.1 hp.1.1
        have e : l.getD i 0 = l[i] := by simp [List.getD, show i < l.length by omega]
        rw [e] at this
        omega)
    (fun f i s hi hs' => by
      have e1 : IntKind.i64.wrap ((i : Int) + 1) = i + 1 := i64_in _ (by omega)
      have e2 : IntKind.i64.wrap ((l.length : Int) - 1) = (n : Int) - 1 := (i64_in _ (by omega)).trans (by omega)
      rw [zq11f]
      unfold zq118
      refine (c_pos (by omega)).trans ?_
      refine (c_inb (by omega)).trans ?_
      simp only [Int.toNat_natCast, Int.toNat_zero, List.drop_zero, e1, e2]
      refine (oin_eq _ _ _ _).trans ?_
      unfold placeOk
      cases hin : inN (l.getD i 0) 0 ((n : Int) - 1) with
      | false => rfl
      | true =>
        have hb := inN_iff.1 hin
        simp only [Bool.not_true, cond_false, Bool.true_and]
        have ht : cond (decide ((0 : Int) ≤ 0) && (decide ((0 : Int) ≤ (i : Int)) && decide ((i : Int) ≤ (l.length : Int)))) = fun (a b : Option β) => a := by
          rw [decide_eq_true (show (0 : Int) ≤ 0 by omega), decide_eq_true (show (0 : Int) ≤ (i : Int) by omega), decide_eq_true (show (i : Int) ≤ (l.length : Int) by omega)]
          rfl
        simp only [ht]
        refine (contains_eq _ (by rw [List.length_take]; omega) _ _).trans ?_
        cases (l.take i).any fun x => decide (l.getD i 0 = x) with
        | true => rfl
        | false =>
          simp only [cond_false, Bool.not_false, Bool.true_and]
          refine (anyAllows h _ (by rw [List.length_take]; omega) hs' (by omega) _).trans ?_
          cases (l.take i).any fun y => bef m (l.getD i 0).toNat y.toNat <;> rfl)
    (fun f s hs => by
      rw [zq11f]
      unfold zq118
      exact c_neg (by omega))
  unfold zq11g
  exact key

theorem Allows_eq {r : Rec} {m : Mat} (he : closedW r = some m) (h : MatB (nE r) m) (l : List Int) (k : Bool → Option β) : zq11i r l k = k (allowsW (nE r) m l) := by
  unfold zq11i zq11b
  refine (closed_eq h.small _).trans ?_
  rw [he]
  simp only [Bool.not_true, cond_false]
  unfold allowsW
  by_cases hl : l.length = nE r
  · refine (c_npos (by unfold nE at hl; omega)).trans ?_
    refine (allows_loop h _ _ l hl).trans ?_
    rw [decide_eq_true hl]
    cases (List.range (nE r)).all (placeOk (nE r) m l) <;> rfl
  · refine (c_nneg (by unfold nE at hl; omega)).trans ?_
    rw [decide_eq_false hl]
    rfl
end
end
end Go.Lift

/- What is certain, and what the true times are. -/
namespace Go.Lift
open Go.RowKit Go.IntWalk
noncomputable section
set_option linter.unusedVariables false
set_option linter.unusedSimpArgs false
set_option maxRecDepth 10000

section
variable {β : Type} {n : Int} {r : Rec} {ahead times : List Int}

theorem ClosedR.bef {r : Rec} {m : Mat} (hm : ClosedR r m) {a b : Nat} (ha : a < nE r) (hb : b < nE r) : bef m a b = true ↔ ∀ x, SolR r x → x (a + 1) < x (b + 1) := by
  unfold Go.Lift.bef
  rw [decide_eq_true_iff, hm.le_iff (i := b + 1) (j := a + 1) (by omega) (by omega)]
  constructor
  · intro h x s
    have := h x s
    omega
  · intro h x s
    have := h x s
    omega

theorem cmpN_before {m : Mat} {a b : Nat} : cmpN m a b = -1 ↔ bef m a b = true := by
  unfold cmpN
  cases bef m a b <;> cases bef m b a <;> simp

theorem ClosedR.range {r : Rec} {m : Mat} (hm : ClosedR r m) {x : Nat → Int} (s : SolR r x) (h0 : x 0 = 0) {i : Nat} (hi : i < nE r) : (rangeN m i).1 ≤ x (i + 1) ∧ x (i + 1) ≤ (rangeN m i).2 := by
  have h1 := hm.sol s (i := i + 1) (j := 0) (by omega) (by omega)
  have h2 := hm.sol s (i := 0) (j := i + 1) (by omega) (by omega)
  unfold rangeN
  simp only
  omega

/-- Readings of one clock that are two seconds apart. -/
theorem ClosedR.far {m : Mat} (hm : ClosedR r m) {i k : Nat} (hi : i < nE r) (hk : k < nE r) (hh : (evAt r i).1 = (evAt r k).1) (hc : (evAt r i).2.1 + 2 ≤ (evAt r k).2.1) : Go.Lift.bef m i k = true := by
  rw [hm.bef hi hk]
  intro x s
  have h1 := (s.pair i k hi hk (by intro h; subst h; omega) hh (by omega)).1
  have e1 := valid_ev hm.valid hi
  have e2 := valid_ev hm.valid hk
  have hd : 0 ≤ driftAt r (evAt r i).1 ∧ driftAt r (evAt r i).1 ≤ 500000 := by
    have := (valid_parts hm.valid).1 _ (getD_mem (l := r.1) (i := (evAt r i).1.toNat) (d := ([], 0)) (by omega))
    exact this
  have h2 : 1 ≤ (elapsed (driftAt r (evAt r i).1) ((evAt r k).2.1 - (evAt r i).2.1)).1 := by
    unfold elapsed
    rw [inN_mk hd, inN_mk (by omega)]
    simp only [Bool.and_self, cond_true]
    rw [Int.le_ediv_iff_mul_le (by omega)]
    omega
  omega

end
end
end Go.Lift

/- Records that are changed in their links. -/
namespace Go.Lift
open Go.RowKit Go.IntWalk
noncomputable section
set_option linter.unusedVariables false
set_option linter.unusedSimpArgs false
set_option maxRecDepth 10000

theorem openW_len (n : Nat) (m : Mat) : (openW n m).length ≤ n * n := by
  have h := flat_len (openL n m) n (List.range n) (fun a _ => openL_len n m a)
  rw [List.length_range] at h
  exact h
end
end Go.Lift

/- Loops with an invariant; any comparison of any record. -/
namespace Go.Lift
open Go.RowKit Go.IntWalk
noncomputable section
set_option linter.unusedVariables false
set_option linter.unusedSimpArgs false
set_option maxRecDepth 10000

section
variable {β : Type}
theorem Compare_none {r : Rec} (he : closedW r = none) (hE : nE r ≤ 100) (a b : Int) (k : Int → Bool → Option β) : zqym r a b k = k 0 false := by
  unfold zqym zqyj
  refine (both_eq hE _ _ _).trans ?_
  rw [he]
  rfl
end
end
end Go.Lift

/- order.Sort in plain Lean. -/
namespace Go.Lift
open Go.RowKit Go.IntWalk
noncomputable section
set_option linter.unusedVariables false
set_option linter.unusedSimpArgs false
set_option maxRecDepth 10000

/-- A loop that keeps an invariant; the next state may hang on what follows. -/
theorem range_exm {β σ : Type} (n : Nat) (I : Nat → σ → Prop) (F : Nat → Int → σ → Option β) (K : σ → Option β) (s : σ) (N : Nat) (hn : n < N) (h0 : I 0 s)
    (h1 : ∀ (m i : Nat) s, i < n → I i s → ∃ s', I (i + 1) s' ∧ F (m + 1) (i : Int) s = F m ((i : Int) + 1) s')
    (h2 : ∀ (m : Nat) s, I n s → F (m + 1) (n : Int) s = K s) : ∃ s', I n s' ∧ F N 0 s = K s' := by
  have key : ∀ (c i N : Nat) (s : σ), i + c = n → c < N → I i s → ∃ s', I n s' ∧ F N (i : Int) s = K s' := by
    intro c
    induction c with
    | zero =>
      intro i N s hi hN hs
      obtain ⟨N, rfl⟩ : ∃ m, N = m + 1 := ⟨N - 1, by omega⟩
      obtain rfl : i = n := by omega
      exact ⟨s, hs, h2 N s hs⟩
    | succ c ih =>
      intro i N s hi hN hs
      obtain ⟨N, rfl⟩ : ∃ m, N = m + 1 := ⟨N - 1, by omega⟩
      obtain ⟨s', hs', e⟩ := h1 N i s (by omega) hs
      obtain ⟨s'', h3, h4⟩ := ih (i + 1) N s' (by omega) (by omega) hs'
      exact ⟨s'', h3, e.trans h4⟩
  exact key n 0 N s (by omega) hn h0

theorem mGet_mPut {δ : Type} (l : List (Int × δ)) (a b : Int) (v z : δ) : mGet (.int .i64) (mPut (.int .i64) l a v) b z = if a = b then v else mGet (.int .i64) l b z := by
  induction l with
  | nil =>
    simp only [mPut, mGet, keyEq]
    by_cases h : a = b <;> simp [h]
  | cons y l ih =>
    simp only [mPut]
    by_cases h : y.1 = a
    · simp only [keyEq, decide_eq_true h, cond_true, mGet]
      by_cases hb : a = b
      · simp [hb]
      · have : ¬ y.1 = b := by rw [h]; exact hb
        simp [hb, this]
    · simp only [keyEq, decide_eq_false h, cond_false, mGet]
      rw [ih]
      by_cases hb : y.1 = b
      · have : ¬ a = b := by intro h2; exact h (hb.trans h2.symm)
        simp [hb, this]
      · simp [hb]

/-- An event that nothing unplaced was before. -/
def freeN (n : Nat) (m : Mat) (out : List Int) (i : Nat) : Bool := !decide ((i : Int) ∈ out) && (List.range n).all fun k => decide ((k : Int) ∈ out) || !bef m k i
def earlyN (m : Mat) (a b : Nat) : Bool := decide ((rangeN m a).1 < (rangeN m b).1) || (decide ((rangeN m a).1 = (rangeN m b).1) && decide ((rangeN m a).2 < (rangeN m b).2))
def pickN (n : Nat) (m : Mat) (out : List Int) (next : Int) (i : Nat) : Int := if freeN n m out i && (decide (next < 0) || earlyN m i next.toNat) then (i : Int) else next
def nextN (n : Nat) (m : Mat) (out : List Int) : Int := (List.range n).foldl (pickN n m out) (-1)
def sortN (n : Nat) (m : Mat) : Nat → List Int → List Int
  | 0, out => out
  | c + 1, out => sortN n m c (out ++ [nextN n m out])

section
variable {β : Type} {n : Nat} {m : Mat}

theorem earlier_eq (h : MatB n m) {a b : Nat} (ha : a < n) (hb : b < n) (k : Bool → Option β) : zq39 m (a : Int) (b : Int) k = k (earlyN m a b) := by
  unfold zq39 zq36
  refine (mwhen_eq h ha _).trans ?_
  refine (mwhen_eq h hb _).trans ?_
  unfold earlyN
  by_cases h1 : (rangeN m a).1 < (rangeN m b).1
  · refine (c_pos h1).trans ?_
    rw [decide_eq_true h1]
    rfl
  · refine (c_neg h1).trans ?_
    rw [decide_eq_false h1]
    by_cases h2 : (rangeN m a).1 = (rangeN m b).1
    · refine (c_pos h2).trans ?_
      rw [decide_eq_true h2]
      rfl
    · refine (c_neg h2).trans ?_
      rw [decide_eq_false h2]
      rfl

theorem sort_p1 (h : MatB n m) {placed : List (Int × Bool)} {out : List Int} (hp : ∀ i : Int, mGet (.int .i64) placed i false = decide (i ∈ out)) (k1 : zqwf β) (next : Int) {i : Nat} (hi : i < n) (b : Bool) (t22 t23 t27 t28 : Int) (r : List Host) (r2 : List Sync) (r3 : List Event) (r4 : List Link) :
    zqx5 k1 m next (i : Int) b t22 t23 t27 t28 (n : Int) 0 r r2 r3 r4 placed out = k1 m next (i : Int) (b && (List.range n).all fun k => decide ((k : Int) ∈ out) || !bef m k i) t22 t23 t27 t28 r r2 r3 r4 placed out := by
  have hs := h.small
  have key := range_fold' n (fun _ _ => True) (fun f j (s : Bool) => zqx3 f k1 m next (i : Int) s t22 t23 t27 t28 (n : Int) j r r2 r3 r4 placed out)
    (fun s k => s && (decide ((k : Int) ∈ out) || !bef m k i)) (fun s => k1 m next (i : Int) s t22 t23 t27 t28 r r2 r3 r4 placed out) b fuel (lt_fuel (by omega)) trivial (fun _ _ _ _ => trivial)
    (fun f j s hj _ => by
      have e1 : IntKind.i64.wrap ((j : Int) + 1) = j + 1 := i64_in _ (by omega)
      rw [zqx4]
      unfold zqwr
      simp only [e1]
      refine (c_pos (by omega)).trans ?_
      cases s with
      | false => rfl
      | true =>
        refine c_t.trans ?_
        have hg := hp (j : Int)
        rw [hg]
        by_cases hm : (j : Int) ∈ out
        · refine (c_pos hm).trans ?_
          rw [decide_eq_true hm]
          rfl
        · refine (c_neg hm).trans ?_
          refine (before_eq h hj hi _).trans ?_
          rw [decide_eq_false hm]
          rfl)
    (fun f s _ => by
      rw [zqx4]
      unfold zqwr
      exact c_neg (by omega))
  unfold zqx5
  rw [key]
  congr 1
  have : ∀ (l : List Nat) (p : Nat → Bool) (b : Bool), l.foldl (fun s k => s && p k) b = (b && l.all p) := by
    intro l p
    induction l with
    | nil => intro b; simp
    | cons x l ih => intro b; simp only [List.foldl_cons, List.all_cons]; rw [ih, Bool.and_assoc]
  exact this _ _ _

/-- Either nothing is picked yet, or something free. -/
def Picked (n : Nat) (m : Mat) (out : List Int) (next : Int) : Prop := next = -1 ∨ (0 ≤ next ∧ next < n ∧ freeN n m out next.toNat = true)

theorem pick_ok {out : List Int} {next : Int} (hp : Picked n m out next) {i : Nat} (hi : i < n) : Picked n m out (pickN n m out next i) := by
  unfold pickN
  split
  · rename_i h
    rw [Bool.and_eq_true] at h
    exact .inr ⟨by omega, by omega, by rw [Int.toNat_natCast]; exact h.1⟩
  · exact hp

theorem sort_p2 (h : MatB n m) {placed : List (Int × Bool)} {out : List Int} (hp : ∀ i : Int, mGet (.int .i64) placed i false = decide (i ∈ out)) (k1 : zqwj β) (t22 t23 : Int) (r : List Host) (r2 : List Sync) (r3 : List Event) (hr : r3.length = n) (r4 : List Link) :
    zqx9 k1 m (-1) t22 t23 (n : Int) 0 r r2 r3 r4 placed out = k1 m (nextN n m out) t22 t23 r r2 r3 r4 placed out := by
  have hs := h.small
  have key := range_fold' n (fun _ s => Picked n m out s) (fun f j (s : Int) => zqx7 f k1 m s t22 t23 (n : Int) j r r2 r3 r4 placed out)
    (pickN n m out) (fun s => k1 m s t22 t23 r r2 r3 r4 placed out) (-1) fuel (lt_fuel (by omega)) (.inl rfl) (fun i s hi hs => pick_ok hs hi)
    (fun f j s hj hs' => by
      have e1 : IntKind.i64.wrap ((j : Int) + 1) = j + 1 := i64_in _ (by omega)
      rw [zqx8]
      unfold zqwu
      refine (c_pos (by omega)).trans ?_
      have hg := hp (j : Int)
      rw [hg, hr]
      refine (sort_p1 h hp _ _ hj _ _ _ _ _ _ _ _ _).trans ?_
      have hf : (!decide ((j : Int) ∈ out) && (List.range n).all fun k => decide ((k : Int) ∈ out) || !bef m k j) = freeN n m out j := rfl
      rw [hf]
      unfold pickN
      simp only [e1]
      cases freeN n m out j with
      | false => rfl
      | true =>
        refine c_t.trans ?_
        by_cases hn : s < 0
        · refine (c_pos hn).trans ?_
          rw [decide_eq_true hn]
          rfl
        · refine (c_neg hn).trans ?_
          rw [decide_eq_false hn]
          have hb : s = ((s.toNat : Nat) : Int) := by omega
          have hlt : s.toNat < n := by
            rcases hs' with h0 | h0
            · omega
            · omega
          have he := earlier_eq (β := β) h hj hlt
          rw [← hb] at he
          refine (he _).trans ?_
          cases earlyN m j s.toNat <;> rfl)
    (fun f s _ => by
      rw [zqx8]
      unfold zqwu
      exact c_neg (by omega))
  unfold zqx9
  rw [key]
  rfl

theorem sort_p3 (h : MatB n m) (k1 : zqwn β) (r : List Host) (r2 : List Sync) (r3 : List Event) (hr : r3.length = n) (r4 : List Link) : ∀ (c i f : Nat) (placed : List (Int × Bool)) (out : List Int), i + c = n → c < f → out.length + c ≤ 1000 →
    (∀ i : Int, mGet (.int .i64) placed i false = decide (i ∈ out)) → zqxb f k1 m (n : Int) (i : Int) r r2 r3 r4 placed out = k1 (sortN n m c out)
  | 0, i, f + 1, placed, out, hi, hf, ho, hp => by
    rw [zqxc]
    unfold zqwx
    exact c_neg (by omega)
  | c + 1, i, f + 1, placed, out, hi, hf, ho, hp => by
    have hs := h.small
    have e1 : IntKind.i64.wrap ((i : Int) + 1) = ((i + 1 : Nat) : Int) := i64_in _ (by omega)
    rw [zqxc]
    unfold zqwx
    refine (c_pos (by omega)).trans ?_
    rw [hr]
    refine (sort_p2 h hp _ _ _ _ _ _ hr _).trans ?_
    refine (c_room (by simp only [List.length_cons, List.length_nil]; omega)).trans ?_
    simp only [e1]
    refine sort_p3 h k1 r r2 r3 hr r4 c (i + 1) f _ _ (by omega) (by omega) (by simp only [List.length_append, List.length_cons, List.length_nil]; omega) (fun j => ?_)
    rw [mGet_mPut, hp]
    by_cases hj : nextN n m out = j
    · rw [if_pos hj]
      simp [hj]
    · have hj' : ¬ j = nextN n m out := fun h => hj h.symm
      rw [if_neg hj]
      simp [hj']
  | _, _, 0, _, _, _, hf, _, _ => absurd hf (by omega)

theorem Sort_eq {r : Rec} (he : closedW r = some m) (h : MatB (nE r) m) (k : Bool → List Int → Option β) : zqxf r k = k true (sortN (nE r) m (nE r) []) := by
  have hs := h.small
  unfold zqxf zqx0
  refine (closed_eq hs _).trans ?_
  rw [he]
  simp only [Bool.not_true, cond_false]
  unfold zqxd
  exact sort_p3 h _ _ _ _ rfl _ (nE r) 0 fuel [] [] (by omega) (lt_fuel (by omega)) (by simp; omega) (fun i => by simp [mGet])
end

/-! ### What is allowed -/
theorem length_le_of_subset : ∀ (l l' : List Int), l.Nodup → (∀ x ∈ l, x ∈ l') → l.length ≤ l'.length
  | [], _, _, _ => by simp
  | x :: l, l', hn, h => by
    rw [List.nodup_cons] at hn
    have hx := h x (by simp)
    have h1 := length_le_of_subset l (l'.erase x) hn.2 (fun y hy => by
      have hne : y ≠ x := fun e => hn.1 (e ▸ hy)
      exact (List.mem_erase_of_ne hne).2 (h y (by simp [hy])))
    rw [List.length_erase_of_mem hx] at h1
    have : 0 < l'.length := List.length_pos_of_mem hx
    simp only [List.length_cons]
    omega

/-- A number that is not in a short list. -/
theorem exists_out {n : Nat} {out : List Int} (h : out.length < n) : ∃ i : Nat, i < n ∧ (i : Int) ∉ out := by
  refine Classical.byContradiction fun hc => ?_
  have h1 := length_le_of_subset ((List.range n).map fun (i : Nat) => (i : Int)) out ?_ (fun x hx => ?_)
  · simp at h1
    omega
  · exact List.pairwise_map.2 (List.nodup_range.imp (fun h e => h (by omega)))
  · simp only [List.mem_map, List.mem_range] at hx
    obtain ⟨i, hi, rfl⟩ := hx
    exact Classical.byContradiction fun hx => hc ⟨i, hi, hx⟩

/-- The first of the unplaced by some numbers. -/
theorem exists_min {n : Nat} {out : List Int} (x : Nat → Int) (h : out.length < n) : ∃ i : Nat, i < n ∧ (i : Int) ∉ out ∧ ∀ k : Nat, k < n → (k : Int) ∉ out → x i ≤ x k := by
  have key : ∀ c, (∃ i : Nat, i < c ∧ (i : Int) ∉ out) → ∃ i : Nat, i < c ∧ (i : Int) ∉ out ∧ ∀ k : Nat, k < c → (k : Int) ∉ out → x i ≤ x k := by
    intro c
    induction c with
    | zero => rintro ⟨i, hi, _⟩; omega
    | succ c ih =>
      rintro ⟨i, hi, ho⟩
      by_cases hc : ∃ i : Nat, i < c ∧ (i : Int) ∉ out
      · obtain ⟨j, h1, h2, h3⟩ := ih hc
        by_cases hcc : (c : Int) ∈ out
        · refine ⟨j, by omega, h2, fun k hk hko => ?_⟩
          by_cases e : k = c
          · subst e; exact absurd hcc hko
          · exact h3 k (by omega) hko
        · by_cases hx : x j ≤ x c
          · refine ⟨j, by omega, h2, fun k hk hko => ?_⟩
            by_cases e : k = c
            · subst e; exact hx
            · exact h3 k (by omega) hko
          · refine ⟨c, by omega, hcc, fun k hk hko => ?_⟩
            by_cases e : k = c
            · subst e; omega
            · have := h3 k (by omega) hko; omega
      · have e : i = c := by
          refine Classical.byContradiction fun hne => hc ⟨i, by omega, ho⟩
        subst e
        refine ⟨i, by omega, ho, fun k hk hko => ?_⟩
        by_cases e : k = i
        · subst e; omega
        · exact absurd ⟨k, by omega, hko⟩ hc
  exact key n (exists_out h)

theorem fold_picked {n : Nat} {m : Mat} {out : List Int} : ∀ (l : List Nat) (s : Int), (∀ i ∈ l, i < n) → Picked n m out s → Picked n m out (l.foldl (pickN n m out) s) ∧ ((0 ≤ s ∨ ∃ i ∈ l, freeN n m out i = true) → 0 ≤ l.foldl (pickN n m out) s)
  | [], s, _, hs => ⟨hs, fun h => by
    rcases h with h | ⟨i, hi, _⟩
    · exact h
    · cases hi⟩
  | x :: l, s, hl, hs => by
    have hx : x < n := hl x (by simp)
    have ih := fold_picked l (pickN n m out s x) (fun i hi => hl i (by simp [hi])) (pick_ok hs hx)
    refine ⟨ih.1, fun h => ih.2 ?_⟩
    by_cases hp : 0 ≤ pickN n m out s x
    · exact .inl hp
    · have hneg : s < 0 := by
        unfold pickN at hp
        split at hp <;> omega
      have hfx : freeN n m out x = false := by
        cases hf : freeN n m out x with
        | false => rfl
        | true =>
          unfold pickN at hp
          rw [hf, decide_eq_true hneg] at hp
          simp at hp
      rcases h with h | ⟨i, hi, hf⟩
      · omega
      · rcases List.mem_cons.1 hi with rfl | hi
        · rw [hfx] at hf; cases hf
        · exact .inr ⟨i, hi, hf⟩

theorem ClosedR.next {r : Rec} {m : Mat} (hm : ClosedR r m) {out : List Int} (hl : out.length < nE r) : 0 ≤ nextN (nE r) m out ∧ nextN (nE r) m out < nE r ∧ freeN (nE r) m out (nextN (nE r) m out).toNat = true := by
  obtain ⟨i, hi, ho, hmin⟩ := exists_min (fun i => at2 m 0 (i + 1)) hl
  have hf : freeN (nE r) m out i = true := by
    unfold freeN
    rw [decide_eq_false ho, Bool.not_false, Bool.true_and, List.all_eq_true]
    intro k hk
    have hk := List.mem_range.1 hk
    by_cases hko : (k : Int) ∈ out
    · rw [decide_eq_true hko]; rfl
    · cases hb : Go.Lift.bef m k i with
      | false => simp
      | true =>
        have h1 := (hm.bef hk hi).1 hb _ (hm.row (i := 0) (by omega))
        have h2 := hmin k hk hko
        omega
  have h := fold_picked (m := m) (out := out) (List.range (nE r)) (-1) (fun i hi => List.mem_range.1 hi) (.inl rfl)
  have h0 := h.2 (.inr ⟨i, List.mem_range.2 hi, hf⟩)
  unfold nextN
  rcases h.1 with h1 | ⟨h1, h2, h3⟩
  · rw [h1] at h0; omega
  · exact ⟨h1, h2, h3⟩

end
end Go.Lift

/- The reference of the chapter 40 in plain Lean. -/
namespace Go.Lift
open Go.RowKit Go.IntWalk
noncomputable section
set_option linter.unusedVariables false
set_option linter.unusedSimpArgs false
set_option maxRecDepth 10000

theorem pairsI_range' {r : Rec} {i : Nat} (hi : i < nE r) : pairsI r (nE r) i = (List.range' (i + 1) (nE r - (i + 1))).flatMap (pairIf r i) := by
  unfold pairsI
  have e : ∀ n, i < n → (List.range n).filter (fun j => decide (i < j)) = List.range' (i + 1) (n - (i + 1)) := by
    intro n
    induction n with
    | zero => intro h; omega
    | succ n ihn =>
      intro h
      rw [List.range_succ, List.filter_append]
      by_cases hin : i < n
      · rw [ihn hin]
        have : n + 1 - (i + 1) = (n - (i + 1)) + 1 := by omega
        rw [this, List.range'_concat]
        simp only [List.filter_cons, List.filter_nil, decide_eq_true hin, if_true]
        congr 2
        omega
      · have hin' : n = i := by omega
        subst hin'
        have : (List.range n).filter (fun j => decide (n < j)) = [] := by
          rw [List.filter_eq_nil_iff]
          intro a ha
          simp only [List.mem_range] at ha
          simp only [decide_eq_true_eq]
          omega
        rw [this]
        simp
  rw [e _ hi]

section
variable {β : Type}
theorem rcons_p1 (k1 : zqk6 β) (k2 : zqk7 β) {r : Rec} (hv : valid r = true) :
    zqlb k1 k2 0 r.1 r.2.1 r.2.2.1 r.2.2.2 [] = cond (whensOk r) (k2 r.1 r.2.1 r.2.2.1 r.2.2.2 ((List.range (nE r)).flatMap (evD r))) (k1 false []) := by
  have hb := valid_bd hv
  have key := range_check (nE r) (fun i (s : List Diff) => s.length ≤ 2 * i) (fun f j s => zql9 f k1 k2 j r.1 r.2.1 r.2.2.1 r.2.2.2 s) (fun i => (whenAt r i).2)
    (fun s i => s ++ evD r i) (k1 false []) (fun s => k2 r.1 r.2.1 r.2.2.1 r.2.2.2 s) [] fuel (lt_fuel (by unfold nE; omega)) (by simp)
    (fun i s hi hs _ => by simp only [List.length_append, evD, List.length_cons, List.length_nil]; omega)
    (fun f i s hi hs => by
      unfold nE at hi
      have e1 : IntKind.i64.wrap ((i : Int) + 1) = i + 1 := i64_in _ (by omega)
      rw [zqla]
      unfold zqkr
      refine (c_pos (by omega)).trans ?_
      refine (c_inb (by omega)).trans ?_
      refine (c_inb (by omega)).trans ?_
      simp only [Int.toNat_natCast, e1]
      refine (ref38_When_eq _ _ _ _).trans ?_
      have hw : when? (r.1, r.2.1, r.2.2.1, r.2.2.2) (r.2.2.1.getD i (0, 0, [])).1 (r.2.2.1.getD i (0, 0, [])).2.1 = whenAt r i := rfl
      rw [hw]
      cases hk : (whenAt r i).2 with
      | false => rfl
      | true =>
        have hbd := whenAt_bd hk
        have e2 : IntKind.i64.wrap (0 - (whenAt r i).1.1) = -(whenAt r i).1.1 := (i64_in _ (by omega)).trans (by omega)
        simp only [Bool.not_true, cond_false, cond_true, e2]
        refine (c_room (by simp only [List.length_cons, List.length_nil]; omega)).trans ?_
        rfl)
    (fun f s hs => by
      rw [zqla]
      unfold zqkr
      exact c_neg (by unfold nE; omega))
  unfold zqlb
  rw [key, foldl_flat]
  rfl

theorem rcons_p2 (k1 : zqkb β) {r : Rec} {x d a b : Int} (hx : 0 ≤ x ∧ x < r.1.length) (i j : Int) (out : List Diff) (ho : out.length ≤ 100000) (x2 : Int) (x3 : List UInt8) :
    zqld k1 i j a b d r.1 r.2.1 r.2.2.1 r.2.2.2 out x x2 x3 = k1 i j r.1 r.2.1 r.2.2.1 r.2.2.2 (out ++ [(a, (b, (elapsed (driftAt r x) d).2)), (b, (a, -(elapsed (driftAt r x) d).1))]) := by
  unfold zqld zqkv zqku
  refine (c_inb hx).trans ?_
  refine (ref38_Elapsed_eq _ _ _).trans ?_
  have := @elapsed_bd (driftAt r x) d
  have e4 : IntKind.i64.wrap (0 - (elapsed (driftAt r x) d).1) = -(elapsed (driftAt r x) d).1 := (i64_in _ (by omega)).trans (by omega)
  unfold driftAt at e4 ⊢
  simp only [e4]
  exact c_room (by simp only [List.length_cons, List.length_nil]; omega)

theorem rcons_p3 (k1 : zqkf β) {r : Rec} (hv : valid r = true) {i : Nat} (hi : i < nE r) (out : List Diff) (ho : out.length ≤ 4000) :
    zqlh k1 (i : Int) ((i : Int) + 1) r.1 r.2.1 r.2.2.1 r.2.2.2 out = k1 (i : Int) r.1 r.2.1 r.2.2.1 r.2.2.2 (out ++ pairsI r (nE r) i) := by
  have hb := valid_bd hv
  have key : ∀ (c j f : Nat) (s : List Diff), j + c = nE r → i < j → c < f → s.length + 2 * c ≤ 100000 →
      zqlf f k1 (i : Int) (j : Int) r.1 r.2.1 r.2.2.1 r.2.2.2 s = k1 (i : Int) r.1 r.2.1 r.2.2.1 r.2.2.2 (s ++ (List.range' j c).flatMap (pairIf r i)) := by
    intro c
    induction c with
    | zero =>
      intro j f s hj hij hf hs
      obtain ⟨f, rfl⟩ : ∃ m, f = m + 1 := ⟨f - 1, by omega⟩
      rw [zqlg]
      unfold zqkx
      unfold nE at hj
      refine (c_neg (by omega)).trans ?_
      simp
    | succ c ih =>
      intro j f s hj hij hf hs
      obtain ⟨f, rfl⟩ : ∃ m, f = m + 1 := ⟨f - 1, by omega⟩
      have hj' : j < nE r := by omega
      have hin : (i : Int) < (r.2.2.1.length : Int) := by unfold nE at hi; omega
      have hjn : (j : Int) < (r.2.2.1.length : Int) := by unfold nE at hj'; omega
      have e0 : IntKind.i64.wrap ((i : Int) + 1) = (i : Int) + 1 := i64_in _ (by unfold nE at hi; omega)
      have e1 : IntKind.i64.wrap ((j : Int) + 1) = (j : Int) + 1 := i64_in _ (by unfold nE at hj'; omega)
      have e1' : ((j + 1 : Nat) : Int) = (j : Int) + 1 := by omega
      have b1 := valid_ev hv hi
      have b2 := valid_ev hv hj'
      rw [zqlg]
      unfold zqkx
      refine (c_pos hjn).trans ?_
      refine (c_inb (by omega)).trans ?_
      refine (c_inb (by omega)).trans ?_
      unfold evAt at b1 b2
      have e2 : IntKind.i64.wrap ((r.2.2.1.getD j ((0 : Int), ((0 : Int), ([] : List UInt8)))).2.1 - (r.2.2.1.getD i ((0 : Int), ((0 : Int), ([] : List UInt8)))).2.1) = (r.2.2.1.getD j ((0 : Int), ((0 : Int), ([] : List UInt8)))).2.1 - (r.2.2.1.getD i ((0 : Int), ((0 : Int), ([] : List UInt8)))).2.1 := i64_in _ (by omega)
      have e3 : IntKind.i64.wrap (0 - ((r.2.2.1.getD j ((0 : Int), ((0 : Int), ([] : List UInt8)))).2.1 - (r.2.2.1.getD i ((0 : Int), ((0 : Int), ([] : List UInt8)))).2.1)) = (r.2.2.1.getD i ((0 : Int), ((0 : Int), ([] : List UInt8)))).2.1 - (r.2.2.1.getD j ((0 : Int), ((0 : Int), ([] : List UInt8)))).2.1 := (i64_in _ (by omega)).trans (by omega)
      simp only [Int.toNat_natCast, e0, e1, e2, e3]
      rw [List.range'_succ, List.flatMap_cons]
      have hpi : pairIf r i j = if (evAt r j).1 = (evAt r i).1 then pairD r i j else [] := rfl
      have hp : (pairD r i j).length = 2 := by unfold pairD; split <;> rfl
      rw [hpi]
      by_cases hh : (r.2.2.1.getD i ((0 : Int), ((0 : Int), ([] : List UInt8)))).1 = (r.2.2.1.getD j ((0 : Int), ((0 : Int), ([] : List UInt8)))).1
      · refine (c_npos hh).trans ?_
        rw [if_pos (show (evAt r j).1 = (evAt r i).1 from hh.symm)]
        have fin : zqlf f k1 (i : Int) ((j : Int) + 1) r.1 r.2.1 r.2.2.1 r.2.2.2 (s ++ pairD r i j) = k1 (i : Int) r.1 r.2.1 r.2.2.1 r.2.2.2 (s ++ (pairD r i j ++ (List.range' (j + 1) c).flatMap (pairIf r i))) := by
          rw [← e1', ih (j + 1) f _ (by omega) (by omega) (by omega) (by rw [List.length_append]; omega), List.append_assoc]
        by_cases hc : (r.2.2.1.getD j ((0 : Int), ((0 : Int), ([] : List UInt8)))).2.1 < (r.2.2.1.getD i ((0 : Int), ((0 : Int), ([] : List UInt8)))).2.1
        · refine (c_pos (by omega)).trans ?_
          refine (rcons_p2 _ (by omega) _ _ s (by omega) _ _).trans ?_
          rw [← fin]
          simp only [e1]
          unfold pairD evAt
          rw [if_pos hc, hh]
        · refine (c_neg (by omega)).trans ?_
          refine (rcons_p2 _ (by omega) _ _ s (by omega) _ _).trans ?_
          rw [← fin]
          simp only [e1]
          unfold pairD evAt
          rw [if_neg hc]
      · refine (c_nneg hh).trans ?_
        rw [if_neg (show ¬ (evAt r j).1 = (evAt r i).1 from fun e => hh e.symm), List.nil_append, ← e1']
        exact ih (j + 1) f _ (by omega) (by omega) (by omega) (by omega)
  unfold zqlh
  have h1 := key (nE r - (i + 1)) (i + 1) fuel out (by omega) (by omega) (lt_fuel (by unfold nE at *; omega)) (by unfold nE at *; omega)
  rw [show ((i : Int) + 1) = ((i + 1 : Nat) : Int) by omega, h1]
  rw [pairsI_range' hi]

theorem rcons_p4 (k1 : zqkj β) {r : Rec} (hv : valid r = true) (out : List Diff) (ho : out.length ≤ 80) :
    zqll k1 0 r.1 r.2.1 r.2.2.1 r.2.2.2 out = k1 r.1 r.2.1 r.2.2.1 r.2.2.2 (out ++ (List.range (nE r)).flatMap (pairsI r (nE r))) := by
  have hb := valid_bd hv
  have h2 : ∀ i, (pairsI r (nE r) i).length ≤ 80 := fun i => by
    have h3 := flat_len (pairIf r i) 2 ((List.range (nE r)).filter fun j => decide (i < j)) (fun j _ => by
      unfold pairIf pairD
      split
      · split <;> simp
      · simp)
    have h4 := List.length_filter_le (fun j => decide (i < j)) (List.range (nE r))
    rw [List.length_range] at h4
    unfold pairsI nE at *
    omega
  have key := range_fold' (nE r) (fun i (s : List Diff) => s.length ≤ 80 + 80 * i) (fun f j s => zqlj f k1 j r.1 r.2.1 r.2.2.1 r.2.2.2 s)
    (fun s i => s ++ pairsI r (nE r) i) (fun s => k1 r.1 r.2.1 r.2.2.1 r.2.2.2 s) out fuel (lt_fuel (by unfold nE; omega)) (by omega)
    (fun i s hi hs => by have := h2 i; rw [List.length_append]; omega)
    (fun f i s hi hs => by
      have hi' := hi
      unfold nE at hi'
      have e1 : IntKind.i64.wrap ((i : Int) + 1) = i + 1 := i64_in _ (by omega)
      rw [zqlk]
      unfold zql0
      simp only [e1]
      refine (c_pos (by omega)).trans ?_
      refine (rcons_p3 _ hv hi s (by omega)).trans ?_
      simp only [e1])
    (fun f s hs => by
      rw [zqlk]
      unfold zql0
      exact c_neg (by unfold nE; omega))
  unfold zqll
  rw [key, foldl_flat]

theorem rcons_p5 (k1 : zqkn β) {r : Rec} (hv : valid r = true) (out : List Diff) (ho : out.length ≤ 10000) :
    zqlp k1 0 r.1 r.2.1 r.2.2.1 r.2.2.2 out = k1 (out ++ r.2.2.2.map linkD) := by
  have hb := valid_bd hv
  have hp := valid_parts hv
  have key := fold_loopI (fun i (s : List Diff) => s.length ≤ 10000 + i) (fun f j s => zqln f k1 j r.1 r.2.1 r.2.2.1 r.2.2.2 s)
    (fun s x => s ++ [linkD x]) (fun s => k1 s) ((0 : Int), ((0 : Int), (0 : Int))) r.2.2.2 out fuel (lt_fuel (by omega)) (by omega)
    (fun i s hi hs => by simp only [List.length_append, List.length_cons, List.length_nil]; omega)
    (fun f i s hi hs => by
      have e1 : IntKind.i64.wrap ((i : Int) + 1) = i + 1 := i64_in _ (by omega)
      have hx := hp.2.2.2 _ (getD_mem (d := ((0 : Int), ((0 : Int), (0 : Int)))) hi)
      unfold nE at hx
      have e2 : IntKind.i64.wrap ((r.2.2.2.getD i (0, 0, 0)).2.1 + 1) = (r.2.2.2.getD i (0, 0, 0)).2.1 + 1 := i64_in _ (by omega)
      have e3 : IntKind.i64.wrap ((r.2.2.2.getD i (0, 0, 0)).1 + 1) = (r.2.2.2.getD i (0, 0, 0)).1 + 1 := i64_in _ (by omega)
      have e4 : IntKind.i64.wrap (0 - (r.2.2.2.getD i (0, 0, 0)).2.2) = -(r.2.2.2.getD i (0, 0, 0)).2.2 := (i64_in _ (by omega)).trans (by omega)
      rw [zqlo]
      unfold zql3
      refine (c_pos (by omega)).trans ?_
      refine (c_inb (by omega)).trans ?_
      refine (c_inb (by omega)).trans ?_
      refine (c_inb (by omega)).trans ?_
      simp only [Int.toNat_natCast, e1, e2, e3, e4]
      refine (c_room (by simp only [List.length_cons, List.length_nil]; omega)).trans ?_
      rfl)
    (fun f s hs => by
      rw [zqlo]
      unfold zql3
      exact c_neg (by omega))
  unfold zqlp
  rw [key]
  have : ∀ (l : List Link) (s : List Diff), l.foldl (fun s x => s ++ [linkD x]) s = s ++ l.map linkD := by
    intro l
    induction l with
    | nil => intro s; simp
    | cons x l ih => intro s; simp only [List.foldl_cons, List.map_cons]; rw [ih, List.append_assoc]; rfl
  rw [this]

theorem rConstraints_eq (r : Rec) (k : Bool → List Diff → Option β) : zqlr r k = (match consW r with | some l => k true l | none => k false []) := by
  unfold zqlr zql6
  refine (ref38_Valid_eq _ _).trans ?_
  unfold consW
  cases hv : valid r with
  | false => rfl
  | true =>
    have hb := valid_bd hv
    refine c_nt.trans ?_
    rw [Bool.true_and]
    refine (rcons_p1 _ _ hv).trans ?_
    cases hw : whensOk r with
    | false => rfl
    | true =>
      refine c_t.trans ?_
      rw [if_pos rfl]
      have h1 := flat_len (evD r) 2 (List.range (nE r)) (fun i _ => by simp [evD])
      rw [List.length_range] at h1
      have h2 := cons_len hv
      unfold consL at h2 ⊢
      rw [List.length_append, List.length_map] at h2
      refine (rcons_p4 _ hv _ (by unfold nE at *; omega)).trans ?_
      exact rcons_p5 _ hv _ (by omega)

theorem cons_noSelf {r : Rec} (hv : valid r = true) : noSelf (consL r) := by
  intro d hd
  have hp := valid_parts hv
  rcases mem_cons.1 hd with ⟨i, hi, hd⟩ | ⟨i, j, hij, hj, hh, hd⟩ | ⟨l, hl, rfl⟩
  · simp only [evD, List.mem_cons, List.not_mem_nil, or_false] at hd
    rcases hd with rfl | rfl <;> simp only <;> omega
  · unfold pairD at hd
    split at hd <;> simp only [List.mem_cons, List.not_mem_nil, or_false] at hd <;> rcases hd with rfl | rfl <;> simp only <;> omega
  · have := hp.2.2.2 l hl
    simp only [linkD]
    omega

theorem rclosed_eq (r : Rec) (k : Mat → Bool → Option β) : zqmg r k = (match closedW r with | some m => k m true | none => k [] false) := by
  unfold zqmg zqmd
  refine (rConstraints_eq _ _).trans ?_
  unfold closedW
  cases hc : consW r with
  | none => rfl
  | some l =>
    simp only [Bool.not_true, cond_false]
    have hc' := hc
    unfold consW at hc'
    by_cases hh : (valid r && whensOk r) = true
    · rw [if_pos hh] at hc'
      rw [Bool.and_eq_true] at hh
      cases hc'
      have := valid_bd hh.1
      have e1 : IntKind.i64.wrap ((r.2.2.1.length : Int) + 1) = ((nE r + 1 : Nat) : Int) := i64_in _ (by omega)
      rw [e1]
      exact ref39_Close_eq (by omega) (by unfold nE; omega) (cons_noSelf hh.1) _
    · rw [if_neg hh] at hc'
      cases hc'

/-- All that the functions of the order need of the matrix. -/
theorem closed_matB {r : Rec} {m : Mat} (e : closedW r = some m) : MatB (nE r) m := by
  have h := closed_ok' e
  have hn : nE r ≤ 40 := (valid_bd h.valid).2.2.1
  exact ⟨h.ok.sq, by omega, fun i j hi hj => by have := h.ok.lo i j hi hj; have := h.ok.hi i j hi hj; omega⟩

theorem closedR_small {r : Rec} {m : Mat} (e : closedW r = some m) : nE r ≤ 40 := (valid_bd (closed_ok' e).valid).2.2.1

theorem rConsistent_eq (r : Rec) (k : Bool → Option β) : zqom r k = k (closedW r).isSome := by
  unfold zqom zqoj
  refine (rclosed_eq _ _).trans ?_
  cases closedW r <;> rfl

theorem rcompare_eq {n : Nat} {m : Mat} (h : MatB n m) {a b : Nat} (ha : a < n) (hb : b < n) (k : Int → Option β) : zq3z m (a : Int) (b : Int) k = k (cmpN m a b) := by
  have hs := h.small
  have e1 : IntKind.i64.wrap ((a : Int) + 1) = ((a + 1 : Nat) : Int) := i64_in _ (by omega)
  have e2 : IntKind.i64.wrap ((b : Int) + 1) = ((b + 1 : Nat) : Int) := i64_in _ (by omega)
  have l0 := h.sq.len
  have l1 := h.sq.row (b + 1) (by omega)
  have l2 := h.sq.row (a + 1) (by omega)
  unfold zq3z zq3w
  simp only [e1, e2, Int.toNat_natCast]
  refine (c_inb (by omega)).trans ?_
  refine (c_inb (by omega)).trans ?_
  unfold cmpN bef
  by_cases h1 : at2 m (b + 1) (a + 1) ≤ -1
  · refine (c_pos (p := (m.getD (b + 1) []).getD (a + 1) 0 ≤ -1) h1).trans ?_
    rw [decide_eq_true h1]
    rfl
  · refine (c_neg (p := (m.getD (b + 1) []).getD (a + 1) 0 ≤ -1) h1).trans ?_
    refine (c_inb (by omega)).trans ?_
    refine (c_inb (by omega)).trans ?_
    rw [decide_eq_false h1]
    by_cases h2 : at2 m (a + 1) (b + 1) ≤ -1
    · refine (c_pos (p := (m.getD (a + 1) []).getD (b + 1) 0 ≤ -1) h2).trans ?_
      rw [decide_eq_true h2]
      rfl
    · refine (c_neg (p := (m.getD (a + 1) []).getD (b + 1) 0 ≤ -1) h2).trans ?_
      rw [decide_eq_false h2]
      rfl

theorem rWhen_eq (r : Rec) (k : Bool → List (Int × Int) → Option β) : zqp4 r k = (match closedW r with | some m => k true (whensN (nE r) m) | none => k false []) := by
  unfold zqp4 zqox
  refine (rclosed_eq _ _).trans ?_
  cases he : closedW r with
  | none => rfl
  | some m =>
    have h := closed_matB he
    have hs := h.small
    simp only [Bool.not_true, cond_false]
    have key := range_fold' (nE r) (fun i (s : List (Int × Int)) => s.length ≤ i) (fun f j s => zqp0 f (fun out => k true out) m j r.1 r.2.1 r.2.2.1 r.2.2.2 s)
      (fun s i => s ++ [rangeN m i]) (fun s => k true s) [] fuel (lt_fuel (by omega)) (by simp)
      (fun i s hi hs => by simp only [List.length_append, List.length_cons, List.length_nil]; omega)
      (fun f i s hi hs' => by
        have hi' := hi
        unfold nE at hi'
        have e1 : IntKind.i64.wrap ((i : Int) + 1) = ((i + 1 : Nat) : Int) := i64_in _ (by omega)
        have e0 : ((i + 1 : Nat) : Int) = (i : Int) + 1 := by omega
        have l0 := h.sq.len
        have l1 := h.sq.row (i + 1) (by omega)
        have l2 := h.sq.row 0 (by omega)
        have hb := h.bd (i + 1) 0 (by omega) (by omega)
        have e2 : IntKind.i64.wrap (0 - at2 m (i + 1) 0) = -at2 m (i + 1) 0 := (i64_in _ (by omega)).trans (by omega)
        unfold at2 at e2
        rw [zqp1]
        unfold zqou
        simp only [e1, Int.toNat_natCast, Int.toNat_zero, e2]
        refine (c_pos (by omega)).trans ?_
        refine (c_inb (by omega)).trans ?_
        refine (c_inb (by omega)).trans ?_
        refine (c_inb (by omega)).trans ?_
        refine (c_inb (by omega)).trans ?_
        refine (c_room (by simp only [List.length_cons, List.length_nil]; omega)).trans ?_
        rw [e0]
        rfl)
      (fun f s hs => by
        rw [zqp1]
        unfold zqou
        exact c_neg (by unfold nE; omega))
    unfold zqp2
    rw [key]
    have : ∀ (l : List Nat) (s : List (Int × Int)), l.foldl (fun s i => s ++ [rangeN m i]) s = s ++ l.map (rangeN m) := by
      intro l
      induction l with
      | nil => intro s; simp
      | cons x l ih => intro s; simp only [List.foldl_cons, List.map_cons]; rw [ih, List.append_assoc]; rfl
    rw [this]
    rfl

/-- Compare and Gap at any two numbers. -/
def cmpG (r : Rec) (a b : Int) : Int × Bool := match closedW r with
  | some m => if inN a 0 ((nE r : Int) - 1) && inN b 0 ((nE r : Int) - 1) then (cmpN m a.toNat b.toNat, true) else (0, false)
  | none => (0, false)
def gapG (r : Rec) (a b : Int) : (Int × Int) × Bool := match closedW r with
  | some m => if inN a 0 ((nE r : Int) - 1) && inN b 0 ((nE r : Int) - 1) then (gapN m a.toNat b.toNat, true) else ((0, 0), false)
  | none => ((0, 0), false)

theorem Compare_gen (r : Rec) (hE : nE r ≤ 100) (a b : Int) (k : Int → Bool → Option β) : zqym r a b k = k (cmpG r a b).1 (cmpG r a b).2 := by
  unfold cmpG
  cases he : closedW r with
  | none => exact Compare_none he hE a b k
  | some m =>
    simp only []
    cases hin : inN a 0 ((nE r : Int) - 1) && inN b 0 ((nE r : Int) - 1) with
    | true =>
      rw [if_pos rfl]
      rw [Bool.and_eq_true, inN_iff, inN_iff] at hin
      have := Compare_eq (β := β) he (closed_matB he) (a := a.toNat) (b := b.toNat) (by omega) (by omega) k
      rw [show ((a.toNat : Nat) : Int) = a by omega, show ((b.toNat : Nat) : Int) = b by omega] at this
      exact this
    | false =>
      rw [if_neg (by simp)]
      unfold zqym zqyj
      refine (both_eq hE _ _ _).trans ?_
      rw [he]
      simp only []
      rw [hin]
      rfl

theorem Gap_gen (r : Rec) (hE : nE r ≤ 100) (a b : Int) (k : Int × Int → Bool → Option β) : zqyf r a b k = k (gapG r a b).1 (gapG r a b).2 := by
  unfold gapG
  cases he : closedW r with
  | none =>
    unfold zqyf zqyc
    refine (both_eq hE _ _ _).trans ?_
    rw [he]
    rfl
  | some m =>
    simp only []
    cases hin : inN a 0 ((nE r : Int) - 1) && inN b 0 ((nE r : Int) - 1) with
    | true =>
      rw [if_pos rfl]
      rw [Bool.and_eq_true, inN_iff, inN_iff] at hin
      have := Gap_eq (β := β) he (closed_matB he) (a := a.toNat) (b := b.toNat) (by omega) (by omega) k
      rw [show ((a.toNat : Nat) : Int) = a by omega, show ((b.toNat : Nat) : Int) = b by omega] at this
      exact this
    | false =>
      rw [if_neg (by simp)]
      unfold zqyf zqyc
      refine (both_eq hE _ _ _).trans ?_
      rw [he]
      simp only []
      rw [hin]
      rfl

theorem rCompare_gen (r : Rec) (a b : Int) (k : Int → Bool → Option β) : zqrf r a b k = k (cmpG r a b).1 (cmpG r a b).2 := by
  unfold zqrf zqrc
  refine (rclosed_eq _ _).trans ?_
  unfold cmpG
  cases he : closedW r with
  | none => rfl
  | some m =>
    have hn := closedR_small he
    have e1 : IntKind.i64.wrap ((r.2.2.1.length : Int) - 1) = (nE r : Int) - 1 := i64_in _ (by unfold nE at hn; omega)
    simp only [Bool.not_true, cond_false, e1]
    refine (ref25_In_eq _ _ _ _).trans ?_
    cases ha : inN a 0 ((nE r : Int) - 1) with
    | false => rfl
    | true =>
      refine c_nt.trans ?_
      refine (ref25_In_eq _ _ _ _).trans ?_
      cases hb : inN b 0 ((nE r : Int) - 1) with
      | false => rfl
      | true =>
        refine c_nt.trans ?_
        rw [inN_iff] at ha hb
        have := rcompare_eq (β := β) (closed_matB he) (a := a.toNat) (b := b.toNat) (by omega) (by omega)
        rw [show ((a.toNat : Nat) : Int) = a by omega, show ((b.toNat : Nat) : Int) = b by omega] at this
        exact this _

theorem rGap_gen (r : Rec) (a b : Int) (k : Int × Int → Bool → Option β) : zqr8 r a b k = k (gapG r a b).1 (gapG r a b).2 := by
  unfold zqr8 zqr5
  refine (rclosed_eq _ _).trans ?_
  unfold gapG
  cases he : closedW r with
  | none => rfl
  | some m =>
    have hn := closedR_small he
    have e1 : IntKind.i64.wrap ((r.2.2.1.length : Int) - 1) = (nE r : Int) - 1 := i64_in _ (by unfold nE at hn; omega)
    simp only [Bool.not_true, cond_false, e1]
    refine (ref25_In_eq _ _ _ _).trans ?_
    cases ha : inN a 0 ((nE r : Int) - 1) with
    | false => rfl
    | true =>
      refine c_nt.trans ?_
      refine (ref25_In_eq _ _ _ _).trans ?_
      cases hb : inN b 0 ((nE r : Int) - 1) with
      | false => rfl
      | true =>
        refine c_nt.trans ?_
        rw [inN_iff] at ha hb
        obtain ⟨a, rfl⟩ : ∃ a' : Nat, a = a' := ⟨a.toNat, by omega⟩
        obtain ⟨b, rfl⟩ : ∃ a' : Nat, b = a' := ⟨b.toNat, by omega⟩
        have h := closed_matB he
        have f1 : IntKind.i64.wrap ((a : Int) + 1) = ((a + 1 : Nat) : Int) := i64_in _ (by omega)
        have f2 : IntKind.i64.wrap ((b : Int) + 1) = ((b + 1 : Nat) : Int) := i64_in _ (by omega)
        have l0 := h.sq.len
        have l1 := h.sq.row (b + 1) (by omega)
        have l2 := h.sq.row (a + 1) (by omega)
        have hbd := h.bd (b + 1) (a + 1) (by omega) (by omega)
        have e3 : IntKind.i64.wrap (0 - at2 m (b + 1) (a + 1)) = -at2 m (b + 1) (a + 1) := (i64_in _ (by omega)).trans (by omega)
        unfold at2 at e3
        simp only [f1, f2, Int.toNat_natCast, e3]
        refine (c_inb (by omega)).trans ?_
        refine (c_inb (by omega)).trans ?_
        refine (c_inb (by omega)).trans ?_
        refine (c_inb (by omega)).trans ?_
        rfl
end
end
end Go.Lift

/- The reference of the chapter 40 in plain Lean: lists, orders, times. -/
namespace Go.Lift
open Go.RowKit Go.IntWalk
noncomputable section
set_option linter.unusedVariables false
set_option linter.unusedSimpArgs false
set_option maxRecDepth 10000

section
variable {β : Type}
/-! ### Open -/
def openG (r : Rec) : List (Int × Int) := match closedW r with | some m => openW (nE r) m | none => []
theorem Open_gen (r : Rec) (hE : nE r ≤ 100) (k : List (Int × Int) → Option β) : zqy8 r k = k (openG r) := by
  unfold openG
  cases he : closedW r with
  | none => exact Open_none he hE k
  | some m => exact Open_eq he (closed_matB he) k

theorem ropen_p1 {n : Nat} {m : Mat} (h : MatB n m) (k1 : zqqc β) {a : Nat} (ha : a < n) (r : List Host) (r2 : List Sync) (r3 : List Event) (r4 : List Link) (hr : r3.length = n) (out : List (Int × Int)) (ho : out.length ≤ 100000) :
    zqqv k1 m true (a : Int) ((a : Int) + 1) r r2 r3 r4 out = k1 m true (a : Int) r r2 r3 r4 (out ++ openL n m a) := by
  have hs := h.small
  have key : ∀ (c b f : Nat) (s : List (Int × Int)), b + c = n → c < f → s.length + c ≤ 100100 →
      zqqt f k1 m true (a : Int) (b : Int) r r2 r3 r4 s = k1 m true (a : Int) r r2 r3 r4 (s ++ ((List.range' b c).filter fun b => opn m a b).map fun (b : Nat) => ((a : Int), (b : Int))) := by
    intro c
    induction c with
    | zero =>
      intro b f s hb hf hs'
      obtain ⟨f, rfl⟩ : ∃ m, f = m + 1 := ⟨f - 1, by omega⟩
      rw [zqqu]
      unfold zqqk
      refine (c_neg (by omega)).trans ?_
      simp
    | succ c ih =>
      intro b f s hb hf hs'
      obtain ⟨f, rfl⟩ : ∃ m, f = m + 1 := ⟨f - 1, by omega⟩
      have e1 : IntKind.i64.wrap ((b : Int) + 1) = ((b + 1 : Nat) : Int) := i64_in _ (by omega)
      rw [zqqu]
      unfold zqqk
      refine (c_pos (by omega)).trans ?_
      simp only [e1]
      refine (rcompare_eq h ha (by omega) _).trans ?_
      rw [List.range'_succ, List.filter_cons]
      have hz : decide (cmpN m a b = 0) = opn m a b := by
        unfold cmpN opn
        cases bef m a b <;> cases bef m b a <;> simp
      rw [hz]
      cases ho : opn m a b with
      | true =>
        simp only [cond_true, if_true, List.map_cons]
        refine (c_room (by simp only [List.length_cons, List.length_nil]; omega)).trans ?_
        refine (ih (b + 1) f _ (by omega) (by omega) (by simp only [List.length_append, List.length_cons, List.length_nil]; omega)).trans ?_
        rw [List.append_assoc]
        rfl
      | false => exact ih (b + 1) f _ (by omega) (by omega) (by omega)
  unfold zqqv
  have := key (n - (a + 1)) (a + 1) fuel out (by omega) (lt_fuel (by omega)) (by omega)
  rw [show ((a : Int) + 1) = ((a + 1 : Nat) : Int) by omega, this]
  rfl

theorem rOpen_gen (r : Rec) (k : List (Int × Int) → Option β) : zqr1 r k = k (openG r) := by
  unfold zqr1 zqqq
  refine (rclosed_eq _ _).trans ?_
  unfold openG
  cases he : closedW r with
  | none =>
    simp only []
    unfold zqqz
    rw [show fuel = (fuel - 1) + 1 by decide, zqqy]
    rfl
  | some m =>
    have h := closed_matB he
    have hs := h.small
    simp only []
    have key := range_fold' (nE r) (fun i (s : List (Int × Int)) => s.length ≤ 100 * i) (fun f j s => zqqx f (fun out => k out) m true j r.1 r.2.1 r.2.2.1 r.2.2.2 s)
      (fun s i => s ++ openL (nE r) m i) (fun s => k s) [] fuel (lt_fuel (by omega)) (by simp)
      (fun i s hi hs => by have := openL_len (nE r) m i; rw [List.length_append]; omega)
      (fun f i s hi hs' => by
        have hi' := hi
        unfold nE at hi'
        have e1 : IntKind.i64.wrap ((i : Int) + 1) = i + 1 := i64_in _ (by omega)
        rw [zqqy]
        unfold zqqn
        refine c_t.trans ?_
        refine (c_pos (by omega)).trans ?_
        simp only [e1]
        refine (ropen_p1 h _ hi _ _ _ _ rfl s (by omega)).trans ?_
        simp only [e1])
      (fun f s hs => by
        rw [zqqy]
        unfold zqqn
        refine c_t.trans ?_
        exact c_neg (by unfold nE; omega))
    unfold zqqz
    rw [key, foldl_flat]
    rfl

/-! ### Sort -/
def sortG (r : Rec) : Bool × List Int := match closedW r with | some m => (true, sortN (nE r) m (nE r) []) | none => (false, [])
theorem Sort_gen (r : Rec) (hE : nE r ≤ 100) (k : Bool → List Int → Option β) : zqxf r k = k (sortG r).1 (sortG r).2 := by
  unfold sortG
  cases he : closedW r with
  | none =>
    unfold zqxf zqx0
    refine (closed_eq hE _).trans ?_
    rw [he]
    rfl
  | some m => exact Sort_eq he (closed_matB he) k

theorem rhas_eq (l : List Int) (hl : l.length ≤ 100000) (x : Int) (k : Bool → Option β) : zq3s l x k = k (decide (x ∈ l)) := by
  unfold zq3s zq3l zq3q
  refine (any_loop (fun f j => zq3o f (fun t => k t) (fun _ => k false) l x j) (fun y => decide (y = x)) (k true) (k false) (0 : Int) l fuel (lt_fuel (by omega)) (fun f j hj => ?_) (fun f => ?_)).trans ?_
  · have e1 : IntKind.i64.wrap ((j : Int) + 1) = j + 1 := i64_in _ (by omega)
    rw [zq3p]
    unfold zq3i
    simp only [Int.toNat_natCast, e1]
    refine (c_pos (by omega)).trans ?_
    exact c_inb (by omega)
  · rw [zq3p]
    unfold zq3i
    exact c_neg (by omega)
  · have : l.any (fun y => decide (y = x)) = decide (x ∈ l) := by
      rw [Bool.eq_iff_iff, List.any_eq_true]
      simp only [decide_eq_true_eq, exists_eq_right]
    rw [this]
    cases decide (x ∈ l) <;> rfl

theorem rsort_p1 {n : Nat} {m : Mat} (h : MatB n m) {out : List Int} (ho : out.length ≤ 1000) (k1 : zqp8 β) (best : Int) {i : Nat} (hi : i < n) (r : List Host) (r2 : List Sync) (r3 : List Event) (hr : r3.length = n) (r4 : List Link) : ∀ (c j f : Nat) (b : Bool), j + c = n → c < f →
    zqpw f k1 m best (i : Int) b (j : Int) r r2 r3 r4 out = k1 m best (i : Int) (b && (List.range' j c).all fun k => decide ((k : Int) ∈ out) || !bef m k i) r r2 r3 r4 out
  | 0, j, f + 1, b, hj, hf => by
    rw [zqpx]
    unfold zqpk
    refine (c_neg (by omega)).trans ?_
    simp
  | c + 1, j, f + 1, b, hj, hf => by
    have hs := h.small
    have e1 : IntKind.i64.wrap ((j : Int) + 1) = ((j + 1 : Nat) : Int) := i64_in _ (by omega)
    rw [zqpx]
    unfold zqpk
    simp only [e1]
    refine (c_pos (by omega)).trans ?_
    cases b with
    | false =>
      refine c_f.trans ?_
      simp
    | true =>
      refine c_t.trans ?_
      refine (rhas_eq _ (by omega) _ _).trans ?_
      rw [List.range'_succ, List.all_cons]
      by_cases hm : (j : Int) ∈ out
      · refine (c_pos hm).trans ?_
        rw [decide_eq_true hm]
        exact rsort_p1 h ho k1 best hi r r2 r3 hr r4 c (j + 1) f true (by omega) (by omega)
      · refine (c_neg hm).trans ?_
        refine (rcompare_eq h (by omega) hi _).trans ?_
        rw [decide_eq_false hm]
        have hz : (!decide (cmpN m j i = -1)) = !bef m j i := by
          congr 1
          rw [Bool.eq_iff_iff, decide_eq_true_iff]
          unfold cmpN
          cases bef m j i <;> cases bef m i j <;> simp
        rw [hz]
        refine (rsort_p1 h ho k1 best hi r r2 r3 hr r4 c (j + 1) f _ (by omega) (by omega)).trans ?_
        rfl
  | _, _, 0, _, _, hf => absurd hf (by omega)

theorem wrapneg {n : Nat} {m : Mat} (h : MatB n m) {i : Nat} (hi : i < n) : IntKind.i64.wrap (0 - at2 m (i + 1) 0) = (rangeN m i).1 := by
  have := h.bd (i + 1) 0 (by omega) (by omega)
  unfold rangeN
  exact (i64_in _ (by omega)).trans (by simp only; omega)

theorem rsort_p2 {n : Nat} {m : Mat} (h : MatB n m) {out : List Int} (ho : out.length ≤ 1000) (k1 : zqpc β) (r : List Host) (r2 : List Sync) (r3 : List Event) (hr : r3.length = n) (r4 : List Link) :
    zqq2 k1 m (-1) 0 r r2 r3 r4 out = k1 m (nextN n m out) r r2 r3 r4 out := by
  have hs := h.small
  have key := range_fold' n (fun _ s => Picked n m out s) (fun f j (s : Int) => zqq0 f k1 m s j r r2 r3 r4 out)
    (pickN n m out) (fun s => k1 m s r r2 r3 r4 out) (-1) fuel (lt_fuel (by omega)) (.inl rfl) (fun i s hi hs => pick_ok hs hi)
    (fun f j s hj hs' => by
      have e1 : IntKind.i64.wrap ((j : Int) + 1) = ((j + 1 : Nat) : Int) := i64_in _ (by omega)
      have e1' : (j : Int) + 1 = ((j + 1 : Nat) : Int) := by omega
      rw [zqq1, e1']
      unfold zqpn
      refine (c_pos (by omega)).trans ?_
      refine (rhas_eq _ (by omega) _ _).trans ?_
      unfold zqpy
      refine (rsort_p1 h ho _ _ hj _ _ _ hr _ n 0 fuel _ (by omega) (lt_fuel (by omega))).trans ?_
      have hf : (!decide ((j : Int) ∈ out) && (List.range' 0 n).all fun k => decide ((k : Int) ∈ out) || !bef m k j) = freeN n m out j := by
        rw [← List.range_eq_range']
        rfl
      rw [hf]
      unfold pickN
      simp only [e1]
      cases freeN n m out j with
      | false => rfl
      | true =>
        refine c_nt.trans ?_
        by_cases hn : s < 0
        · refine (c_pos hn).trans ?_
          rw [decide_eq_true hn]
          rfl
        · refine (c_neg hn).trans ?_
          rw [decide_eq_false hn]
          obtain ⟨s, rfl⟩ : ∃ s' : Nat, s = s' := ⟨s.toNat, by omega⟩
          have hlt : s < n := by
            rcases hs' with h0 | h0
            · omega
            · omega
          have f1 : IntKind.i64.wrap ((s : Int) + 1) = ((s + 1 : Nat) : Int) := i64_in _ (by omega)
          have l0 := h.sq.len
          have l1 := h.sq.row (j + 1) (by omega)
          have l2 := h.sq.row (s + 1) (by omega)
          have l3 := h.sq.row 0 (by omega)
          have w1 := wrapneg h hj
          have w2 := wrapneg h hlt
          have b1 := h.bd (j + 1) 0 (by omega) (by omega)
          have b2 := h.bd (s + 1) 0 (by omega) (by omega)
          have q1 : (rangeN m j).1 = -at2 m (j + 1) 0 := rfl
          have q2 : (rangeN m s).1 = -at2 m (s + 1) 0 := rfl
          unfold at2 at w1 w2
          generalize hE : earlyN m j ((s : Nat) : Int).toNat = E
          rw [Int.toNat_natCast] at hE
          unfold earlyN at hE
          simp only [f1, Int.toNat_natCast, Int.toNat_zero, w1, w2]
          refine (c_inb (by omega)).trans ?_
          refine (c_inb (by omega)).trans ?_
          refine (c_inb (by omega)).trans ?_
          refine (c_inb (by omega)).trans ?_
          by_cases h1 : (rangeN m j).1 < (rangeN m s).1
          · refine (c_pos h1).trans ?_
            rw [decide_eq_true h1, Bool.true_or] at hE
            subst hE
            rfl
          · refine (c_neg h1).trans ?_
            rw [decide_eq_false h1, Bool.false_or] at hE
            refine (c_inb (by omega)).trans ?_
            refine (c_inb (by omega)).trans ?_
            refine (c_inb (by omega)).trans ?_
            refine (c_inb (by omega)).trans ?_
            by_cases h2 : at2 m (j + 1) 0 = at2 m (s + 1) 0
            · refine (c_pos (p := (m.getD (j + 1) []).getD 0 0 = (m.getD (s + 1) []).getD 0 0) h2).trans ?_
              rw [decide_eq_true (show (rangeN m j).1 = (rangeN m s).1 by omega), Bool.true_and] at hE
              refine (c_inb (by omega)).trans ?_
              refine (c_inb (by omega)).trans ?_
              refine (c_inb (by omega)).trans ?_
              refine (c_inb (by omega)).trans ?_
              by_cases h3 : (rangeN m j).2 < (rangeN m s).2
              · refine (c_pos (p := (m.getD 0 []).getD (j + 1) 0 < (m.getD 0 []).getD (s + 1) 0) h3).trans ?_
                rw [decide_eq_true h3] at hE
                subst hE
                rfl
              · refine (c_neg (p := (m.getD 0 []).getD (j + 1) 0 < (m.getD 0 []).getD (s + 1) 0) h3).trans ?_
                rw [decide_eq_false h3] at hE
                subst hE
                rfl
            · refine (c_neg (p := (m.getD (j + 1) []).getD 0 0 = (m.getD (s + 1) []).getD 0 0) h2).trans ?_
              rw [decide_eq_false (show ¬ (rangeN m j).1 = (rangeN m s).1 by omega), Bool.false_and] at hE
              subst hE
              rfl)
    (fun f s _ => by
      rw [zqq1]
      unfold zqpn
      exact c_neg (by omega))
  unfold zqq2
  rw [key]
  rfl

theorem rsort_p3 {n : Nat} {m : Mat} (h : MatB n m) (k1 : zqpg β) (r : List Host) (r2 : List Sync) (r3 : List Event) (hr : r3.length = n) (r4 : List Link) : ∀ (c f : Nat) (out : List Int), out.length + c = n → c < f →
    zqq4 f k1 m r r2 r3 r4 out = k1 (sortN n m c out)
  | 0, f + 1, out, ho, hf => by
    rw [zqq5]
    unfold zqpq
    exact c_neg (by omega)
  | c + 1, f + 1, out, ho, hf => by
    have hs := h.small
    rw [zqq5]
    unfold zqpq
    refine (c_pos (by omega)).trans ?_
    refine (rsort_p2 h (by omega) _ _ _ _ hr _).trans ?_
    refine (c_room (by simp only [List.length_cons, List.length_nil]; omega)).trans ?_
    exact rsort_p3 h k1 r r2 r3 hr r4 c f _ (by simp only [List.length_append, List.length_cons, List.length_nil]; omega) (by omega)
  | _, 0, _, _, hf => absurd hf (by omega)

theorem rSort_gen (r : Rec) (k : Bool → List Int → Option β) : zqq8 r k = k (sortG r).1 (sortG r).2 := by
  unfold zqq8 zqpt
  refine (rclosed_eq _ _).trans ?_
  unfold sortG
  cases he : closedW r with
  | none => rfl
  | some m =>
    have h := closed_matB he
    have hs := h.small
    simp only [Bool.not_true, cond_false]
    unfold zqq6
    exact rsort_p3 h _ _ _ _ rfl _ (nE r) fuel [] (by simp) (lt_fuel (by omega))

/-! ### Allows -/
def allowsG (r : Rec) (l : List Int) : Bool := match closedW r with | some m => allowsW (nE r) m l | none => false
theorem Allows_gen (r : Rec) (hE : nE r ≤ 100) (l : List Int) (k : Bool → Option β) : zq11i r l k = k (allowsG r l) := by
  unfold allowsG
  cases he : closedW r with
  | none =>
    unfold zq11i zq11b
    refine (closed_eq hE _).trans ?_
    rw [he]
    rfl
  | some m => exact Allows_eq he (closed_matB he) l k

theorem rallows_p1 {n : Nat} {m : Mat} (h : MatB n m) (k1 : zqrj β) (k2 : zqrk β) (l : List Int) (hl : l.length = n) {i : Nat} (hi : i < n) (hr : ∀ j, j ≤ i → 0 ≤ l.getD j 0 ∧ l.getD j 0 < n) (r : List Host) (r2 : List Sync) (r3 : List Event) (r4 : List Link) :
    zqs4 k1 k2 l m (i : Int) 0 r r2 r3 r4 = cond ((List.range i).all fun k => !bef m (l.getD i 0).toNat (l.getD k 0).toNat) (k2 l m (i : Int) r r2 r3 r4) (k1 false) := by
  have hs := h.small
  have key := range_check (σ := Unit) i (fun _ _ => True) (fun f j _ => zqs2 f k1 k2 l m (i : Int) j r r2 r3 r4) (fun k => !bef m (l.getD i 0).toNat (l.getD k 0).toNat) (fun s _ => s) (k1 false) (fun _ => k2 l m (i : Int) r r2 r3 r4) () fuel (lt_fuel (by omega)) trivial (fun _ _ _ _ _ => trivial)
    (fun f j _ hj _ => by
      have e1 : IntKind.i64.wrap ((j : Int) + 1) = j + 1 := i64_in _ (by omega)
      have a1 := hr i (Nat.le_refl i)
      have a2 := hr j (by omega)
      have hc := rcompare_eq (β := β) h (a := (l.getD i 0).toNat) (b := (l.getD j 0).toNat) (by omega) (by omega)
      rw [show (((l.getD i 0).toNat : Nat) : Int) = l.getD i 0 by omega, show (((l.getD j 0).toNat : Nat) : Int) = l.getD j 0 by omega] at hc
      rw [zqs3]
      unfold zqrt
      simp only [Int.toNat_natCast, e1]
      refine (c_pos (by omega)).trans ?_
      refine (c_inb (by omega)).trans ?_
      refine (c_inb (by omega)).trans ?_
      refine (hc _).trans ?_
      by_cases hb : cmpN m (l.getD i 0).toNat (l.getD j 0).toNat = -1
      · refine (c_pos hb).trans ?_
        rw [cmpN_before.1 hb]
        rfl
      · refine (c_neg hb).trans ?_
        have : bef m (l.getD i 0).toNat (l.getD j 0).toNat = false := by
          cases hx : bef m (l.getD i 0).toNat (l.getD j 0).toNat with
          | false => rfl
          | true => exact absurd (cmpN_before.2 hx) hb
        rw [this]
        rfl)
    (fun f _ _ => by
      rw [zqs3]
      unfold zqrt
      exact c_neg (by omega))
  unfold zqs4
  exact key

theorem rAllows_gen (r : Rec) (l : List Int) (k : Bool → Option β) : zqsa r l k = k (allowsG r l) := by
  unfold zqsa zqrz
  refine (rclosed_eq _ _).trans ?_
  unfold allowsG
  cases he : closedW r with
  | none => rfl
  | some m =>
    have h := closed_matB he
    have hs := h.small
    simp only [Bool.not_true, cond_false]
    unfold allowsW
    by_cases hl : l.length = nE r
    · refine (c_npos (by unfold nE at hl; omega)).trans ?_
      rw [decide_eq_true hl, Bool.true_and]
      have key := range_check (σ := Unit) (nE r) (fun i _ => ∀ j, j < i → 0 ≤ l.getD j 0 ∧ l.getD j 0 < nE r) (fun f j _ => zqs6 f (fun t => k t) (fun _ => k true) l m j r.1 r.2.1 r.2.2.1 r.2.2.2) (placeOk (nE r) m l) (fun s _ => s) (k false) (fun _ => k true) () fuel (lt_fuel (by omega)) (fun j hj => by omega)
        (fun i s hi hs hp j hj => by
          by_cases e : j = i
          · unfold placeOk at hp
            rw [Bool.and_eq_true, Bool.and_eq_true] at hp
            have := inN_iff.1 hp.1.1
            rw [e]
            omega
          · exact hs j (by omega))
        (fun f i s hi hs' => by
          have e1 : IntKind.i64.wrap ((i : Int) + 1) = i + 1 := i64_in _ (by omega)
          have e2 : IntKind.i64.wrap ((r.2.2.1.length : Int) - 1) = (nE r : Int) - 1 := i64_in _ (by unfold nE at hs; omega)
          rw [zqs7]
          unfold zqrw
          refine (c_pos (by omega)).trans ?_
          refine (c_inb (by omega)).trans ?_
          simp only [Int.toNat_natCast, Int.toNat_zero, List.drop_zero, e1, e2]
          refine (ref25_In_eq _ _ _ _).trans ?_
          unfold placeOk
          cases hin : inN (l.getD i 0) 0 ((nE r : Int) - 1) with
          | false => rfl
          | true =>
            have hb := inN_iff.1 hin
            refine c_nt.trans ?_
            have ht : ∀ (a b : Option β), cond (decide ((0 : Int) ≤ 0) && (decide ((0 : Int) ≤ (i : Int)) && decide ((i : Int) ≤ (l.length : Int)))) a b = a := by
              intro a b
              rw [decide_eq_true (show (0 : Int) ≤ 0 by omega), decide_eq_true (show (0 : Int) ≤ (i : Int) by omega), decide_eq_true (show (i : Int) ≤ (l.length : Int) by omega)]
              rfl
            refine (ht _ _).trans ?_
            refine (c_inb (by omega)).trans ?_
            refine (rhas_eq _ (by rw [List.length_take]; omega) _ _).trans ?_
            have ha : ((l.take i).any fun x => decide (l.getD i 0 = x)) = decide (l.getD i 0 ∈ l.take i) := by
              rw [Bool.eq_iff_iff, List.any_eq_true]
              simp only [decide_eq_true_eq, exists_eq_right']
            rw [ha, Bool.true_and]
            cases hm : decide (l.getD i 0 ∈ l.take i) with
            | true => rfl
            | false =>
              refine c_f.trans ?_
              refine (rallows_p1 h _ _ l hl hi (fun j hj => by
                by_cases e : j = i
                · rw [e]; omega
                · exact hs' j (by omega)) _ _ _ _).trans ?_
              have hq : ((List.range i).all fun k => !bef m (l.getD i 0).toNat (l.getD k 0).toNat) = !((l.take i).any fun y => bef m (l.getD i 0).toNat y.toNat) := by
                rw [List.any_eq_not_all_not, Bool.not_not]
                rw [Bool.eq_iff_iff, List.all_eq_true, List.all_eq_true]
                constructor
                · intro hx y hy
                  obtain ⟨j, hj, rfl⟩ := List.getElem_of_mem hy
                  have hj' : j < i := by rw [List.length_take] at hj; omega
                  have := hx j (List.mem_range.2 hj')
                  have e : (l.take i)[j] = l.getD j 0 := by
                    simp [List.getD, show j < l.length by omega]
                  rw [e]
                  exact this
                · intro hx j hj
                  have hj' := List.mem_range.1 hj
                  have hjl : j < (l.take i).length := by rw [List.length_take]; omega
                  have := hx _ (List.getElem_mem hjl)
                  have e : (l.take i)[j] = l.getD j 0 := by
                    simp [List.getD, show j < l.length by omega]
                  rw [e] at this
                  exact this
              rw [hq]
              simp only [e1, Bool.not_false, Bool.true_and])
        (fun f s hs => by
          rw [zqs7]
          unfold zqrw
          exact c_neg (by omega))
      unfold zqs8
      refine key.trans ?_
      cases (List.range (nE r)).all (placeOk (nE r) m l) <;> rfl
    · refine (c_nneg (by unfold nE at hl; omega)).trans ?_
      rw [decide_eq_false hl]
      rfl

/-! ### Fits -/
theorem rcFits_eq {n : Nat} (h1 : 1 ≤ n) (hn : n ≤ 41) {l : List Diff} (hv : validD n l = true) (x : List Int) (hx : x.length = n) (hb : ∀ i, i < n → -1099511627776 ≤ x.getD i 0 ∧ x.getD i 0 ≤ 1099511627776) (k : Bool → Option β) :
    zqdy (n : Int) l x k = k (!l.any (brokenW x)) := by
  have hv' := hv
  unfold validD at hv'
  rw [Bool.and_eq_true] at hv'
  have hl := of_decide_eq_true hv'.1
  unfold zqdy zqdn
  refine (ref39_Valid_eq h1 hn _).trans ?_
  rw [hv]
  refine c_nt.trans ?_
  refine (c_npos (by omega)).trans ?_
  have k1 : ∀ (K1 : zqd7 β) (K2 : zqd8 β), zqds K1 K2 (n : Int) l x 0 = K2 l x := by
    intro K1 K2
    unfold zqds
    refine pass_loop n (fun f j => zqdq f K1 K2 (n : Int) l x j) (K2 l x) fuel (lt_fuel (by omega)) (fun f j hj => ?_) (fun f => ?_)
    · have e1 : IntKind.i64.wrap ((j : Int) + 1) = j + 1 := i64_in _ (by omega)
      rw [zqdr]
      unfold zqdh
      simp only [Int.toNat_natCast, e1]
      refine (c_pos (by omega)).trans ?_
      refine (c_inb (by omega)).trans ?_
      refine (ref25_In_eq _ _ _ _).trans ?_
      rw [inN_mk (hb j hj)]
      exact c_nt
    · rw [zqdr]
      unfold zqdh
      exact c_neg (by omega)
  refine (k1 _ _).trans ?_
  unfold zqdw
  refine (any_loop (fun f j => zqdu f (fun t => k t) (fun _ => k true) l x j) (brokenW x) (k false) (k true) ((0 : Int), ((0 : Int), (0 : Int))) l fuel (lt_fuel (by omega)) (fun f j hj => ?_) (fun f => ?_)).trans ?_
  · have e1 : IntKind.i64.wrap ((j : Int) + 1) = j + 1 := i64_in _ (by omega)
    have hd := of_decide_eq_true (List.all_eq_true.1 hv'.2 _ (getD_mem (d := ((0 : Int), ((0 : Int), (0 : Int)))) hj))
    rw [zqdv]
    unfold zqdk
    simp only [Int.toNat_natCast, e1]
    have g1 := hb (l.getD j ((0 : Int), ((0 : Int), (0 : Int)))).2.1.toNat (by omega)
    have g2 := hb (l.getD j ((0 : Int), ((0 : Int), (0 : Int)))).1.toNat (by omega)
    have e2 : IntKind.i64.wrap (x.getD (l.getD j ((0 : Int), ((0 : Int), (0 : Int)))).2.1.toNat 0 - x.getD (l.getD j ((0 : Int), ((0 : Int), (0 : Int)))).1.toNat 0) = x.getD (l.getD j ((0 : Int), ((0 : Int), (0 : Int)))).2.1.toNat 0 - x.getD (l.getD j ((0 : Int), ((0 : Int), (0 : Int)))).1.toNat 0 := i64_in _ (by omega)
    refine (c_pos (by omega)).trans ?_
    refine (c_inb (by omega)).trans ?_
    refine (c_inb (by omega)).trans ?_
    refine (c_inb (by omega)).trans ?_
    refine (c_inb (by omega)).trans ?_
    refine (c_inb (by omega)).trans ?_
    by_cases hbk : (l.getD j ((0 : Int), ((0 : Int), (0 : Int)))).2.2 < x.getD (l.getD j ((0 : Int), ((0 : Int), (0 : Int)))).2.1.toNat 0 - x.getD (l.getD j ((0 : Int), ((0 : Int), (0 : Int)))).1.toNat 0
    · refine (c_pos (p := (l.getD j ((0 : Int), ((0 : Int), (0 : Int)))).2.2 < IntKind.i64.wrap (x.getD (l.getD j ((0 : Int), ((0 : Int), (0 : Int)))).2.1.toNat 0 - x.getD (l.getD j ((0 : Int), ((0 : Int), (0 : Int)))).1.toNat 0)) (by rw [e2]; exact hbk)).trans ?_
      unfold brokenW
      rw [decide_eq_true hbk]
      rfl
    · refine (c_neg (p := (l.getD j ((0 : Int), ((0 : Int), (0 : Int)))).2.2 < IntKind.i64.wrap (x.getD (l.getD j ((0 : Int), ((0 : Int), (0 : Int)))).2.1.toNat 0 - x.getD (l.getD j ((0 : Int), ((0 : Int), (0 : Int)))).1.toNat 0)) (by rw [e2]; exact hbk)).trans ?_
      unfold brokenW
      rw [decide_eq_false hbk]
      rfl
  · rw [zqdv]
    unfold zqdk
    exact c_neg (by omega)
  · cases l.any (brokenW x) <;> rfl

theorem rFits_eq (r : Rec) (times : List Int) (k : Bool → Option β) : zqst r times k = k (fitsW r times) := by
  unfold zqst zqsm
  refine (rConstraints_eq _ _).trans ?_
  cases hc : consW r with
  | none =>
    have he : closedW r = none := by unfold closedW; rw [hc]
    unfold fitsW
    rw [he]
    rfl
  | some l =>
    refine c_nt.trans ?_
    refine (rConsistent_eq _ _).trans ?_
    unfold fitsW
    cases he : closedW r with
    | none => rfl
    | some m =>
      obtain ⟨hv, hw, hc'⟩ := consW_of_closed he
      rw [hc] at hc'
      cases hc'
      have hb := valid_bd hv
      refine c_nt.trans ?_
      simp only [Option.isSome_some, Bool.true_and]
      by_cases hlen : times.length = nE r
      · refine (c_npos (by unfold nE at hlen; omega)).trans ?_
        rw [decide_eq_true hlen, Bool.true_and]
        have hn : nE r ≤ 40 := by unfold nE; omega
        have p1 : ∀ (K2 : zqsf β), zqsr (fun t => k t) K2 times 0 (consL r) = cond (times.all instB) (K2 times (consL r)) (k false) := by
          intro K2
          unfold zqsr
          refine check_loop (fun f j => zqsp f (fun t => k t) K2 times j (consL r)) instB (k false) (K2 times (consL r)) (0 : Int) times fuel (lt_fuel (by omega)) (fun f j hj => ?_) (fun f => ?_)
          · have e1 : IntKind.i64.wrap ((j : Int) + 1) = j + 1 := i64_in _ (by omega)
            rw [zqsq]
            unfold zqsj
            simp only [Int.toNat_natCast, e1]
            refine (c_pos (by omega)).trans ?_
            refine (c_inb (by omega)).trans ?_
            refine (ref25_In_eq _ _ _ _).trans ?_
            unfold instB
            cases inN (times.getD j 0) 0 8589934592 <;> rfl
          · rw [zqsq]
            unfold zqsj
            exact c_neg (by omega)
        refine (p1 _).trans ?_
        cases hi : times.all instB with
        | false => rfl
        | true =>
          refine c_t.trans ?_
          refine (c_room (by simp only [List.length_cons, List.length_nil]; omega)).trans ?_
          have e1 : IntKind.i64.wrap ((times.length : Int) + 1) = ((nE r + 1 : Nat) : Int) := (i64_in _ (by omega)).trans (by omega)
          rw [e1]
          refine (rcFits_eq (by omega) (by omega) (consL_valid hv hw) _ (by simp [hlen]) (fun i hi' => ?_) _).trans ?_
          · cases i with
            | zero => simp
            | succ i =>
              have e : ([(0 : Int)] ++ times).getD (i + 1) 0 = times.getD i 0 := rfl
              rw [e]
              have := List.all_eq_true.1 hi _ (getD_mem (l := times) (d := (0 : Int)) (i := i) (by omega))
              have := inN_iff.1 this
              omega
          · rfl
      · refine (c_nneg (by unfold nE at hlen; omega)).trans ?_
        rw [decide_eq_false hlen]
        rfl
end
end
end Go.Lift

/- The functions of the chapter 40 at any record. -/
namespace Go.Lift
open Go.RowKit Go.IntWalk
noncomputable section
set_option linter.unusedVariables false
set_option linter.unusedSimpArgs false
set_option maxRecDepth 10000

theorem oddrecord_ok4 {r : Rec} {d : Dice} (hd : DiceOk d) (h0 : 1 ≤ r.1.length) (h1 : r.1.length ≤ 1000) (h2 : r.2.1.length ≤ 1000) (h3 : r.2.2.1.length ≤ 1000) (h4 : r.2.2.2.length ≤ 1000) :
    ∃ r' d', DiceOk d' ∧ nE r' ≤ nE r + 1 ∧ ∀ {β : Type} (k : zq4 → Dice → Option β), zqb6 r d k = k r' d' := by
  obtain ⟨x, d1, hx0, hx1, hd1, f1⟩ := next_ok (n := 7) hd (by omega)
  by_cases c0 : x = 0
  · obtain ⟨y, d2, hy, hd2, f2⟩ := one_ok (l := [-1, 500001]) (by simp) (by simp) hd1
    refine ⟨(List.set r.1 0 ((r.1.getD 0 ([], 0)).1, y), r.2), d2, hd2, by simp [nE], fun k => ?_⟩
    simp (disch := omega) only [zqb6, zqb1, c_room, f1, c_pos, f2, c_inb, Int.toNat_zero]
  by_cases c1 : x = 1
  · obtain ⟨y, d2, hy0, hy1, hd2, f2⟩ := next_ok (n := 4) hd1 (by omega)
    obtain ⟨z, d3, hz0, hz1, hd3, f3⟩ := next_ok (n := 300) hd2 (by omega)
    obtain ⟨u, d4, hu0, hu1, hd4, f4⟩ := next_ok (n := 300) hd3 (by omega)
    obtain ⟨v, d5, hv0, hv1, hd5, f5⟩ := next_ok (n := 300) hd4 (by omega)
    refine ⟨(r.1, r.2.1 ++ [(IntKind.i64.wrap (y - 1), IntKind.i64.wrap (864000 + z), IntKind.i64.wrap (864000 + u), IntKind.i64.wrap (864000 + v))], r.2.2), d5, hd5, by simp [nE], fun k => ?_⟩
    simp (disch := omega) only [zqb6, zqb1, c_room, f1, c_pos, c_neg, f2, f3, f4, f5, List.length_cons, List.length_nil]
  by_cases c2 : x = 2
  · obtain ⟨y, d2, hy0, hy1, hd2, f2⟩ := next_ok (n := 4) hd1 (by omega)
    obtain ⟨z, d3, hz, hd3, f3⟩ := one_ok (l := [-1, 0, 864000, 8589934592, 8589934593]) (by simp) (by simp) hd2
    refine ⟨(r.1, r.2.1, r.2.2.1 ++ [(IntKind.i64.wrap (y - 1), z, [])], r.2.2.2), d3, hd3, by simp [nE], fun k => ?_⟩
    simp (disch := omega) only [zqb6, zqb1, c_room, f1, c_pos, c_neg, f2, f3, List.length_cons, List.length_nil]
  by_cases c3 : x = 3 ∨ x = 4
  · obtain ⟨y, d2, hy0, hy1, hd2, f2⟩ := next_ok (n := 5) hd1 (by omega)
    obtain ⟨z, d3, hz0, hz1, hd3, f3⟩ := next_ok (n := 5) hd2 (by omega)
    obtain ⟨u, d4, hu, hd4, f4⟩ := one_ok (l := [-1, 0, 1, 100, 400]) (by simp) (by simp) hd3
    refine ⟨(r.1, r.2.1, r.2.2.1, r.2.2.2 ++ [(IntKind.i64.wrap (y - 1), z, u)]), d4, hd4, by simp [nE], fun k => ?_⟩
    rcases c3 with c3 | c3
    · simp (disch := omega) only [zqb6, zqb1, zqb4, zqaz, zqay, c_room, f1, c_pos, c_neg, f2, f3, f4, pair_eta, List.length_cons, List.length_nil]
    · simp (disch := omega) only [zqb6, zqb1, zqb4, zqaz, zqay, c_room, f1, c_pos, c_neg, f2, f3, f4, pair_eta, List.length_cons, List.length_nil]
  · refine ⟨r, d1, hd1, by omega, fun k => ?_⟩
    simp (disch := omega) only [zqb6, zqb1, zqb4, zqaz, zqay, c_room, f1, c_neg, pair_eta]

theorem closedW_inv {r : Rec} (hv : ¬ valid r = true) : closedW r = none := by
  unfold closedW consW
  rw [Bool.eq_false_iff.2 hv]
  rfl
theorem small_of {r : Rec} (hv : valid r = true) : nE r ≤ 100 := by
  have := (valid_bd hv).2.2.1
  unfold nE
  omega

section
variable {β : Type}
theorem constraints_inv {r : Rec} (hv : ¬ valid r = true) (k : Bool → List Diff → Option β) : zqof r k = k false [] := by
  refine (Constraints_eq _ _).trans ?_
  unfold consW
  rw [Bool.eq_false_iff.2 hv]
  rfl
theorem closed_inv {r : Rec} (hv : ¬ valid r = true) (k : Mat → Bool → Option β) : zqvf r k = k [] false := by
  unfold zqvf zqvc
  refine (constraints_inv hv _).trans ?_
  exact c_nf
theorem both_inv {r : Rec} (hv : ¬ valid r = true) (a b : Int) (k : Mat → Bool → Option β) : zqvm r a b k = k [] false := by
  unfold zqvm zqvj
  refine (closed_inv hv _).trans ?_
  exact c_f

theorem Compare_g (r : Rec) (a b : Int) (k : Int → Bool → Option β) : zqym r a b k = k (cmpG r a b).1 (cmpG r a b).2 := by
  by_cases hv : valid r = true
  · exact Compare_gen r (small_of hv) a b k
  · unfold cmpG
    rw [closedW_inv hv]
    unfold zqym zqyj
    refine (both_inv hv _ _ _).trans ?_
    exact c_nf
theorem Gap_g (r : Rec) (a b : Int) (k : Int × Int → Bool → Option β) : zqyf r a b k = k (gapG r a b).1 (gapG r a b).2 := by
  by_cases hv : valid r = true
  · exact Gap_gen r (small_of hv) a b k
  · unfold gapG
    rw [closedW_inv hv]
    unfold zqyf zqyc
    refine (both_inv hv _ _ _).trans ?_
    exact c_nf
theorem Consistent_g (r : Rec) (k : Bool → Option β) : zqvt r k = k (closedW r).isSome := by
  by_cases hv : valid r = true
  · exact consistent_eq (small_of hv) k
  · rw [closedW_inv hv]
    unfold zqvt zqvq
    exact closed_inv hv _
def whenG (r : Rec) : Bool × List (Int × Int) := match closedW r with | some m => (true, whensN (nE r) m) | none => (false, [])
theorem When_g (r : Rec) (k : Bool → List (Int × Int) → Option β) : zqwb r k = k (whenG r).1 (whenG r).2 := by
  by_cases hv : valid r = true
  · refine (When_eq (small_of hv) (fun m he => closed_matB he) k).trans ?_
    unfold whenG
    cases closedW r <;> rfl
  · unfold whenG
    rw [closedW_inv hv]
    unfold zqwb zqw4
    refine (closed_inv hv _).trans ?_
    exact c_nf
theorem rWhen_g (r : Rec) (k : Bool → List (Int × Int) → Option β) : zqp4 r k = k (whenG r).1 (whenG r).2 := by
  refine (rWhen_eq r k).trans ?_
  unfold whenG
  cases closedW r <;> rfl
theorem Sort_g (r : Rec) (k : Bool → List Int → Option β) : zqxf r k = k (sortG r).1 (sortG r).2 := by
  by_cases hv : valid r = true
  · exact Sort_gen r (small_of hv) k
  · unfold sortG
    rw [closedW_inv hv]
    unfold zqxf zqx0
    refine (closed_inv hv _).trans ?_
    exact c_nf
theorem Allows_g (r : Rec) (l : List Int) (k : Bool → Option β) : zq11i r l k = k (allowsG r l) := by
  by_cases hv : valid r = true
  · exact Allows_gen r (small_of hv) l k
  · unfold allowsG
    rw [closedW_inv hv]
    unfold zq11i zq11b
    refine (closed_inv hv _).trans ?_
    exact c_nf
theorem Fits_g (r : Rec) (times : List Int) (k : Bool → Option β) : zq12m r times k = k (fitsW r times) := by
  by_cases hv : valid r = true
  · exact Fits_eq (small_of hv) times k
  · unfold fitsW
    rw [closedW_inv hv]
    unfold zq12m zq12j
    refine (constraints_inv hv _).trans ?_
    refine (Consistent_g r _).trans ?_
    rw [closedW_inv hv]
    exact c_nf
theorem Open_g (r : Rec) (hE : nE r ≤ 9223372036854775807) (k : List (Int × Int) → Option β) : zqy8 r k = k (openG r) := by
  by_cases hv : valid r = true
  · exact Open_gen r (small_of hv) k
  · unfold openG
    rw [closedW_inv hv]
    unfold zqy8 zqxx
    refine (closed_inv hv _).trans ?_
    have key := pass_loop (nE r) (fun f j => zqy4 f (fun out => k out) [] false (r.2.2.1.length : Int) j r.1 r.2.1 r.2.2.1 r.2.2.2 []) (k []) fuel (Nat.lt_of_le_of_lt hE (by decide))
      (fun f i hi => by
        have hi' := hi
        unfold nE at hi'
        have e1 : IntKind.i64.wrap ((i : Int) + 1) = i + 1 := i64_in _ (by unfold nE at hE; omega)
        rw [zqy5]
        unfold zqxu
        refine (c_pos (by omega)).trans ?_
        simp only [e1]
        have : zqy2 (fun (m2 : Mat) ok2 t152 t162 r_5 r_6 r_7 r_8 out2 => zqy4 f (fun out => k out) m2 ok2 t152 (IntKind.i64.wrap (t162 + 1)) r_5 r_6 r_7 r_8 out2) ([] : Mat) false (i : Int) ((i : Int) + 1) (r.2.2.1.length : Int) (i : Int) r.1 r.2.1 r.2.2.1 r.2.2.2 [] =
            zqy4 f (fun out => k out) [] false (r.2.2.1.length : Int) (IntKind.i64.wrap ((i : Int) + 1)) r.1 r.2.1 r.2.2.1 r.2.2.2 [] := by
          unfold zqy2
          rw [show fuel = (fuel - 1) + 1 by decide, zqy1]
          unfold zqxr
          cases decide ((i : Int) + 1 < (r.2.2.1.length : Int)) <;> rfl
        refine this.trans ?_
        rw [e1])
      (fun f => by
        rw [zqy5]
        unfold zqxu
        exact c_neg (by unfold nE; omega))
    unfold zqy6
    exact key

/-! ### Lists that are equal -/
theorem c_same2 (a : Int × Int) {x y : Option β} : cond (!(decide (a.1 = a.1) && (decide (a.2 = a.2) && true))) x y = y := by
  rw [decide_eq_true rfl, decide_eq_true rfl]
  rfl
theorem c_same3 (a : Int × Int × Int) {x y : Option β} : cond (!(decide (a.1 = a.1) && (decide (a.2.1 = a.2.1) && (decide (a.2.2 = a.2.2) && true)))) x y = y := by
  rw [decide_eq_true rfl, decide_eq_true rfl, decide_eq_true rfl]
  rfl
theorem sameR_self (l : List (Int × Int)) (hl : l.length ≤ 100000) (k : Bool → Option β) : zq11 l l k = k true := by
  unfold zq11 zqu
  refine (c_npos rfl).trans ?_
  unfold zqz
  refine pass_loop l.length (fun f j => zqx f (fun t => k t) (fun _ => k true) l l j) (k true) fuel (lt_fuel (by omega)) (fun f j hj => ?_) (fun f => ?_)
  · have e1 : IntKind.i64.wrap ((j : Int) + 1) = j + 1 := i64_in _ (by omega)
    rw [zqy]
    unfold zqr
    refine (c_pos (by omega)).trans ?_
    refine (c_inb (by omega)).trans ?_
    refine (c_inb (by omega)).trans ?_
    refine (c_same2 _).trans ?_
    rw [e1]
  · rw [zqy]
    unfold zqr
    exact c_neg (by omega)
theorem same25_self (l : List Int) (hl : l.length ≤ 100000) (k : Bool → Option β) : zq1k l l k = k true := by
  unfold zq1k zq1d
  refine (c_npos rfl).trans ?_
  unfold zq1i
  refine pass_loop l.length (fun f j => zq1g f (fun t => k t) (fun _ => k true) l l j) (k true) fuel (lt_fuel (by omega)) (fun f j hj => ?_) (fun f => ?_)
  · have e1 : IntKind.i64.wrap ((j : Int) + 1) = j + 1 := i64_in _ (by omega)
    rw [zq1h]
    unfold zq1a
    refine (c_pos (by omega)).trans ?_
    refine (c_inb (by omega)).trans ?_
    refine (c_inb (by omega)).trans ?_
    refine (c_npos rfl).trans ?_
    rw [e1]
  · rw [zq1h]
    unfold zq1a
    exact c_neg (by omega)
theorem pairs_self (l : List (Int × Int)) (hl : l.length ≤ 100000) (k : Bool → Option β) : zq23 l l k = k true := by
  unfold zq23 zq1w
  refine (c_npos rfl).trans ?_
  unfold zq21
  refine pass_loop l.length (fun f j => zq1z f (fun t => k t) (fun _ => k true) l l (l.length : Int) j) (k true) fuel (lt_fuel (by omega)) (fun f j hj => ?_) (fun f => ?_)
  · have e1 : IntKind.i64.wrap ((j : Int) + 1) = j + 1 := i64_in _ (by omega)
    rw [zq20]
    unfold zq1t
    refine (c_pos (by omega)).trans ?_
    refine (c_inb (by omega)).trans ?_
    refine (c_inb (by omega)).trans ?_
    refine (c_same2 _).trans ?_
    rw [e1]
  · rw [zq20]
    unfold zq1t
    exact c_neg (by omega)
end
end
end Go.Lift

/- OrderExact in plain Lean. -/
namespace Go.Lift
open Go.RowKit Go.IntWalk
noncomputable section
set_option linter.unusedVariables false
set_option linter.unusedSimpArgs false
set_option maxRecDepth 10000

section
variable {β : Type}
theorem c_bself (b : Bool) {x y : Option β} : cond (!(b == b)) x y = y := by cases b <;> rfl

theorem exact_p1' (k1 : zq12q β) (k2 : zq12r β) (a b : Int) (l times : List Int) (t85 t86 : Int) (d : List Int) (d2 : Int) (x : List Host) (x2 : List Sync) (x3 : List Event) (x4 : List Link) (c : List Diff) (hc : c.length ≤ 100000) (t84 : List zq4) :
    zq13z k1 k2 a b l times t85 t86 (c.length : Int) 0 d d2 x x2 x3 x4 c c t84 = k2 a b l times t85 t86 d d2 x x2 x3 x4 t84 := by
  unfold zq13z
  refine pass_loop c.length (fun f j => zq13x f k1 k2 a b l times t85 t86 (c.length : Int) j d d2 x x2 x3 x4 c c t84) (k2 a b l times t85 t86 d d2 x x2 x3 x4 t84) fuel (lt_fuel (by omega)) (fun f j hj => ?_) (fun f => ?_)
  · have e1 : IntKind.i64.wrap ((j : Int) + 1) = j + 1 := i64_in _ (by omega)
    rw [zq13y]
    unfold zq13f
    refine (c_pos (by omega)).trans ?_
    refine (c_inb (by omega)).trans ?_
    refine (c_inb (by omega)).trans ?_
    refine (c_same3 _).trans ?_
    rw [e1]
  · rw [zq13y]
    unfold zq13f
    exact c_neg (by omega)

theorem exact_p2' (k1 : zq12v β) (k2 : zq12w β) (a b : Int) (l times : List Int) (t85 t86 : Int) (d : List Int) (d2 : Int) (r : Rec) (s : List Int) (t84 : List zq4) (ps : List (Int × Int)) (hp : ps.length ≤ 1000) :
    zq143 k1 k2 a b l times t85 t86 (ps.length : Int) 0 d d2 r.1 r.2.1 r.2.2.1 r.2.2.2 s t84 ps = k2 a b l times t85 t86 d d2 r.1 r.2.1 r.2.2.1 r.2.2.2 s t84 := by
  unfold zq143
  refine pass_loop ps.length (fun f j => zq141 f k1 k2 a b l times t85 t86 (ps.length : Int) j d d2 r.1 r.2.1 r.2.2.1 r.2.2.2 s t84 ps) (k2 a b l times t85 t86 d d2 r.1 r.2.1 r.2.2.1 r.2.2.2 s t84) fuel (lt_fuel (by omega)) (fun f j hj => ?_) (fun f => ?_)
  · have e1 : IntKind.i64.wrap ((j : Int) + 1) = j + 1 := i64_in _ (by omega)
    rw [zq142]
    unfold zq13i
    refine (c_pos (by omega)).trans ?_
    refine (c_inb (by omega)).trans ?_
    refine (Gap_g (r.1, r.2.1, r.2.2.1, r.2.2.2) _ _ _).trans ?_
    refine (rGap_gen (r.1, r.2.1, r.2.2.1, r.2.2.2) _ _ _).trans ?_
    refine (Compare_g (r.1, r.2.1, r.2.2.1, r.2.2.2) _ _ _).trans ?_
    refine (rCompare_gen (r.1, r.2.1, r.2.2.1, r.2.2.2) _ _ _).trans ?_
    refine (c_same2 _).trans ?_
    refine (c_bself _).trans ?_
    refine (c_npos rfl).trans ?_
    refine (c_bself _).trans ?_
    rw [e1]
  · rw [zq142]
    unfold zq13i
    exact c_neg (by omega)

theorem exact_p3' (k1 : zq130 β) (k2 : zq131 β) (a b : Int) (l times z : List Int) (t85 t86 t259 t260 : Int) (d : List Int) (d2 : Int) (r : Rec) (back : List Int) (t84 : List zq4) (t258 : List (List Int)) :
    zq145 k1 k2 a b l times z t85 t86 t259 t260 d d2 r.1 r.2.1 r.2.2.1 r.2.2.2 back t84 t258 = k2 a b l times t85 t86 t259 t260 d d2 r.1 r.2.1 r.2.2.1 r.2.2.2 t84 t258 := by
  unfold zq145 zq13m zq13l
  refine (Allows_g (r.1, r.2.1, r.2.2.1, r.2.2.2) _ _).trans ?_
  refine (rAllows_gen (r.1, r.2.1, r.2.2.1, r.2.2.2) _ _).trans ?_
  refine (c_bself _).trans ?_
  refine (Allows_g (r.1, r.2.1, r.2.2.1, r.2.2.2) _ _).trans ?_
  refine (rAllows_gen (r.1, r.2.1, r.2.2.1, r.2.2.2) _ _).trans ?_
  refine (c_bself _).trans ?_
  refine (Fits_g (r.1, r.2.1, r.2.2.1, r.2.2.2) _ _).trans ?_
  refine (rFits_eq (r.1, r.2.1, r.2.2.1, r.2.2.2) _ _).trans ?_
  refine (c_bself _).trans ?_
  refine (Fits_g (r.1, r.2.1, r.2.2.1, r.2.2.2) _ _).trans ?_
  refine (rFits_eq (r.1, r.2.1, r.2.2.1, r.2.2.2) _ _).trans ?_
  exact c_bself _

theorem exact_p4' (k1 : zq135 β) (k2 : zq136 β) (a b : Int) (l times : List Int) (t85 t86 : Int) {d : Dice} (hd : DiceOk d) (r : Rec) (t84 : List zq4) (zs : List (List Int)) (hz : zs.length ≤ 1000) (hzl : ∀ z ∈ zs, z.length ≤ 1000) :
    ∃ d' : Dice, DiceOk d' ∧ zq149 k1 k2 a b l times t85 t86 (zs.length : Int) 0 d.1 d.2 r.1 r.2.1 r.2.2.1 r.2.2.2 t84 zs = k2 a b l times t85 t86 d'.1 d'.2 t84 := by
  unfold zq149
  refine range_exm (σ := Dice) zs.length (fun _ s => DiceOk s) (fun f j s => zq147 f k1 k2 a b l times t85 t86 (zs.length : Int) j s.1 s.2 r.1 r.2.1 r.2.2.1 r.2.2.2 t84 zs) (fun s => k2 a b l times t85 t86 s.1 s.2 t84) d fuel (lt_fuel (by omega)) hd (fun f i s hi hs => ?_) (fun f s hs => ?_)
  · have e1 : IntKind.i64.wrap ((i : Int) + 1) = i + 1 := i64_in _ (by omega)
    have hlz := hzl _ (getD_mem (d := ([] : List Int)) hi)
    rw [zq148]
    unfold zq13o
    by_cases h1 : (1 : Int) < ((zs.getD i []).length : Int)
    · obtain ⟨x, d1, hx0, hx1, hd1, f1⟩ := next_ok (n := ((zs.getD i []).length : Int)) hs (by omega)
      obtain ⟨y, d2, hy0, hy1, hd2, f2⟩ := next_ok (n := ((zs.getD i []).length : Int)) hd1 (by omega)
      refine ⟨d2, hd2, ?_⟩
      refine (c_pos (by omega)).trans ?_
      refine (c_inb (by omega)).trans ?_
      simp only [Int.toNat_natCast]
      refine (c_room (by omega)).trans ?_
      refine (c_pos h1).trans ?_
      refine (f1 _).trans ?_
      refine (f2 _).trans ?_
      refine (c_inb (by omega)).trans ?_
      refine (c_inb (by omega)).trans ?_
      refine (c_inb (by omega)).trans ?_
      refine (c_inb (by rw [List.length_set]; omega)).trans ?_
      refine (exact_p3' _ _ _ _ _ _ _ _ _ _ _ _ _ r _ _ _).trans ?_
      rw [e1]
    · refine ⟨s, hs, ?_⟩
      refine (c_pos (by omega)).trans ?_
      refine (c_inb (by omega)).trans ?_
      simp only [Int.toNat_natCast]
      refine (c_room (by omega)).trans ?_
      refine (c_neg h1).trans ?_
      refine (exact_p3' _ _ _ _ _ _ _ _ _ _ _ _ _ r _ _ _).trans ?_
      rw [e1]
  · rw [zq148]
    unfold zq13o
    exact c_neg (by omega)

theorem sortN_len {n : Nat} {m : Mat} : ∀ (c : Nat) (out : List Int), (sortN n m c out).length = out.length + c
  | 0, out => rfl
  | c + 1, out => by
    have := sortN_len (n := n) (m := m) c (out ++ [nextN n m out])
    simp only [List.length_append, List.length_cons, List.length_nil] at this
    show (sortN n m c (out ++ [nextN n m out])).length = _
    omega
theorem sortG_len (r : Rec) : (sortG r).2.length ≤ 40 := by
  unfold sortG
  cases he : closedW r with
  | none => simp
  | some m =>
    have := closedR_small he
    simp only [sortN_len]
    simp
    exact this
theorem whenG_len (r : Rec) : (whenG r).2.length ≤ 40 := by
  unfold whenG
  cases he : closedW r with
  | none => simp
  | some m =>
    have := closedR_small he
    unfold whensN
    simp
    exact this
theorem openG_len (r : Rec) : (openG r).length ≤ 1600 := by
  unfold openG
  cases he : closedW r with
  | none => simp
  | some m =>
    have h1 := closedR_small he
    have h2 := openW_len (nE r) m
    have h3 : nE r * nE r ≤ 40 * 40 := Nat.mul_le_mul h1 h1
    simp only
    omega

def consG (r : Rec) : Bool × List Diff := match consW r with | some l => (true, l) | none => (false, [])
theorem Constraints_g (r : Rec) (k : Bool → List Diff → Option β) : zqof r k = k (consG r).1 (consG r).2 := by
  refine (Constraints_eq r k).trans ?_
  unfold consG
  cases consW r <;> rfl
theorem rConstraints_g (r : Rec) (k : Bool → List Diff → Option β) : zqlr r k = k (consG r).1 (consG r).2 := by
  refine (rConstraints_eq r k).trans ?_
  unfold consG
  cases consW r <;> rfl
theorem consG_len (r : Rec) : (consG r).2.length ≤ 4000 := by
  unfold consG
  cases h : consW r with
  | none => simp
  | some l =>
    unfold consW at h
    by_cases hh : (valid r && whensOk r) = true
    · rw [if_pos hh] at h
      rw [Bool.and_eq_true] at hh
      cases h
      exact cons_len hh.1
    · rw [if_neg hh] at h
      cases h

theorem exact_p5' (k1 : zq13a β) (k2 : zq13b β) (a b : Int) (l times : List Int) (hl : l.length ≤ 1000) (ht : times.length ≤ 1000) {d : Dice} (hd : DiceOk d) (rs : List zq4) (hrs : rs.length ≤ 100) (hE : ∀ r ∈ rs, nE r ≤ 9223372036854775807) :
    zq14d k1 k2 a b l times (rs.length : Int) 0 d.1 d.2 rs = k2 () := by
  obtain ⟨d', _, e⟩ := range_exm (σ := Dice) rs.length (fun _ s => DiceOk s) (fun f j s => zq14b f k1 k2 a b l times (rs.length : Int) j s.1 s.2 rs) (fun _ => k2 ()) d fuel (lt_fuel (by omega)) hd (fun f i s hi hs => by
    have e1 : IntKind.i64.wrap ((i : Int) + 1) = i + 1 := i64_in _ (by omega)
    have hEr := hE _ (getD_mem (d := (([] : List Host), (([] : List Sync), (([] : List Event), ([] : List Link))))) hi)
    rw [zq14c]
    unfold zq13r
    simp only [Int.toNat_natCast]
    generalize rs.getD i (([] : List Host), (([] : List Sync), (([] : List Event), ([] : List Link)))) = r at hEr
    obtain ⟨x, d1, hx0, hx1, hd1, f1⟩ := next_ok (n := 7) hs (by omega)
    obtain ⟨y, d2, hy0, hy1, hd2, f2⟩ := next_ok (n := 6) hd1 (by omega)
    obtain ⟨z, d3, hz0, hz1, hd3, f3⟩ := next_ok (n := 6) hd2 (by omega)
    obtain ⟨u, d4, hu0, hu1, hd4, f4⟩ := next_ok (n := 6) hd3 (by omega)
    have hsl := sortG_len (r.1, r.2.1, r.2.2.1, r.2.2.2)
    have hwl := whenG_len (r.1, r.2.1, r.2.2.1, r.2.2.2)
    have hol := openG_len (r.1, r.2.1, r.2.2.1, r.2.2.2)
    have hcl := consG_len (r.1, r.2.1, r.2.2.1, r.2.2.2)
    obtain ⟨d5, hd5, f5⟩ := exact_p4' (β := β) (fun t10 => k1 t10) (fun (a4 : Int) (b4 : Int) (l6 : List Int) (times4 : List Int) (t854 : Int) (t864 : Int) (d7 : List Int) (d8 : Int) (t844 : List zq4) =>
      zq14b f k1 k2 a4 b4 l6 times4 t854 (IntKind.i64.wrap (t864 + (1 : Int))) d7 d8 t844) a b l times (rs.length : Int) (i : Int) hd4 r rs [l, (sortG (r.1, r.2.1, r.2.2.1, r.2.2.2)).2, times, []] (by simp) (by simp; omega)
    refine ⟨d5, hd5, ?_⟩
    refine (c_pos (by omega)).trans ?_
    refine (c_inb (by omega)).trans ?_
    refine (Constraints_g (r.1, r.2.1, r.2.2.1, r.2.2.2) _).trans ?_
    refine (rConstraints_g (r.1, r.2.1, r.2.2.1, r.2.2.2) _).trans ?_
    refine (c_bself _).trans ?_
    refine (c_npos rfl).trans ?_
    refine (Consistent_g (r.1, r.2.1, r.2.2.1, r.2.2.2) _).trans ?_
    refine (rConsistent_eq (r.1, r.2.1, r.2.2.1, r.2.2.2) _).trans ?_
    refine (c_bself _).trans ?_
    refine (exact_p1' _ _ _ _ _ _ _ _ _ _ _ _ _ _ _ (by omega) _).trans ?_
    refine (When_g (r.1, r.2.1, r.2.2.1, r.2.2.2) _).trans ?_
    refine (rWhen_g (r.1, r.2.1, r.2.2.1, r.2.2.2) _).trans ?_
    refine (Sort_g (r.1, r.2.1, r.2.2.1, r.2.2.2) _).trans ?_
    refine (rSort_gen (r.1, r.2.1, r.2.2.1, r.2.2.2) _).trans ?_
    refine (c_bself _).trans ?_
    refine (sameR_self _ (by omega) _).trans ?_
    refine c_nt.trans ?_
    refine (c_bself _).trans ?_
    refine (same25_self _ (by omega) _).trans ?_
    refine c_nt.trans ?_
    refine (Open_g (r.1, r.2.1, r.2.2.1, r.2.2.2) hEr _).trans ?_
    refine (rOpen_gen (r.1, r.2.1, r.2.2.1, r.2.2.2) _).trans ?_
    refine (pairs_self _ (by omega) _).trans ?_
    refine c_nt.trans ?_
    refine (f1 _).trans ?_
    refine (f2 _).trans ?_
    refine (f3 _).trans ?_
    refine (f4 _).trans ?_
    refine (exact_p2' _ _ _ _ _ _ _ _ _ _ r _ _ _ (by simp)).trans ?_
    refine f5.trans ?_
    rw [e1]) (fun f s hs => by
    rw [zq14c]
    unfold zq13r
    exact c_neg (by omega))
  unfold zq14d
  exact e

theorem orderExact {t : List Int} {raw : Rec} (hraw : nE raw ≤ 9223372036854775807) (a b : Int) (l : List Int) (k : Bool → Option β) : zq14f t raw a b l k = k true := by
  unfold zq14f zq13u
  refine (light_eq _ _).trans ?_
  by_cases hl : (t.length : Int) ≤ 500
  · refine (c_npos hl).trans ?_
    by_cases hs : (30 : Int) < (IntKind.i64.wrap ((IntKind.i64.wrap ((IntKind.i64.wrap ((List.length raw.1 : Int) + (List.length raw.2.1 : Int))) + (List.length raw.2.2.1 : Int))) + (List.length raw.2.2.2 : Int)))
    · refine (c_pos hs).trans ?_
      exact sane40_eq _
    · refine (c_neg hs).trans ?_
      by_cases h60 : (60 : Int) < (l.length : Int)
      · refine (c_pos h60).trans ?_
        exact sane40_eq _
      · refine (c_neg h60).trans ?_
        refine (roll_eq _ _).trans ?_
        obtain ⟨r, d, times, ahead, hr, hd, f1⟩ := record_ok 6 (by omega) (roll_ok hl)
        refine (f1 _).trans ?_
        have hnE := hr.nE_le
        have hlen : times.length = nE r := hr.lenE
        have hm := hr.hosts.most
        have hS := hr.fewS
        have hL := hr.fewL
        have hE : r.2.2.1.length = nE r := rfl
        obtain ⟨odd, d2, hd2, ho, f2⟩ := oddrecord_ok4 (r := r) hd hr.some_ (by omega) (by omega) (by omega) (by omega)
        refine (f2 _).trans ?_
        refine (exact_p5' _ _ _ _ _ _ (by omega) (by omega) hd2 _ (by simp) (fun x hx => ?_)).trans ?_
        · simp only [List.mem_cons, List.not_mem_nil, or_false] at hx
          rcases hx with rfl | rfl | rfl
          · omega
          · omega
          · exact hraw
        · exact sane40_eq _
  · refine (c_nneg hl).trans ?_
    exact sane40_eq _
end
end
end Go.Lift

