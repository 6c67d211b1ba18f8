/- Clocks in plain Lean: what the forms of the chapter 38, the program's and the reference's, compute. -/
import Derived.KernelRfl
import Derived.Test.YtphncllfolehcaaGreatDoorPart9
namespace Go.Lift
open Go.RowKit Go.IntWalk
noncomputable section
set_option linter.unusedVariables false
set_option linter.unusedSimpArgs false

def inN (n low high : Int) : Bool := decide (low ≤ n) && decide (n ≤ high)
theorem inN_iff {n low high : Int} : inN n low high = true ↔ low ≤ n ∧ n ≤ high := by simp [inN]
theorem inN_mk {n low high : Int} (h : low ≤ n ∧ n ≤ high) : inN n low high = true := inN_iff.2 h

abbrev Host := List UInt8 × Int
abbrev Sync := Int × Int × Int × Int
abbrev Event := Int × Int × List UInt8
abbrev Link := Int × Int × Int
abbrev Rec := List Host × List Sync × List Event × List Link

/-- The numbers of a comparison are right. -/
def okSync (s : Sync) : Bool := inN s.2.1 0 8589934592 && (inN s.2.2.1 0 8589934592 && (inN s.2.2.2 0 8589934592 && decide (s.2.2.1 ≤ s.2.2.2)))
def vHost (h : Host) : Bool := inN h.2 0 500000
def vSync (n : Nat) (s : Sync) : Bool := inN s.1 0 ((n : Int) - 1) && okSync s
def vEvent (n : Nat) (e : Event) : Bool := inN e.1 0 ((n : Int) - 1) && inN e.2.1 0 8589934592
def vLink (n : Nat) (l : Link) : Bool := inN l.1 0 ((n : Int) - 1) && (inN l.2.1 0 ((n : Int) - 1) && (!decide (l.1 = l.2.1) && inN l.2.2 0 8589934592))
def small (r : Rec) : Bool := !decide ((8 : Int) < r.1.length) && (!decide ((64 : Int) < r.2.1.length) && (!decide ((40 : Int) < r.2.2.1.length) && !decide ((64 : Int) < r.2.2.2.length)))
def valid (r : Rec) : Bool := small r && (r.1.all vHost && (r.2.1.all (vSync r.1.length) && (r.2.2.1.all (vEvent r.1.length) && r.2.2.2.all (vLink r.2.2.1.length))))

/-- How far the time advances while a clock advances. -/
def elapsed (drift d : Int) : Int × Int :=
  cond (inN drift 0 500000 && inN d 0 8589934592) (d * 1000000 / (1000000 + drift), (d * 1000000 + (1000000 - drift) - 1) / (1000000 - drift)) (0, 0)
def fromS (h : Host) (s : Sync) (c : Int) : Int × Int :=
  cond (vHost h && (okSync s && inN c 0 8589934592))
    (cond (decide (s.2.1 ≤ c)) (s.2.2.1 + (elapsed h.2 (c - s.2.1)).1, s.2.2.2 + (elapsed h.2 (c - s.2.1)).2) (s.2.2.1 - (elapsed h.2 (s.2.1 - c)).2, s.2.2.2 - (elapsed h.2 (s.2.1 - c)).1))
    (-1099511627776, 1099511627776)
def meet2 (a b : Int × Int) : Int × Int := (if b.1 > a.1 then b.1 else a.1, if b.2 < a.2 then b.2 else a.2)
def whenR (r : Rec) (host c : Int) : Int × Int :=
  r.2.1.foldl (fun out s => cond (decide (s.1 = host)) (meet2 out (fromS (r.1.getD host.toNat ([], 0)) s c)) out) (0, 8589934592)
def when? (r : Rec) (host c : Int) : (Int × Int) × Bool :=
  cond (valid r && (inN host 0 ((r.1.length : Int) - 1) && inN c 0 8589934592)) (whenR r host c, !decide ((whenR r host c).2 < (whenR r host c).1)) ((0, 0), false)
section
variable {β : Type}
theorem clock_in_eq (n lo hi : Int) (k : Bool → Option β) : zq4f n lo hi k = k (inN n lo hi) := by
  simp only [zq4f, zq4c, inN, c_kb]
theorem clock_instant_eq (n : Int) (k : Bool → Option β) : zq4m n k = k (inN n 0 8589934592) := by
  simp only [zq4m, zq4j, clock_in_eq]
theorem clock_compared_eq (s : Sync) (k : Bool → Option β) : zqh2 s k = k (okSync s) := by
  simp only [zqh2, zqgz, clock_instant_eq, c_kb, okSync]

theorem clock_Valid_p1_eq (k1 : zqhv β) (k2 : zqhw β) (xs : List Host) (hx : xs.length ≤ 1000000) (r : List Host) (r2 : List Sync) (r3 : List Event) (r4 : List Link) :
    zqiw k1 k2 xs xs.length 0 r r2 r3 r4 = cond (xs.all vHost) (k2 r r2 r3 r4) (k1 false) := by
  refine check_loop (fun m i => zqiu m k1 k2 xs xs.length i r r2 r3 r4) vHost _ _ ([], 0) xs fuel (lt_fuel (by omega)) (fun m i hi => ?_) (fun m => ?_)
  · simp (disch := omega) only [zqiv, zqif, clock_in_eq, c_pos, c_inb, c_not, i64_in, Int.toNat_natCast, vHost]
  · simp (disch := omega) only [zqiv, zqif, c_neg]

theorem clock_Valid_p2_eq (k1 : zqi0 β) (k2 : zqi1 β) (xs : List Sync) (hx : xs.length ≤ 1000000) (r : List Host) (hr : r.length ≤ 1000000) (r2 : List Sync) (r3 : List Event) (r4 : List Link) :
    zqj0 k1 k2 xs xs.length 0 r r2 r3 r4 = cond (xs.all (vSync r.length)) (k2 r r2 r3 r4) (k1 false) := by
  refine check_loop (fun m i => zqiy m k1 k2 xs xs.length i r r2 r3 r4) (vSync r.length) _ _ (0, 0, 0, 0) xs fuel (lt_fuel (by omega)) (fun m i hi => ?_) (fun m => ?_)
  · simp (disch := omega) only [zqiz, zqii, clock_in_eq, clock_compared_eq, c_pos, c_inb, c_not, i64_in, Int.toNat_natCast, vSync, c_and]
  · simp (disch := omega) only [zqiz, zqii, c_neg]

theorem clock_Valid_p3_eq (k1 : zqi5 β) (k2 : zqi6 β) (xs : List Event) (hx : xs.length ≤ 1000000) (r : List Host) (hr : r.length ≤ 1000000) (r2 : List Sync) (r3 : List Event) (r4 : List Link) :
    zqj4 k1 k2 xs xs.length 0 r r2 r3 r4 = cond (xs.all (vEvent r.length)) (k2 r r2 r3 r4) (k1 false) := by
  refine check_loop (fun m i => zqj2 m k1 k2 xs xs.length i r r2 r3 r4) (vEvent r.length) _ _ (0, 0, []) xs fuel (lt_fuel (by omega)) (fun m i hi => ?_) (fun m => ?_)
  · simp (disch := omega) only [zqj3, zqil, clock_in_eq, clock_instant_eq, c_pos, c_inb, c_not, i64_in, Int.toNat_natCast, vEvent, c_and]
  · simp (disch := omega) only [zqj3, zqil, c_neg]

theorem clock_Valid_p4_eq (k1 : zqia β) (k2 : zqib β) (xs : List Link) (hx : xs.length ≤ 1000000) (r : List Host) (r2 : List Sync) (r3 : List Event) (hr : r3.length ≤ 1000000) (r4 : List Link) :
    zqj8 k1 k2 xs xs.length 0 r r2 r3 r4 = cond (xs.all (vLink r3.length)) (k2 ()) (k1 false) := by
  refine check_loop (fun m i => zqj6 m k1 k2 xs xs.length i r r2 r3 r4) (vLink r3.length) _ _ (0, 0, 0) xs fuel (lt_fuel (by omega)) (fun m i hi => ?_) (fun m => ?_)
  · simp (disch := omega) only [zqj7, zqio, clock_in_eq, clock_instant_eq, c_pos, c_inb, c_not, i64_in, Int.toNat_natCast, vLink, c_nand, c_and, Bool.not_not]
  · simp (disch := omega) only [zqj7, zqio, c_neg]

theorem clock_Valid_eq (r : Rec) (k : Bool → Option β) : zqja r k = k (valid r) := by
  simp only [zqja, zqir]
  by_cases h1 : (8 : Int) < r.1.length
  · simp [valid, small, h1]
  by_cases h2 : (64 : Int) < r.2.1.length
  · simp [valid, small, h1, h2]
  by_cases h3 : (40 : Int) < r.2.2.1.length
  · simp [valid, small, h1, h2, h3]
  by_cases h4 : (64 : Int) < r.2.2.2.length
  · simp [valid, small, h1, h2, h3, h4]
  rw [decide_eq_false h1, decide_eq_false h2, decide_eq_false h3, decide_eq_false h4]
  simp only [c_f]
  rw [clock_Valid_p1_eq _ _ _ (by omega), clock_Valid_p2_eq _ _ _ (by omega) _ (by omega), clock_Valid_p3_eq _ _ _ (by omega) _ (by omega), clock_Valid_p4_eq _ _ _ (by omega) _ _ _ (by omega)]
  simp only [c_kb, c_k, valid, small, decide_eq_false h1, decide_eq_false h2, decide_eq_false h3, decide_eq_false h4, Bool.not_false, Bool.true_and]
  apply k_eq
  cases r.1.all vHost <;> cases r.2.1.all (vSync r.1.length) <;> cases r.2.2.1.all (vEvent r.1.length) <;> cases r.2.2.2.all (vLink r.2.2.1.length) <;> rfl

theorem clock_Elapsed_eq (drift d : Int) (k : Int → Int → Option β) : zqhr drift d k = k (elapsed drift d).1 (elapsed drift d).2 := by
  simp only [zqhr, zqho, clock_in_eq, clock_instant_eq, elapsed]
  cases h1 : inN drift 0 500000 with
  | false => rfl
  | true =>
    cases h2 : inN d 0 8589934592 with
    | false => rfl
    | true =>
      have h1 := inN_iff.1 h1
      have h2 := inN_iff.1 h2
      simp (disch := omega) only [zqaw, zqat, Bool.not_true, c_f, Bool.and_true, cond_true, i64_in, i64_quo, c_nneg]

theorem elapsed_bd {drift d : Int} : 0 ≤ (elapsed drift d).1 ∧ (elapsed drift d).1 ≤ 8589934592 ∧ 0 ≤ (elapsed drift d).2 ∧ (elapsed drift d).2 ≤ 17179869184 := by
  unfold elapsed
  cases h : inN drift 0 500000 && inN d 0 8589934592 with
  | false => simp
  | true =>
    simp only [cond_true]
    rw [Bool.and_eq_true, inN_iff, inN_iff] at h
    have hp1 : (0 : Int) < 1000000 + drift := by omega
    have hp2 : (0 : Int) < 1000000 - drift := by omega
    refine ⟨Int.ediv_nonneg (by omega) (by omega), ?_, Int.ediv_nonneg (by omega) (by omega), ?_⟩
    · apply Int.le_of_lt_add_one
      rw [Int.ediv_lt_iff_lt_mul hp1]
      have : (8589934592 + 1) * 1000000 ≤ (8589934592 + 1) * (1000000 + drift) := Int.mul_le_mul_of_nonneg_left (by omega) (by omega)
      omega
    · apply Int.le_of_lt_add_one
      rw [Int.ediv_lt_iff_lt_mul hp2]
      have : (17179869184 + 1) * 500000 ≤ (17179869184 + 1) * (1000000 - drift) := Int.mul_le_mul_of_nonneg_left (by omega) (by omega)
      omega

theorem clock_From_eq (h : Host) (s : Sync) (c : Int) (k : Int × Int → Option β) : zqlm h s c k = k (fromS h s c) := by
  simp only [zqlm, zqlj, clock_in_eq, clock_compared_eq, clock_instant_eq, clock_Elapsed_eq, fromS, vHost]
  cases h1 : inN h.2 0 500000 with
  | false => rfl
  | true =>
    cases h2 : okSync s with
    | false => rfl
    | true =>
      cases h3 : inN c 0 8589934592 with
      | false => rfl
      | true =>
        simp only [okSync, Bool.and_eq_true, inN_iff, decide_eq_true_eq] at h2
        have h3 := inN_iff.1 h3
        simp only [Bool.not_true, c_f, Bool.and_true, cond_true]
        have e1 := @elapsed_bd h.2 (c - s.2.1)
        have e2 := @elapsed_bd h.2 (s.2.1 - c)
        by_cases h4 : s.2.1 ≤ c
        · simp (disch := omega) only [c_pos, i64_in, decide_eq_true h4, cond_true]
        · simp (disch := omega) only [c_neg, i64_in, decide_eq_false h4, cond_false]

theorem valid_bd {r : Rec} (h : valid r = true) : r.1.length ≤ 8 ∧ r.2.1.length ≤ 64 ∧ r.2.2.1.length ≤ 40 ∧ r.2.2.2.length ≤ 64 := by
  simp [valid, small] at h
  omega

end
end
end Go.Lift

/- The dice in plain Lean. -/
namespace Go.Lift
open Go.RowKit Go.IntWalk
noncomputable section
set_option linter.unusedVariables false
set_option linter.unusedSimpArgs false

abbrev Dice := List Int × Int
def DiceOk (d : Dice) : Prop := 0 ≤ d.2 ∧ d.2 ≤ d.1.length ∧ d.1.length ≤ 500

theorem light_eq {β : Type} (l : List Int) (k : Bool → Option β) : zqa l k = k (decide ((l.length : Int) ≤ 500)) := by
  simp only [zqa, zq7]
theorem roll_eq {β : Type} (l : List Int) (k : Dice → Option β) : zqh l k = k (l, 0) := by
  simp only [zqh, zqe]
theorem roll_ok {l : List Int} (h : (l.length : Int) ≤ 500) : DiceOk (l, 0) := ⟨by simp, by simp, by show l.length ≤ 500; omega⟩

theorem next_ok {n : Int} {d : Dice} (hd : DiceOk d) (hn : 1 ≤ n ∧ n ≤ 4611686018427387904) :
    ∃ x d', 0 ≤ x ∧ x < n ∧ DiceOk d' ∧ ∀ {β : Type} (k : Int → Dice → Option β), zq17 n d k = k x d' := by
  obtain ⟨h1, h2, h3⟩ := hd
  by_cases ha : (d.1.length : Int) ≤ d.2
  · exact ⟨0, d, by omega, by omega, ⟨h1, h2, h3⟩, fun k => by simp (disch := omega) only [zq17, zq14, c_pos]⟩
  · generalize hv : List.getD d.1 (Int.toNat d.2) (0 : Int) = v
    have hm1 := Int.tmod_lt_of_pos v (show 0 < n by omega)
    have hm2 : -n < Int.tmod v n := by
      have h5 := Int.tmod_lt_of_pos (-v) (show 0 < n by omega)
      rw [Int.neg_tmod] at h5
      omega
    have hd' : DiceOk (d.1, d.2 + 1) := ⟨by show (0 : Int) ≤ d.2 + 1; omega, by show d.2 + 1 ≤ (d.1.length : Int); omega, h3⟩
    by_cases hc : Int.tmod v n < 0
    · refine ⟨Int.tmod v n + n, (d.1, d.2 + 1), by omega, by omega, hd', fun k => ?_⟩
      simp (disch := omega) only [zq17, zq14, hv, c_pos, c_neg, c_inb, c_nneg, i64_in]
    · refine ⟨Int.tmod v n, (d.1, d.2 + 1), by omega, by omega, hd', fun k => ?_⟩
      simp (disch := omega) only [zq17, zq14, hv, c_pos, c_neg, c_inb, c_nneg, i64_in]

end
end Go.Lift

/- The dice in plain Lean: one of several numbers. -/
namespace Go.Lift
open Go.RowKit Go.IntWalk
noncomputable section
set_option linter.unusedVariables false
set_option linter.unusedSimpArgs false

theorem one_ok {l : List Int} {d : Dice} (hl : 0 < l.length) (hlen : l.length ≤ 1000000) (hd : DiceOk d) :
    ∃ x d', x ∈ l ∧ DiceOk d' ∧ ∀ {β : Type} (k : Int → Dice → Option β), zq1e l d k = k x d' := by
  obtain ⟨x, d', h1, h2, hd', hf⟩ := next_ok (n := (l.length : Int)) hd (by omega)
  have hxn : x.toNat < l.length := by omega
  refine ⟨l.getD x.toNat 0, d', ?_, hd', fun k => ?_⟩
  · simp [List.getD, hxn]
  · simp (disch := omega) only [zq1e, zq1b, hf, c_inb]
end
end Go.Lift

/- Records made by the dice, in plain Lean. -/
namespace Go.Lift
open Go.RowKit Go.IntWalk
noncomputable section
set_option linter.unusedVariables false
set_option linter.unusedSimpArgs false

structure HostsOk (hosts : List Host) (ahead : List Int) : Prop where
  len : ahead.length = hosts.length
  most : hosts.length ≤ 3
  drift : ∀ h ∈ hosts, h.2 = 0 ∨ h.2 = 100 ∨ h.2 = 50000 ∨ h.2 = 500000
  off : ∀ a ∈ ahead, a = 0 ∨ a = 7 ∨ a = 100
/-- A comparison at a true time. -/
def SyncOk (nh : Nat) (ahead : List Int) (s : Sync) : Prop :=
  0 ≤ s.1 ∧ s.1 < nh ∧ ∃ t, 864000 ≤ t ∧ t < 864400 ∧ s.2.1 = t + ahead.getD s.1.toNat 0 ∧ t - 20 ≤ s.2.2.1 ∧ s.2.2.1 ≤ t ∧ t ≤ s.2.2.2 ∧ s.2.2.2 ≤ t + 15
def EventOk (nh : Nat) (ahead : List Int) (e : Event) (t : Int) : Prop :=
  0 ≤ e.1 ∧ e.1 < nh ∧ 864000 ≤ t ∧ t < 864300 ∧ e.2.1 = t + ahead.getD e.1.toNat 0
def LinkOk (times : List Int) (l : Link) : Prop :=
  0 ≤ l.1 ∧ l.1 < times.length ∧ 0 ≤ l.2.1 ∧ l.2.1 < times.length ∧ l.1 ≠ l.2.1 ∧ 0 ≤ l.2.2 ∧ times.getD l.1.toNat 0 + l.2.2 ≤ times.getD l.2.1.toNat 0
/-- What a record of the dice is. -/
structure RecOk (n : Int) (r : Rec) (ahead times : List Int) : Prop where
  hosts : HostsOk r.1 ahead
  some_ : 1 ≤ r.1.length
  fewS : r.2.1.length ≤ 8
  syncs : ∀ s ∈ r.2.1, SyncOk r.1.length ahead s
  lenE : times.length = r.2.2.1.length
  fewE : (r.2.2.1.length : Int) ≤ n
  events : ∀ i, i < r.2.2.1.length → EventOk r.1.length ahead (r.2.2.1.getD i (0, 0, [])) (times.getD i 0)
  fewL : r.2.2.2.length ≤ 8
  links : ∀ l ∈ r.2.2.2, LinkOk times l

theorem getD_mem {α : Type} {l : List α} {i : Nat} {d : α} (h : i < l.length) : l.getD i d ∈ l := by simp [List.getD, h]
theorem getD_append {α : Type} {l l' : List α} {i : Nat} {d : α} (h : i < l.length) : (l ++ l').getD i d = l.getD i d := by simp [List.getD, List.getElem?_append_left h]
theorem getD_last {α : Type} {l : List α} {x d : α} : (l ++ [x]).getD l.length d = x := by simp [List.getD]

theorem record_p1 (n N : Int) (hN : 1 ≤ N ∧ N ≤ 3) {d : Dice} (hd : DiceOk d) :
    ∃ q : Dice × List Int × List Host, (DiceOk q.1 ∧ HostsOk q.2.2 q.2.1 ∧ (q.2.2.length : Int) = N) ∧
      ∀ {β : Type} (k : zqb0 β), zqc4 k n N d.1 d.2 [] [] [] [] [] [] [] [] [] = k n q.1.1 q.1.2 q.2.1 [] [] [] [] q.2.2 [] [] [] := by
  refine while_loop (σ := Int × Dice × List Int × List Host) (ρ := Dice × List Int × List Host) (Kt := zqb0)
    (fun k m s => zqc2 m k n s.1 s.2.1.1 s.2.1.2 s.2.2.1 [] [] [] [] s.2.2.2 [] [] []) (fun k q => k n q.1.1 q.1.2 q.2.1 [] [] [] [] q.2.2 [] [] [])
    (fun s => 0 ≤ s.1 ∧ s.1 + s.2.2.2.length = N ∧ DiceOk s.2.1 ∧ HostsOk s.2.2.2 s.2.2.1) (fun s => s.1.toNat) _ ?_ fuel (N, d, [], []) ⟨by omega, by simp, hd, ⟨rfl, by simp, by simp, by simp⟩⟩ (lt_fuel (by show N.toNat < _; omega))
  rintro ⟨i, d, ahead, hosts⟩ ⟨h0, h1, h2, h3⟩
  simp only at h0 h1 h2 h3
  have hl := h3.len
  by_cases hi : 0 < i
  · left
    obtain ⟨x, d1, hx, hd1, f1⟩ := one_ok (l := [0, 0, 100, 50000, 500000]) (by simp) (by simp) h2
    obtain ⟨y, d2, hy, hd2, f2⟩ := one_ok (l := [0, 7, 100]) (by simp) (by simp) hd1
    refine ⟨(i - 1, d2, ahead ++ [y], hosts ++ [(List.getD [[100, 98], [119, 101, 98], [108, 98]] hosts.length [], x)]), ⟨by simp only; omega, by simp; omega, hd2, ?_⟩, by simp only; omega, fun k m => ?_⟩
    · refine ⟨by simp [hl], by simp; omega, fun h hh => ?_, fun a ha => ?_⟩
      · simp only [List.mem_append, List.mem_singleton] at hh
        rcases hh with hh | rfl
        · exact h3.drift h hh
        · simpa using hx
      · simp only [List.mem_append, List.mem_singleton] at ha
        rcases ha with ha | rfl
        · exact h3.off a ha
        · simpa using hy
    · simp (disch := omega) only [zqc3, zqbk, pair_eta, c_pos, c_inb, c_room, f1, f2, i64_in, List.length_cons, List.length_nil, Int.toNat_natCast]
  · right
    exact ⟨(d, ahead, hosts), ⟨h2, h3, by simp only; omega⟩, fun k m => by simp (disch := omega) only [zqc3, zqbk, c_neg]⟩

theorem ahead_bd {hosts : List Host} {ahead : List Int} (h : HostsOk hosts ahead) (i : Nat) : 0 ≤ ahead.getD i 0 ∧ ahead.getD i 0 ≤ 100 := by
  by_cases hi : i < ahead.length
  · have := h.off _ (getD_mem (d := 0) hi)
    omega
  · simp [List.getD, hi]

theorem record_p2 (n N : Int) (hN : 0 ≤ N ∧ N ≤ 4) {d : Dice} (hd : DiceOk d) {hosts : List Host} {ahead : List Int} (hh : HostsOk hosts ahead) (h1 : 1 ≤ hosts.length) :
    ∃ q : Dice × List Sync, (DiceOk q.1 ∧ (q.2.length : Int) = N ∧ ∀ s ∈ q.2, SyncOk hosts.length ahead s) ∧
      ∀ {β : Type} (k : zqb4 β), zqc8 k n N d.1 d.2 ahead [] [] [] [] hosts [] [] [] = k n q.1.1 q.1.2 ahead [] [] [] [] hosts q.2 [] [] := by
  have hl := hh.len
  have hm := hh.most
  refine while_loop (σ := Int × Dice × List Sync) (ρ := Dice × List Sync) (Kt := zqb4)
    (fun k m s => zqc6 m k n s.1 s.2.1.1 s.2.1.2 ahead [] [] [] [] hosts s.2.2 [] []) (fun k q => k n q.1.1 q.1.2 ahead [] [] [] [] hosts q.2 [] [])
    (fun s => 0 ≤ s.1 ∧ s.1 + s.2.2.length = N ∧ DiceOk s.2.1 ∧ ∀ x ∈ s.2.2, SyncOk hosts.length ahead x) (fun s => s.1.toNat) _ ?_ fuel (N, d, []) ⟨by omega, by simp, hd, by simp⟩ (lt_fuel (by show N.toNat < _; omega))
  rintro ⟨i, d, syncs⟩ ⟨h0, h1', h2, h3⟩
  simp only at h0 h1' h2 h3
  by_cases hi : 0 < i
  · left
    obtain ⟨x, d1, hx0, hx1, hd1, f1⟩ := next_ok (n := (hosts.length : Int)) h2 (by omega)
    obtain ⟨y, d2, hy0, hy1, hd2, f2⟩ := next_ok (n := 400) hd1 (by omega)
    obtain ⟨z, d3, hz, hd3, f3⟩ := one_ok (l := [0, 3, 20]) (by simp) (by simp) hd2
    obtain ⟨u, d4, hu, hd4, f4⟩ := one_ok (l := [0, 2, 15]) (by simp) (by simp) hd3
    simp only [List.mem_cons, List.not_mem_nil, or_false] at hz hu
    have ha := ahead_bd hh x.toNat
    refine ⟨(i - 1, d4, syncs ++ [(x, 864000 + y + ahead.getD x.toNat 0, 864000 + y - z, 864000 + y + u)]), ⟨by simp only; omega, by simp; omega, hd4, ?_⟩, by simp only; omega, fun k m => ?_⟩
    · intro s hs
      simp only [List.mem_append, List.mem_singleton] at hs
      rcases hs with hs | rfl
      · exact h3 s hs
      · exact ⟨hx0, hx1, 864000 + y, by omega, by omega, rfl, by simp only; omega, by simp only; omega, by simp only; omega, by simp only; omega⟩
    · simp (disch := omega) only [zqc7, zqbn, pair_eta, c_pos, c_inb, c_room, f1, f2, f3, f4, i64_in, List.length_cons, List.length_nil, Int.toNat_natCast]
  · right
    exact ⟨(d, syncs), ⟨h2, by simp only; omega, h3⟩, fun k m => by simp (disch := omega) only [zqc7, zqbn, c_neg]⟩

theorem record_p3 (N : Int) (hN : 0 ≤ N ∧ N ≤ 1000) {d : Dice} (hd : DiceOk d) {hosts : List Host} {ahead : List Int} (hh : HostsOk hosts ahead) (h1 : 1 ≤ hosts.length) (syncs : List Sync) :
    ∃ q : Dice × List Int × List Event, (DiceOk q.1 ∧ (q.2.2.length : Int) = N ∧ q.2.1.length = q.2.2.length ∧ ∀ i, i < q.2.2.length → EventOk hosts.length ahead (q.2.2.getD i (0, 0, [])) (q.2.1.getD i 0)) ∧
      ∀ {β : Type} (k : zqb8 β), zqcc k N d.1 d.2 ahead [] [] [] [] [] hosts syncs [] [] = k q.1.1 q.1.2 q.2.1 [] [] [] [] hosts syncs q.2.2 [] := by
  have hl := hh.len
  have hm := hh.most
  refine while_loop (σ := Int × Dice × List Int × List Event) (ρ := Dice × List Int × List Event) (Kt := zqb8)
    (fun k m s => zqca m k s.1 s.2.1.1 s.2.1.2 ahead s.2.2.1 [] [] [] [] hosts syncs s.2.2.2 []) (fun k q => k q.1.1 q.1.2 q.2.1 [] [] [] [] hosts syncs q.2.2 [])
    (fun s => 0 ≤ s.1 ∧ s.1 + s.2.2.2.length = N ∧ s.2.2.1.length = s.2.2.2.length ∧ DiceOk s.2.1 ∧ ∀ i, i < s.2.2.2.length → EventOk hosts.length ahead (s.2.2.2.getD i (0, 0, [])) (s.2.2.1.getD i 0)) (fun s => s.1.toNat) _ ?_ fuel (N, d, [], []) ⟨by omega, by simp, rfl, hd, by simp⟩ (lt_fuel (by show N.toNat < _; omega))
  rintro ⟨i, d, times, evs⟩ ⟨h0, h1', hlen, h2, h3⟩
  simp only at h0 h1' hlen h2 h3
  by_cases hi : 0 < i
  · left
    obtain ⟨x, d1, hx0, hx1, hd1, f1⟩ := next_ok (n := (hosts.length : Int)) h2 (by omega)
    obtain ⟨y, d2, hy0, hy1, hd2, f2⟩ := next_ok (n := 300) hd1 (by omega)
    obtain ⟨z, d3, hz0, hz1, hd3, f3⟩ := next_ok (n := 3) hd2 (by omega)
    have ha := ahead_bd hh x.toNat
    refine ⟨(i - 1, d3, times ++ [864000 + y], evs ++ [(x, 864000 + y + ahead.getD x.toNat 0, List.getD [[117, 112], [100, 111, 119, 110], [115, 108, 111, 119]] z.toNat [])]), ⟨by simp only; omega, by simp; omega, by simp [hlen], hd3, ?_⟩, by simp only; omega, fun k m => ?_⟩
    · intro j hj
      simp only [List.length_append, List.length_singleton] at hj
      by_cases hj' : j < evs.length
      · rw [getD_append hj', getD_append (by omega)]
        exact h3 j hj'
      · obtain rfl : j = evs.length := by omega
        simp only
        rw [getD_last]
        rw [← hlen, getD_last]
        exact ⟨hx0, hx1, by omega, by omega, rfl⟩
    · simp (disch := omega) only [zqcb, zqbq, pair_eta, c_pos, c_inb, c_room, f1, f2, f3, i64_in, List.length_cons, List.length_nil, Int.toNat_natCast]
  · right
    exact ⟨(d, times, evs), ⟨h2, by simp only; omega, hlen, h3⟩, fun k m => by simp (disch := omega) only [zqcb, zqbq, c_neg]⟩

theorem record_p5 (N : Int) (hN : 0 ≤ N ∧ N ≤ 3) {d : Dice} (hd : DiceOk d) (hosts : List Host) (syncs : List Sync) (evs : List Event) {times : List Int} (ht : times.length ≤ 1000) (hb : ∀ i, i < times.length → 864000 ≤ times.getD i 0 ∧ times.getD i 0 < 864300) :
    ∃ q : Dice × List Link, (DiceOk q.1 ∧ q.2.length ≤ 3 ∧ ∀ l ∈ q.2, LinkOk times l) ∧
      ∀ {β : Type} (k : zqbg β), zqci k N d.1 d.2 times [] [] [] [] hosts syncs evs [] = k q.1.1 q.1.2 times [] [] [] [] hosts syncs evs q.2 := by
  refine while_loop (σ := Int × Dice × List Link) (ρ := Dice × List Link) (Kt := zqbg)
    (fun k m s => zqcg m k s.1 s.2.1.1 s.2.1.2 times [] [] [] [] hosts syncs evs s.2.2) (fun k q => k q.1.1 q.1.2 times [] [] [] [] hosts syncs evs q.2)
    (fun s => 0 ≤ s.1 ∧ s.1 + s.2.2.length ≤ N ∧ DiceOk s.2.1 ∧ ∀ x ∈ s.2.2, LinkOk times x) (fun s => s.1.toNat) _ ?_ fuel (N, d, []) ⟨by omega, by simp, hd, by simp⟩ (lt_fuel (by show N.toNat < _; omega))
  rintro ⟨i, d, links⟩ ⟨h0, h1', h2, h3⟩
  simp only at h0 h1' h2 h3
  by_cases hi : 0 < i
  · by_cases ht1 : (1 : Int) < times.length
    · left
      obtain ⟨x, d1, hx0, hx1, hd1, f1⟩ := next_ok (n := (times.length : Int)) h2 (by omega)
      obtain ⟨y, d2, hy0, hy1, hd2, f2⟩ := next_ok (n := (times.length : Int)) hd1 (by omega)
      by_cases hxy : x = y
      · refine ⟨(i - 1, d2, links), ⟨by simp only; omega, by simp only; omega, hd2, h3⟩, by simp only; omega, fun k m => ?_⟩
        simp (disch := omega) only [zqch, zqbw, zqce, zqbu, zqbt, pair_eta, c_pos, c_npos, c_f, f1, f2, i64_in]
      · have bx := hb x.toNat (by omega)
        have by_ := hb y.toNat (by omega)
        by_cases hle : times.getD x.toNat 0 ≤ times.getD y.toNat 0
        · obtain ⟨z, d3, hz0, hz1, hd3, f3⟩ := next_ok (n := times.getD y.toNat 0 - times.getD x.toNat 0 + 1) hd2 (by omega)
          refine ⟨(i - 1, d3, links ++ [(x, y, z)]), ⟨by simp only; omega, by simp; omega, hd3, ?_⟩, by simp only; omega, fun k m => ?_⟩
          · intro l hl
            simp only [List.mem_append, List.mem_singleton] at hl
            rcases hl with hl | rfl
            · exact h3 l hl
            · exact ⟨hx0, hx1, hy0, hy1, hxy, hz0, by simp only; omega⟩
          · simp (disch := omega) only [zqch, zqbw, zqce, zqbu, zqbt, pair_eta, c_pos, c_nneg, c_inb, c_room, f1, f2, f3, i64_in, List.length_cons, List.length_nil]
        · refine ⟨(i - 1, d2, links), ⟨by simp only; omega, by simp only; omega, hd2, h3⟩, by simp only; omega, fun k m => ?_⟩
          simp (disch := omega) only [zqch, zqbw, zqce, zqbu, zqbt, pair_eta, c_pos, c_nneg, c_inb, c_neg, f1, f2, i64_in]
    · right
      exact ⟨(d, links), ⟨h2, by simp only; omega, h3⟩, fun k m => by simp (disch := omega) only [zqch, zqbw, c_pos, c_neg]⟩
  · right
    exact ⟨(d, links), ⟨h2, by simp only; omega, h3⟩, fun k m => by simp (disch := omega) only [zqch, zqbw, c_neg]⟩

theorem record_ok4 (n : Int) (hn : 0 ≤ n ∧ n ≤ 900) {d : Dice} (hd : DiceOk d) :
    ∃ r d' times ahead, RecOk n r ahead times ∧ DiceOk d' ∧ (r.2.1.length ≤ 4 ∧ r.2.2.2.length ≤ 3) ∧ ∀ {β : Type} (k : zq2 → Dice → List Int → Option β), zqck n d k = k r d' times := by
  obtain ⟨x, d1, hx0, hx1, hd1, f1⟩ := next_ok (n := 3) hd (by omega)
  obtain ⟨⟨d2, ahead, hosts⟩, ⟨hd2, hh, hN⟩, f2⟩ := record_p1 n (1 + x) (by omega) hd1
  simp only at hd2 hh hN f2
  obtain ⟨y, d3, hy0, hy1, hd3, f3⟩ := next_ok (n := 5) hd2 (by omega)
  obtain ⟨⟨d4, syncs⟩, ⟨hd4, hs, hsy⟩, f4⟩ := record_p2 n y (by omega) hd3 hh (by omega)
  simp only at hd4 hs hsy f4
  obtain ⟨z, d5, hz0, hz1, hd5, f5⟩ := next_ok (n := n + 1) hd4 (by omega)
  obtain ⟨⟨d6, times, evs⟩, ⟨hd6, he, hte, hev⟩, f6⟩ := record_p3 z (by omega) hd5 hh (by omega) syncs
  simp only at hd6 he hte hev f6
  obtain ⟨u, d7, hu0, hu1, hd7, f7⟩ := next_ok (n := 4) hd6 (by omega)
  obtain ⟨⟨d8, links⟩, ⟨hd8, hl, hli⟩, f8⟩ := record_p5 u (by omega) hd7 hosts syncs evs (times := times) (by omega) (fun i hi => ⟨(hev i (by omega)).2.2.1, (hev i (by omega)).2.2.2.1⟩)
  simp only at hd8 hl hli f8
  refine ⟨(hosts, syncs, evs, links), d8, times, ahead, ⟨hh, by simp only; omega, by simp only; omega, hsy, hte, by simp only; omega, hev, by simp only; omega, hli⟩, hd8, ⟨by simp only; omega, hl⟩, fun k => ?_⟩
  simp (disch := omega) only [zqck, zqbz, f1, f2, f3, f4, f5, f6, f7, f8, i64_in, pair_eta]

theorem record_ok (n : Int) (hn : 0 ≤ n ∧ n ≤ 900) {d : Dice} (hd : DiceOk d) :
    ∃ r d' times ahead, RecOk n r ahead times ∧ DiceOk d' ∧ ∀ {β : Type} (k : zq2 → Dice → List Int → Option β), zqck n d k = k r d' times := by
  obtain ⟨r, d', times, ahead, h1, h2, _, h3⟩ := record_ok4 n hn hd
  exact ⟨r, d', times, ahead, h1, h2, h3⟩

/-- A record of the dice is valid. -/
theorem RecOk.valid {n : Int} {r : Rec} {ahead times : List Int} (h : RecOk n r ahead times) (hn : n ≤ 40) : valid r = true := by
  obtain ⟨hosts, syncs, evs, links⟩ := r
  have hE := h.fewE
  have hS := h.fewS
  have hL := h.fewL
  have hm := h.hosts.most
  have hle := h.lenE
  simp only at hE hS hL hm hle
  have key : ∀ (l : List Int) (i : Nat), (∀ a ∈ l, a = 0 ∨ a = 7 ∨ a = 100) → 0 ≤ l.getD i 0 ∧ l.getD i 0 ≤ 100 := by
    intro l i hl
    by_cases hi : i < l.length
    · have := hl _ (getD_mem (d := 0) hi); omega
    · simp [List.getD, hi]
  have hev : ∀ e ∈ evs, vEvent hosts.length e = true := by
    intro e he
    obtain ⟨i, hi, rfl⟩ := List.getElem_of_mem he
    have := h.events i hi
    simp only at this
    rw [show evs.getD i (0, 0, []) = evs[i] by simp [List.getD, hi]] at this
    obtain ⟨a1, a2, a3, a4, a5⟩ := this
    have := key ahead evs[i].1.toNat h.hosts.off
    simp only [vEvent, Bool.and_eq_true, inN_iff]
    omega
  have hsy : ∀ s ∈ syncs, vSync hosts.length s = true := by
    intro s hs
    obtain ⟨a1, a2, t, a3, a4, a5, a6, a7, a8, a9⟩ := h.syncs s hs
    have := key ahead s.1.toNat h.hosts.off
    simp only [vSync, okSync, Bool.and_eq_true, inN_iff, decide_eq_true_eq]
    simp only at a2
    omega
  have hli : ∀ l ∈ links, vLink evs.length l = true := by
    intro l hl
    obtain ⟨a1, a2, a3, a4, a5, a6, a7⟩ := h.links l hl
    have b1 := h.events l.1.toNat (by simp only; omega)
    have b2 := h.events l.2.1.toNat (by simp only; omega)
    obtain ⟨-, -, c1, c2, -⟩ := b1
    obtain ⟨-, -, c3, c4, -⟩ := b2
    simp only [vLink, Bool.and_eq_true, inN_iff, Bool.not_eq_true', decide_eq_false_iff_not]
    omega
  have hho : ∀ x ∈ hosts, vHost x = true := by
    intro x hx
    have := h.hosts.drift x hx
    simp only [vHost, inN_iff]
    omega
  simp only [Go.Lift.valid, small, Bool.and_eq_true, List.all_eq_true, Bool.not_eq_true', decide_eq_false_iff_not]
  exact ⟨⟨by omega, by omega, by omega, by omega⟩, hho, hsy, hev, hli⟩

end
end Go.Lift

/- When a clock showed a reading. -/
namespace Go.Lift
open Go.RowKit Go.IntWalk
noncomputable section
set_option linter.unusedVariables false
set_option linter.unusedSimpArgs false

theorem elapsed_le {drift d : Int} (h1 : 0 ≤ drift ∧ drift ≤ 500000) (h2 : 0 ≤ d ∧ d ≤ 8589934592) : (elapsed drift d).1 ≤ d ∧ d ≤ (elapsed drift d).2 := by
  unfold elapsed
  rw [inN_mk h1, inN_mk h2]
  simp only [Bool.and_true, cond_true]
  have hp1 : (0 : Int) < 1000000 + drift := by omega
  have hp2 : (0 : Int) < 1000000 - drift := by omega
  constructor
  · apply Int.le_of_lt_add_one
    rw [Int.ediv_lt_iff_lt_mul hp1]
    have : (d + 1) * 1000000 ≤ (d + 1) * (1000000 + drift) := Int.mul_le_mul_of_nonneg_left (by omega) (by omega)
    omega
  · rw [Int.le_ediv_iff_mul_le hp2]
    have : d * (1000000 - drift) ≤ d * 1000000 := Int.mul_le_mul_of_nonneg_left (by omega) (by omega)
    omega

/-- What a comparison says of a reading, if its numbers are right. -/
theorem fromS_eq {h : Host} {s : Sync} {c : Int} (h1 : 0 ≤ h.2 ∧ h.2 ≤ 500000) (h2 : okSync s = true) (h3 : 0 ≤ c ∧ c ≤ 8589934592) :
    fromS h s c = if s.2.1 ≤ c then (s.2.2.1 + (elapsed h.2 (c - s.2.1)).1, s.2.2.2 + (elapsed h.2 (c - s.2.1)).2) else (s.2.2.1 - (elapsed h.2 (s.2.1 - c)).2, s.2.2.2 - (elapsed h.2 (s.2.1 - c)).1) := by
  unfold fromS
  rw [h2, inN_mk h3, vHost, inN_mk h1]
  simp only [Bool.and_self, cond_true]
  split <;> rename_i hc
  · rw [decide_eq_true hc]; rfl
  · rw [decide_eq_false hc]; rfl

/-- The range that a true comparison gives has the true time. -/
theorem fromS_true {h : Host} {s : Sync} {c t a : Int} (h1 : 0 ≤ h.2 ∧ h.2 ≤ 500000) (h2 : okSync s = true) (h3 : 0 ≤ c ∧ c ≤ 8589934592) (hs : s.2.1 = t + a) (hl : s.2.2.1 ≤ t) (hh : t ≤ s.2.2.2) :
    (fromS h s c).1 ≤ c - a ∧ c - a ≤ (fromS h s c).2 := by
  rw [fromS_eq h1 h2 h3]
  simp only [okSync, Bool.and_eq_true, inN_iff, decide_eq_true_eq] at h2
  split
  · have := elapsed_le h1 (d := c - s.2.1) (by omega)
    simp only; omega
  · have := elapsed_le h1 (d := s.2.1 - c) (by omega)
    simp only; omega

theorem meet2_eq (a b : Int × Int) : meet2 a b = (max a.1 b.1, min a.2 b.2) := by
  unfold meet2
  congr 1
  · omega
  · omega

/-- The ranges that the comparisons of a host give. -/
def froms (hosts : List Host) (host c : Int) (syncs : List Sync) : List (Int × Int) := (syncs.filter fun s => decide (s.1 = host)).map fun s => fromS (hosts.getD host.toNat ([], 0)) s c

theorem whenR_eq (r : Rec) (host c : Int) : whenR r host c = (froms r.1 host c r.2.1).foldl meet2 (0, 8589934592) := by
  unfold whenR froms
  generalize ((0 : Int), (8589934592 : Int)) = o
  induction r.2.1 generalizing o with
  | nil => rfl
  | cons s l ih =>
    simp only [List.foldl_cons, ih, List.filter_cons]
    cases decide (s.1 = host) <;> rfl

theorem foldl_meet_in {x : Int} : ∀ {l : List (Int × Int)} {o : Int × Int}, o.1 ≤ x ∧ x ≤ o.2 → (∀ f ∈ l, f.1 ≤ x ∧ x ≤ f.2) → (l.foldl meet2 o).1 ≤ x ∧ x ≤ (l.foldl meet2 o).2
  | [], o, h, _ => h
  | f :: l, o, h, hl => by
    have h1 := hl f (by simp)
    refine foldl_meet_in (o := meet2 o f) ?_ fun g hg => hl g (by simp [hg])
    rw [meet2_eq]
    simp only; omega

theorem foldl_meet_bd : ∀ {l : List (Int × Int)} {o : Int × Int}, o.1 ≤ (l.foldl meet2 o).1 ∧ (l.foldl meet2 o).2 ≤ o.2
  | [], o => ⟨Int.le_refl _, Int.le_refl _⟩
  | f :: l, o => by
    have := @foldl_meet_bd l (meet2 o f)
    rw [meet2_eq] at this
    rw [List.foldl_cons, meet2_eq]
    simp only at this
    omega

section
variable {n : Int} {r : Rec} {ahead times : List Int}
theorem RecOk.sync_ok (h : RecOk n r ahead times) {s : Sync} (hs : s ∈ r.2.1) : okSync s = true ∧ 864000 ≤ s.2.1 ∧ s.2.1 ≤ 864500 ∧ 863980 ≤ s.2.2.1 ∧ s.2.2.2 ≤ 864415 := by
  obtain ⟨a1, a2, t, a3, a4, a5, a6, a7, a8, a9⟩ := h.syncs s hs
  have := ahead_bd h.hosts s.1.toNat
  refine ⟨?_, by omega, by omega, by omega, by omega⟩
  simp only [okSync, Bool.and_eq_true, inN_iff, decide_eq_true_eq]
  omega
theorem RecOk.drift_ok (h : RecOk n r ahead times) (i : Nat) : 0 ≤ (r.1.getD i ([], 0)).2 ∧ (r.1.getD i ([], 0)).2 ≤ 500000 := by
  by_cases hi : i < r.1.length
  · have := h.hosts.drift _ (getD_mem (d := ([], 0)) hi); omega
  · simp [List.getD, hi]

theorem RecOk.froms_true (h : RecOk n r ahead times) {host c : Int} (hh : 0 ≤ host ∧ host < r.1.length) (hc : 0 ≤ c ∧ c ≤ 8589934592) :
    ∀ f ∈ froms r.1 host c r.2.1, f.1 ≤ c - ahead.getD host.toNat 0 ∧ c - ahead.getD host.toNat 0 ≤ f.2 := by
  intro f hf
  simp only [froms, List.mem_map, List.mem_filter, decide_eq_true_eq] at hf
  obtain ⟨s, ⟨hs, rfl⟩, rfl⟩ := hf
  obtain ⟨a1, a2, t, a3, a4, a5, a6, a7, a8, a9⟩ := h.syncs s hs
  exact fromS_true (h.drift_ok _) (h.sync_ok hs).1 hc a5 a7 a8

theorem RecOk.when_true (h : RecOk n r ahead times) {host c : Int} (hh : 0 ≤ host ∧ host < r.1.length) (hc : 100 ≤ c ∧ c ≤ 8589934592) :
    (whenR r host c).1 ≤ c - ahead.getD host.toNat 0 ∧ c - ahead.getD host.toNat 0 ≤ (whenR r host c).2 := by
  rw [whenR_eq]
  have := ahead_bd h.hosts host.toNat
  exact foldl_meet_in (by simp only; omega) (h.froms_true hh (by omega))

theorem RecOk.when? (h : RecOk n r ahead times) (hn : n ≤ 40) {host c : Int} (hh : 0 ≤ host ∧ host < r.1.length) (hc : 100 ≤ c ∧ c ≤ 8589934592) : when? r host c = (whenR r host c, true) := by
  have h1 := h.when_true hh hc
  unfold Go.Lift.when?
  rw [h.valid hn, inN_mk (by omega), inN_mk (by omega)]
  simp only [Bool.and_self, cond_true]
  rw [decide_eq_false (by omega)]
  rfl
end

end
end Go.Lift

/- constraint.Close in plain Lean. -/
namespace Go.Lift
open Go.RowKit Go.IntWalk
noncomputable section
set_option linter.unusedVariables false
set_option linter.unusedSimpArgs false
set_option maxRecDepth 10000

theorem range_getD {n i : Nat} (h : i < n) : (List.range n).getD i 0 = i := by simp [List.getD, h]

section
variable {β : Type}
/-- The rounds of the closure: c rounds from k on. -/
def roundsW (n : Nat) : Nat → Nat → Mat → Option Mat
  | 0, _, m => some m
  | c + 1, k, m => if at2 (roundW n k m) k k < 0 then none else roundsW n c (k + 1) (roundW n k m)

/-- No number of the diagonal is less than 0. -/
def diagOk (n : Nat) (m : Mat) : Bool := (List.range n).all fun i => decide (¬ at2 m i i < 0)

/-- The diagonal is 0 at most. -/
def diagW (n : Nat) (m : Mat) : Mat := (List.range n).foldl (fun m i => setAt m i i (if 0 < at2 m i i then 0 else at2 m i i)) m
theorem Sq.diagW {n : Nat} {m : Mat} (h : Sq n m) : Sq n (diagW n m) := fold_inv (Sq n) _ (fun m i h => h.setAt _ _ _) _ _ h

end
end
end Go.Lift

/- constraint.Valid and constraint.direct in plain Lean. -/
namespace Go.Lift
open Go.RowKit Go.IntWalk
noncomputable section
set_option linter.unusedVariables false
set_option linter.unusedSimpArgs false
set_option maxRecDepth 10000

abbrev Diff := Int × (Int × Int)
section
variable {β : Type}
def diffOk (n : Nat) (d : Diff) : Bool := decide (0 ≤ d.1 ∧ d.1 < n ∧ 0 ≤ d.2.1 ∧ d.2.1 < n ∧ -17179869184 ≤ d.2.2 ∧ d.2.2 ≤ 17179869184)

def validD (n : Nat) (l : List Diff) : Bool := decide (l.length ≤ 4000) && l.all (diffOk n)

end
end
end Go.Lift

/- constraint.direct in plain Lean. -/
namespace Go.Lift
open Go.RowKit Go.IntWalk
noncomputable section
set_option linter.unusedVariables false
set_option linter.unusedSimpArgs false
set_option maxRecDepth 10000

def bigM (n : Nat) : Mat := List.replicate n (List.replicate n BIG)
/-- One constraint more. -/
def putW (m : Mat) (d : Diff) : Mat := setAt m d.1.toNat d.2.1.toNat (if d.2.2 < at2 m d.1.toNat d.2.1.toNat then d.2.2 else at2 m d.1.toNat d.2.1.toNat)
def directW (n : Nat) (l : List Diff) : Mat := l.foldl putW (bigM n)

theorem bigM_sq (n : Nat) : Sq n (bigM n) := by
  refine ⟨by simp [bigM], fun i hi => ?_⟩
  simp [bigM, List.getD, hi]
theorem Sq.putW {n : Nat} {m : Mat} (h : Sq n m) (d : Diff) : Sq n (putW m d) := h.setAt _ _ _
theorem directW_sq (n : Nat) (l : List Diff) : Sq n (directW n l) := fold_inv (Sq n) _ (fun m d h => h.putW d) _ _ (bigM_sq n)

section
variable {β : Type}
/-- What Close returns. -/
def closeW (n : Nat) (l : List Diff) : Option Mat :=
  if validD n l then
    match roundsW n n 0 (diagW n (directW n l)) with
    | some m => if diagOk n m then some m else none
    | none => none
  else none

end
end
end Go.Lift

/- The theory of the closure. -/
namespace Go.Lift
open Go.RowKit Go.IntWalk
noncomputable section
set_option linter.unusedVariables false
set_option linter.unusedSimpArgs false
set_option maxRecDepth 10000

theorem wrap_in {x : Int} (h : -9223372036854775808 ≤ x ∧ x ≤ 9223372036854775807) : IntKind.i64.wrap x = x := i64_in _ h

theorem range_fold {σ : Type} (g : σ → Nat → σ) (s : σ) (c : Nat) : (List.range (c + 1)).foldl g s = g ((List.range c).foldl g s) c := by
  rw [List.range_succ, List.foldl_append]; rfl

/-- What a round needs. -/
structure RH (n k : Nat) (m : Mat) : Prop where
  sq : Sq n m
  zero : at2 m k k = 0
  row : ∀ j, j < n → -1125899906842624 ≤ at2 m k j ∧ at2 m k j < 1099511627776
  col : ∀ i, i < n → -1125899906842624 ≤ at2 m i k ∧ at2 m i k < 1099511627776

theorem relax_at {n k i j : Nat} {m : Mat} (hm : Sq n m) (hi : i < n) (hj : j < n) (h1 : -1125899906842624 ≤ at2 m i k ∧ at2 m i k < 1099511627776) (h2 : -1125899906842624 ≤ at2 m k j ∧ at2 m k j < 1099511627776) (a b : Nat) :
    at2 (relaxW k i j m) a b = if a = i ∧ b = j then min (at2 m i j) (at2 m i k + at2 m k j) else at2 m a b := by
  have hB : BIG = 1099511627776 := rfl
  unfold relaxW
  rw [if_neg (by omega), at_setAt hm hi hj, wrap_in (by omega)]
  split
  · split <;> omega
  · rfl

theorem row_at {n k i : Nat} {m : Mat} (h : RH n k m) (hk : k < n) (hi : i < n) : ∀ (c : Nat), c ≤ n → Sq n ((List.range c).foldl (fun m j => relaxW k i j m) m) ∧ ∀ a b, a < n → b < n →
    at2 ((List.range c).foldl (fun m j => relaxW k i j m) m) a b = if a = i ∧ b < c then min (at2 m a b) (at2 m a k + at2 m k b) else at2 m a b := by
  intro c
  induction c with
  | zero =>
    intro _
    refine ⟨h.sq, fun a b _ _ => ?_⟩
    rw [if_neg (by omega)]
    rfl
  | succ c ih =>
    intro hc
    obtain ⟨s1, s2⟩ := ih (by omega)
    rw [range_fold]
    refine ⟨s1.relaxW _ _ _, fun a b ha hb => ?_⟩
    have z := h.zero
    have r := h.row c (by omega)
    have cc := h.col i hi
    have ck := h.col k hk
    have q1 : at2 ((List.range c).foldl (fun m j => relaxW k i j m) m) i k = at2 m i k := by
      rw [s2 i k hi hk]; split <;> omega
    have q2 : at2 ((List.range c).foldl (fun m j => relaxW k i j m) m) k c = at2 m k c := by
      rw [s2 k c hk (by omega), if_neg (by omega)]
    rw [relax_at s1 hi (by omega) (by rw [q1]; exact cc) (by rw [q2]; exact r), q1, q2, s2 i c hi (by omega), s2 a b ha hb]
    rw [if_neg (show ¬ (i = i ∧ c < c) by omega)]
    by_cases e1 : a = i
    · subst e1
      by_cases e2 : b = c
      · subst e2
        rw [if_pos ⟨rfl, rfl⟩, if_pos (by omega)]
      · rw [if_neg (fun h => e2 h.2)]
        by_cases e3 : b < c
        · rw [if_pos (by omega), if_pos (by omega)]
        · rw [if_neg (by omega), if_neg (by omega)]
    · rw [if_neg (fun h => e1 h.1), if_neg (fun h => e1 h.1), if_neg (fun h => e1 h.1)]

theorem rowW_at {n k i : Nat} {m : Mat} (h : RH n k m) (hk : k < n) (hi : i < n) (a b : Nat) (ha : a < n) (hb : b < n) :
    at2 (rowW n k i m) a b = if a = i then min (at2 m a b) (at2 m a k + at2 m k b) else at2 m a b := by
  refine ((row_at h hk hi n (Nat.le_refl n)).2 a b ha hb).trans ?_
  by_cases e : a = i
  · rw [if_pos ⟨e, hb⟩, if_pos e]
  · rw [if_neg (fun h => e h.1), if_neg e]

theorem rounds_at {n k : Nat} {m : Mat} (h : RH n k m) (hk : k < n) : ∀ (c : Nat), c ≤ n → RH n k ((List.range c).foldl (fun m i => rowW n k i m) m) ∧ ∀ a b, a < n → b < n →
    at2 ((List.range c).foldl (fun m i => rowW n k i m) m) a b = if a < c then min (at2 m a b) (at2 m a k + at2 m k b) else at2 m a b := by
  intro c
  induction c with
  | zero =>
    intro _
    refine ⟨h, fun a b _ _ => ?_⟩
    rw [if_neg (by omega)]
    rfl
  | succ c ih =>
    intro hc
    obtain ⟨s1, s2⟩ := ih (by omega)
    rw [range_fold]
    have hh : ∀ a b, a < n → b < n → at2 (rowW n k c ((List.range c).foldl (fun m i => rowW n k i m) m)) a b = if a < c + 1 then min (at2 m a b) (at2 m a k + at2 m k b) else at2 m a b := by
      intro a b ha hb
      rw [rowW_at s1 hk (by omega) a b ha hb]
      have z := h.zero
      have e1 : at2 ((List.range c).foldl (fun m i => rowW n k i m) m) k b = at2 m k b := by rw [s2 k b hk hb]; split <;> omega
      have e2 : at2 ((List.range c).foldl (fun m i => rowW n k i m) m) a k = at2 m a k := by rw [s2 a k ha hk]; split <;> omega
      rw [e1, e2, s2 a b ha hb]
      split <;> split <;> split <;> omega
    refine ⟨⟨s1.sq.rowW _ _, ?_, ?_, ?_⟩, hh⟩
    · rw [hh k k hk hk]
      have z := h.zero
      split <;> omega
    · intro j hj
      rw [hh k j hk hj]
      have z := h.zero
      have := h.row j hj
      split <;> omega
    · intro i hi
      rw [hh i k hi hk]
      have z := h.zero
      have := h.col i hi
      split <;> omega

theorem roundW_at {n k : Nat} {m : Mat} (h : RH n k m) (hk : k < n) (a b : Nat) (ha : a < n) (hb : b < n) :
    at2 (roundW n k m) a b = min (at2 m a b) (at2 m a k + at2 m k b) := by
  refine ((rounds_at h hk n (Nat.le_refl n)).2 a b ha hb).trans ?_
  rw [if_pos ha]

/- Entries never grow, whatever they are. -/
def Le (n : Nat) (m' m : Mat) : Prop := ∀ a b, a < n → b < n → at2 m' a b ≤ at2 m a b
theorem Le.refl {n : Nat} (m : Mat) : Le n m m := fun _ _ _ _ => Int.le_refl _
theorem Le.trans {n : Nat} {a b c : Mat} (h : Le n a b) (g : Le n b c) : Le n a c := fun i j hi hj => Int.le_trans (h i j hi hj) (g i j hi hj)

theorem relax_le {n k i j : Nat} {m : Mat} (hm : Sq n m) (hi : i < n) (hj : j < n) : Le n (relaxW k i j m) m := by
  intro a b ha hb
  unfold relaxW
  split
  · exact Int.le_refl _
  · rw [at_setAt hm hi hj]
    split
    · rename_i e
      rw [e.1, e.2]
      split <;> omega
    · exact Int.le_refl _

theorem fold_le {n : Nat} (g : Mat → Nat → Mat) (h1 : ∀ m j, Sq n m → Sq n (g m j)) (h2 : ∀ m j, Sq n m → j < n → Le n (g m j) m) : ∀ (l : List Nat) (m : Mat), Sq n m → (∀ x ∈ l, x < n) → Le n (l.foldl g m) m
  | [], m, _, _ => Le.refl m
  | x :: l, m, hm, hl => (fold_le g h1 h2 l (g m x) (h1 m x hm) (fun y hy => hl y (List.mem_cons_of_mem _ hy))).trans (h2 m x hm (hl x (List.mem_cons_self ..)))

theorem row_le {n k i : Nat} {m : Mat} (hm : Sq n m) (hi : i < n) : Le n (rowW n k i m) m :=
  fold_le _ (fun m j h => h.relaxW k i j) (fun m j h hj => relax_le h hi hj) _ m hm (fun x hx => by simpa using hx)
theorem round_le {n k : Nat} {m : Mat} (hm : Sq n m) : Le n (roundW n k m) m :=
  fold_le _ (fun m j h => h.rowW k j) (fun m j h hj => row_le h hj) _ m hm (fun x hx => by simpa using hx)
theorem rounds_le {n : Nat} : ∀ (c k : Nat) (m m' : Mat), Sq n m → roundsW n c k m = some m' → Le n m' m
  | 0, k, m, m', h, e => by cases e; exact Le.refl m
  | c + 1, k, m, m', h, e => by
    unfold roundsW at e
    split at e
    · cases e
    · exact (rounds_le c (k + 1) _ m' (h.roundW k) e).trans (round_le h)
end
end Go.Lift

/- The theory of the closure, 2: the rounds. -/
namespace Go.Lift
open Go.RowKit Go.IntWalk
noncomputable section
set_option linter.unusedVariables false
set_option linter.unusedSimpArgs false
set_option maxRecDepth 10000

/-- The matrix at the beginning. -/
structure Inv0 (n : Nat) (m : Mat) : Prop where
  sq : Sq n m
  lo : ∀ i j, i < n → j < n → -17179869184 ≤ at2 m i j
  row : ∀ j, j < n → at2 m 0 j ≤ 17179869184
  neg : ∀ i, i < n → at2 m i 0 ≤ 0
  diag : ∀ i, i < n → at2 m i i ≤ 0

/-- The matrix behind k rounds. -/
structure Inv (n k : Nat) (W m : Mat) : Prop where
  sq : Sq n m
  hi : ∀ i j, i < n → j < n → at2 m i j ≤ 34359738368
  diag : ∀ i, i < n → at2 m i i ≤ 0
  le : Le n m W
  tri : ∀ a, a < k → a < n → ∀ i j, i < n → j < n → at2 m i j ≤ at2 m i a + at2 m a j
  dl : ∀ i j, i < n → j < n → at2 m i j = at2 W i j ∨ ∃ b, b < k ∧ b < n ∧ at2 m i b + at2 W b j ≤ at2 m i j
  dr : ∀ i j, i < n → j < n → at2 m i j = at2 W i j ∨ ∃ b, b < k ∧ b < n ∧ at2 W i b + at2 m b j ≤ at2 m i j

/-- Numbers whose differences are within a matrix. -/
def SolM (n : Nat) (m : Mat) (x : Nat → Int) : Prop := ∀ i j, i < n → j < n → x j - x i ≤ at2 m i j

theorem Inv0.rh {n : Nat} {m : Mat} (h : Inv0 n m) (hn : 0 < n) (z : at2 m 0 0 = 0) : RH n 0 m :=
  ⟨h.sq, z, fun j hj => by have := h.lo 0 j hn hj; have := h.row j hj; omega, fun i hi => by have := h.lo i 0 hi hn; have := h.neg i hi; omega⟩

theorem Inv0.step {n : Nat} {m : Mat} (h : Inv0 n m) (hn : 0 < n) (z : at2 m 0 0 = 0) : Inv n 1 m (roundW n 0 m) := by
  have e := roundW_at (h.rh hn z) hn
  refine ⟨h.sq.roundW _, fun i j hi hj => ?_, fun i hi => ?_, fun i j hi hj => ?_, fun a ha ha' i j hi hj => ?_, fun i j hi hj => ?_, fun i j hi hj => ?_⟩
  · rw [e i j hi hj]
    have := h.neg i hi; have := h.row j hj
    omega
  · rw [e i i hi hi]
    have := h.diag i hi
    omega
  · rw [e i j hi hj]
    omega
  · obtain rfl : a = 0 := by omega
    rw [e i j hi hj, e i 0 hi hn, e 0 j hn hj]
    omega
  · by_cases hc : at2 m i j ≤ at2 m i 0 + at2 m 0 j
    · left; rw [e i j hi hj]; omega
    · right
      refine ⟨0, by omega, hn, ?_⟩
      rw [e i j hi hj, e i 0 hi hn]
      omega
  · by_cases hc : at2 m i j ≤ at2 m i 0 + at2 m 0 j
    · left; rw [e i j hi hj]; omega
    · right
      refine ⟨0, by omega, hn, ?_⟩
      rw [e i j hi hj, e 0 j hn hj]
      omega

/-- No entry is far below 0, if the diagonal is not. -/
theorem Inv.lo {n k : Nat} {W m : Mat} (h : Inv n k W m) (hk : 1 ≤ k) (w : Inv0 n W) (hn : 0 < n) (z : ∀ i, i < n → 0 ≤ at2 m i i) {i j : Nat} (hi : i < n) (hj : j < n) : -51539607552 ≤ at2 m i j := by
  have row0 : ∀ j, j < n → 0 ≤ at2 m 0 j ∧ at2 m 0 j ≤ 17179869184 := fun j hj => by
    have h1 := h.tri 0 (by omega) hn j j hj hj
    have := z j hj
    have := h.le j 0 hj hn
    have := w.neg j hj
    have := h.le 0 j hn hj
    have := w.row j hj
    omega
  have done : ∀ c b, c < k → c < n → b < n → -17179869184 ≤ at2 m c b := fun c b hc hcn hb => by
    have h1 := h.tri c hc hcn 0 b hn hb
    have := row0 b hb
    have := row0 c hcn
    omega
  have half : ∀ i b, i < n → b < n → -34359738368 ≤ at2 m i b := fun i b hi hb => by
    rcases h.dr i b hi hb with h1 | ⟨c, hc, hcn, h1⟩
    · have := w.lo i b hi hb
      omega
    · have := w.lo i c hi hcn
      have := done c b hc hcn hb
      omega
  have := half i j hi hj
  omega

theorem Inv.rh {n k : Nat} {W m : Mat} (h : Inv n k W m) (hk1 : 1 ≤ k) (hk : k < n) (w : Inv0 n W) (z : ∀ i, i < n → 0 ≤ at2 m i i) : RH n k m :=
  ⟨h.sq, by have := z k hk; have := h.diag k hk; omega,
    fun j hj => by have := h.lo hk1 w (by omega) z hk hj; have := h.hi k j hk hj; omega, fun i hi => by have := h.lo hk1 w (by omega) z hi hk; have := h.hi i k hi hk; omega⟩

theorem Inv.step {n k : Nat} {W m : Mat} (h : Inv n k W m) (hk : k < n) (r : RH n k m) : Inv n (k + 1) W (roundW n k m) := by
  have e := roundW_at r hk
  have z := r.zero
  refine ⟨h.sq.roundW _, fun i j hi hj => ?_, fun i hi => ?_, fun i j hi hj => ?_, fun a ha ha' i j hi hj => ?_, fun i j hi hj => ?_, fun i j hi hj => ?_⟩
  · rw [e i j hi hj]
    have := h.hi i j hi hj
    omega
  · rw [e i i hi hi]
    have := h.diag i hi
    omega
  · rw [e i j hi hj]
    have := h.le i j hi hj
    omega
  · rw [e i j hi hj, e i a hi ha', e a j ha' hj]
    by_cases q : a = k
    · subst q
      omega
    · have t := h.tri a (by omega) ha'
      have t1 := t i j hi hj
      have t2 := t k j hk hj
      have t3 := t i k hi hk
      have t4 := t k k hk hk
      omega
  · by_cases hc : at2 m i j ≤ at2 m i k + at2 m k j
    · rcases h.dl i j hi hj with h1 | ⟨b, hb, hbn, h1⟩
      · left; rw [e i j hi hj]; omega
      · right
        refine ⟨b, by omega, hbn, ?_⟩
        rw [e i j hi hj, e i b hi hbn]
        omega
    · right
      rcases h.dl k j hk hj with h1 | ⟨b, hb, hbn, h1⟩
      · refine ⟨k, by omega, hk, ?_⟩
        rw [e i j hi hj, e i k hi hk]
        omega
      · refine ⟨b, by omega, hbn, ?_⟩
        rw [e i j hi hj, e i b hi hbn]
        omega
  · by_cases hc : at2 m i j ≤ at2 m i k + at2 m k j
    · rcases h.dr i j hi hj with h1 | ⟨b, hb, hbn, h1⟩
      · left; rw [e i j hi hj]; omega
      · right
        refine ⟨b, by omega, hbn, ?_⟩
        rw [e i j hi hj, e b j hbn hj]
        omega
    · right
      rcases h.dr i k hi hk with h1 | ⟨b, hb, hbn, h1⟩
      · refine ⟨k, by omega, hk, ?_⟩
        rw [e i j hi hj, e k j hk hj]
        omega
      · refine ⟨b, by omega, hbn, ?_⟩
        rw [e i j hi hj, e b j hbn hj]
        omega

theorem SolM.step {n k : Nat} {m : Mat} {x : Nat → Int} (s : SolM n m x) (h : RH n k m) (hk : k < n) : SolM n (roundW n k m) x := by
  intro i j hi hj
  rw [roundW_at h hk i j hi hj]
  have := s i j hi hj; have := s i k hi hk; have := s k j hk hj
  omega

theorem rounds_final {n : Nat} {W : Mat} (w : Inv0 n W) : ∀ (c k : Nat) (m m' : Mat), k + c = n → 1 ≤ k → Inv n k W m → roundsW n c k m = some m' → (∀ i, i < n → 0 ≤ at2 m' i i) → Inv n n W m' ∧ ∀ x, SolM n m x → SolM n m' x
  | 0, k, m, m', h, _, hi, e, _ => by
    cases e
    obtain rfl : k = n := by omega
    exact ⟨hi, fun x s => s⟩
  | c + 1, k, m, m', h, h1, hi, e, z => by
    have hk : k < n := by omega
    have zz : ∀ i, i < n → 0 ≤ at2 m i i := fun i hi' => by
      have := rounds_le (c + 1) k m m' hi.sq e i i hi' hi'
      have := z i hi'
      omega
    have r := hi.rh h1 hk w zz
    unfold roundsW at e
    split at e
    · cases e
    · have := rounds_final w c (k + 1) _ m' (by omega) (by omega) (hi.step hk r) e z
      exact ⟨this.1, fun x s => this.2 x (s.step r hk)⟩

theorem SolM.diag {n : Nat} {m : Mat} {x : Nat → Int} (s : SolM n m x) {i : Nat} (hi : i < n) : 0 ≤ at2 m i i := by
  have := s i i hi hi
  omega

theorem rounds_exist {n : Nat} {W : Mat} (w : Inv0 n W) {x : Nat → Int} : ∀ (c k : Nat) (m : Mat), k + c = n → 1 ≤ k → Inv n k W m → SolM n m x → ∃ m', roundsW n c k m = some m' ∧ SolM n m' x
  | 0, k, m, h, _, hi, s => ⟨m, rfl, s⟩
  | c + 1, k, m, h, h1, hi, s => by
    have hk : k < n := by omega
    have r := hi.rh h1 hk w (fun i hi => s.diag hi)
    have s' := s.step r hk
    unfold roundsW
    rw [if_neg (by have := s'.diag hk; omega)]
    exact rounds_exist w c (k + 1) _ (by omega) (by omega) (hi.step hk r) s'

/-- All that is known of a closed matrix. -/
structure ClosedM (n : Nat) (W m : Mat) : Prop where
  inv : Inv n n W m
  start : Inv0 n W
  zero : ∀ i, i < n → at2 m i i = 0
  le : Le n m W
  sol : ∀ x, SolM n W x → SolM n m x

theorem closed_final {n : Nat} (h1 : 1 ≤ n) {W m : Mat} (h : Inv0 n W) (e : roundsW n n 0 W = some m) (z : ∀ i, i < n → 0 ≤ at2 m i i) : ClosedM n W m := by
  have le := rounds_le n 0 W m h.sq e
  have zz : at2 W 0 0 = 0 := by
    have := le 0 0 h1 h1
    have := z 0 h1
    have := h.diag 0 h1
    omega
  obtain ⟨c, rfl⟩ : ∃ c, n = c + 1 := ⟨n - 1, by omega⟩
  unfold roundsW at e
  split at e
  · cases e
  · have := rounds_final h c 1 _ m (by omega) (by omega) (h.step h1 zz) e z
    refine ⟨this.1, h, fun i hi => ?_, le, fun x s => this.2 x (s.step (h.rh h1 zz) h1)⟩
    have := this.1.diag i hi
    have := z i hi
    omega

theorem closed_exist {n : Nat} (h1 : 1 ≤ n) {W : Mat} (h : Inv0 n W) {x : Nat → Int} (s : SolM n W x) : ∃ m, roundsW n n 0 W = some m ∧ ClosedM n W m := by
  have zz : at2 W 0 0 = 0 := by
    have := s.diag h1
    have := h.diag 0 h1
    omega
  have s' := s.step (h.rh h1 zz) h1
  obtain ⟨c, rfl⟩ : ∃ c, n = c + 1 := ⟨n - 1, by omega⟩
  obtain ⟨m', e, s''⟩ := rounds_exist h c 1 _ (by omega) (by omega) (h.step h1 zz) s'
  have e' : roundsW (c + 1) (c + 1) 0 W = some m' := by
    unfold roundsW
    rw [if_neg (by have := s'.diag h1; omega)]
    exact e
  exact ⟨m', e', closed_final h1 h e' (fun i hi => s''.diag hi)⟩

theorem ClosedM.tri {n : Nat} {W m : Mat} (h : ClosedM n W m) {i a j : Nat} (hi : i < n) (ha : a < n) (hj : j < n) : at2 m i j ≤ at2 m i a + at2 m a j := h.inv.tri a ha ha i j hi hj
theorem ClosedM.lo {n : Nat} {W m : Mat} (h : ClosedM n W m) (h1 : 1 ≤ n) {i j : Nat} (hi : i < n) (hj : j < n) : -51539607552 ≤ at2 m i j :=
  h.inv.lo h1 h.start h1 (fun i hi => by have := h.zero i hi; omega) hi hj

/-- Each row is a solution. -/
theorem ClosedM.row {n : Nat} {W m : Mat} (h : ClosedM n W m) {r : Nat} (hr : r < n) : SolM n W (fun j => at2 m r j) := by
  intro i j hi hj
  have := h.tri hr hi hj
  have := h.le i j hi hj
  show at2 m r j - at2 m r i ≤ at2 W i j
  omega
end
end Go.Lift

/- The theory of the closure, 3: constraints. -/
namespace Go.Lift
open Go.RowKit Go.IntWalk
noncomputable section
set_option linter.unusedVariables false
set_option linter.unusedSimpArgs false
set_option maxRecDepth 10000

/-- Numbers that fulfil all constraints. -/
def Sol (l : List Diff) (x : Nat → Int) : Prop := ∀ d ∈ l, x d.2.1.toNat - x d.1.toNat ≤ d.2.2

theorem put_at {n : Nat} {m : Mat} (h : Sq n m) {d : Diff} (hd : diffOk n d = true) (a b : Nat) :
    at2 (putW m d) a b = if a = d.1.toNat ∧ b = d.2.1.toNat then min (at2 m a b) d.2.2 else at2 m a b := by
  have hd := of_decide_eq_true hd
  unfold putW
  rw [at_setAt h (by omega) (by omega)]
  split
  · rename_i e
    rw [e.1, e.2]
    split <;> omega
  · rfl

theorem big_at {n : Nat} {i j : Nat} (hi : i < n) (hj : j < n) : at2 (bigM n) i j = 1099511627776 := by
  unfold at2 bigM
  simp [List.getD, hi, hj]

/-- The direct bounds: what is under all of them. -/
theorem direct_glb {n : Nat} : ∀ (l : List Diff), l.all (diffOk n) = true → ∀ (m : Mat), Sq n m → ∀ i j (v : Int), v ≤ at2 (l.foldl putW m) i j ↔ v ≤ at2 m i j ∧ ∀ d ∈ l, d.1.toNat = i → d.2.1.toNat = j → v ≤ d.2.2
  | [], _, m, hm, i, j, v => by simp
  | d :: l, ho, m, hm, i, j, v => by
    rw [List.all_cons, Bool.and_eq_true] at ho
    simp only [List.foldl_cons]
    rw [direct_glb l ho.2 _ (hm.putW d) i j v, put_at hm ho.1]
    simp only [List.mem_cons, forall_eq_or_imp]
    by_cases e : i = d.1.toNat ∧ j = d.2.1.toNat
    · rw [if_pos e]
      constructor
      · intro h
        refine ⟨by omega, fun _ _ => by omega, h.2⟩
      · intro h
        have := h.2.1 e.1.symm e.2.symm
        exact ⟨by omega, h.2.2⟩
    · rw [if_neg e]
      constructor
      · intro h
        exact ⟨h.1, fun a b => absurd ⟨a.symm, b.symm⟩ e, h.2⟩
      · intro h
        exact ⟨h.1, h.2.2⟩

theorem diag_at {n : Nat} {m : Mat} (hm : Sq n m) {i j : Nat} (hi : i < n) (hj : j < n) : at2 (diagW n m) i j = if i = j then min (at2 m i j) 0 else at2 m i j := by
  have key : ∀ c, c ≤ n → Sq n ((List.range c).foldl (fun m i => setAt m i i (if 0 < at2 m i i then 0 else at2 m i i)) m) ∧ ∀ a b, a < n → b < n →
      at2 ((List.range c).foldl (fun m i => setAt m i i (if 0 < at2 m i i then 0 else at2 m i i)) m) a b = if a = b ∧ a < c then min (at2 m a b) 0 else at2 m a b := by
    intro c
    induction c with
    | zero =>
      intro _
      refine ⟨hm, fun a b _ _ => ?_⟩
      rw [if_neg (by omega)]
      rfl
    | succ c ih =>
      intro hc
      obtain ⟨s1, s2⟩ := ih (by omega)
      rw [range_fold]
      refine ⟨s1.setAt _ _ _, fun a b ha hb => ?_⟩
      rw [at_setAt s1 (by omega) (by omega), s2 c c (by omega) (by omega), s2 a b ha hb, if_neg (show ¬ (c = c ∧ c < c) by omega)]
      by_cases e : a = c ∧ b = c
      · rw [if_pos e, if_pos (show a = b ∧ a < c + 1 by omega), e.1, e.2]
        split <;> omega
      · rw [if_neg e]
        by_cases e2 : a = b ∧ a < c
        · rw [if_pos e2, if_pos (show a = b ∧ a < c + 1 by omega)]
        · rw [if_neg e2, if_neg (show ¬ (a = b ∧ a < c + 1) by omega)]
  refine ((key n (Nat.le_refl n)).2 i j hi hj).trans ?_
  by_cases e : i = j
  · rw [if_pos ⟨e, hi⟩, if_pos e]
  · rw [if_neg (fun h => e h.1), if_neg e]

/-- The matrix at the beginning. -/
def startW (n : Nat) (l : List Diff) : Mat := diagW n (directW n l)

theorem start_glb {n : Nat} {l : List Diff} (ho : l.all (diffOk n) = true) {i j : Nat} (hi : i < n) (hj : j < n) (v : Int) :
    v ≤ at2 (startW n l) i j ↔ v ≤ 1099511627776 ∧ (∀ d ∈ l, d.1.toNat = i → d.2.1.toNat = j → v ≤ d.2.2) ∧ (i = j → v ≤ 0) := by
  unfold startW
  rw [diag_at (directW_sq n l) hi hj]
  have g := direct_glb l ho (bigM n) (bigM_sq n) i j v
  rw [big_at hi hj] at g
  by_cases e : i = j
  · rw [if_pos e]
    constructor
    · intro h
      have := g.1 (by unfold directW at h; omega)
      exact ⟨this.1, this.2, fun _ => by omega⟩
    · intro h
      have := g.2 ⟨h.1, h.2.1⟩
      have := h.2.2 e
      unfold directW
      omega
  · rw [if_neg e]
    constructor
    · intro h
      have := g.1 h
      exact ⟨this.1, this.2, fun h => absurd h e⟩
    · intro h
      exact g.2 ⟨h.1, h.2.1⟩

theorem start_le {n : Nat} {l : List Diff} (ho : l.all (diffOk n) = true) {d : Diff} (hd : d ∈ l) : at2 (startW n l) d.1.toNat d.2.1.toNat ≤ d.2.2 := by
  have h := of_decide_eq_true (List.all_eq_true.1 ho d hd)
  exact ((start_glb ho (by omega) (by omega) _).1 (Int.le_refl _)).2.1 d hd rfl rfl

/-- Every variable has both bounds against the variable 0. -/
structure Conn (n : Nat) (l : List Diff) : Prop where
  pos : 1 ≤ n
  small : n ≤ 41
  valid : validD n l = true
  up : ∀ i, 1 ≤ i → i < n → ∃ d ∈ l, d.1.toNat = 0 ∧ d.2.1.toNat = i
  down : ∀ i, 1 ≤ i → i < n → ∃ d ∈ l, d.1.toNat = i ∧ d.2.1.toNat = 0 ∧ d.2.2 ≤ 0

theorem Conn.all {n : Nat} {l : List Diff} (h : Conn n l) : l.all (diffOk n) = true := by
  have := h.valid
  unfold validD at this
  rw [Bool.and_eq_true] at this
  exact this.2

theorem Conn.inv {n : Nat} {l : List Diff} (h : Conn n l) : Inv0 n (startW n l) := by
  have ho := h.all
  refine ⟨(directW_sq n l).diagW, fun i j hi hj => ?_, fun j hj => ?_, fun i hi => ?_, fun i hi => ?_⟩
  · rw [start_glb ho hi hj]
    refine ⟨by omega, fun d hd _ _ => ?_, by omega⟩
    have := of_decide_eq_true (List.all_eq_true.1 ho d hd)
    omega
  · by_cases e : j = 0
    · subst e
      have := ((start_glb ho h.pos h.pos _).1 (Int.le_refl _)).2.2 rfl
      omega
    · obtain ⟨d, hd, e1, e2⟩ := h.up j (by omega) hj
      have := start_le ho hd
      have := of_decide_eq_true (List.all_eq_true.1 ho d hd)
      rw [e1, e2] at *
      omega
  · by_cases e : i = 0
    · subst e
      have := ((start_glb ho h.pos h.pos _).1 (Int.le_refl _)).2.2 rfl
      omega
    · obtain ⟨d, hd, e1, e2, e3⟩ := h.down i (by omega) hi
      have h1 := start_le ho hd
      rw [e1, e2] at h1
      omega
  · exact ((start_glb ho hi hi _).1 (Int.le_refl _)).2.2 rfl

/-- Solutions of the constraints, as far as numbers below BIG go. -/
theorem sol_iff {n : Nat} {l : List Diff} (ho : l.all (diffOk n) = true) (x : Nat → Int) (hx : ∀ i j, i < n → j < n → x j - x i ≤ 1099511627776) : SolM n (startW n l) x ↔ Sol l x := by
  constructor
  · intro h d hd
    have hh := of_decide_eq_true (List.all_eq_true.1 ho d hd)
    have := h d.1.toNat d.2.1.toNat (by omega) (by omega)
    have := start_le ho hd
    omega
  · intro h i j hi hj
    rw [start_glb ho hi hj]
    refine ⟨hx i j hi hj, fun d hd e1 e2 => ?_, fun e => by subst e; omega⟩
    have := h d hd
    rw [e1, e2] at this
    exact this

/-- All that is known of what Close returns. -/
structure CloseOk (n : Nat) (l : List Diff) (m : Mat) : Prop where
  sq : Sq n m
  lo : ∀ i j, i < n → j < n → -4398046511104 ≤ at2 m i j
  hi : ∀ i j, i < n → j < n → at2 m i j ≤ 34359738368
  zero : ∀ i, i < n → at2 m i i = 0
  tri : ∀ i a j, i < n → a < n → j < n → at2 m i j ≤ at2 m i a + at2 m a j
  /-- no solution goes beyond -/
  sol : ∀ x, Sol l x → ∀ i j, i < n → j < n → x j - x i ≤ at2 m i j
  /-- each row is a solution -/
  row : ∀ r, r < n → Sol l (fun j => at2 m r j)

/-- A solution is bounded. -/
theorem Conn.bounded {n : Nat} {l : List Diff} (h : Conn n l) {x : Nat → Int} (s : Sol l x) : ∀ i j, i < n → j < n → x j - x i ≤ 1099511627776 := by
  have ho := h.all
  intro i j hi hj
  have a : x j - x 0 ≤ 17179869184 := by
    by_cases e : j = 0
    · subst e; omega
    · obtain ⟨d, hd, e1, e2⟩ := h.up j (by omega) hj
      have := s d hd
      have := of_decide_eq_true (List.all_eq_true.1 ho d hd)
      rw [e1, e2] at *
      omega
  have b : x 0 - x i ≤ 17179869184 := by
    by_cases e : i = 0
    · subst e; omega
    · obtain ⟨d, hd, e1, e2, e3⟩ := h.down i (by omega) hi
      have := s d hd
      rw [e1, e2] at this
      omega
  omega

theorem ClosedM.ok {n : Nat} {l : List Diff} (h : Conn n l) {m : Mat} (c : ClosedM n (startW n l) m) : CloseOk n l m := by
  have ho := h.all
  have hs := h.small
  refine ⟨c.inv.sq, fun i j hi hj => ?_, c.inv.hi, c.zero, fun i a j hi ha hj => c.tri hi ha hj, fun x s i j hi hj => ?_, fun r hr => ?_⟩
  · have := c.lo h.pos hi hj
    omega
  · exact c.sol x ((sol_iff ho x (h.bounded s)).2 s) i j hi hj
  · intro d hd
    have hh := of_decide_eq_true (List.all_eq_true.1 ho d hd)
    have := c.row hr d.1.toNat d.2.1.toNat (by omega) (by omega)
    have := start_le ho hd
    omega

theorem diagOk_iff {n : Nat} {m : Mat} : diagOk n m = true ↔ ∀ i, i < n → 0 ≤ at2 m i i := by
  unfold diagOk
  rw [List.all_eq_true]
  constructor
  · intro h i hi
    have := of_decide_eq_true (h i (by simpa using hi))
    omega
  · intro h i hi
    have := h i (by simpa using hi)
    exact decide_eq_true (by omega)

/-- If Close returns a matrix, all is known of it. -/
theorem close_ok {n : Nat} {l : List Diff} (h : Conn n l) {m : Mat} (e : closeW n l = some m) : CloseOk n l m := by
  unfold closeW at e
  rw [if_pos h.valid] at e
  cases hr : roundsW n n 0 (diagW n (directW n l)) with
  | none => rw [hr] at e; cases e
  | some m' =>
    rw [hr] at e
    simp only [] at e
    by_cases hd : diagOk n m' = true
    · rw [if_pos hd] at e
      cases e
      exact (closed_final h.pos h.inv hr (diagOk_iff.1 hd)).ok h
    · rw [if_neg hd] at e; cases e

/-- If there is a solution, Close returns a matrix. -/
theorem close_some {n : Nat} {l : List Diff} (h : Conn n l) {x : Nat → Int} (s : Sol l x) : ∃ m, closeW n l = some m ∧ CloseOk n l m := by
  obtain ⟨m, hr, c⟩ := closed_exist h.pos h.inv ((sol_iff h.all x (h.bounded s)).2 s)
  refine ⟨m, ?_, c.ok h⟩
  unfold closeW
  rw [if_pos h.valid]
  have hr' : roundsW n n 0 (diagW n (directW n l)) = some m := hr
  rw [hr']
  simp only []
  rw [if_pos (diagOk_iff.2 (fun i hi => by have := c.zero i hi; omega))]
end
end Go.Lift

/- The constraints of a record, and what their solutions are. -/
namespace Go.Lift
open Go.RowKit Go.IntWalk
noncomputable section
set_option linter.unusedVariables false
set_option linter.unusedSimpArgs false
set_option maxRecDepth 10000

theorem foldl_flat {α γ : Type} (f : α → List γ) : ∀ (l : List α) (s : List γ), l.foldl (fun s x => s ++ f x) s = s ++ l.flatMap f
  | [], s => by simp
  | x :: l, s => by
    simp only [List.foldl_cons, List.flatMap_cons]
    rw [foldl_flat f l, List.append_assoc]

/-- A loop with a test at each element: out, or on. -/
theorem fold_check {β α σ : Type} (I : Nat → σ → Prop) (F : Nat → Int → σ → Option β) (p : α → Bool) (g : σ → α → σ) (E : Option β) (K : σ → Option β) (d : α) (xs : List α) (s : σ) (n : Nat) (hn : xs.length < n) (h0 : I 0 s)
    (hI : ∀ (i : Nat) s, i < xs.length → I i s → p (xs.getD i d) = true → I (i + 1) (g s (xs.getD i d)))
    (h1 : ∀ (m i : Nat) s, i < xs.length → I i s → F (m + 1) (i : Int) s = cond (p (xs.getD i d)) (F m ((i : Int) + 1) (g s (xs.getD i d))) E)
    (h2 : ∀ (m : Nat) s, I xs.length s → F (m + 1) (xs.length : Int) s = K s) : F n 0 s = cond (xs.all p) (K (xs.foldl g s)) E := by
  have key : ∀ (r : List α) (j fuel : Nat) (s : σ), xs.drop j = r → j + r.length = xs.length → r.length < fuel → I j s → F fuel (j : Int) s = cond (r.all p) (K (r.foldl g s)) E := by
    intro r
    induction r with
    | nil =>
      intro j fuel s hd hj hf hs
      obtain ⟨m, rfl⟩ : ∃ m, fuel = m + 1 := ⟨fuel - 1, by omega⟩
      simp only [List.length_nil, Nat.add_zero] at hj
      subst hj
      exact h2 m s hs
    | cons x r ih =>
      intro j fuel s hd hj hf hs
      obtain ⟨m, rfl⟩ : ∃ m, fuel = m + 1 := ⟨fuel - 1, by omega⟩
      simp only [List.length_cons] at hj hf
      have h3 : j < xs.length := by omega
      have hx : xs.getD j d = x := by
        rw [List.drop_eq_getElem_cons h3] at hd
        injection hd with hd1 hd2
        simp [List.getD, h3, hd1]
      have hr : xs.drop (j + 1) = r := by
        rw [List.drop_eq_getElem_cons h3] at hd
        injection hd with hd1 hd2
      rw [h1 m j s h3 hs, hx]
      have := hI j s h3 hs
      rw [hx] at this
      simp only [List.all_cons, List.foldl_cons]
      cases hp : p x with
      | true => simpa using ih (j + 1) m (g s x) hr (by omega) (by omega) (this hp)
      | false => rfl
  exact key xs 0 n s rfl (by simp) hn h0

/-- The same over the numbers below n. -/
theorem range_check {β σ : Type} (n : Nat) (I : Nat → σ → Prop) (F : Nat → Int → σ → Option β) (p : Nat → Bool) (g : σ → Nat → σ) (E : Option β) (K : σ → Option β) (s : σ) (N : Nat) (hn : n < N) (h0 : I 0 s)
    (hI : ∀ (i : Nat) s, i < n → I i s → p i = true → I (i + 1) (g s i))
    (h1 : ∀ (m i : Nat) s, i < n → I i s → F (m + 1) (i : Int) s = cond (p i) (F m ((i : Int) + 1) (g s i)) E)
    (h2 : ∀ (m : Nat) s, I n s → F (m + 1) (n : Int) s = K s) : F N 0 s = cond ((List.range n).all p) (K ((List.range n).foldl g s)) E := by
  have hl : (List.range n).length = n := List.length_range
  refine fold_check I F p g E K 0 (List.range n) s N (by omega) h0 (fun i s hi hs => ?_) (fun m i s hi hs => ?_) (fun m s hs => ?_)
  · rw [range_getD (by omega)]
    exact hI i s (by omega) hs
  · rw [range_getD (by omega)]
    exact h1 m i s (by omega) hs
  · rw [hl] at hs ⊢
    exact h2 m s hs

theorem range_fold' {β σ : Type} (n : Nat) (I : Nat → σ → Prop) (F : Nat → Int → σ → Option β) (g : σ → Nat → σ) (K : σ → Option β) (s : σ) (N : Nat) (hn : n < N) (h0 : I 0 s)
    (hI : ∀ (i : Nat) s, i < n → I i s → I (i + 1) (g s i))
    (h1 : ∀ (m i : Nat) s, i < n → I i s → F (m + 1) (i : Int) s = F m ((i : Int) + 1) (g s i))
    (h2 : ∀ (m : Nat) s, I n s → F (m + 1) (n : Int) s = K s) : F N 0 s = K ((List.range n).foldl g s) := by
  have h := range_check n I F (fun _ => true) g none K s N hn h0 (fun i s hi hs _ => hI i s hi hs) h1 h2
  rw [h]
  have : (List.range n).all (fun _ => true) = true := by simp
  rw [this]
  rfl

def evAt (r : Rec) (i : Nat) : Event := r.2.2.1.getD i (0, 0, [])
def whenAt (r : Rec) (i : Nat) : (Int × Int) × Bool := when? r (evAt r i).1 (evAt r i).2.1
def driftAt (r : Rec) (h : Int) : Int := (r.1.getD h.toNat ([], 0)).2
def evD (r : Rec) (i : Nat) : List Diff := [(0, ((i : Int) + 1, (whenAt r i).1.2)), ((i : Int) + 1, (0, -(whenAt r i).1.1))]
def pairD (r : Rec) (i j : Nat) : List Diff :=
  if (evAt r j).2.1 < (evAt r i).2.1 then
    [((j : Int) + 1, ((i : Int) + 1, (elapsed (driftAt r (evAt r j).1) ((evAt r i).2.1 - (evAt r j).2.1)).2)), ((i : Int) + 1, ((j : Int) + 1, -(elapsed (driftAt r (evAt r j).1) ((evAt r i).2.1 - (evAt r j).2.1)).1))]
  else
    [((i : Int) + 1, ((j : Int) + 1, (elapsed (driftAt r (evAt r i).1) ((evAt r j).2.1 - (evAt r i).2.1)).2)), ((j : Int) + 1, ((i : Int) + 1, -(elapsed (driftAt r (evAt r i).1) ((evAt r j).2.1 - (evAt r i).2.1)).1))]
def pairIf (r : Rec) (i j : Nat) : List Diff := if (evAt r j).1 = (evAt r i).1 then pairD r i j else []
def pairsI (r : Rec) (n i : Nat) : List Diff := ((List.range n).filter fun j => decide (i < j)).flatMap (pairIf r i)
def linkD (l : Link) : Diff := (l.2.1 + 1, (l.1 + 1, -l.2.2))
def nE (r : Rec) : Nat := r.2.2.1.length
def whensOk (r : Rec) : Bool := (List.range (nE r)).all fun i => (whenAt r i).2
def consL (r : Rec) : List Diff := (List.range (nE r)).flatMap (evD r) ++ (List.range (nE r)).flatMap (pairsI r (nE r)) ++ r.2.2.2.map linkD
/-- The constraints of a record. -/
def consW (r : Rec) : Option (List Diff) := if valid r && whensOk r then some (consL r) else none

/-- Times that fit a record. -/
structure SolR (r : Rec) (x : Nat → Int) : Prop where
  ev : ∀ i, i < nE r → x (i + 1) - x 0 ≤ (whenAt r i).1.2 ∧ x 0 - x (i + 1) ≤ -(whenAt r i).1.1
  pair : ∀ i j, i < nE r → j < nE r → i ≠ j → (evAt r i).1 = (evAt r j).1 → (evAt r i).2.1 ≤ (evAt r j).2.1 →
    (elapsed (driftAt r (evAt r i).1) ((evAt r j).2.1 - (evAt r i).2.1)).1 ≤ x (j + 1) - x (i + 1) ∧ x (j + 1) - x (i + 1) ≤ (elapsed (driftAt r (evAt r i).1) ((evAt r j).2.1 - (evAt r i).2.1)).2
  link : ∀ l ∈ r.2.2.2, l.2.2 ≤ x (l.2.1.toNat + 1) - x (l.1.toNat + 1)

theorem valid_parts {r : Rec} (h : valid r = true) : (∀ h ∈ r.1, 0 ≤ h.2 ∧ h.2 ≤ 500000) ∧ (∀ s ∈ r.2.1, 0 ≤ s.1 ∧ s.1 < r.1.length ∧ okSync s = true) ∧
    (∀ e ∈ r.2.2.1, 0 ≤ e.1 ∧ e.1 < r.1.length ∧ 0 ≤ e.2.1 ∧ e.2.1 ≤ 8589934592) ∧
    (∀ l ∈ r.2.2.2, 0 ≤ l.1 ∧ l.1 < nE r ∧ 0 ≤ l.2.1 ∧ l.2.1 < nE r ∧ l.1 ≠ l.2.1 ∧ 0 ≤ l.2.2 ∧ l.2.2 ≤ 8589934592) := by
  unfold valid at h
  simp only [Bool.and_eq_true, List.all_eq_true] at h
  obtain ⟨_, h1, h2, h3, h4⟩ := h
  refine ⟨fun x hx => ?_, fun x hx => ?_, fun x hx => ?_, fun x hx => ?_⟩
  · exact inN_iff.1 (h1 x hx)
  · have := h2 x hx
    simp only [vSync, Bool.and_eq_true, inN_iff] at this
    exact ⟨by omega, by omega, this.2⟩
  · have := h3 x hx
    simp only [vEvent, Bool.and_eq_true, inN_iff] at this
    omega
  · have := h4 x hx
    simp only [vLink, Bool.and_eq_true, inN_iff, Bool.not_eq_true', decide_eq_false_iff_not] at this
    unfold nE
    omega

theorem valid_ev {r : Rec} (h : valid r = true) {i : Nat} (hi : i < nE r) : 0 ≤ (evAt r i).1 ∧ (evAt r i).1 < r.1.length ∧ 0 ≤ (evAt r i).2.1 ∧ (evAt r i).2.1 ≤ 8589934592 :=
  (valid_parts h).2.2.1 _ (getD_mem hi)

theorem elapsed_zero (d : Int) : elapsed d 0 = (0, 0) := by
  unfold elapsed
  by_cases h : inN d 0 500000 = true
  · have := inN_iff.1 h
    rw [h, inN_mk (by omega)]
    simp only [Bool.and_self, cond_true]
    rw [Int.zero_mul, Int.zero_ediv]
    congr 1
    exact Int.ediv_eq_zero_of_lt (by omega) (by omega)
  · rw [Bool.eq_false_iff.2 h]
    rfl

theorem mem_pairs {r : Rec} {n : Nat} {d : Diff} : d ∈ (List.range n).flatMap (pairsI r n) ↔ ∃ i j, i < j ∧ j < n ∧ (evAt r j).1 = (evAt r i).1 ∧ d ∈ pairD r i j := by
  simp only [List.mem_flatMap, pairsI, List.mem_filter, List.mem_range, decide_eq_true_eq, pairIf]
  constructor
  · rintro ⟨i, hi, j, ⟨hj, hij⟩, hd⟩
    split at hd
    · rename_i e
      exact ⟨i, j, hij, hj, e, hd⟩
    · cases hd
  · rintro ⟨i, j, hij, hj, e, hd⟩
    exact ⟨i, by omega, j, ⟨hj, hij⟩, by rw [if_pos e]; exact hd⟩

theorem mem_cons {r : Rec} {d : Diff} : d ∈ consL r ↔ (∃ i, i < nE r ∧ d ∈ evD r i) ∨ (∃ i j, i < j ∧ j < nE r ∧ (evAt r j).1 = (evAt r i).1 ∧ d ∈ pairD r i j) ∨ ∃ l ∈ r.2.2.2, d = linkD l := by
  unfold consL
  rw [List.mem_append, List.mem_append, mem_pairs, or_assoc]
  simp only [List.mem_flatMap, List.mem_range, List.mem_map, eq_comm]

theorem pairD_sol {r : Rec} {i j : Nat} {x : Nat → Int} : (∀ d ∈ pairD r i j, x d.2.1.toNat - x d.1.toNat ≤ d.2.2) ↔
    (if (evAt r j).2.1 < (evAt r i).2.1 then
      (elapsed (driftAt r (evAt r j).1) ((evAt r i).2.1 - (evAt r j).2.1)).1 ≤ x (i + 1) - x (j + 1) ∧ x (i + 1) - x (j + 1) ≤ (elapsed (driftAt r (evAt r j).1) ((evAt r i).2.1 - (evAt r j).2.1)).2
    else (elapsed (driftAt r (evAt r i).1) ((evAt r j).2.1 - (evAt r i).2.1)).1 ≤ x (j + 1) - x (i + 1) ∧ x (j + 1) - x (i + 1) ≤ (elapsed (driftAt r (evAt r i).1) ((evAt r j).2.1 - (evAt r i).2.1)).2) := by
  have ei : ((i : Int) + 1).toNat = i + 1 := by omega
  have ej : ((j : Int) + 1).toNat = j + 1 := by omega
  unfold pairD
  split
  · simp only [List.mem_cons, List.not_mem_nil, or_false, forall_eq_or_imp, forall_eq, ei, ej]
    omega
  · simp only [List.mem_cons, List.not_mem_nil, or_false, forall_eq_or_imp, forall_eq, ei, ej]
    omega

theorem sol_cons {r : Rec} (hv : valid r = true) (x : Nat → Int) : Sol (consL r) x ↔ SolR r x := by
  have hp := valid_parts hv
  constructor
  · intro h
    refine ⟨fun i hi => ?_, fun i j hi hj hij hh hc => ?_, fun l hl => ?_⟩
    · have h1 := h (0, ((i : Int) + 1, (whenAt r i).1.2)) (mem_cons.2 (.inl ⟨i, hi, by simp [evD]⟩))
      have h2 := h ((i : Int) + 1, (0, -(whenAt r i).1.1)) (mem_cons.2 (.inl ⟨i, hi, by simp [evD]⟩))
      have e : ((i : Int) + 1).toNat = i + 1 := by omega
      simp only [e, Int.toNat_zero] at h1 h2
      exact ⟨h1, h2⟩
    · rcases Nat.lt_or_gt_of_ne hij with hl | hl
      · have := pairD_sol.1 (fun d hd => h d (mem_cons.2 (.inr (.inl ⟨i, j, hl, hj, hh.symm, hd⟩))))
        rw [if_neg (by omega)] at this
        exact this
      · have := pairD_sol.1 (fun d hd => h d (mem_cons.2 (.inr (.inl ⟨j, i, hl, hi, hh, hd⟩))))
        by_cases e : (evAt r i).2.1 = (evAt r j).2.1
        · rw [if_neg (by omega), e, Int.sub_self, elapsed_zero] at this
          rw [e, Int.sub_self, elapsed_zero]
          simp only at this ⊢
          omega
        · rw [if_pos (by omega)] at this
          exact this
    · have h1 := h (linkD l) (mem_cons.2 (.inr (.inr ⟨l, hl, rfl⟩)))
      have := hp.2.2.2 l hl
      have e1 : (l.1 + 1).toNat = l.1.toNat + 1 := by omega
      have e2 : (l.2.1 + 1).toNat = l.2.1.toNat + 1 := by omega
      simp only [linkD, e1, e2] at h1
      omega
  · intro h d hd
    rcases mem_cons.1 hd with ⟨i, hi, hd⟩ | ⟨i, j, hij, hj, hh, hd⟩ | ⟨l, hl, rfl⟩
    · have := h.ev i hi
      have e : ((i : Int) + 1).toNat = i + 1 := by omega
      simp only [evD, List.mem_cons, List.not_mem_nil, or_false] at hd
      rcases hd with rfl | rfl
      · simp only [e, Int.toNat_zero]
        exact this.1
      · simp only [e, Int.toNat_zero]
        exact this.2
    · refine pairD_sol.2 ?_ d hd
      split
      · rename_i hc
        exact h.pair j i hj (by omega) (by omega) hh (by omega)
      · rename_i hc
        exact h.pair i j (by omega) hj (by omega) hh.symm (by omega)
    · have := h.link l hl
      have hb := hp.2.2.2 l hl
      have e1 : (l.1 + 1).toNat = l.1.toNat + 1 := by omega
      have e2 : (l.2.1 + 1).toNat = l.2.1.toNat + 1 := by omega
      simp only [linkD, e1, e2]
      omega

theorem flat_len {α γ : Type} (f : α → List γ) (c : Nat) : ∀ l : List α, (∀ x ∈ l, (f x).length ≤ c) → (l.flatMap f).length ≤ l.length * c
  | [], _ => by simp
  | x :: l, h => by
    have h1 := h x (by simp)
    have h2 := flat_len f c l (fun y hy => h y (by simp [hy]))
    simp only [List.flatMap_cons, List.length_append, List.length_cons, Nat.succ_mul]
    omega

theorem cons_len {r : Rec} (hv : valid r = true) : (consL r).length ≤ 4000 := by
  have hb := valid_bd hv
  have h1 := flat_len (evD r) 2 (List.range (nE r)) (fun i _ => by simp [evD])
  have h2 : ∀ i ∈ List.range (nE r), (pairsI r (nE r) i).length ≤ 80 := fun i _ => by
    have h3 := flat_len (pairIf r i) 2 ((List.range (nE r)).filter fun j => decide (i < j)) (fun j _ => by
      unfold pairIf pairD
      split
      · split <;> simp
      · simp)
    have h4 := List.length_filter_le (fun j => decide (i < j)) (List.range (nE r))
    rw [List.length_range] at h4
    unfold pairsI nE at *
    omega
  have h3 := flat_len (pairsI r (nE r)) 80 _ h2
  unfold consL
  rw [List.length_append, List.length_append, List.length_map]
  rw [List.length_range] at h1 h3
  unfold nE at *
  omega

/-- The ranges of the readings. -/
theorem whenAt_bd {r : Rec} {i : Nat} (h : (whenAt r i).2 = true) : 0 ≤ (whenAt r i).1.1 ∧ (whenAt r i).1.1 ≤ (whenAt r i).1.2 ∧ (whenAt r i).1.2 ≤ 8589934592 := by
  unfold whenAt Go.Lift.when? at h ⊢
  cases hc : (valid r && (inN (evAt r i).1 0 ((r.1.length : Int) - 1) && inN (evAt r i).2.1 0 8589934592)) with
  | false => rw [hc] at h; cases h
  | true =>
    rw [hc] at h
    simp only [cond_true, Bool.not_eq_true', decide_eq_false_iff_not] at h ⊢
    rw [whenR_eq] at h ⊢
    have := @foldl_meet_bd (froms r.1 (evAt r i).1 (evAt r i).2.1 r.2.1) (0, 8589934592)
    simp only at this
    omega

theorem whensOk_iff {r : Rec} : whensOk r = true ↔ ∀ i, i < nE r → (whenAt r i).2 = true := by
  unfold whensOk
  rw [List.all_eq_true]
  simp only [List.mem_range]

theorem consL_ok {r : Rec} (hv : valid r = true) (hw : whensOk r = true) : (consL r).all (diffOk (nE r + 1)) = true := by
  rw [List.all_eq_true]
  intro d hd
  have hp := valid_parts hv
  unfold diffOk
  apply decide_eq_true
  rcases mem_cons.1 hd with ⟨i, hi, hd⟩ | ⟨i, j, hij, hj, hh, hd⟩ | ⟨l, hl, rfl⟩
  · have := whenAt_bd (whensOk_iff.1 hw i hi)
    simp only [evD, List.mem_cons, List.not_mem_nil, or_false] at hd
    rcases hd with rfl | rfl <;> simp only <;> omega
  · unfold pairD at hd
    split at hd <;> simp only [List.mem_cons, List.not_mem_nil, or_false] at hd
    · have := @elapsed_bd (driftAt r (evAt r j).1) ((evAt r i).2.1 - (evAt r j).2.1)
      rcases hd with rfl | rfl <;> simp only <;> omega
    · have := @elapsed_bd (driftAt r (evAt r i).1) ((evAt r j).2.1 - (evAt r i).2.1)
      rcases hd with rfl | rfl <;> simp only <;> omega
  · have := hp.2.2.2 l hl
    simp only [linkD]
    omega

theorem consL_valid {r : Rec} (hv : valid r = true) (hw : whensOk r = true) : validD (nE r + 1) (consL r) = true := by
  unfold validD
  rw [decide_eq_true (cons_len hv), consL_ok hv hw]
  rfl

/-- Every variable is bound both ways. -/
theorem cons_conn {r : Rec} (hv : valid r = true) (hw : whensOk r = true) : Conn (nE r + 1) (consL r) := by
  have hn : nE r ≤ 40 := (valid_bd hv).2.2.1
  refine ⟨by omega, by omega, consL_valid hv hw, fun i h1 h2 => ?_, fun i h1 h2 => ?_⟩
  · refine ⟨(0, (((i - 1 : Nat) : Int) + 1, (whenAt r (i - 1)).1.2)), mem_cons.2 (.inl ⟨i - 1, by omega, by simp [evD]⟩), rfl, ?_⟩
    simp only
    omega
  · refine ⟨(((i - 1 : Nat) : Int) + 1, (0, -(whenAt r (i - 1)).1.1)), mem_cons.2 (.inl ⟨i - 1, by omega, by simp [evD]⟩), ?_, rfl, ?_⟩
    · simp only
      omega
    · have := whenAt_bd (whensOk_iff.1 hw (i - 1) (by omega))
      simp only
      omega

/-- The matrix of a record. -/
def closedW (r : Rec) : Option Mat := match consW r with | some l => closeW (nE r + 1) l | none => none

theorem CloseOk.le_iff {n : Nat} {l : List Diff} {m : Mat} (h : CloseOk n l m) {i j : Nat} (hi : i < n) (hj : j < n) (c : Int) : at2 m i j ≤ c ↔ ∀ x, Sol l x → x j - x i ≤ c := by
  constructor
  · intro hc x s
    exact Int.le_trans (h.sol x s i j hi hj) hc
  · intro hx
    have := hx _ (h.row i hi)
    have := h.zero i hi
    omega

/-- What is known of a record that has a matrix. -/
structure ClosedR (r : Rec) (m : Mat) : Prop where
  valid : valid r = true
  whens : whensOk r = true
  eq : closedW r = some m
  ok : CloseOk (nE r + 1) (consL r) m

theorem closed_some' {r : Rec} (hv : Go.Lift.valid r = true) (hw : whensOk r = true) {x : Nat → Int} (s : SolR r x) : ∃ m, ClosedR r m := by
  obtain ⟨m, e, h⟩ := close_some (cons_conn hv hw) ((sol_cons hv x).2 s)
  refine ⟨m, hv, hw, ?_, h⟩
  unfold closedW consW
  rw [hv, hw]
  exact e

theorem closed_some {r : Rec} (hv : Go.Lift.valid r = true) (hw : whensOk r = true) (hn : nE r ≤ 7) {x : Nat → Int} (s : SolR r x) : ∃ m, ClosedR r m := closed_some' hv hw s

theorem closed_ok' {r : Rec} {m : Mat} (e : closedW r = some m) : ClosedR r m := by
  unfold closedW consW at e
  by_cases h : (Go.Lift.valid r && whensOk r) = true
  · have e0 := e
    rw [if_pos h] at e
    rw [Bool.and_eq_true] at h
    refine ⟨h.1, h.2, ?_, close_ok (cons_conn h.1 h.2) e⟩
    unfold closedW consW
    exact e0
  · rw [if_neg h] at e
    cases e

theorem ClosedR.le_iff {r : Rec} {m : Mat} (h : ClosedR r m) {i j : Nat} (hi : i < nE r + 1) (hj : j < nE r + 1) (c : Int) : at2 m i j ≤ c ↔ ∀ x, SolR r x → x j - x i ≤ c := by
  rw [h.ok.le_iff hi hj]
  exact ⟨fun g x s => g x ((sol_cons h.valid x).2 s), fun g x s => g x ((sol_cons h.valid x).1 s)⟩

theorem ClosedR.row {r : Rec} {m : Mat} (h : ClosedR r m) {i : Nat} (hi : i < nE r + 1) : SolR r (fun j => at2 m i j) := (sol_cons h.valid _).1 (h.ok.row i hi)

theorem ClosedR.sol {r : Rec} {m : Mat} (h : ClosedR r m) {x : Nat → Int} (s : SolR r x) {i j : Nat} (hi : i < nE r + 1) (hj : j < nE r + 1) : x j - x i ≤ at2 m i j :=
  (h.le_iff hi hj _).1 (Int.le_refl _) x s

end
end Go.Lift

/- The functions of the package order in plain Lean. -/
namespace Go.Lift
open Go.RowKit Go.IntWalk
noncomputable section
set_option linter.unusedVariables false
set_option linter.unusedSimpArgs false
set_option maxRecDepth 10000

section
variable {β : Type}
/-- One event is before another one for certain. -/
def bef (m : Mat) (a b : Nat) : Bool := decide (at2 m (b + 1) (a + 1) ≤ -1)
def cmpN (m : Mat) (a b : Nat) : Int := if bef m a b then -1 else if bef m b a then 1 else 0
def rangeN (m : Mat) (i : Nat) : Int × Int := (-at2 m (i + 1) 0, at2 m 0 (i + 1))
structure MatB (n : Nat) (m : Mat) : Prop where
  sq : Sq (n + 1) m
  small : n ≤ 100
  bd : ∀ i j, i < n + 1 → j < n + 1 → -9223372036854775807 ≤ at2 m i j ∧ at2 m i j ≤ 9223372036854775807

def whensN (n : Nat) (m : Mat) : List (Int × Int) := (List.range n).map (rangeN m)

end
end
end Go.Lift

/- Records of the dice and their order; the example of the chapter. -/
namespace Go.Lift
open Go.RowKit Go.IntWalk
noncomputable section
set_option linter.unusedVariables false
set_option linter.unusedSimpArgs false
set_option maxRecDepth 10000

/-- A loop that only looks and always goes on. -/
theorem pass_loop {β : Type} (n : Nat) (F : Nat → Int → Option β) (K : Option β) (N : Nat) (hn : n < N)
    (h1 : ∀ (m i : Nat), i < n → F (m + 1) (i : Int) = F m ((i : Int) + 1))
    (h2 : ∀ (m : Nat), F (m + 1) (n : Int) = K) : F N 0 = K :=
  range_fold' (σ := Unit) n (fun _ _ => True) (fun m i _ => F m i) (fun s _ => s) (fun _ => K) () N hn trivial (fun _ _ _ _ => trivial) (fun m i _ hi _ => h1 m i hi) (fun m _ _ => h2 m)

/-- The true times as a solution. -/
def xOf (times : List Int) (j : Nat) : Int := if j = 0 then 0 else times.getD (j - 1) 0
theorem xOf_zero (times : List Int) : xOf times 0 = 0 := rfl
theorem xOf_succ (times : List Int) (j : Nat) : xOf times (j + 1) = times.getD j 0 := by unfold xOf; rw [if_neg (by omega)]; rfl

section
variable {n : Int} {r : Rec} {ahead times : List Int}
theorem RecOk.nE_le (h : RecOk n r ahead times) : (nE r : Int) ≤ n := h.fewE
theorem RecOk.evOk (h : RecOk n r ahead times) {i : Nat} (hi : i < nE r) : EventOk r.1.length ahead (evAt r i) (times.getD i 0) := h.events i hi

theorem RecOk.whenAt (h : RecOk n r ahead times) (hn : n ≤ 40) {i : Nat} (hi : i < nE r) : (whenAt r i).2 = true ∧ (whenAt r i).1.1 ≤ times.getD i 0 ∧ times.getD i 0 ≤ (whenAt r i).1.2 := by
  obtain ⟨a1, a2, a3, a4, a5⟩ := h.evOk hi
  have hb := ahead_bd h.hosts (evAt r i).1.toNat
  have e := h.when? hn (host := (evAt r i).1) (c := (evAt r i).2.1) ⟨a1, a2⟩ (by omega)
  have t := h.when_true (host := (evAt r i).1) (c := (evAt r i).2.1) ⟨a1, a2⟩ (by omega)
  unfold Go.Lift.whenAt
  rw [e]
  refine ⟨rfl, ?_, ?_⟩ <;> simp only <;> omega

theorem RecOk.whens (h : RecOk n r ahead times) (hn : n ≤ 40) : whensOk r = true := whensOk_iff.2 fun i hi => (h.whenAt hn hi).1

theorem RecOk.solR (h : RecOk n r ahead times) (hn : n ≤ 40) : SolR r (xOf times) := by
  refine ⟨fun i hi => ?_, fun i j hi hj hij hh hc => ?_, fun l hl => ?_⟩
  · have := h.whenAt hn hi
    rw [xOf_succ, xOf_zero]
    omega
  · obtain ⟨a1, a2, a3, a4, a5⟩ := h.evOk hi
    obtain ⟨b1, b2, b3, b4, b5⟩ := h.evOk hj
    rw [xOf_succ, xOf_succ]
    rw [← hh] at b5
    have hd : 0 ≤ driftAt r (evAt r i).1 ∧ driftAt r (evAt r i).1 ≤ 500000 := h.drift_ok _
    have := elapsed_le hd (d := (evAt r j).2.1 - (evAt r i).2.1) (by omega)
    omega
  · have := h.links l hl
    unfold LinkOk at this
    rw [xOf_succ, xOf_succ]
    omega

theorem RecOk.closed (h : RecOk n r ahead times) (hn : n ≤ 7) : ∃ m, ClosedR r m := by
  have := h.nE_le
  exact closed_some (h.valid (by omega)) (h.whens (by omega)) (by omega) (h.solR (by omega))
end

section
variable {β : Type}
theorem c_nt {a b : Option β} : cond (!true) a b = b := rfl
theorem c_nf {a b : Option β} : cond (!false) a b = a := rfl

end

section
variable {β : Type}
end
end
end Go.Lift

/- The reference of the chapter 38 in plain Lean. -/
namespace Go.Lift
open Go.RowKit Go.IntWalk
noncomputable section
set_option linter.unusedVariables false
set_option linter.unusedSimpArgs false

section
variable {β : Type}
theorem ref25_In_eq (n lo hi : Int) (k : Bool → Option β) : zq24 n lo hi k = k (inN n lo hi) := by
  simp only [zq24, zq21, inN, c_kb]
theorem ref38_Valid_p1_eq (k1 : zq56 β) (k2 : zq57 β) (r : List Host) (hr : r.length ≤ 1000000) (r2 : List Sync) (r3 : List Event) (r4 : List Link) :
    zq67 k1 k2 0 r r2 r3 r4 = cond (r.all vHost) (k2 r r2 r3 r4) (k1 false) := by
  refine check_loop (fun m i => zq65 m k1 k2 i r r2 r3 r4) vHost _ _ ([], 0) r fuel (lt_fuel (by omega)) (fun m i hi => ?_) (fun m => ?_)
  · simp (disch := omega) only [zq66, zq5q, ref25_In_eq, c_pos, c_inb, c_not, i64_in, Int.toNat_natCast, vHost]
  · simp (disch := omega) only [zq66, zq5q, c_neg]

theorem vSync_ref (n : Nat) (e : Sync) : vSync n e = (inN e.1 0 ((n : Int) - 1) && (inN e.2.1 0 8589934592 && (inN e.2.2.1 0 e.2.2.2 && !decide ((8589934592 : Int) < e.2.2.2)))) := by
  rw [Bool.eq_iff_iff]
  simp [vSync, okSync, inN]
  omega

theorem ref38_Valid_p2_eq (k1 : zq5b β) (k2 : zq5c β) (r : List Host) (hr : r.length ≤ 1000000) (r2 : List Sync) (hr2 : r2.length ≤ 1000000) (r3 : List Event) (r4 : List Link) :
    zq6b k1 k2 0 r r2 r3 r4 = cond (r2.all (vSync r.length)) (k2 r r2 r3 r4) (k1 false) := by
  refine check_loop (fun m i => zq69 m k1 k2 i r r2 r3 r4) (vSync r.length) _ _ (0, 0, 0, 0) r2 fuel (lt_fuel (by omega)) (fun m i hi => ?_) (fun m => ?_)
  · simp (disch := omega) only [zq6a, zq5t, ref25_In_eq, c_pos, c_inb, c_not, i64_in, Int.toNat_natCast, vSync_ref, c_andn, c_and]
  · simp (disch := omega) only [zq6a, zq5t, c_neg]

theorem ref38_Valid_p3_eq (k1 : zq5g β) (k2 : zq5h β) (r : List Host) (hr : r.length ≤ 1000000) (r2 : List Sync) (r3 : List Event) (hr3 : r3.length ≤ 1000000) (r4 : List Link) :
    zq6f k1 k2 0 r r2 r3 r4 = cond (r3.all (vEvent r.length)) (k2 r r2 r3 r4) (k1 false) := by
  refine check_loop (fun m i => zq6d m k1 k2 i r r2 r3 r4) (vEvent r.length) _ _ (0, 0, []) r3 fuel (lt_fuel (by omega)) (fun m i hi => ?_) (fun m => ?_)
  · simp (disch := omega) only [zq6e, zq5w, ref25_In_eq, c_pos, c_inb, c_not, i64_in, Int.toNat_natCast, vEvent, c_and]
  · simp (disch := omega) only [zq6e, zq5w, c_neg]

theorem ref38_Valid_p4_eq (k1 : zq5l β) (k2 : zq5m β) (r : List Host) (r2 : List Sync) (r3 : List Event) (hr3 : r3.length ≤ 1000000) (r4 : List Link) (hr4 : r4.length ≤ 1000000) :
    zq6j k1 k2 0 r r2 r3 r4 = cond (r4.all (vLink r3.length)) (k2 ()) (k1 false) := by
  refine check_loop (fun m i => zq6h m k1 k2 i r r2 r3 r4) (vLink r3.length) _ _ (0, 0, 0) r4 fuel (lt_fuel (by omega)) (fun m i hi => ?_) (fun m => ?_)
  · simp (disch := omega) only [zq6i, zq5z, ref25_In_eq, c_pos, c_inb, c_not, i64_in, Int.toNat_natCast, vLink, c_nand, c_and, Bool.not_not]
  · simp (disch := omega) only [zq6i, zq5z, c_neg]

theorem ref38_Valid_eq (r : Rec) (k : Bool → Option β) : zq6l r k = k (valid r) := by
  simp only [zq6l, zq62]
  by_cases h1 : (8 : Int) < r.1.length
  · simp [valid, small, h1]
  by_cases h2 : (64 : Int) < r.2.1.length
  · simp [valid, small, h1, h2]
  by_cases h3 : (40 : Int) < r.2.2.1.length
  · simp [valid, small, h1, h2, h3]
  by_cases h4 : (64 : Int) < r.2.2.2.length
  · simp [valid, small, h1, h2, h3, h4]
  rw [decide_eq_false h1, decide_eq_false h2, decide_eq_false h3, decide_eq_false h4]
  simp only [c_f]
  rw [ref38_Valid_p1_eq _ _ _ (by omega), ref38_Valid_p2_eq _ _ _ (by omega) _ (by omega), ref38_Valid_p3_eq _ _ _ (by omega) _ _ (by omega), ref38_Valid_p4_eq _ _ _ _ _ (by omega) _ (by omega)]
  simp only [c_kb, c_k, valid, small, decide_eq_false h1, decide_eq_false h2, decide_eq_false h3, decide_eq_false h4, Bool.not_false, Bool.true_and]
  apply k_eq
  cases r.1.all vHost <;> cases r.2.1.all (vSync r.1.length) <;> cases r.2.2.1.all (vEvent r.1.length) <;> cases r.2.2.2.all (vLink r.2.2.1.length) <;> rfl

theorem ref38_Elapsed_eq (drift d : Int) (k : Int → Int → Option β) : zq6s drift d k = k (elapsed drift d).1 (elapsed drift d).2 := by
  simp only [zq6s, zq6p, ref25_In_eq, elapsed]
  cases h1 : inN drift 0 500000 with
  | false => rfl
  | true =>
    cases h2 : inN d 0 8589934592 with
    | false => rfl
    | true =>
      have h1 := inN_iff.1 h1
      have h2 := inN_iff.1 h2
      simp (disch := omega) only [Bool.not_true, c_f, Bool.and_true, cond_true, i64_in, i64_quo, c_nneg]
      congr 2
      omega

theorem ref38_From_eq (h : Host) (s : Sync) (c : Int) (k : Int × Int → Option β) : zq8m h s c k = k (fromS h s c) := by
  rw [← clock_From_eq h s c k]
  simp only [zqlm, zqlj, clock_in_eq, clock_compared_eq, clock_instant_eq, clock_Elapsed_eq, zq8m, zq8j, ref25_In_eq, ref38_Elapsed_eq]
  have : okSync s = (inN s.2.1 0 8589934592 && (inN s.2.2.1 0 s.2.2.2 && !decide ((8589934592 : Int) < s.2.2.2))) := by
    rw [Bool.eq_iff_iff]; simp [okSync, inN]; omega
  rw [this]
  cases inN h.2 0 500000 <;> cases inN s.2.1 0 8589934592 <;> cases inN s.2.2.1 0 s.2.2.2 <;> cases decide ((8589934592 : Int) < s.2.2.2) <;> rfl

theorem ref38_Meet_eq (a b : Int × Int) (k : Int × Int → Option β) : zq8f a b k = k (meet2 a b) := by simp only [zq8f, zq8c, meet2]
theorem ref38_Empty_eq (a : Int × Int) (k : Bool → Option β) : zq8t a k = k (decide (a.2 < a.1)) := by simp only [zq8t, zq8q]

theorem ref38_When_p1_eq (k1 : zqh6 β) (host c : Int) (r : List Host) (hh : 0 ≤ host ∧ host < r.length) (r2 : List Sync) (hx : r2.length ≤ 1000000) (r3 : List Event) (r4 : List Link) (a b : Int) (o : Int × Int) :
    zqhi k1 host c 0 r r2 r3 r4 a b o.1 o.2 = k1 a b (r2.foldl (fun out s => cond (decide (s.1 = host)) (meet2 out (fromS (r.getD host.toNat ([], 0)) s c)) out) o).1 (r2.foldl (fun out s => cond (decide (s.1 = host)) (meet2 out (fromS (r.getD host.toNat ([], 0)) s c)) out) o).2 := by
  refine fold_loop (σ := Int × Int) (fun m i o => zqhg m k1 host c i r r2 r3 r4 a b o.1 o.2) (fun out s => cond (decide (s.1 = host)) (meet2 out (fromS (r.getD host.toNat ([], 0)) s c)) out) (fun o => k1 a b o.1 o.2) (0, 0, 0, 0) r2 o fuel (lt_fuel (by omega)) (fun m i s hi => ?_) (fun m s => ?_)
  · simp (disch := omega) only [zqhh, zqha, ref38_From_eq, ref38_Meet_eq, c_pos, c_inb, i64_in, Int.toNat_natCast]
    cases decide ((r2.getD i (0, 0, 0, 0)).1 = host) <;> rfl
  · simp (disch := omega) only [zqhh, zqha, c_neg]

theorem ref38_When_eq (r : Rec) (host c : Int) (k : Int × Int → Bool → Option β) : zqhk r host c k = k (when? r host c).1 (when? r host c).2 := by
  simp only [zqhk, zqhd, ref38_Valid_eq, ref25_In_eq, ref38_Empty_eq, when?]
  cases h1 : valid r with
  | false => rfl
  | true =>
    have hb := valid_bd h1
    simp (disch := omega) only [i64_in, Bool.not_true, c_f, Bool.true_and]
    cases h2 : inN host 0 ((r.1.length : Int) - 1) with
    | false => rfl
    | true =>
      cases h3 : inN c 0 8589934592 with
      | false => rfl
      | true =>
        have h2 := inN_iff.1 h2
        simp only [Bool.not_true, c_f, Bool.and_true, cond_true]
        rw [ref38_When_p1_eq _ host c r.1 (by omega) r.2.1 (by omega) r.2.2.1 r.2.2.2 0 0 (0, 8589934592)]
        rfl

end
end
end Go.Lift

/- The reference of the chapter 39 in plain Lean. -/
namespace Go.Lift
open Go.RowKit Go.IntWalk
noncomputable section
set_option linter.unusedVariables false
set_option linter.unusedSimpArgs false
set_option maxRecDepth 10000

/-! ### The rounds, with a look at the whole diagonal behind each -/
def refRounds (n : Nat) : Nat → Nat → Mat → Option Mat
  | 0, _, m => some m
  | c + 1, k, m => if diagOk n (roundW n k m) then refRounds n c (k + 1) (roundW n k m) else none

theorem refRounds_eq {n : Nat} : ∀ (c k : Nat) (m : Mat), Sq n m → k + (c + 1) = n → refRounds n (c + 1) k m = (match roundsW n (c + 1) k m with | some m' => if diagOk n m' then some m' else none | none => none) := by
  intro c
  induction c with
  | zero =>
    intro k m hm hk
    have h1 := hm.roundW k
    unfold refRounds roundsW
    cases hd : diagOk n (roundW n k m) with
    | true =>
      have := diagOk_iff.1 hd k (by omega)
      rw [if_neg (show ¬ at2 (roundW n k m) k k < 0 by omega)]
      simp [refRounds, roundsW, hd]
    | false =>
      simp only [Bool.false_eq_true, if_false]
      by_cases hk0 : at2 (roundW n k m) k k < 0
      · rw [if_pos hk0]
      · rw [if_neg hk0]
        simp [roundsW, hd]
  | succ c ih =>
    intro k m hm hk
    have h1 := hm.roundW k
    have e : roundsW n (c + 1 + 1) k m = if at2 (roundW n k m) k k < 0 then none else roundsW n (c + 1) (k + 1) (roundW n k m) := rfl
    have e' : refRounds n (c + 1 + 1) k m = if diagOk n (roundW n k m) then refRounds n (c + 1) (k + 1) (roundW n k m) else none := rfl
    rw [e, e']
    cases hd : diagOk n (roundW n k m) with
    | true =>
      have := diagOk_iff.1 hd k (by omega)
      rw [if_neg (show ¬ at2 (roundW n k m) k k < 0 by omega), if_pos rfl]
      exact ih (k + 1) _ h1 (by omega)
    | false =>
      rw [if_neg (by simp)]
      split
      · rename_i m' heq
        split at heq
        · cases heq
        · have hle := rounds_le (c + 1) (k + 1) _ m' h1 heq
          have hd' : diagOk n m' = false := by
            cases hx : diagOk n m' with
            | false => rfl
            | true =>
              have : diagOk n (roundW n k m) = true := diagOk_iff.2 (fun i hi => by
                have := diagOk_iff.1 hx i hi
                have := hle i i hi hi
                omega)
              rw [hd] at this
              cases this
          rw [hd']
          rfl
      · rfl

/-! ### The beginning -/
def initM (n : Nat) : Mat := (List.range n).map fun i => (List.replicate n BIG).set i 0
theorem initM_sq (n : Nat) : Sq n (initM n) := by
  refine ⟨by simp [initM], fun i hi => ?_⟩
  simp [initM, List.getD, hi]
theorem initM_at {n i j : Nat} (hi : i < n) (hj : j < n) : at2 (initM n) i j = if i = j then 0 else 1099511627776 := by
  unfold at2 initM
  have : ((List.range n).map fun i => (List.replicate n BIG).set i 0).getD i [] = (List.replicate n BIG).set i 0 := by simp [List.getD, hi]
  rw [this]
  by_cases h : i = j
  · rw [if_pos h, ← h, getD_set_eq (by simp; exact hi)]
  · rw [if_neg h, getD_set_ne h]
    simp [List.getD, hj]

def noSelf (l : List Diff) : Prop := ∀ d ∈ l, d.1.toNat ≠ d.2.1.toNat

theorem fold_put_sq {n : Nat} (l : List Diff) {m : Mat} (hm : Sq n m) : Sq n (l.foldl putW m) := fold_inv (Sq n) _ (fun m d h => h.putW d) _ _ hm

theorem start_init {n : Nat} {l : List Diff} (ho : l.all (diffOk n) = true) (hs : noSelf l) : l.foldl putW (initM n) = startW n l := by
  refine mat_ext (fold_put_sq l (initM_sq n)) (directW_sq n l).diagW (fun i j hi hj => ?_)
  have g1 := direct_glb l ho (initM n) (initM_sq n) i j
  have g2 := start_glb ho hi hj
  have key : ∀ v, v ≤ at2 (l.foldl putW (initM n)) i j ↔ v ≤ at2 (startW n l) i j := by
    intro v
    rw [g1 v, g2 v, initM_at hi hj]
    by_cases h : i = j
    · rw [if_pos h]
      constructor
      · intro hv
        exact ⟨by omega, hv.2, fun _ => hv.1⟩
      · intro hv
        exact ⟨hv.2.2 h, hv.2.1⟩
    · rw [if_neg h]
      constructor
      · intro hv
        exact ⟨hv.1, hv.2, fun e => absurd e h⟩
      · intro hv
        exact ⟨hv.1, hv.2.1⟩
  exact Int.le_antisymm ((key _).1 (Int.le_refl _)) ((key _).2 (Int.le_refl _))

/-- No entry is beyond BIG. -/
def Cap (n : Nat) (m : Mat) : Prop := ∀ i j, i < n → j < n → at2 m i j ≤ 1099511627776
theorem Cap.le {n : Nat} {m m' : Mat} (h : Cap n m) (hl : Le n m' m) : Cap n m' := fun i j hi hj => Int.le_trans (hl i j hi hj) (h i j hi hj)
theorem Cap.relax {n : Nat} {m : Mat} (h : Cap n m) (hm : Sq n m) {k i j : Nat} (hi : i < n) (hj : j < n) : Cap n (relaxW k i j m) := h.le (relax_le hm hi hj)
theorem start_cap {n : Nat} {l : List Diff} (ho : l.all (diffOk n) = true) : Cap n (startW n l) := fun i j hi hj => ((start_glb ho hi hj _).1 (Int.le_refl _)).1

section
variable {β : Type}
theorem ref39_Valid_eq {n : Nat} (h1 : 1 ≤ n) (hn : n ≤ 41) {l : List Diff} (k : Bool → Option β) : zq7b (n : Int) l k = k (validD n l) := by
  unfold zq7b zq74
  refine (ref25_In_eq _ _ _ _).trans ?_
  rw [inN_mk (by omega)]
  refine c_nt.trans ?_
  unfold validD
  by_cases hl : l.length ≤ 4000
  · refine (c_neg (by omega)).trans ?_
    rw [decide_eq_true hl, Bool.true_and]
    unfold zq79
    refine (check_loop (fun f j => zq77 f (fun t => k t) (fun _ => k true) (n : Int) l j) (diffOk n) (k false) (k true) ((0 : Int), ((0 : Int), (0 : Int))) l fuel (lt_fuel (by omega)) (fun f j hj => ?_) (fun f => ?_)).trans ?_
    · have e1 : IntKind.i64.wrap ((j : Int) + 1) = j + 1 := i64_in _ (by omega)
      have e2 : IntKind.i64.wrap ((n : Int) - 1) = n - 1 := i64_in _ (by omega)
      rw [zq78]
      unfold zq71
      simp only [Int.toNat_natCast, e1, e2]
      refine (c_pos (by omega)).trans ?_
      refine (c_inb (by omega)).trans ?_
      generalize l.getD j ((0 : Int), ((0 : Int), (0 : Int))) = d
      refine (ref25_In_eq _ _ _ _).trans ?_
      unfold diffOk
      by_cases a1 : 0 ≤ d.1 ∧ d.1 ≤ (n : Int) - 1
      · rw [inN_mk a1]
        refine c_nt.trans ?_
        refine (c_inb (by omega)).trans ?_
        refine (ref25_In_eq _ _ _ _).trans ?_
        by_cases a2 : 0 ≤ d.2.1 ∧ d.2.1 ≤ (n : Int) - 1
        · rw [inN_mk a2]
          refine c_nt.trans ?_
          refine (c_inb (by omega)).trans ?_
          refine (ref25_In_eq _ _ _ _).trans ?_
          by_cases a3 : -17179869184 ≤ d.2.2 ∧ d.2.2 ≤ 17179869184
          · rw [inN_mk a3, decide_eq_true (show (0 ≤ d.1 ∧ d.1 < (n : Int) ∧ 0 ≤ d.2.1 ∧ d.2.1 < (n : Int) ∧ -17179869184 ≤ d.2.2 ∧ d.2.2 ≤ 17179869184) by omega)]
            rfl
          · have : inN d.2.2 (-17179869184) 17179869184 = false := Bool.eq_false_iff.2 (fun h => a3 (inN_iff.1 h))
            rw [this, decide_eq_false (show ¬ (0 ≤ d.1 ∧ d.1 < (n : Int) ∧ 0 ≤ d.2.1 ∧ d.2.1 < (n : Int) ∧ -17179869184 ≤ d.2.2 ∧ d.2.2 ≤ 17179869184) by omega)]
            rfl
        · have : inN d.2.1 0 ((n : Int) - 1) = false := Bool.eq_false_iff.2 (fun h => a2 (inN_iff.1 h))
          rw [this, decide_eq_false (show ¬ (0 ≤ d.1 ∧ d.1 < (n : Int) ∧ 0 ≤ d.2.1 ∧ d.2.1 < (n : Int) ∧ -17179869184 ≤ d.2.2 ∧ d.2.2 ≤ 17179869184) by omega)]
          rfl
      · have : inN d.1 0 ((n : Int) - 1) = false := Bool.eq_false_iff.2 (fun h => a1 (inN_iff.1 h))
        rw [this, decide_eq_false (show ¬ (0 ≤ d.1 ∧ d.1 < (n : Int) ∧ 0 ≤ d.2.1 ∧ d.2.1 < (n : Int) ∧ -17179869184 ≤ d.2.2 ∧ d.2.2 ≤ 17179869184) by omega)]
        rfl
    · rw [zq78]
      unfold zq71
      exact c_neg (by omega)
    · cases l.all (diffOk n) <;> rfl
  · refine (c_pos (by omega)).trans ?_
    rw [decide_eq_false hl]
    rfl

theorem rclose_p1 {n : Nat} (hn : n ≤ 100) (k1 : zqeb β) (l : List Diff) (i : Int) (d : Mat) :
    zqg3 k1 (n : Int) l i 0 d [] = k1 (n : Int) l i d (List.replicate n BIG) := by
  have key := range_fold' n (fun i (s : List Int) => s.length = i) (fun f j s => zqg1 f k1 (n : Int) l i j d s) (fun s _ => s ++ [BIG]) (fun s => k1 (n : Int) l i d s) [] fuel (lt_fuel (by omega)) rfl
    (fun i s hi hs => by simp [hs])
    (fun f j s hj hs => by
      have e1 : IntKind.i64.wrap ((j : Int) + 1) = j + 1 := i64_in _ (by omega)
      rw [zqg2]
      unfold zqfa
      simp only [e1]
      refine (c_pos (by omega)).trans ?_
      exact c_room (by simp only [List.length_cons, List.length_nil]; omega))
    (fun f s hs => by
      rw [zqg2]
      unfold zqfa
      exact c_neg (by omega))
  unfold zqg3
  rw [key]
  congr 1
  have : ∀ c, (List.range c).foldl (fun (s : List Int) _ => s ++ [BIG]) [] = List.replicate c BIG := by
    intro c
    induction c with
    | zero => rfl
    | succ c ih => rw [range_fold, ih, List.replicate_succ']
  exact this n

theorem rclose_p2 {n : Nat} (hn : n ≤ 100) (k1 : zqef β) (l : List Diff) :
    zqg7 k1 (n : Int) l 0 [] = k1 (n : Int) l (initM n) := by
  have key := range_fold' n (fun i (s : Mat) => s.length = i) (fun f j s => zqg5 f k1 (n : Int) l j s) (fun s i => s ++ [(List.replicate n BIG).set i 0]) (fun s => k1 (n : Int) l s) [] fuel (lt_fuel (by omega)) rfl
    (fun i s hi hs => by simp [hs])
    (fun f j s hj hs => by
      have e1 : IntKind.i64.wrap ((j : Int) + 1) = j + 1 := i64_in _ (by omega)
      rw [zqg6]
      unfold zqfd
      refine (c_pos (by omega)).trans ?_
      refine (rclose_p1 hn _ _ _ _).trans ?_
      simp only [Int.toNat_natCast, e1]
      refine (c_inb (by simp; omega)).trans ?_
      exact c_room (by simp only [List.length_cons, List.length_nil]; omega))
    (fun f s hs => by
      rw [zqg6]
      unfold zqfd
      exact c_neg (by omega))
  unfold zqg7
  rw [key]
  congr 1
  have : ∀ (l : List Nat) (s : Mat), l.foldl (fun (s : Mat) i => s ++ [(List.replicate n BIG).set i 0]) s = s ++ l.map fun i => (List.replicate n BIG).set i 0 := by
    intro l
    induction l with
    | nil => intro s; simp
    | cons x l ih => intro s; simp only [List.foldl_cons, List.map_cons]; rw [ih, List.append_assoc]; rfl
  rw [this]
  rfl

theorem rclose_p3 {n : Nat} (hn : n ≤ 100) (k1 : zqej β) (k2 : zqek β) {l : List Diff} (hl : l.length ≤ 4000) (ho : l.all (diffOk n) = true) (hs : noSelf l) {m : Mat} (hm : Sq n m) :
    zqgb k1 k2 (n : Int) l 0 m = k2 (n : Int) (l.foldl putW m) := by
  have key := fold_loopI (fun _ (m : Mat) => Sq n m) (fun f j m => zqg9 f k1 k2 (n : Int) l j m) putW (fun m => k2 (n : Int) m) ((0 : Int), ((0 : Int), (0 : Int))) l m fuel (lt_fuel (by omega)) hm
    (fun j m hj hm => hm.putW _)
    (fun f j m hj hm => by
      have e1 : IntKind.i64.wrap ((j : Int) + 1) = j + 1 := i64_in _ (by omega)
      have hmem := getD_mem (d := ((0 : Int), ((0 : Int), (0 : Int)))) hj
      have hd := of_decide_eq_true (List.all_eq_true.1 ho _ hmem)
      have hns := hs _ hmem
      have l0 := hm.len
      have l1 := hm.row (l.getD j ((0 : Int), ((0 : Int), (0 : Int)))).1.toNat (by omega)
      rw [zqga]
      unfold zqfg
      simp only [Int.toNat_natCast, e1]
      refine (c_pos (by omega)).trans ?_
      refine (c_inb (by omega)).trans ?_
      refine (c_inb (by omega)).trans ?_
      refine (c_inb (by omega)).trans ?_
      refine (c_inb (by omega)).trans ?_
      refine (c_inb (by omega)).trans ?_
      refine (c_inb (by omega)).trans ?_
      refine (c_inb (by omega)).trans ?_
      refine (c_inb (by omega)).trans ?_
      refine (c_inb (by omega)).trans ?_
      refine (c_inb (by omega)).trans ?_
      refine (c_inb (by omega)).trans ?_
      refine (c_neg (by omega)).trans ?_
      rfl)
    (fun f m hm => by
      rw [zqga]
      unfold zqfg
      exact c_neg (by omega))
  unfold zqgb
  exact key

theorem rclose_p5 {n : Nat} (hn : n ≤ 100) {k i : Nat} (hk : k < n) (hi : i < n) {m : Mat} (hm : Sq n m) (hc : Cap n m) (k1 : zqes β) :
    zqgh k1 (n : Int) (k : Int) (i : Int) 0 m = k1 (n : Int) (k : Int) (i : Int) (rowW n k i m) := by
  have key := range_fold' n (fun _ (m : Mat) => Sq n m ∧ Cap n m) (fun f j m => zqgf f k1 (n : Int) (k : Int) (i : Int) j m) (fun m j => relaxW k i j m) (fun m => k1 (n : Int) (k : Int) (i : Int) m) m fuel (lt_fuel (by omega)) ⟨hm, hc⟩
    (fun j m hj hm => ⟨hm.1.relaxW _ _ _, hm.2.relax hm.1 hi hj⟩)
    (fun f j m hj hm => by
      have e1 : IntKind.i64.wrap ((j : Int) + 1) = j + 1 := i64_in _ (by omega)
      have l0 := hm.1.len
      have l1 := hm.1.row i hi
      have l2 := hm.1.row k hk
      have c1 := hm.2 i k hi hk
      have c2 := hm.2 k j hk hj
      rw [zqgg]
      unfold zqfm
      simp only [Int.toNat_natCast]
      refine (c_pos (by omega)).trans ?_
      refine (c_inb (by omega)).trans ?_
      refine (c_inb (by omega)).trans ?_
      have hq : ∀ (t : Bool), (zqgd (fun (n2 : Int) (k_2 : Int) (i_2 : Int) (j2 : Int) (d2 : Mat) => zqgf f k1 n2 k_2 i_2 (IntKind.i64.wrap (j2 + (1 : Int))) d2) (n : Int) (k : Int) (i : Int) (j : Int) t m : Option β) =
          zqgf f k1 (n : Int) (k : Int) (i : Int) ((j : Int) + 1) (if t then setAt m i j (if IntKind.i64.wrap (at2 m i k + at2 m k j) < at2 m i j then IntKind.i64.wrap (at2 m i k + at2 m k j) else at2 m i j) else m) := fun t => by
        unfold zqgd zqfk zqfj
        cases t with
        | false =>
          simp only [cond_false, e1]
          rfl
        | true =>
          simp only [cond_true, Int.toNat_natCast, e1]
          refine (c_inb (by omega)).trans ?_
          refine (c_inb (by omega)).trans ?_
          refine (c_inb (by omega)).trans ?_
          refine (c_inb (by omega)).trans ?_
          refine (c_inb (by omega)).trans ?_
          refine (c_inb (by omega)).trans ?_
          refine (c_inb (by omega)).trans ?_
          refine (c_inb (by omega)).trans ?_
          rfl
      by_cases h1 : at2 m i k = BIG
      · refine (c_neg (p := (m.getD i []).getD k 0 < (1099511627776 : Int)) (show ¬ at2 m i k < 1099511627776 by rw [h1]; decide)).trans ?_
        refine (hq false).trans ?_
        have : relaxW k i j m = m := by unfold relaxW; rw [if_pos (.inl h1)]
        rw [this]
        rfl
      · have h1' : at2 m i k < 1099511627776 := by
          have : at2 m i k ≠ 1099511627776 := h1
          omega
        refine (c_pos (p := (m.getD i []).getD k 0 < (1099511627776 : Int)) h1').trans ?_
        refine (c_inb (by omega)).trans ?_
        refine (c_inb (by omega)).trans ?_
        refine (hq _).trans ?_
        by_cases h2 : at2 m k j = BIG
        · have : relaxW k i j m = m := by unfold relaxW; rw [if_pos (.inr h2)]
          rw [this, decide_eq_false (show ¬ (m.getD k []).getD j 0 < (1099511627776 : Int) from by
            have h3 : (m.getD k []).getD j 0 = 1099511627776 := h2
            omega)]
          rfl
        · have h2' : at2 m k j < 1099511627776 := by
            have : at2 m k j ≠ 1099511627776 := h2
            omega
          have : relaxW k i j m = setAt m i j (if IntKind.i64.wrap (at2 m i k + at2 m k j) < at2 m i j then IntKind.i64.wrap (at2 m i k + at2 m k j) else at2 m i j) := by unfold relaxW; rw [if_neg (fun h => h.elim h1 h2)]
          rw [this, decide_eq_true (show (m.getD k []).getD j 0 < (1099511627776 : Int) from h2')]
          rfl)
    (fun f m hm => by
      rw [zqgg]
      unfold zqfm
      exact c_neg (by omega))
  unfold zqgh
  exact key

theorem cap_rowW {n k i : Nat} {m : Mat} (hm : Sq n m) (hc : Cap n m) (hi : i < n) : Cap n (rowW n k i m) := by
  unfold rowW
  have key : ∀ (l : List Nat) (m : Mat), (∀ j ∈ l, j < n) → Sq n m → Cap n m → Cap n (l.foldl (fun m j => relaxW k i j m) m) := by
    intro l
    induction l with
    | nil => intro m _ _ hc; exact hc
    | cons x l ih => intro m hl hm hc; exact ih _ (fun j hj => hl j (by simp [hj])) (hm.relaxW _ _ _) (hc.relax hm hi (hl x (by simp)))
  exact key _ _ (fun j hj => List.mem_range.1 hj) hm hc

theorem rclose_p6 {n : Nat} (hn : n ≤ 100) {k : Nat} (hk : k < n) {m : Mat} (hm : Sq n m) (hc : Cap n m) (k1 : zqew β) :
    zqgl k1 (n : Int) (k : Int) 0 m = k1 (n : Int) (k : Int) (roundW n k m) := by
  have key := range_fold' n (fun _ (m : Mat) => Sq n m ∧ Cap n m) (fun f j m => zqgj f k1 (n : Int) (k : Int) j m) (fun m i => rowW n k i m) (fun m => k1 (n : Int) (k : Int) m) m fuel (lt_fuel (by omega)) ⟨hm, hc⟩
    (fun j m hj hm => ⟨hm.1.rowW _ _, cap_rowW hm.1 hm.2 hj⟩)
    (fun f j m hj hm => by
      have e1 : IntKind.i64.wrap ((j : Int) + 1) = j + 1 := i64_in _ (by omega)
      rw [zqgk]
      unfold zqfp
      refine (c_pos (by omega)).trans ?_
      refine (rclose_p5 hn hk hj hm.1 hm.2 _).trans ?_
      simp only [e1])
    (fun f m hm => by
      rw [zqgk]
      unfold zqfp
      exact c_neg (by omega))
  unfold zqgl
  exact key

theorem cap_roundW {n k : Nat} {m : Mat} (hm : Sq n m) (hc : Cap n m) : Cap n (roundW n k m) := by
  unfold roundW
  have key : ∀ (l : List Nat) (m : Mat), (∀ j ∈ l, j < n) → Sq n m → Cap n m → Cap n (l.foldl (fun m i => rowW n k i m) m) := by
    intro l
    induction l with
    | nil => intro m _ _ hc; exact hc
    | cons x l ih => intro m hl hm hc; exact ih _ (fun j hj => hl j (by simp [hj])) (hm.rowW _ _) (cap_rowW hm hc (hl x (by simp)))
  exact key _ _ (fun j hj => List.mem_range.1 hj) hm hc

theorem rclose_p7 {n : Nat} (hn : n ≤ 100) (k1 : zqf0 β) (k2 : zqf1 β) (k : Int) {m : Mat} (hm : Sq n m) :
    zqgp k1 k2 (n : Int) k 0 m = cond (diagOk n m) (k2 (n : Int) k m) (k1 false []) := by
  have key := range_check (σ := Unit) n (fun _ _ => True) (fun f j _ => zqgn f k1 k2 (n : Int) k j m) (fun i => decide (¬ at2 m i i < 0)) (fun s _ => s) (k1 false []) (fun _ => k2 (n : Int) k m) () fuel (lt_fuel (by omega)) trivial (fun _ _ _ _ _ => trivial)
    (fun f j _ hj _ => by
      have e1 : IntKind.i64.wrap ((j : Int) + 1) = j + 1 := i64_in _ (by omega)
      have l0 := hm.len
      have l1 := hm.row j hj
      rw [zqgo]
      unfold zqfs
      simp only [Int.toNat_natCast, e1]
      refine (c_pos (by omega)).trans ?_
      refine (c_inb (by omega)).trans ?_
      refine (c_inb (by omega)).trans ?_
      by_cases h2 : at2 m j j < 0
      · refine (c_pos h2).trans ?_
        simp [h2]
      · refine (c_neg h2).trans ?_
        simp [h2])
    (fun f _ _ => by
      rw [zqgo]
      unfold zqfs
      exact c_neg (by omega))
  unfold zqgp
  exact key

theorem rclose_p8 {n : Nat} (hn : n ≤ 100) (k1 : zqf5 β) (k2 : zqf6 β) : ∀ (c k f : Nat) (m : Mat), k + c = n → c < f → Sq n m → Cap n m →
    zqgr f k1 k2 (n : Int) (k : Int) m = (match refRounds n c k m with | some m' => k2 m' | none => k1 false [])
  | 0, k, f + 1, m, h, hf, hm, hc => by
    rw [zqgs]
    unfold zqfv
    exact c_neg (by omega)
  | c + 1, k, f + 1, m, h, hf, hm, hc => by
    have hk : k < n := by omega
    have e1 : IntKind.i64.wrap ((k : Int) + 1) = ((k + 1 : Nat) : Int) := i64_in _ (by omega)
    rw [zqgs]
    unfold zqfv
    refine (c_pos (by omega)).trans ?_
    refine (rclose_p6 hn hk hm hc _).trans ?_
    refine (rclose_p7 hn _ _ _ (hm.roundW k)).trans ?_
    unfold refRounds
    cases hd : diagOk n (roundW n k m) with
    | false => rfl
    | true =>
      simp only [if_true, e1]
      refine c_t.trans ?_
      exact rclose_p8 hn k1 k2 c (k + 1) f _ (by omega) (by omega) (hm.roundW k) (cap_roundW hm hc)
  | _, _, 0, _, _, hf, _, _ => absurd hf (by omega)

theorem ref39_Close_eq {n : Nat} (h1 : 1 ≤ n) (hn : n ≤ 41) {l : List Diff} (hs : noSelf l) (k : Mat → Bool → Option β) : zqgv (n : Int) l k = (match closeW n l with | some m => k m true | none => k [] false) := by
  unfold zqgv zqfy
  refine (ref39_Valid_eq h1 hn _).trans ?_
  unfold closeW
  by_cases hv : validD n l = true
  · rw [hv]
    have hv' := hv
    unfold validD at hv'
    rw [Bool.and_eq_true] at hv'
    refine c_nt.trans ?_
    rw [if_pos rfl]
    refine (rclose_p2 (by omega) _ _).trans ?_
    refine (rclose_p3 (by omega) _ _ (of_decide_eq_true hv'.1) hv'.2 hs (initM_sq n)).trans ?_
    rw [start_init hv'.2 hs]
    unfold zqgt
    refine (rclose_p8 (by omega) _ _ n 0 fuel _ (by omega) (lt_fuel (by omega)) (directW_sq n l).diagW (start_cap hv'.2)).trans ?_
    obtain ⟨c, rfl⟩ : ∃ c, n = c + 1 := ⟨n - 1, by omega⟩
    have e := refRounds_eq c 0 _ (directW_sq (c + 1) l).diagW (by omega)
    revert e
    generalize refRounds (c + 1) (c + 1) 0 (diagW (c + 1) (directW (c + 1) l)) = R
    intro e
    subst e
    cases roundsW (c + 1) (c + 1) 0 (diagW (c + 1) (directW (c + 1) l)) with
    | none => exact rfl
    | some m => exact rfl
  · rw [Bool.eq_false_iff.2 hv]
    refine c_nf.trans ?_
    rw [if_neg (by simp)]
end
end
end Go.Lift

/- order.Fits, order.Allows in plain Lean. -/
namespace Go.Lift
open Go.RowKit Go.IntWalk
noncomputable section
set_option linter.unusedVariables false
set_option linter.unusedSimpArgs false
set_option maxRecDepth 10000

/-- A loop that looks for an element. -/
theorem any_loop {β α : Type} (F : Nat → Int → Option β) (p : α → Bool) (KT KF : Option β) (d : α) (xs : List α) (n : Nat) (hn : xs.length < n)
    (h1 : ∀ (m i : Nat), i < xs.length → F (m + 1) (i : Int) = cond (p (xs.getD i d)) KT (F m ((i : Int) + 1)))
    (h2 : ∀ (m : Nat), F (m + 1) (xs.length : Int) = KF) : F n 0 = cond (xs.any p) KT KF := by
  have h := check_loop F (fun x => !p x) KT KF d xs n hn (fun m i hi => by rw [h1 m i hi]; cases p (xs.getD i d) <;> rfl) h2
  rw [h]
  have : xs.all (fun x => !p x) = !xs.any p := by
    rw [List.all_eq_not_any_not]
    simp
  rw [this]
  cases xs.any p <;> rfl

section
variable {β : Type}
def instB (t : Int) : Bool := inN t 0 8589934592
def brokenW (x : List Int) (d : Diff) : Bool := decide (d.2.2 < x.getD d.2.1.toNat 0 - x.getD d.1.toNat 0)

/-- What Fits says. -/
def fitsW (r : Rec) (times : List Int) : Bool := (closedW r).isSome && (decide (times.length = nE r) && (times.all instB && !(consL r).any (brokenW (0 :: times))))

theorem consW_of_closed {r : Rec} {m : Mat} (e : closedW r = some m) : valid r = true ∧ whensOk r = true ∧ consW r = some (consL r) := by
  unfold closedW at e
  cases hc : consW r with
  | none => rw [hc] at e; cases e
  | some l =>
    have hc' := hc
    unfold consW at hc'
    by_cases hh : (valid r && whensOk r) = true
    · rw [if_pos hh] at hc'
      rw [Bool.and_eq_true] at hh
      cases hc'
      exact ⟨hh.1, hh.2, rfl⟩
    · rw [if_neg hh] at hc'
      cases hc'

/-! ### Allows -/
end
end
end Go.Lift

/- What is certain, and what the true times are. -/
namespace Go.Lift
open Go.RowKit Go.IntWalk
noncomputable section
set_option linter.unusedVariables false
set_option linter.unusedSimpArgs false
set_option maxRecDepth 10000

/-- A loop whose state is known at each round. -/
theorem range_state {β σ : Type} (n : Nat) (S : Nat → σ) (F : Nat → Int → σ → Option β) (K : Option β) (N : Nat) (hn : n < N)
    (h1 : ∀ (m i : Nat), i < n → F (m + 1) (i : Int) (S i) = F m ((i : Int) + 1) (S (i + 1)))
    (h2 : ∀ (m : Nat), F (m + 1) (n : Int) (S n) = K) : F N 0 (S 0) = K :=
  pass_loop n (fun m i => F m i (S i.toNat)) K N hn (fun m i hi => by
    have e : ((i : Int) + 1).toNat = i + 1 := by omega
    simp only [Int.toNat_natCast, e]
    exact h1 m i hi) (fun m => by simp only [Int.toNat_natCast]; exact h2 m)

/-- Times that fulfil all constraints break none. -/
theorem not_broken {r : Rec} (hv : valid r = true) {times : List Int} (s : SolR r (xOf times)) : (consL r).any (brokenW (0 :: times)) = false := by
  rw [List.any_eq_false]
  intro d hd
  have h := (sol_cons hv (xOf times)).2 s d hd
  have e : ∀ j, (0 :: times).getD j 0 = xOf times j := by
    intro j
    cases j with
    | zero => rfl
    | succ j => rw [xOf_succ]; rfl
  unfold brokenW
  rw [e, e, decide_eq_false (by omega)]
  simp

theorem RecOk.times_bd {n : Int} {r : Rec} {ahead times : List Int} (h : RecOk n r ahead times) {i : Nat} (hi : i < nE r) : 864000 ≤ times.getD i 0 ∧ times.getD i 0 < 864300 := by
  have := h.evOk hi
  exact ⟨this.2.2.1, this.2.2.2.1⟩

section
variable {β : Type} {n : Int} {r : Rec} {ahead times : List Int}

theorem ClosedR.bef {r : Rec} {m : Mat} (hm : ClosedR r m) {a b : Nat} (ha : a < nE r) (hb : b < nE r) : bef m a b = true ↔ ∀ x, SolR r x → x (a + 1) < x (b + 1) := by
  unfold Go.Lift.bef
  rw [decide_eq_true_iff, hm.le_iff (i := b + 1) (j := a + 1) (by omega) (by omega)]
  constructor
  · intro h x s
    have := h x s
    omega
  · intro h x s
    have := h x s
    omega

theorem ClosedR.range {r : Rec} {m : Mat} (hm : ClosedR r m) {x : Nat → Int} (s : SolR r x) (h0 : x 0 = 0) {i : Nat} (hi : i < nE r) : (rangeN m i).1 ≤ x (i + 1) ∧ x (i + 1) ≤ (rangeN m i).2 := by
  have h1 := hm.sol s (i := i + 1) (j := 0) (by omega) (by omega)
  have h2 := hm.sol s (i := 0) (j := i + 1) (by omega) (by omega)
  unfold rangeN
  simp only
  omega

/-- Readings of one clock that are two seconds apart. -/
theorem ClosedR.far {m : Mat} (hm : ClosedR r m) {i k : Nat} (hi : i < nE r) (hk : k < nE r) (hh : (evAt r i).1 = (evAt r k).1) (hc : (evAt r i).2.1 + 2 ≤ (evAt r k).2.1) : Go.Lift.bef m i k = true := by
  rw [hm.bef hi hk]
  intro x s
  have h1 := (s.pair i k hi hk (by intro h; subst h; omega) hh (by omega)).1
  have e1 := valid_ev hm.valid hi
  have e2 := valid_ev hm.valid hk
  have hd : 0 ≤ driftAt r (evAt r i).1 ∧ driftAt r (evAt r i).1 ≤ 500000 := by
    have := (valid_parts hm.valid).1 _ (getD_mem (l := r.1) (i := (evAt r i).1.toNat) (d := ([], 0)) (by omega))
    exact this
  have h2 : 1 ≤ (elapsed (driftAt r (evAt r i).1) ((evAt r k).2.1 - (evAt r i).2.1)).1 := by
    unfold elapsed
    rw [inN_mk hd, inN_mk (by omega)]
    simp only [Bool.and_self, cond_true]
    rw [Int.le_ediv_iff_mul_le (by omega)]
    omega
  omega

end
end
end Go.Lift

/- Records that are changed in their links. -/
namespace Go.Lift
open Go.RowKit Go.IntWalk
noncomputable section
set_option linter.unusedVariables false
set_option linter.unusedSimpArgs false
set_option maxRecDepth 10000

theorem valid_mk {r : Rec} (h0 : r.1.length ≤ 8) (h1 : r.2.1.length ≤ 64) (h2 : r.2.2.1.length ≤ 40) (h3 : r.2.2.2.length ≤ 64) (h4 : ∀ h ∈ r.1, 0 ≤ h.2 ∧ h.2 ≤ 500000)
    (h5 : ∀ s ∈ r.2.1, 0 ≤ s.1 ∧ s.1 < r.1.length ∧ okSync s = true) (h6 : ∀ e ∈ r.2.2.1, 0 ≤ e.1 ∧ e.1 < r.1.length ∧ 0 ≤ e.2.1 ∧ e.2.1 ≤ 8589934592)
    (h7 : ∀ l ∈ r.2.2.2, 0 ≤ l.1 ∧ l.1 < nE r ∧ 0 ≤ l.2.1 ∧ l.2.1 < nE r ∧ l.1 ≠ l.2.1 ∧ 0 ≤ l.2.2 ∧ l.2.2 ≤ 8589934592) : valid r = true := by
  unfold valid small
  simp only [Bool.and_eq_true, List.all_eq_true, Bool.not_eq_true', decide_eq_false_iff_not]
  refine ⟨⟨by omega, by omega, by omega, by omega⟩, fun x hx => inN_mk (h4 x hx), fun x hx => ?_, fun x hx => ?_, fun x hx => ?_⟩
  · have := h5 x hx
    simp only [vSync, Bool.and_eq_true, inN_iff]
    exact ⟨by omega, this.2.2⟩
  · have := h6 x hx
    simp only [vEvent, Bool.and_eq_true, inN_iff]
    omega
  · have := h7 x hx
    unfold nE at this
    simp only [vLink, Bool.and_eq_true, inN_iff, Bool.not_eq_true', decide_eq_false_iff_not]
    omega

end
end Go.Lift

/- Loops with an invariant; any comparison of any record. -/
namespace Go.Lift
open Go.RowKit Go.IntWalk
noncomputable section
set_option linter.unusedVariables false
set_option linter.unusedSimpArgs false
set_option maxRecDepth 10000

theorem whenAt_eq {r : Rec} (hv : valid r = true) {i : Nat} (hi : i < nE r) : whenAt r i = (whenR r (evAt r i).1 (evAt r i).2.1, !decide ((whenR r (evAt r i).1 (evAt r i).2.1).2 < (whenR r (evAt r i).1 (evAt r i).2.1).1)) := by
  have := valid_ev hv hi
  unfold whenAt Go.Lift.when?
  rw [hv, inN_mk (by omega), inN_mk (by omega)]
  rfl

section
variable {β : Type}
end
end
end Go.Lift

/- The reference of the chapter 40 in plain Lean. -/
namespace Go.Lift
open Go.RowKit Go.IntWalk
noncomputable section
set_option linter.unusedVariables false
set_option linter.unusedSimpArgs false
set_option maxRecDepth 10000

theorem pairsI_range' {r : Rec} {i : Nat} (hi : i < nE r) : pairsI r (nE r) i = (List.range' (i + 1) (nE r - (i + 1))).flatMap (pairIf r i) := by
  unfold pairsI
  have e : ∀ n, i < n → (List.range n).filter (fun j => decide (i < j)) = List.range' (i + 1) (n - (i + 1)) := by
    intro n
    induction n with
    | zero => intro h; omega
    | succ n ihn =>
      intro h
      rw [List.range_succ, List.filter_append]
      by_cases hin : i < n
      · rw [ihn hin]
        have : n + 1 - (i + 1) = (n - (i + 1)) + 1 := by omega
        rw [this, List.range'_concat]
        simp only [List.filter_cons, List.filter_nil, decide_eq_true hin, if_true]
        congr 2
        omega
      · have hin' : n = i := by omega
        subst hin'
        have : (List.range n).filter (fun j => decide (n < j)) = [] := by
          rw [List.filter_eq_nil_iff]
          intro a ha
          simp only [List.mem_range] at ha
          simp only [decide_eq_true_eq]
          omega
        rw [this]
        simp
  rw [e _ hi]

section
variable {β : Type}
theorem rcons_p1 (k1 : zqje β) (k2 : zqjf β) {r : Rec} (hv : valid r = true) :
    zqkj k1 k2 0 r.1 r.2.1 r.2.2.1 r.2.2.2 [] = cond (whensOk r) (k2 r.1 r.2.1 r.2.2.1 r.2.2.2 ((List.range (nE r)).flatMap (evD r))) (k1 false []) := by
  have hb := valid_bd hv
  have key := range_check (nE r) (fun i (s : List Diff) => s.length ≤ 2 * i) (fun f j s => zqkh f k1 k2 j r.1 r.2.1 r.2.2.1 r.2.2.2 s) (fun i => (whenAt r i).2)
    (fun s i => s ++ evD r i) (k1 false []) (fun s => k2 r.1 r.2.1 r.2.2.1 r.2.2.2 s) [] fuel (lt_fuel (by unfold nE; omega)) (by simp)
    (fun i s hi hs _ => by simp only [List.length_append, evD, List.length_cons, List.length_nil]; omega)
    (fun f i s hi hs => by
      unfold nE at hi
      have e1 : IntKind.i64.wrap ((i : Int) + 1) = i + 1 := i64_in _ (by omega)
      rw [zqki]
      unfold zqjz
      refine (c_pos (by omega)).trans ?_
      refine (c_inb (by omega)).trans ?_
      refine (c_inb (by omega)).trans ?_
      simp only [Int.toNat_natCast, e1]
      refine (ref38_When_eq _ _ _ _).trans ?_
      have hw : when? (r.1, r.2.1, r.2.2.1, r.2.2.2) (r.2.2.1.getD i (0, 0, [])).1 (r.2.2.1.getD i (0, 0, [])).2.1 = whenAt r i := rfl
      rw [hw]
      cases hk : (whenAt r i).2 with
      | false => rfl
      | true =>
        have hbd := whenAt_bd hk
        have e2 : IntKind.i64.wrap (0 - (whenAt r i).1.1) = -(whenAt r i).1.1 := (i64_in _ (by omega)).trans (by omega)
        simp only [Bool.not_true, cond_false, cond_true, e2]
        refine (c_room (by simp only [List.length_cons, List.length_nil]; omega)).trans ?_
        rfl)
    (fun f s hs => by
      rw [zqki]
      unfold zqjz
      exact c_neg (by unfold nE; omega))
  unfold zqkj
  rw [key, foldl_flat]
  rfl

theorem rcons_p2 (k1 : zqjj β) {r : Rec} {x d a b : Int} (hx : 0 ≤ x ∧ x < r.1.length) (i j : Int) (out : List Diff) (ho : out.length ≤ 100000) (x2 : Int) (x3 : List UInt8) :
    zqkl k1 i j a b d r.1 r.2.1 r.2.2.1 r.2.2.2 out x x2 x3 = k1 i j r.1 r.2.1 r.2.2.1 r.2.2.2 (out ++ [(a, (b, (elapsed (driftAt r x) d).2)), (b, (a, -(elapsed (driftAt r x) d).1))]) := by
  unfold zqkl zqk3 zqk2
  refine (c_inb hx).trans ?_
  refine (ref38_Elapsed_eq _ _ _).trans ?_
  have := @elapsed_bd (driftAt r x) d
  have e4 : IntKind.i64.wrap (0 - (elapsed (driftAt r x) d).1) = -(elapsed (driftAt r x) d).1 := (i64_in _ (by omega)).trans (by omega)
  unfold driftAt at e4 ⊢
  simp only [e4]
  exact c_room (by simp only [List.length_cons, List.length_nil]; omega)

theorem rcons_p3 (k1 : zqjn β) {r : Rec} (hv : valid r = true) {i : Nat} (hi : i < nE r) (out : List Diff) (ho : out.length ≤ 4000) :
    zqkp k1 (i : Int) ((i : Int) + 1) r.1 r.2.1 r.2.2.1 r.2.2.2 out = k1 (i : Int) r.1 r.2.1 r.2.2.1 r.2.2.2 (out ++ pairsI r (nE r) i) := by
  have hb := valid_bd hv
  have key : ∀ (c j f : Nat) (s : List Diff), j + c = nE r → i < j → c < f → s.length + 2 * c ≤ 100000 →
      zqkn f k1 (i : Int) (j : Int) r.1 r.2.1 r.2.2.1 r.2.2.2 s = k1 (i : Int) r.1 r.2.1 r.2.2.1 r.2.2.2 (s ++ (List.range' j c).flatMap (pairIf r i)) := by
    intro c
    induction c with
    | zero =>
      intro j f s hj hij hf hs
      obtain ⟨f, rfl⟩ : ∃ m, f = m + 1 := ⟨f - 1, by omega⟩
      rw [zqko]
      unfold zqk5
      unfold nE at hj
      refine (c_neg (by omega)).trans ?_
      simp
    | succ c ih =>
      intro j f s hj hij hf hs
      obtain ⟨f, rfl⟩ : ∃ m, f = m + 1 := ⟨f - 1, by omega⟩
      have hj' : j < nE r := by omega
      have hin : (i : Int) < (r.2.2.1.length : Int) := by unfold nE at hi; omega
      have hjn : (j : Int) < (r.2.2.1.length : Int) := by unfold nE at hj'; omega
      have e0 : IntKind.i64.wrap ((i : Int) + 1) = (i : Int) + 1 := i64_in _ (by unfold nE at hi; omega)
      have e1 : IntKind.i64.wrap ((j : Int) + 1) = (j : Int) + 1 := i64_in _ (by unfold nE at hj'; omega)
      have e1' : ((j + 1 : Nat) : Int) = (j : Int) + 1 := by omega
      have b1 := valid_ev hv hi
      have b2 := valid_ev hv hj'
      rw [zqko]
      unfold zqk5
      refine (c_pos hjn).trans ?_
      refine (c_inb (by omega)).trans ?_
      refine (c_inb (by omega)).trans ?_
      unfold evAt at b1 b2
      have e2 : IntKind.i64.wrap ((r.2.2.1.getD j ((0 : Int), ((0 : Int), ([] : List UInt8)))).2.1 - (r.2.2.1.getD i ((0 : Int), ((0 : Int), ([] : List UInt8)))).2.1) = (r.2.2.1.getD j ((0 : Int), ((0 : Int), ([] : List UInt8)))).2.1 - (r.2.2.1.getD i ((0 : Int), ((0 : Int), ([] : List UInt8)))).2.1 := i64_in _ (by omega)
      have e3 : IntKind.i64.wrap (0 - ((r.2.2.1.getD j ((0 : Int), ((0 : Int), ([] : List UInt8)))).2.1 - (r.2.2.1.getD i ((0 : Int), ((0 : Int), ([] : List UInt8)))).2.1)) = (r.2.2.1.getD i ((0 : Int), ((0 : Int), ([] : List UInt8)))).2.1 - (r.2.2.1.getD j ((0 : Int), ((0 : Int), ([] : List UInt8)))).2.1 := (i64_in _ (by omega)).trans (by omega)
      simp only [Int.toNat_natCast, e0, e1, e2, e3]
      rw [List.range'_succ, List.flatMap_cons]
      have hpi : pairIf r i j = if (evAt r j).1 = (evAt r i).1 then pairD r i j else [] := rfl
      have hp : (pairD r i j).length = 2 := by unfold pairD; split <;> rfl
      rw [hpi]
      by_cases hh : (r.2.2.1.getD i ((0 : Int), ((0 : Int), ([] : List UInt8)))).1 = (r.2.2.1.getD j ((0 : Int), ((0 : Int), ([] : List UInt8)))).1
      · refine (c_npos hh).trans ?_
        rw [if_pos (show (evAt r j).1 = (evAt r i).1 from hh.symm)]
        have fin : zqkn f k1 (i : Int) ((j : Int) + 1) r.1 r.2.1 r.2.2.1 r.2.2.2 (s ++ pairD r i j) = k1 (i : Int) r.1 r.2.1 r.2.2.1 r.2.2.2 (s ++ (pairD r i j ++ (List.range' (j + 1) c).flatMap (pairIf r i))) := by
          rw [← e1', ih (j + 1) f _ (by omega) (by omega) (by omega) (by rw [List.length_append]; omega), List.append_assoc]
        by_cases hc : (r.2.2.1.getD j ((0 : Int), ((0 : Int), ([] : List UInt8)))).2.1 < (r.2.2.1.getD i ((0 : Int), ((0 : Int), ([] : List UInt8)))).2.1
        · refine (c_pos (by omega)).trans ?_
          refine (rcons_p2 _ (by omega) _ _ s (by omega) _ _).trans ?_
          rw [← fin]
          simp only [e1]
          unfold pairD evAt
          rw [if_pos hc, hh]
        · refine (c_neg (by omega)).trans ?_
          refine (rcons_p2 _ (by omega) _ _ s (by omega) _ _).trans ?_
          rw [← fin]
          simp only [e1]
          unfold pairD evAt
          rw [if_neg hc]
      · refine (c_nneg hh).trans ?_
        rw [if_neg (show ¬ (evAt r j).1 = (evAt r i).1 from fun e => hh e.symm), List.nil_append, ← e1']
        exact ih (j + 1) f _ (by omega) (by omega) (by omega) (by omega)
  unfold zqkp
  have h1 := key (nE r - (i + 1)) (i + 1) fuel out (by omega) (by omega) (lt_fuel (by unfold nE at *; omega)) (by unfold nE at *; omega)
  rw [show ((i : Int) + 1) = ((i + 1 : Nat) : Int) by omega, h1]
  rw [pairsI_range' hi]

theorem rcons_p4 (k1 : zqjr β) {r : Rec} (hv : valid r = true) (out : List Diff) (ho : out.length ≤ 80) :
    zqkt k1 0 r.1 r.2.1 r.2.2.1 r.2.2.2 out = k1 r.1 r.2.1 r.2.2.1 r.2.2.2 (out ++ (List.range (nE r)).flatMap (pairsI r (nE r))) := by
  have hb := valid_bd hv
  have h2 : ∀ i, (pairsI r (nE r) i).length ≤ 80 := fun i => by
    have h3 := flat_len (pairIf r i) 2 ((List.range (nE r)).filter fun j => decide (i < j)) (fun j _ => by
      unfold pairIf pairD
      split
      · split <;> simp
      · simp)
    have h4 := List.length_filter_le (fun j => decide (i < j)) (List.range (nE r))
    rw [List.length_range] at h4
    unfold pairsI nE at *
    omega
  have key := range_fold' (nE r) (fun i (s : List Diff) => s.length ≤ 80 + 80 * i) (fun f j s => zqkr f k1 j r.1 r.2.1 r.2.2.1 r.2.2.2 s)
    (fun s i => s ++ pairsI r (nE r) i) (fun s => k1 r.1 r.2.1 r.2.2.1 r.2.2.2 s) out fuel (lt_fuel (by unfold nE; omega)) (by omega)
    (fun i s hi hs => by have := h2 i; rw [List.length_append]; omega)
    (fun f i s hi hs => by
      have hi' := hi
      unfold nE at hi'
      have e1 : IntKind.i64.wrap ((i : Int) + 1) = i + 1 := i64_in _ (by omega)
      rw [zqks]
      unfold zqk8
      simp only [e1]
      refine (c_pos (by omega)).trans ?_
      refine (rcons_p3 _ hv hi s (by omega)).trans ?_
      simp only [e1])
    (fun f s hs => by
      rw [zqks]
      unfold zqk8
      exact c_neg (by unfold nE; omega))
  unfold zqkt
  rw [key, foldl_flat]

theorem rcons_p5 (k1 : zqjv β) {r : Rec} (hv : valid r = true) (out : List Diff) (ho : out.length ≤ 10000) :
    zqkx k1 0 r.1 r.2.1 r.2.2.1 r.2.2.2 out = k1 (out ++ r.2.2.2.map linkD) := by
  have hb := valid_bd hv
  have hp := valid_parts hv
  have key := fold_loopI (fun i (s : List Diff) => s.length ≤ 10000 + i) (fun f j s => zqkv f k1 j r.1 r.2.1 r.2.2.1 r.2.2.2 s)
    (fun s x => s ++ [linkD x]) (fun s => k1 s) ((0 : Int), ((0 : Int), (0 : Int))) r.2.2.2 out fuel (lt_fuel (by omega)) (by omega)
    (fun i s hi hs => by simp only [List.length_append, List.length_cons, List.length_nil]; omega)
    (fun f i s hi hs => by
      have e1 : IntKind.i64.wrap ((i : Int) + 1) = i + 1 := i64_in _ (by omega)
      have hx := hp.2.2.2 _ (getD_mem (d := ((0 : Int), ((0 : Int), (0 : Int)))) hi)
      unfold nE at hx
      have e2 : IntKind.i64.wrap ((r.2.2.2.getD i (0, 0, 0)).2.1 + 1) = (r.2.2.2.getD i (0, 0, 0)).2.1 + 1 := i64_in _ (by omega)
      have e3 : IntKind.i64.wrap ((r.2.2.2.getD i (0, 0, 0)).1 + 1) = (r.2.2.2.getD i (0, 0, 0)).1 + 1 := i64_in _ (by omega)
      have e4 : IntKind.i64.wrap (0 - (r.2.2.2.getD i (0, 0, 0)).2.2) = -(r.2.2.2.getD i (0, 0, 0)).2.2 := (i64_in _ (by omega)).trans (by omega)
      rw [zqkw]
      unfold zqkb
      refine (c_pos (by omega)).trans ?_
      refine (c_inb (by omega)).trans ?_
      refine (c_inb (by omega)).trans ?_
      refine (c_inb (by omega)).trans ?_
      simp only [Int.toNat_natCast, e1, e2, e3, e4]
      refine (c_room (by simp only [List.length_cons, List.length_nil]; omega)).trans ?_
      rfl)
    (fun f s hs => by
      rw [zqkw]
      unfold zqkb
      exact c_neg (by omega))
  unfold zqkx
  rw [key]
  have : ∀ (l : List Link) (s : List Diff), l.foldl (fun s x => s ++ [linkD x]) s = s ++ l.map linkD := by
    intro l
    induction l with
    | nil => intro s; simp
    | cons x l ih => intro s; simp only [List.foldl_cons, List.map_cons]; rw [ih, List.append_assoc]; rfl
  rw [this]

theorem rConstraints_eq (r : Rec) (k : Bool → List Diff → Option β) : zqkz r k = (match consW r with | some l => k true l | none => k false []) := by
  unfold zqkz zqke
  refine (ref38_Valid_eq _ _).trans ?_
  unfold consW
  cases hv : valid r with
  | false => rfl
  | true =>
    have hb := valid_bd hv
    refine c_nt.trans ?_
    rw [Bool.true_and]
    refine (rcons_p1 _ _ hv).trans ?_
    cases hw : whensOk r with
    | false => rfl
    | true =>
      refine c_t.trans ?_
      rw [if_pos rfl]
      have h1 := flat_len (evD r) 2 (List.range (nE r)) (fun i _ => by simp [evD])
      rw [List.length_range] at h1
      have h2 := cons_len hv
      unfold consL at h2 ⊢
      rw [List.length_append, List.length_map] at h2
      refine (rcons_p4 _ hv _ (by unfold nE at *; omega)).trans ?_
      exact rcons_p5 _ hv _ (by omega)

theorem cons_noSelf {r : Rec} (hv : valid r = true) : noSelf (consL r) := by
  intro d hd
  have hp := valid_parts hv
  rcases mem_cons.1 hd with ⟨i, hi, hd⟩ | ⟨i, j, hij, hj, hh, hd⟩ | ⟨l, hl, rfl⟩
  · simp only [evD, List.mem_cons, List.not_mem_nil, or_false] at hd
    rcases hd with rfl | rfl <;> simp only <;> omega
  · unfold pairD at hd
    split at hd <;> simp only [List.mem_cons, List.not_mem_nil, or_false] at hd <;> rcases hd with rfl | rfl <;> simp only <;> omega
  · have := hp.2.2.2 l hl
    simp only [linkD]
    omega

theorem rclosed_eq (r : Rec) (k : Mat → Bool → Option β) : zqmx r k = (match closedW r with | some m => k m true | none => k [] false) := by
  unfold zqmx zqmu
  refine (rConstraints_eq _ _).trans ?_
  unfold closedW
  cases hc : consW r with
  | none => rfl
  | some l =>
    simp only [Bool.not_true, cond_false]
    have hc' := hc
    unfold consW at hc'
    by_cases hh : (valid r && whensOk r) = true
    · rw [if_pos hh] at hc'
      rw [Bool.and_eq_true] at hh
      cases hc'
      have := valid_bd hh.1
      have e1 : IntKind.i64.wrap ((r.2.2.1.length : Int) + 1) = ((nE r + 1 : Nat) : Int) := i64_in _ (by omega)
      rw [e1]
      exact ref39_Close_eq (by omega) (by unfold nE; omega) (cons_noSelf hh.1) _
    · rw [if_neg hh] at hc'
      cases hc'

/-- All that the functions of the order need of the matrix. -/
theorem closed_matB {r : Rec} {m : Mat} (e : closedW r = some m) : MatB (nE r) m := by
  have h := closed_ok' e
  have hn : nE r ≤ 40 := (valid_bd h.valid).2.2.1
  exact ⟨h.ok.sq, by omega, fun i j hi hj => by have := h.ok.lo i j hi hj; have := h.ok.hi i j hi hj; omega⟩

theorem closedR_small {r : Rec} {m : Mat} (e : closedW r = some m) : nE r ≤ 40 := (valid_bd (closed_ok' e).valid).2.2.1

theorem rConsistent_eq (r : Rec) (k : Bool → Option β) : zqoc r k = k (closedW r).isSome := by
  unfold zqoc zqo9
  refine (rclosed_eq _ _).trans ?_
  cases closedW r <;> rfl

theorem rcompare_eq {n : Nat} {m : Mat} (h : MatB n m) {a b : Nat} (ha : a < n) (hb : b < n) (k : Int → Option β) : zq2b m (a : Int) (b : Int) k = k (cmpN m a b) := by
  have hs := h.small
  have e1 : IntKind.i64.wrap ((a : Int) + 1) = ((a + 1 : Nat) : Int) := i64_in _ (by omega)
  have e2 : IntKind.i64.wrap ((b : Int) + 1) = ((b + 1 : Nat) : Int) := i64_in _ (by omega)
  have l0 := h.sq.len
  have l1 := h.sq.row (b + 1) (by omega)
  have l2 := h.sq.row (a + 1) (by omega)
  unfold zq2b zq28
  simp only [e1, e2, Int.toNat_natCast]
  refine (c_inb (by omega)).trans ?_
  refine (c_inb (by omega)).trans ?_
  unfold cmpN bef
  by_cases h1 : at2 m (b + 1) (a + 1) ≤ -1
  · refine (c_pos (p := (m.getD (b + 1) []).getD (a + 1) 0 ≤ -1) h1).trans ?_
    rw [decide_eq_true h1]
    rfl
  · refine (c_neg (p := (m.getD (b + 1) []).getD (a + 1) 0 ≤ -1) h1).trans ?_
    refine (c_inb (by omega)).trans ?_
    refine (c_inb (by omega)).trans ?_
    rw [decide_eq_false h1]
    by_cases h2 : at2 m (a + 1) (b + 1) ≤ -1
    · refine (c_pos (p := (m.getD (a + 1) []).getD (b + 1) 0 ≤ -1) h2).trans ?_
      rw [decide_eq_true h2]
      rfl
    · refine (c_neg (p := (m.getD (a + 1) []).getD (b + 1) 0 ≤ -1) h2).trans ?_
      rw [decide_eq_false h2]
      rfl

theorem rWhen_eq (r : Rec) (k : Bool → List (Int × Int) → Option β) : zqou r k = (match closedW r with | some m => k true (whensN (nE r) m) | none => k false []) := by
  unfold zqou zqon
  refine (rclosed_eq _ _).trans ?_
  cases he : closedW r with
  | none => rfl
  | some m =>
    have h := closed_matB he
    have hs := h.small
    simp only [Bool.not_true, cond_false]
    have key := range_fold' (nE r) (fun i (s : List (Int × Int)) => s.length ≤ i) (fun f j s => zqoq f (fun out => k true out) m j r.1 r.2.1 r.2.2.1 r.2.2.2 s)
      (fun s i => s ++ [rangeN m i]) (fun s => k true s) [] fuel (lt_fuel (by omega)) (by simp)
      (fun i s hi hs => by simp only [List.length_append, List.length_cons, List.length_nil]; omega)
      (fun f i s hi hs' => by
        have hi' := hi
        unfold nE at hi'
        have e1 : IntKind.i64.wrap ((i : Int) + 1) = ((i + 1 : Nat) : Int) := i64_in _ (by omega)
        have e0 : ((i + 1 : Nat) : Int) = (i : Int) + 1 := by omega
        have l0 := h.sq.len
        have l1 := h.sq.row (i + 1) (by omega)
        have l2 := h.sq.row 0 (by omega)
        have hb := h.bd (i + 1) 0 (by omega) (by omega)
        have e2 : IntKind.i64.wrap (0 - at2 m (i + 1) 0) = -at2 m (i + 1) 0 := (i64_in _ (by omega)).trans (by omega)
        unfold at2 at e2
        rw [zqor]
        unfold zqok
        simp only [e1, Int.toNat_natCast, Int.toNat_zero, e2]
        refine (c_pos (by omega)).trans ?_
        refine (c_inb (by omega)).trans ?_
        refine (c_inb (by omega)).trans ?_
        refine (c_inb (by omega)).trans ?_
        refine (c_inb (by omega)).trans ?_
        refine (c_room (by simp only [List.length_cons, List.length_nil]; omega)).trans ?_
        rw [e0]
        rfl)
      (fun f s hs => by
        rw [zqor]
        unfold zqok
        exact c_neg (by unfold nE; omega))
    unfold zqos
    rw [key]
    have : ∀ (l : List Nat) (s : List (Int × Int)), l.foldl (fun s i => s ++ [rangeN m i]) s = s ++ l.map (rangeN m) := by
      intro l
      induction l with
      | nil => intro s; simp
      | cons x l ih => intro s; simp only [List.foldl_cons, List.map_cons]; rw [ih, List.append_assoc]; rfl
    rw [this]
    rfl

/-- Compare and Gap at any two numbers. -/
def cmpG (r : Rec) (a b : Int) : Int × Bool := match closedW r with
  | some m => if inN a 0 ((nE r : Int) - 1) && inN b 0 ((nE r : Int) - 1) then (cmpN m a.toNat b.toNat, true) else (0, false)
  | none => (0, false)
theorem rCompare_gen (r : Rec) (a b : Int) (k : Int → Bool → Option β) : zqo5 r a b k = k (cmpG r a b).1 (cmpG r a b).2 := by
  unfold zqo5 zqo2
  refine (rclosed_eq _ _).trans ?_
  unfold cmpG
  cases he : closedW r with
  | none => rfl
  | some m =>
    have hn := closedR_small he
    have e1 : IntKind.i64.wrap ((r.2.2.1.length : Int) - 1) = (nE r : Int) - 1 := i64_in _ (by unfold nE at hn; omega)
    simp only [Bool.not_true, cond_false, e1]
    refine (ref25_In_eq _ _ _ _).trans ?_
    cases ha : inN a 0 ((nE r : Int) - 1) with
    | false => rfl
    | true =>
      refine c_nt.trans ?_
      refine (ref25_In_eq _ _ _ _).trans ?_
      cases hb : inN b 0 ((nE r : Int) - 1) with
      | false => rfl
      | true =>
        refine c_nt.trans ?_
        rw [inN_iff] at ha hb
        have := rcompare_eq (β := β) (closed_matB he) (a := a.toNat) (b := b.toNat) (by omega) (by omega)
        rw [show ((a.toNat : Nat) : Int) = a by omega, show ((b.toNat : Nat) : Int) = b by omega] at this
        exact this _

end
end
end Go.Lift

/- The reference of the chapter 40 in plain Lean: lists, orders, times. -/
namespace Go.Lift
open Go.RowKit Go.IntWalk
noncomputable section
set_option linter.unusedVariables false
set_option linter.unusedSimpArgs false
set_option maxRecDepth 10000

section
variable {β : Type}
/-! ### Open -/
/-! ### Sort -/
/-! ### Allows -/
/-! ### Fits -/
theorem rcFits_eq {n : Nat} (h1 : 1 ≤ n) (hn : n ≤ 41) {l : List Diff} (hv : validD n l = true) (x : List Int) (hx : x.length = n) (hb : ∀ i, i < n → -1099511627776 ≤ x.getD i 0 ∧ x.getD i 0 ≤ 1099511627776) (k : Bool → Option β) :
    zqdt (n : Int) l x k = k (!l.any (brokenW x)) := by
  have hv' := hv
  unfold validD at hv'
  rw [Bool.and_eq_true] at hv'
  have hl := of_decide_eq_true hv'.1
  unfold zqdt zqdi
  refine (ref39_Valid_eq h1 hn _).trans ?_
  rw [hv]
  refine c_nt.trans ?_
  refine (c_npos (by omega)).trans ?_
  have k1 : ∀ (K1 : zqd2 β) (K2 : zqd3 β), zqdn K1 K2 (n : Int) l x 0 = K2 l x := by
    intro K1 K2
    unfold zqdn
    refine pass_loop n (fun f j => zqdl f K1 K2 (n : Int) l x j) (K2 l x) fuel (lt_fuel (by omega)) (fun f j hj => ?_) (fun f => ?_)
    · have e1 : IntKind.i64.wrap ((j : Int) + 1) = j + 1 := i64_in _ (by omega)
      rw [zqdm]
      unfold zqdc
      simp only [Int.toNat_natCast, e1]
      refine (c_pos (by omega)).trans ?_
      refine (c_inb (by omega)).trans ?_
      refine (ref25_In_eq _ _ _ _).trans ?_
      rw [inN_mk (hb j hj)]
      exact c_nt
    · rw [zqdm]
      unfold zqdc
      exact c_neg (by omega)
  refine (k1 _ _).trans ?_
  unfold zqdr
  refine (any_loop (fun f j => zqdp f (fun t => k t) (fun _ => k true) l x j) (brokenW x) (k false) (k true) ((0 : Int), ((0 : Int), (0 : Int))) l fuel (lt_fuel (by omega)) (fun f j hj => ?_) (fun f => ?_)).trans ?_
  · have e1 : IntKind.i64.wrap ((j : Int) + 1) = j + 1 := i64_in _ (by omega)
    have hd := of_decide_eq_true (List.all_eq_true.1 hv'.2 _ (getD_mem (d := ((0 : Int), ((0 : Int), (0 : Int)))) hj))
    rw [zqdq]
    unfold zqdf
    simp only [Int.toNat_natCast, e1]
    have g1 := hb (l.getD j ((0 : Int), ((0 : Int), (0 : Int)))).2.1.toNat (by omega)
    have g2 := hb (l.getD j ((0 : Int), ((0 : Int), (0 : Int)))).1.toNat (by omega)
    have e2 : IntKind.i64.wrap (x.getD (l.getD j ((0 : Int), ((0 : Int), (0 : Int)))).2.1.toNat 0 - x.getD (l.getD j ((0 : Int), ((0 : Int), (0 : Int)))).1.toNat 0) = x.getD (l.getD j ((0 : Int), ((0 : Int), (0 : Int)))).2.1.toNat 0 - x.getD (l.getD j ((0 : Int), ((0 : Int), (0 : Int)))).1.toNat 0 := i64_in _ (by omega)
    refine (c_pos (by omega)).trans ?_
    refine (c_inb (by omega)).trans ?_
    refine (c_inb (by omega)).trans ?_
    refine (c_inb (by omega)).trans ?_
    refine (c_inb (by omega)).trans ?_
    refine (c_inb (by omega)).trans ?_
    by_cases hbk : (l.getD j ((0 : Int), ((0 : Int), (0 : Int)))).2.2 < x.getD (l.getD j ((0 : Int), ((0 : Int), (0 : Int)))).2.1.toNat 0 - x.getD (l.getD j ((0 : Int), ((0 : Int), (0 : Int)))).1.toNat 0
    · refine (c_pos (p := (l.getD j ((0 : Int), ((0 : Int), (0 : Int)))).2.2 < IntKind.i64.wrap (x.getD (l.getD j ((0 : Int), ((0 : Int), (0 : Int)))).2.1.toNat 0 - x.getD (l.getD j ((0 : Int), ((0 : Int), (0 : Int)))).1.toNat 0)) (by rw [e2]; exact hbk)).trans ?_
      unfold brokenW
      rw [decide_eq_true hbk]
      rfl
    · refine (c_neg (p := (l.getD j ((0 : Int), ((0 : Int), (0 : Int)))).2.2 < IntKind.i64.wrap (x.getD (l.getD j ((0 : Int), ((0 : Int), (0 : Int)))).2.1.toNat 0 - x.getD (l.getD j ((0 : Int), ((0 : Int), (0 : Int)))).1.toNat 0)) (by rw [e2]; exact hbk)).trans ?_
      unfold brokenW
      rw [decide_eq_false hbk]
      rfl
  · rw [zqdq]
    unfold zqdf
    exact c_neg (by omega)
  · cases l.any (brokenW x) <;> rfl

theorem rFits_eq (r : Rec) (times : List Int) (k : Bool → Option β) : zqpd r times k = k (fitsW r times) := by
  unfold zqpd zqp6
  refine (rConstraints_eq _ _).trans ?_
  cases hc : consW r with
  | none =>
    have he : closedW r = none := by unfold closedW; rw [hc]
    unfold fitsW
    rw [he]
    rfl
  | some l =>
    refine c_nt.trans ?_
    refine (rConsistent_eq _ _).trans ?_
    unfold fitsW
    cases he : closedW r with
    | none => rfl
    | some m =>
      obtain ⟨hv, hw, hc'⟩ := consW_of_closed he
      rw [hc] at hc'
      cases hc'
      have hb := valid_bd hv
      refine c_nt.trans ?_
      simp only [Option.isSome_some, Bool.true_and]
      by_cases hlen : times.length = nE r
      · refine (c_npos (by unfold nE at hlen; omega)).trans ?_
        rw [decide_eq_true hlen, Bool.true_and]
        have hn : nE r ≤ 40 := by unfold nE; omega
        have p1 : ∀ (K2 : zqoz β), zqpb (fun t => k t) K2 times 0 (consL r) = cond (times.all instB) (K2 times (consL r)) (k false) := by
          intro K2
          unfold zqpb
          refine check_loop (fun f j => zqp9 f (fun t => k t) K2 times j (consL r)) instB (k false) (K2 times (consL r)) (0 : Int) times fuel (lt_fuel (by omega)) (fun f j hj => ?_) (fun f => ?_)
          · have e1 : IntKind.i64.wrap ((j : Int) + 1) = j + 1 := i64_in _ (by omega)
            rw [zqpa]
            unfold zqp3
            simp only [Int.toNat_natCast, e1]
            refine (c_pos (by omega)).trans ?_
            refine (c_inb (by omega)).trans ?_
            refine (ref25_In_eq _ _ _ _).trans ?_
            unfold instB
            cases inN (times.getD j 0) 0 8589934592 <;> rfl
          · rw [zqpa]
            unfold zqp3
            exact c_neg (by omega)
        refine (p1 _).trans ?_
        cases hi : times.all instB with
        | false => rfl
        | true =>
          refine c_t.trans ?_
          refine (c_room (by simp only [List.length_cons, List.length_nil]; omega)).trans ?_
          have e1 : IntKind.i64.wrap ((times.length : Int) + 1) = ((nE r + 1 : Nat) : Int) := (i64_in _ (by omega)).trans (by omega)
          rw [e1]
          refine (rcFits_eq (by omega) (by omega) (consL_valid hv hw) _ (by simp [hlen]) (fun i hi' => ?_) _).trans ?_
          · cases i with
            | zero => simp
            | succ i =>
              have e : ([(0 : Int)] ++ times).getD (i + 1) 0 = times.getD i 0 := rfl
              rw [e]
              have := List.all_eq_true.1 hi _ (getD_mem (l := times) (d := (0 : Int)) (i := i) (by omega))
              have := inN_iff.1 this
              omega
          · rfl
      · refine (c_nneg (by unfold nE at hlen; omega)).trans ?_
        rw [decide_eq_false hlen]
        rfl
end
end
end Go.Lift

/- The functions of the chapter 40 at any record. -/
namespace Go.Lift
open Go.RowKit Go.IntWalk
noncomputable section
set_option linter.unusedVariables false
set_option linter.unusedSimpArgs false
set_option maxRecDepth 10000

section
variable {β : Type}
/-! ### Lists that are equal -/
theorem c_same2 (a : Int × Int) {x y : Option β} : cond (!(decide (a.1 = a.1) && (decide (a.2 = a.2) && true))) x y = y := by
  rw [decide_eq_true rfl, decide_eq_true rfl]
  rfl
theorem sameR_self (l : List (Int × Int)) (hl : l.length ≤ 100000) (k : Bool → Option β) : zq10 l l k = k true := by
  unfold zq10 zqt
  refine (c_npos rfl).trans ?_
  unfold zqy
  refine pass_loop l.length (fun f j => zqw f (fun t => k t) (fun _ => k true) l l j) (k true) fuel (lt_fuel (by omega)) (fun f j hj => ?_) (fun f => ?_)
  · have e1 : IntKind.i64.wrap ((j : Int) + 1) = j + 1 := i64_in _ (by omega)
    rw [zqx]
    unfold zqq
    refine (c_pos (by omega)).trans ?_
    refine (c_inb (by omega)).trans ?_
    refine (c_inb (by omega)).trans ?_
    refine (c_same2 _).trans ?_
    rw [e1]
  · rw [zqx]
    unfold zqq
    exact c_neg (by omega)
end
end
end Go.Lift

/- The rows of records (chapter 41): what the code makes of them. -/
namespace Go.Lift
open Go.RowKit Go.IntWalk
noncomputable section
set_option linter.unusedVariables false
set_option linter.unusedSimpArgs false
set_option maxRecDepth 10000

/-! ### A map with pairs as keys -/
section
variable {β : Type}
theorem whensN_len (n : Nat) (m : Mat) : (whensN n m).length = n := by simp [whensN]
end
end
end Go.Lift

/- The example of chapter 41. -/
namespace Go.Lift
noncomputable section
set_option maxRecDepth 100000
theorem sane41 {β : Type} (k : Bool → Option β) : zq10e k = k true := by kernel_rfl
end
end Go.Lift

/- Merging records (chapter 41): what the code makes of it, and what the times that fit are. -/
namespace Go.Lift
open Go.RowKit Go.IntWalk
noncomputable section
set_option linter.unusedVariables false
set_option linter.unusedSimpArgs false
set_option maxRecDepth 10000

def mvS (n : Int) (s : Sync) : Sync := (s.1 + n, s.2)
def mvE (n : Int) (e : Event) : Event := (e.1 + n, e.2)
def mvL (n : Int) (l : Link) : Link := (l.1 + n, (l.2.1 + n, l.2.2))
/-- The record of two records. -/
def mergeR (a b : Rec) : Rec := (a.1 ++ b.1, (a.2.1 ++ b.2.1.map (mvS (a.1.length : Int)), (a.2.2.1 ++ b.2.2.1.map (mvE (a.1.length : Int)), a.2.2.2 ++ b.2.2.2.map (mvL (a.2.2.1.length : Int)))))

theorem take_succ_map {α γ : Type} {l : List α} {i : Nat} (hi : i < l.length) (d : α) (f : α → γ) : (l.take (i + 1)).map f = (l.take i).map f ++ [f (l.getD i d)] := by
  have e : l.take (i + 1) = l.take i ++ [l.getD i d] := by
    rw [List.take_add_one, List.getElem?_eq_getElem hi]
    simp [List.getD, hi]
  rw [e, List.map_append]
  rfl

section
variable {β : Type}
theorem clone_h (l : List Host) (hl : l.length ≤ 100000) (k : List Host → Option β) : zq4q l k = k l := by
  unfold zq4q cloneF
  exact c_room (by omega)
theorem clone_s (l : List Sync) (hl : l.length ≤ 100000) (k : List Sync → Option β) : zq4u l k = k l := by
  unfold zq4u cloneF
  exact c_room (by omega)
theorem clone_e (l : List Event) (hl : l.length ≤ 100000) (k : List Event → Option β) : zq4y l k = k l := by
  unfold zq4y cloneF
  exact c_room (by omega)
theorem clone_l (l : List Link) (hl : l.length ≤ 100000) (k : List Link → Option β) : zq52 l k = k l := by
  unfold zq52 cloneF
  exact c_room (by omega)
theorem copied_eq {r : Rec} (hv : valid r = true) (k : List Host → List Sync → List Event → List Link → Option β) : zqcy r k = k r.1 r.2.1 r.2.2.1 r.2.2.2 := by
  have hb := valid_bd hv
  unfold zqcy zqcv
  refine (clone_h _ (by omega) _).trans ?_
  refine (clone_s _ (by omega) _).trans ?_
  refine (clone_e _ (by omega) _).trans ?_
  exact clone_l _ (by omega) _

theorem merge_p1 {a b : Rec} (hva : valid a = true) (hvb : valid b = true) (k1 : zqlq β) (b4 b8 : List Host) (b5 : List Sync) (b6 b10 : List Event) (b7 b11 : List Link) :
    zqmg k1 b.2.1 (b.2.1.length : Int) 0 a.1 a.2.1 a.2.2.1 a.2.2.2 b.1 b.2.1 b.2.2.1 b.2.2.2 b4 b5 b6 b7 b8 a.2.1 b10 b11 =
      k1 a.1 a.2.1 a.2.2.1 a.2.2.2 b.1 b.2.1 b.2.2.1 b.2.2.2 b4 b5 b6 b7 b8 (a.2.1 ++ b.2.1.map (mvS (a.1.length : Int))) b10 b11 := by
  have ha := valid_bd hva
  have hb := valid_bd hvb
  unfold zqmg
  have key := range_state b.2.1.length (fun i => a.2.1 ++ (b.2.1.take i).map (mvS (a.1.length : Int))) (fun f i s => zqme f k1 b.2.1 (b.2.1.length : Int) i a.1 a.2.1 a.2.2.1 a.2.2.2 b.1 b.2.1 b.2.2.1 b.2.2.2 b4 b5 b6 b7 b8 s b10 b11)
    (k1 a.1 a.2.1 a.2.2.1 a.2.2.2 b.1 b.2.1 b.2.2.1 b.2.2.2 b4 b5 b6 b7 b8 (a.2.1 ++ b.2.1.map (mvS (a.1.length : Int))) b10 b11) fuel (lt_fuel (by omega))
    (fun f i hi => by
      have hs := (valid_parts hvb).2.1 _ (getD_mem (d := ((0 : Int), ((0 : Int), ((0 : Int), (0 : Int))))) hi)
      rw [zqmf]
      unfold zqm2
      refine (c_pos (by omega)).trans ?_
      refine (c_inb (by omega)).trans ?_
      dsimp only
      rw [Int.toNat_natCast, i64_in ((i : Int) + 1) (by omega), i64_in ((b.2.1.getD i ((0 : Int), ((0 : Int), ((0 : Int), (0 : Int))))).1 + (a.1.length : Int)) (by omega)]
      refine (c_room (by simp only [List.length_append, List.length_map, List.length_take, List.length_cons, List.length_nil]; omega)).trans ?_
      rw [take_succ_map hi ((0 : Int), ((0 : Int), ((0 : Int), (0 : Int)))), List.append_assoc]
      rfl)
    (fun f => by
      rw [zqmf]
      unfold zqm2
      refine (c_neg (by omega)).trans ?_
      rw [List.take_length])
  refine Eq.trans ?_ key
  simp

theorem merge_p2 {a b : Rec} (hva : valid a = true) (hvb : valid b = true) (k1 : zqlu β) (b4 b8 : List Host) (b5 b9 : List Sync) (b6 : List Event) (b7 b11 : List Link) :
    zqmk k1 b.2.2.1 (b.2.2.1.length : Int) 0 a.1 a.2.1 a.2.2.1 a.2.2.2 b.1 b.2.1 b.2.2.1 b.2.2.2 b4 b5 b6 b7 b8 b9 a.2.2.1 b11 =
      k1 a.1 a.2.1 a.2.2.1 a.2.2.2 b.1 b.2.1 b.2.2.1 b.2.2.2 b4 b5 b6 b7 b8 b9 (a.2.2.1 ++ b.2.2.1.map (mvE (a.1.length : Int))) b11 := by
  have ha := valid_bd hva
  have hb := valid_bd hvb
  unfold zqmk
  have key := range_state b.2.2.1.length (fun i => a.2.2.1 ++ (b.2.2.1.take i).map (mvE (a.1.length : Int))) (fun f i s => zqmi f k1 b.2.2.1 (b.2.2.1.length : Int) i a.1 a.2.1 a.2.2.1 a.2.2.2 b.1 b.2.1 b.2.2.1 b.2.2.2 b4 b5 b6 b7 b8 b9 s b11)
    (k1 a.1 a.2.1 a.2.2.1 a.2.2.2 b.1 b.2.1 b.2.2.1 b.2.2.2 b4 b5 b6 b7 b8 b9 (a.2.2.1 ++ b.2.2.1.map (mvE (a.1.length : Int))) b11) fuel (lt_fuel (by omega))
    (fun f i hi => by
      have hs := (valid_parts hvb).2.2.1 _ (getD_mem (d := ((0 : Int), ((0 : Int), ([] : List UInt8)))) hi)
      rw [zqmj]
      unfold zqm5
      refine (c_pos (by omega)).trans ?_
      refine (c_inb (by omega)).trans ?_
      dsimp only
      rw [Int.toNat_natCast, i64_in ((i : Int) + 1) (by omega), i64_in ((b.2.2.1.getD i ((0 : Int), ((0 : Int), ([] : List UInt8)))).1 + (a.1.length : Int)) (by omega)]
      refine (c_room (by simp only [List.length_append, List.length_map, List.length_take, List.length_cons, List.length_nil]; omega)).trans ?_
      rw [take_succ_map hi ((0 : Int), ((0 : Int), ([] : List UInt8))), List.append_assoc]
      rfl)
    (fun f => by
      rw [zqmj]
      unfold zqm5
      refine (c_neg (by omega)).trans ?_
      rw [List.take_length])
  refine Eq.trans ?_ key
  simp

theorem merge_p3 {a b : Rec} (hva : valid a = true) (hvb : valid b = true) (k1 : zqly β) (b3 b7 : List Host) (b4 b8 : List Sync) (b5 b9 : List Event) (b6 : List Link) :
    zqmo k1 b.2.2.2 (b.2.2.2.length : Int) 0 a.1 a.2.1 a.2.2.1 a.2.2.2 b3 b4 b5 b6 b7 b8 b9 a.2.2.2 = k1 b3 b4 b5 b6 b7 b8 b9 (a.2.2.2 ++ b.2.2.2.map (mvL (a.2.2.1.length : Int))) := by
  have ha := valid_bd hva
  have hb := valid_bd hvb
  unfold zqmo
  have key := range_state b.2.2.2.length (fun i => a.2.2.2 ++ (b.2.2.2.take i).map (mvL (a.2.2.1.length : Int))) (fun f i s => zqmm f k1 b.2.2.2 (b.2.2.2.length : Int) i a.1 a.2.1 a.2.2.1 a.2.2.2 b3 b4 b5 b6 b7 b8 b9 s)
    (k1 b3 b4 b5 b6 b7 b8 b9 (a.2.2.2 ++ b.2.2.2.map (mvL (a.2.2.1.length : Int)))) fuel (lt_fuel (by omega))
    (fun f i hi => by
      have hs := (valid_parts hvb).2.2.2 _ (getD_mem (d := ((0 : Int), ((0 : Int), (0 : Int)))) hi)
      unfold nE at hs
      rw [zqmn]
      unfold zqm8
      refine (c_pos (by omega)).trans ?_
      refine (c_inb (by omega)).trans ?_
      dsimp only
      rw [Int.toNat_natCast, i64_in ((i : Int) + 1) (by omega), i64_in ((b.2.2.2.getD i ((0 : Int), ((0 : Int), (0 : Int)))).1 + (a.2.2.1.length : Int)) (by omega), i64_in ((b.2.2.2.getD i ((0 : Int), ((0 : Int), (0 : Int)))).2.1 + (a.2.2.1.length : Int)) (by omega)]
      refine (c_room (by simp only [List.length_append, List.length_map, List.length_take, List.length_cons, List.length_nil]; omega)).trans ?_
      rw [take_succ_map hi ((0 : Int), ((0 : Int), (0 : Int))), List.append_assoc]
      rfl)
    (fun f => by
      rw [zqmn]
      unfold zqm8
      refine (c_neg (by omega)).trans ?_
      rw [List.take_length])
  refine Eq.trans ?_ key
  simp

theorem sized_eq {r : Rec} (h0 : r.1.length ≤ 8) (h1 : r.2.1.length ≤ 64) (h2 : r.2.2.1.length ≤ 40) (h3 : r.2.2.2.length ≤ 64) (k : Rec → Int → Option β) : zq2i r k = k r 0 := by
  unfold zq2i zq2f
  refine (c_neg (by omega)).trans ?_
  refine (c_neg (by omega)).trans ?_
  refine (c_neg (by omega)).trans ?_
  exact c_neg (by omega)

theorem timeline_Merge_eq {a b : Rec} (hva : valid a = true) (hvb : valid b = true) (h0 : a.1.length + b.1.length ≤ 8) (h1 : a.2.1.length + b.2.1.length ≤ 64) (h2 : a.2.2.1.length + b.2.2.1.length ≤ 40) (h3 : a.2.2.2.length + b.2.2.2.length ≤ 64) (k : Rec → Int → Option β) :
    zqmq a b k = k (mergeR a b) 0 := by
  unfold zqmq zqmb
  refine (clock_Valid_eq a _).trans ?_
  rw [hva]
  refine c_f.trans ?_
  refine (clock_Valid_eq b _).trans ?_
  rw [hvb]
  refine c_f.trans ?_
  refine (copied_eq hva _).trans ?_
  refine (c_room (by omega)).trans ?_
  refine (merge_p1 hva hvb _ _ _ _ _ _ _ _).trans ?_
  refine (merge_p2 hva hvb _ _ _ _ _ _ _ _).trans ?_
  refine (merge_p3 hva hvb _ _ _ _ _ _ _ _).trans ?_
  exact sized_eq (r := mergeR a b) (by simp [mergeR]; omega) (by simp [mergeR]; omega) (by simp [mergeR]; omega) (by simp [mergeR]; omega) _
end

/-! ### The merged record's parts -/
section
variable {a b : Rec}
theorem nE_merge (a b : Rec) : nE (mergeR a b) = nE a + nE b := by simp [nE, mergeR]
theorem evAt_l {i : Nat} (hi : i < nE a) : evAt (mergeR a b) i = evAt a i := by
  unfold nE at hi
  simp [evAt, mergeR, List.getD, List.getElem?_append_left hi]
theorem evAt_r {j : Nat} (hj : j < nE b) : evAt (mergeR a b) (nE a + j) = mvE (a.1.length : Int) (evAt b j) := by
  unfold nE at hj
  simp [evAt, mergeR, nE, List.getD, hj]
theorem getD_right {α : Type} {p q : List α} {i : Nat} {d : α} : (p ++ q).getD (p.length + i) d = q.getD i d := by
  simp [List.getD, List.getElem?_append_right (show p.length ≤ p.length + i by omega)]
theorem drift_l {h : Int} (h0 : 0 ≤ h ∧ h < a.1.length) : driftAt (mergeR a b) h = driftAt a h := by
  unfold driftAt mergeR
  rw [getD_append (by omega)]
theorem drift_r {h : Int} (h0 : 0 ≤ h ∧ h < b.1.length) : driftAt (mergeR a b) (h + (a.1.length : Int)) = driftAt b h := by
  have e : (h + (a.1.length : Int)).toNat = a.1.length + h.toNat := by omega
  unfold driftAt mergeR
  rw [e, getD_right]
theorem froms_l (hva : valid a = true) (hvb : valid b = true) {h : Int} (h0 : 0 ≤ h ∧ h < a.1.length) (c : Int) : froms (mergeR a b).1 h c (mergeR a b).2.1 = froms a.1 h c a.2.1 := by
  have hf : (b.2.1.map (mvS (a.1.length : Int))).filter (fun s => decide (s.1 = h)) = [] := by
    rw [List.filter_eq_nil_iff]
    intro s hs
    obtain ⟨z, hz, rfl⟩ := List.mem_map.1 hs
    have := (valid_parts hvb).2.1 z hz
    simp only [decide_eq_true_eq]
    show ¬ z.1 + (a.1.length : Int) = h
    omega
  unfold froms mergeR
  rw [List.filter_append, hf, List.append_nil, getD_append (by omega)]
theorem froms_r (hva : valid a = true) (hvb : valid b = true) {h : Int} (h0 : 0 ≤ h ∧ h < b.1.length) (c : Int) : froms (mergeR a b).1 (h + (a.1.length : Int)) c (mergeR a b).2.1 = froms b.1 h c b.2.1 := by
  have hf : a.2.1.filter (fun s => decide (s.1 = h + (a.1.length : Int))) = [] := by
    rw [List.filter_eq_nil_iff]
    intro s hs
    have := (valid_parts hva).2.1 s hs
    simp only [decide_eq_true_eq]
    omega
  have hg : (b.2.1.map (mvS (a.1.length : Int))).filter (fun s => decide (s.1 = h + (a.1.length : Int))) = (b.2.1.filter fun s => decide (s.1 = h)).map (mvS (a.1.length : Int)) := by
    rw [List.filter_map]
    congr 1
    apply List.filter_congr
    intro s _
    show decide (s.1 + (a.1.length : Int) = h + (a.1.length : Int)) = decide (s.1 = h)
    exact decide_eq_decide.2 (by omega)
  have e : (h + (a.1.length : Int)).toNat = a.1.length + h.toNat := by omega
  unfold froms mergeR
  rw [List.filter_append, hf, List.nil_append, hg, List.map_map, e]
  have e2 : (a.1 ++ b.1).getD (a.1.length + h.toNat) (([], 0) : Host) = b.1.getD h.toNat ([], 0) := getD_right
  rw [e2]
  rfl

theorem merge_valid (hva : valid a = true) (hvb : valid b = true) (h0 : a.1.length + b.1.length ≤ 8) (h1 : a.2.1.length + b.2.1.length ≤ 64) (h2 : a.2.2.1.length + b.2.2.1.length ≤ 40) (h3 : a.2.2.2.length + b.2.2.2.length ≤ 64) : valid (mergeR a b) = true := by
  obtain ⟨a1, a2, a3, a4⟩ := valid_parts hva
  obtain ⟨b1, b2, b3, b4⟩ := valid_parts hvb
  refine valid_mk (by simp [mergeR]; omega) (by simp [mergeR]; omega) (by simp [mergeR]; omega) (by simp [mergeR]; omega) (fun x hx => ?_) (fun x hx => ?_) (fun x hx => ?_) (fun x hx => ?_)
  · rcases List.mem_append.1 hx with hx | hx
    · exact a1 x hx
    · exact b1 x hx
  · have hl : (mergeR a b).1.length = a.1.length + b.1.length := by simp [mergeR]
    rcases List.mem_append.1 hx with hx | hx
    · have := a2 x hx
      exact ⟨this.1, by omega, this.2.2⟩
    · obtain ⟨z, hz, rfl⟩ := List.mem_map.1 hx
      have := b2 z hz
      exact ⟨by show 0 ≤ z.1 + (a.1.length : Int); omega, by show z.1 + (a.1.length : Int) < _; omega, this.2.2⟩
  · have hl : (mergeR a b).1.length = a.1.length + b.1.length := by simp [mergeR]
    rcases List.mem_append.1 hx with hx | hx
    · have := a3 x hx
      omega
    · obtain ⟨z, hz, rfl⟩ := List.mem_map.1 hx
      have := b3 z hz
      show 0 ≤ z.1 + (a.1.length : Int) ∧ z.1 + (a.1.length : Int) < _ ∧ 0 ≤ z.2.1 ∧ z.2.1 ≤ 8589934592
      omega
  · have hl := nE_merge a b
    have hE : nE a = a.2.2.1.length := rfl
    rcases List.mem_append.1 hx with hx | hx
    · have := a4 x hx
      omega
    · obtain ⟨z, hz, rfl⟩ := List.mem_map.1 hx
      have := b4 z hz
      show 0 ≤ z.1 + (a.2.2.1.length : Int) ∧ z.1 + (a.2.2.1.length : Int) < _ ∧ 0 ≤ z.2.1 + (a.2.2.1.length : Int) ∧ z.2.1 + (a.2.2.1.length : Int) < _ ∧ z.1 + (a.2.2.1.length : Int) ≠ z.2.1 + (a.2.2.1.length : Int) ∧ 0 ≤ z.2.2 ∧ z.2.2 ≤ 8589934592
      omega

theorem whenAt_l (hva : valid a = true) (hvb : valid b = true) (hv : valid (mergeR a b) = true) {i : Nat} (hi : i < nE a) : whenAt (mergeR a b) i = whenAt a i := by
  have he := valid_ev hva hi
  rw [whenAt_eq hv (by rw [nE_merge]; omega), whenAt_eq hva hi, evAt_l hi]
  simp only [whenR_eq]
  rw [froms_l hva hvb ⟨he.1, he.2.1⟩]
theorem whenAt_r (hva : valid a = true) (hvb : valid b = true) (hv : valid (mergeR a b) = true) {j : Nat} (hj : j < nE b) : whenAt (mergeR a b) (nE a + j) = whenAt b j := by
  have he := valid_ev hvb hj
  rw [whenAt_eq hv (by rw [nE_merge]; omega), whenAt_eq hvb hj, evAt_r hj]
  simp only [whenR_eq]
  show ((froms (mergeR a b).1 ((evAt b j).1 + (a.1.length : Int)) (evAt b j).2.1 (mergeR a b).2.1).foldl meet2 (0, 8589934592), !decide (((froms (mergeR a b).1 ((evAt b j).1 + (a.1.length : Int)) (evAt b j).2.1 (mergeR a b).2.1).foldl meet2 (0, 8589934592)).2 < ((froms (mergeR a b).1 ((evAt b j).1 + (a.1.length : Int)) (evAt b j).2.1 (mergeR a b).2.1).foldl meet2 (0, 8589934592)).1)) = _
  rw [froms_r hva hvb ⟨he.1, he.2.1⟩]

theorem merge_whens (hva : valid a = true) (hvb : valid b = true) (hv : valid (mergeR a b) = true) (ha : whensOk a = true) (hb : whensOk b = true) : whensOk (mergeR a b) = true := by
  rw [whensOk_iff] at ha hb ⊢
  intro i hi
  rw [nE_merge] at hi
  by_cases h : i < nE a
  · rw [whenAt_l hva hvb hv h]; exact ha i h
  · obtain ⟨j, rfl⟩ : ∃ j, i = nE a + j := ⟨i - nE a, by omega⟩
    rw [whenAt_r hva hvb hv (by omega)]; exact hb j (by omega)

/-- The second record's share of times. -/
def shB (n : Nat) (x : Nat → Int) (j : Nat) : Int := if j = 0 then x 0 else x (n + j)
theorem shB_zero (n : Nat) (x : Nat → Int) : shB n x 0 = x 0 := rfl
theorem shB_succ (n : Nat) (x : Nat → Int) (j : Nat) : shB n x (j + 1) = x (n + j + 1) := by unfold shB; rw [if_neg (by omega)]; rfl

theorem sol_merge (hva : valid a = true) (hvb : valid b = true) (hv : valid (mergeR a b) = true) (x : Nat → Int) : SolR (mergeR a b) x ↔ SolR a x ∧ SolR b (shB (nE a) x) := by
  have hE : nE a = a.2.2.1.length := rfl
  constructor
  · intro h
    refine ⟨⟨fun i hi => ?_, fun i j hi hj hij hh hc => ?_, fun l hl => h.link l (List.mem_append.2 (.inl hl))⟩, ⟨fun j hj => ?_, fun i j hi hj hij hh hc => ?_, fun l hl => ?_⟩⟩
    · have := h.ev i (by rw [nE_merge]; omega)
      rwa [whenAt_l hva hvb hv hi] at this
    · have hi' := valid_ev hva hi
      have := h.pair i j (by rw [nE_merge]; omega) (by rw [nE_merge]; omega) hij (by rw [evAt_l hi, evAt_l hj]; exact hh) (by rw [evAt_l hi, evAt_l hj]; exact hc)
      rwa [evAt_l hi, evAt_l hj, drift_l ⟨hi'.1, hi'.2.1⟩] at this
    · have := h.ev (nE a + j) (by rw [nE_merge]; omega)
      rwa [whenAt_r hva hvb hv hj] at this
    · have hi' := valid_ev hvb hi
      have := h.pair (nE a + i) (nE a + j) (by rw [nE_merge]; omega) (by rw [nE_merge]; omega) (by omega) (by rw [evAt_r hi, evAt_r hj]; show (evAt b i).1 + _ = (evAt b j).1 + _; rw [hh]) (by rw [evAt_r hi, evAt_r hj]; exact hc)
      rw [evAt_r hi, evAt_r hj] at this
      have hd : driftAt (mergeR a b) (mvE (a.1.length : Int) (evAt b i)).1 = driftAt b (evAt b i).1 := drift_r ⟨hi'.1, hi'.2.1⟩
      rw [hd] at this
      exact this
    · have hb := (valid_parts hvb).2.2.2 l hl
      have := h.link (mvL (a.2.2.1.length : Int) l) (List.mem_append.2 (.inr (List.mem_map.2 ⟨l, hl, rfl⟩)))
      have e1 : (mvL (a.2.2.1.length : Int) l).1.toNat = nE a + l.1.toNat := by show (l.1 + (a.2.2.1.length : Int)).toNat = _; omega
      have e2 : (mvL (a.2.2.1.length : Int) l).2.1.toNat = nE a + l.2.1.toNat := by show (l.2.1 + (a.2.2.1.length : Int)).toNat = _; omega
      rw [e1, e2] at this
      rw [shB_succ, shB_succ]
      exact this
  · rintro ⟨h, g⟩
    refine ⟨fun i hi => ?_, fun i j hi hj hij hh hc => ?_, fun l hl => ?_⟩
    · rw [nE_merge] at hi
      by_cases hia : i < nE a
      · rw [whenAt_l hva hvb hv hia]; exact h.ev i hia
      · obtain ⟨j, rfl⟩ : ∃ j, i = nE a + j := ⟨i - nE a, by omega⟩
        rw [whenAt_r hva hvb hv (by omega)]
        have := g.ev j (by omega)
        rwa [shB_succ, shB_zero] at this
    · rw [nE_merge] at hi hj
      by_cases hia : i < nE a
      · have hi' := valid_ev hva hia
        by_cases hja : j < nE a
        · rw [evAt_l hia, evAt_l hja] at hh hc ⊢
          rw [drift_l ⟨hi'.1, hi'.2.1⟩]
          exact h.pair i j hia hja hij hh hc
        · obtain ⟨q, rfl⟩ : ∃ q, j = nE a + q := ⟨j - nE a, by omega⟩
          have hq := valid_ev hvb (i := q) (by omega)
          rw [evAt_l hia, evAt_r (by omega)] at hh
          have hh : (evAt a i).1 = (evAt b q).1 + (a.1.length : Int) := hh
          omega
      · obtain ⟨p, rfl⟩ : ∃ p, i = nE a + p := ⟨i - nE a, by omega⟩
        have hp := valid_ev hvb (i := p) (by omega)
        by_cases hja : j < nE a
        · have hj' := valid_ev hva hja
          rw [evAt_l hja, evAt_r (by omega)] at hh
          have hh : (evAt b p).1 + (a.1.length : Int) = (evAt a j).1 := hh
          omega
        · obtain ⟨q, rfl⟩ : ∃ q, j = nE a + q := ⟨j - nE a, by omega⟩
          rw [evAt_r (by omega), evAt_r (by omega)] at hh hc ⊢
          have hh : (evAt b p).1 + (a.1.length : Int) = (evAt b q).1 + (a.1.length : Int) := hh
          have hd : driftAt (mergeR a b) (mvE (a.1.length : Int) (evAt b p)).1 = driftAt b (evAt b p).1 := drift_r ⟨hp.1, hp.2.1⟩
          rw [hd]
          have := g.pair p q (by omega) (by omega) (by omega) (by omega) hc
          rwa [shB_succ, shB_succ] at this
    · rcases List.mem_append.1 hl with hl | hl
      · exact h.link l hl
      · obtain ⟨z, hz, rfl⟩ := List.mem_map.1 hl
        have hb := (valid_parts hvb).2.2.2 z hz
        have := g.link z hz
        rw [shB_succ, shB_succ] at this
        have e1 : (mvL (a.2.2.1.length : Int) z).1.toNat = nE a + z.1.toNat := by show (z.1 + (a.2.2.1.length : Int)).toNat = _; omega
        have e2 : (mvL (a.2.2.1.length : Int) z).2.1.toNat = nE a + z.2.1.toNat := by show (z.2.1 + (a.2.2.1.length : Int)).toNat = _; omega
        rw [e1, e2]
        exact this

theorem SolR.congr {r : Rec} (hv : valid r = true) {x y : Nat → Int} (h : SolR r x) (e : ∀ j, j ≤ nE r → y j = x j) : SolR r y := by
  refine ⟨fun i hi => ?_, fun i j hi hj hij hh hc => ?_, fun l hl => ?_⟩
  · rw [e (i + 1) (by omega), e 0 (by omega)]; exact h.ev i hi
  · rw [e (i + 1) (by omega), e (j + 1) (by omega)]; exact h.pair i j hi hj hij hh hc
  · have := (valid_parts hv).2.2.2 l hl
    rw [e (l.1.toNat + 1) (by omega), e (l.2.1.toNat + 1) (by omega)]; exact h.link l hl
theorem SolR.shift {r : Rec} {x : Nat → Int} (h : SolR r x) (c : Int) : SolR r (fun j => x j + c) :=
  ⟨fun i hi => by have := h.ev i hi; show x (i + 1) + c - (x 0 + c) ≤ _ ∧ x 0 + c - (x (i + 1) + c) ≤ _; omega, fun i j hi hj hij hh hc => by have := h.pair i j hi hj hij hh hc; show _ ≤ x (j + 1) + c - (x (i + 1) + c) ∧ x (j + 1) + c - (x (i + 1) + c) ≤ _; omega,
    fun l hl => by have := h.link l hl; show _ ≤ x (l.2.1.toNat + 1) + c - (x (l.1.toNat + 1) + c); omega⟩

/-- Times of the two records together. -/
def bothX (n : Nat) (y z : Nat → Int) (j : Nat) : Int := if j ≤ n then y j else z (j - n) - z 0 + y 0
theorem sol_both (hva : valid a = true) (hvb : valid b = true) (hv : valid (mergeR a b) = true) {y z : Nat → Int} (hy : SolR a y) (hz : SolR b z) : SolR (mergeR a b) (bothX (nE a) y z) := by
  refine (sol_merge hva hvb hv _).2 ⟨hy.congr hva fun j hj => by unfold bothX; rw [if_pos hj], (hz.shift (y 0 - z 0)).congr hvb fun j hj => ?_⟩
  cases j with
  | zero =>
    rw [shB_zero]
    unfold bothX
    rw [if_pos (by omega)]
    omega
  | succ j =>
    rw [shB_succ]
    unfold bothX
    rw [if_neg (by omega), show nE a + j + 1 - nE a = j + 1 by omega]
    omega

def shI (n : Nat) (j : Nat) : Nat := if j = 0 then 0 else n + j
/-- What is known of the events of one of the two records is what was known of them. -/
theorem merge_at {ma mb m : Mat} (ha : ClosedR a ma) (hb : ClosedR b mb) (h : ClosedR (mergeR a b) m) :
    (∀ i j, i ≤ nE a → j ≤ nE a → at2 m i j = at2 ma i j) ∧ (∀ i j, i ≤ nE b → j ≤ nE b → at2 m (shI (nE a) i) (shI (nE a) j) = at2 mb i j) := by
  have hn := nE_merge a b
  have ya := ha.row (i := 0) (by omega)
  have yb := hb.row (i := 0) (by omega)
  have ext : ∀ p q : Int, (∀ c, p ≤ c ↔ q ≤ c) → p = q := fun p q hc => Int.le_antisymm ((hc q).2 (Int.le_refl _)) ((hc p).1 (Int.le_refl _))
  refine ⟨fun i j hi hj => ext _ _ fun c => ?_, fun i j hi hj => ext _ _ fun c => ?_⟩
  · rw [h.le_iff (by omega) (by omega), ha.le_iff (by omega) (by omega)]
    constructor
    · intro g y hy
      have := g _ (sol_both ha.valid hb.valid h.valid hy yb)
      unfold bothX at this
      rwa [if_pos hj, if_pos hi] at this
    · intro g x hx
      exact g x ((sol_merge ha.valid hb.valid h.valid x).1 hx).1
  · have hsi : ∀ k, k ≤ nE b → shI (nE a) k < nE (mergeR a b) + 1 := fun k hk => by unfold shI; split <;> omega
    rw [h.le_iff (hsi i hi) (hsi j hj), hb.le_iff (by omega) (by omega)]
    have hsx : ∀ (x : Nat → Int) k, shB (nE a) x k = x (shI (nE a) k) := fun x k => by unfold shB shI; split <;> rfl
    constructor
    · intro g z hz
      have hz' := hz.shift (-(z 0))
      have := g _ (sol_both ha.valid hb.valid h.valid ya hz)
      have e : ∀ k, k ≤ nE b → bothX (nE a) (fun j => at2 ma 0 j) z (shI (nE a) k) = z k - z 0 + at2 ma 0 0 := fun k hk => by
        show bothX (nE a) (fun j => at2 ma 0 j) z (shI (nE a) k) = z k - z 0 + (fun j => at2 ma 0 j) 0
        generalize (fun j => at2 ma 0 j) = ya
        unfold bothX shI
        by_cases hk0 : k = 0
        · subst hk0
          rw [if_pos rfl, if_pos (by omega)]
          omega
        · rw [if_neg hk0, if_neg (by omega), show nE a + k - nE a = k by omega]
      have e0 : at2 ma 0 0 = (fun j => at2 ma 0 j) 0 := rfl
      rw [e i hi, e j hj] at this
      omega
    · intro g x hx
      have := g _ ((sol_merge ha.valid hb.valid h.valid x).1 hx).2
      rwa [hsx, hsx] at this

theorem merge_closed {ma mb : Mat} (ha : ClosedR a ma) (hb : ClosedR b mb) (hv : valid (mergeR a b) = true) : ∃ m, ClosedR (mergeR a b) m :=
  closed_some' hv (merge_whens ha.valid hb.valid hv ha.whens hb.whens) (sol_both ha.valid hb.valid hv (ha.row (i := 0) (by omega)) (hb.row (i := 0) (by omega)))
end
end
end Go.Lift

/- TimelineMerges: what was certain in one of two records stays so, and ranges get no wider. -/
namespace Go.Lift
open Go.RowKit Go.IntWalk
noncomputable section
set_option linter.unusedVariables false
set_option linter.unusedSimpArgs false
set_option maxRecDepth 10000

theorem cmpG_in' {r : Rec} {m : Mat} (hm : ClosedR r m) {a b : Nat} (ha : a < nE r) (hb : b < nE r) : cmpG r (a : Int) (b : Int) = (cmpN m a b, true) := by
  unfold cmpG
  rw [hm.eq]
  show (if _ then _ else _) = _
  rw [inN_mk (by omega), inN_mk (by omega)]
  simp
theorem shI_succ (n k : Nat) : shI n (k + 1) = n + k + 1 := by unfold shI; rw [if_neg (by omega)]; rfl

section
variable {β : Type} {a b : Rec} {ma mb m : Mat}
theorem merge_cmp_l (ha : ClosedR a ma) (hb : ClosedR b mb) (h : ClosedR (mergeR a b) m) {i j : Nat} (hi : i < nE a) (hj : j < nE a) : cmpN m i j = cmpN ma i j := by
  have h1 := (merge_at ha hb h).1
  unfold cmpN bef
  rw [h1 (j + 1) (i + 1) (by omega) (by omega), h1 (i + 1) (j + 1) (by omega) (by omega)]
theorem merge_cmp_r (ha : ClosedR a ma) (hb : ClosedR b mb) (h : ClosedR (mergeR a b) m) {i j : Nat} (hi : i < nE b) (hj : j < nE b) : cmpN m (nE a + i) (nE a + j) = cmpN mb i j := by
  have h1 := (merge_at ha hb h).2
  have e1 := h1 (j + 1) (i + 1) (by omega) (by omega)
  have e2 := h1 (i + 1) (j + 1) (by omega) (by omega)
  rw [shI_succ, shI_succ] at e1 e2
  unfold cmpN bef
  rw [e1, e2]
theorem merge_ranges (ha : ClosedR a ma) (hb : ClosedR b mb) (h : ClosedR (mergeR a b) m) : whensN (nE (mergeR a b)) m = whensN (nE a) ma ++ whensN (nE b) mb := by
  obtain ⟨h1, h2⟩ := merge_at ha hb h
  unfold whensN
  rw [nE_merge, List.range_add, List.map_append, List.map_map]
  congr 1
  · apply List.map_congr_left
    intro i hi
    have hi := List.mem_range.1 hi
    unfold rangeN
    rw [h1 (i + 1) 0 (by omega) (by omega), h1 0 (i + 1) (by omega) (by omega)]
  · apply List.map_congr_left
    intro i hi
    have hi := List.mem_range.1 hi
    have e1 := h2 (i + 1) 0 (by omega) (by omega)
    have e2 := h2 0 (i + 1) (by omega) (by omega)
    rw [shI_succ] at e1 e2
    show rangeN m (nE a + i) = rangeN mb i
    unfold rangeN
    have e0 : shI (nE a) 0 = 0 := rfl
    rw [e0] at e1 e2
    rw [e1, e2]

theorem merges_p1 (ha : ClosedR a ma) (hb : ClosedR b mb) (h : ClosedR (mergeR a b) m) (hn : nE a ≤ 40) {one : List Int} (h1 : one.length = nE a) {i : Nat} (hi : i < nE a) (t103 t104 : Int) (b1 : List Host) (b2 : List Sync) (b3 : List Event) (b4 : List Link) (two : List Int) (k1 : zq10i β) (k2 : zq10j β) :
    zq11j k1 k2 (i : Int) t103 t104 (one.length : Int) 0 a.1 a.2.1 a.2.2.1 a.2.2.2 one b1 b2 b3 b4 two (mergeR a b).1 (mergeR a b).2.1 (mergeR a b).2.2.1 (mergeR a b).2.2.2 =
      k2 t103 t104 a.1 a.2.1 a.2.2.1 a.2.2.2 one b1 b2 b3 b4 two (mergeR a b).1 (mergeR a b).2.1 (mergeR a b).2.2.1 (mergeR a b).2.2.2 := by
  have hE := nE_merge a b
  unfold zq11j
  exact pass_loop (nE a) (fun f j => zq11h f k1 k2 (i : Int) t103 t104 (one.length : Int) j a.1 a.2.1 a.2.2.1 a.2.2.2 one b1 b2 b3 b4 two (mergeR a b).1 (mergeR a b).2.1 (mergeR a b).2.2.1 (mergeR a b).2.2.2) _ fuel (lt_fuel (by omega))
    (fun f j hj => by
      rw [zq11i]
      unfold zq112
      refine (c_pos (by omega)).trans ?_
      refine (rCompare_gen (a.1, a.2.1, a.2.2.1, a.2.2.2) _ _ _).trans ?_
      refine (rCompare_gen ((mergeR a b).1, (mergeR a b).2.1, (mergeR a b).2.2.1, (mergeR a b).2.2.2) _ _ _).trans ?_
      have q1 : cmpG (a.1, a.2.1, a.2.2.1, a.2.2.2) (i : Int) (j : Int) = (cmpN ma i j, true) := cmpG_in' ha hi hj
      have q2 : cmpG ((mergeR a b).1, (mergeR a b).2.1, (mergeR a b).2.2.1, (mergeR a b).2.2.2) (i : Int) (j : Int) = (cmpN m i j, true) := cmpG_in' h (by omega) (by omega)
      rw [q1, q2, i64_in ((j : Int) + 1) (by omega)]
      exact c_npos (merge_cmp_l ha hb h hi hj).symm)
    (fun f => by
      rw [zq11i]
      unfold zq112
      exact c_neg (by omega))

theorem merges_p2 (ha : ClosedR a ma) (hb : ClosedR b mb) (h : ClosedR (mergeR a b) m) (hn : nE a ≤ 40) {one : List Int} (h1 : one.length = nE a) (b1 : List Host) (b2 : List Sync) (b3 : List Event) (b4 : List Link) (two : List Int) (k1 : zq10n β) (k2 : zq10o β) :
    zq11n k1 k2 (one.length : Int) 0 a.1 a.2.1 a.2.2.1 a.2.2.2 one b1 b2 b3 b4 two (mergeR a b).1 (mergeR a b).2.1 (mergeR a b).2.2.1 (mergeR a b).2.2.2 =
      k2 one b1 b2 b3 b4 two (mergeR a b).1 (mergeR a b).2.1 (mergeR a b).2.2.1 (mergeR a b).2.2.2 := by
  unfold zq11n
  exact pass_loop (nE a) (fun f j => zq11l f k1 k2 (one.length : Int) j a.1 a.2.1 a.2.2.1 a.2.2.2 one b1 b2 b3 b4 two (mergeR a b).1 (mergeR a b).2.1 (mergeR a b).2.2.1 (mergeR a b).2.2.2) _ fuel (lt_fuel (by omega))
    (fun f j hj => by
      rw [zq11m]
      unfold zq115
      refine (c_pos (by omega)).trans ?_
      refine (merges_p1 ha hb h hn h1 hj _ _ _ _ _ _ _ _ _).trans ?_
      rw [i64_in ((j : Int) + 1) (by omega)])
    (fun f => by
      rw [zq11m]
      unfold zq115
      exact c_neg (by omega))

theorem merges_p3 (ha : ClosedR a ma) (hb : ClosedR b mb) (h : ClosedR (mergeR a b) m) (hn : nE a ≤ 40) (hn2 : nE b ≤ 40) {one two : List Int} (h1 : one.length = nE a) (h2 : two.length = nE b) {i : Nat} (hi : i < nE b) (t103 t104 : Int) (k1 : zq10s β) (k2 : zq10t β) :
    zq11r k1 k2 (i : Int) t103 t104 (two.length : Int) 0 one b.1 b.2.1 b.2.2.1 b.2.2.2 two (mergeR a b).1 (mergeR a b).2.1 (mergeR a b).2.2.1 (mergeR a b).2.2.2 =
      k2 t103 t104 one b.1 b.2.1 b.2.2.1 b.2.2.2 two (mergeR a b).1 (mergeR a b).2.1 (mergeR a b).2.2.1 (mergeR a b).2.2.2 := by
  have hE := nE_merge a b
  unfold zq11r
  exact pass_loop (nE b) (fun f j => zq11p f k1 k2 (i : Int) t103 t104 (two.length : Int) j one b.1 b.2.1 b.2.2.1 b.2.2.2 two (mergeR a b).1 (mergeR a b).2.1 (mergeR a b).2.2.1 (mergeR a b).2.2.2) _ fuel (lt_fuel (by omega))
    (fun f j hj => by
      rw [zq11q]
      unfold zq118
      refine (c_pos (by omega)).trans ?_
      refine (rCompare_gen (b.1, b.2.1, b.2.2.1, b.2.2.2) _ _ _).trans ?_
      rw [i64_in ((one.length : Int) + (i : Int)) (by omega), i64_in ((one.length : Int) + (j : Int)) (by omega)]
      refine (rCompare_gen ((mergeR a b).1, (mergeR a b).2.1, (mergeR a b).2.2.1, (mergeR a b).2.2.2) _ _ _).trans ?_
      have q1 : cmpG (b.1, b.2.1, b.2.2.1, b.2.2.2) (i : Int) (j : Int) = (cmpN mb i j, true) := cmpG_in' hb hi hj
      have q2 : cmpG ((mergeR a b).1, (mergeR a b).2.1, (mergeR a b).2.2.1, (mergeR a b).2.2.2) ((one.length : Int) + (i : Int)) ((one.length : Int) + (j : Int)) = (cmpN m (nE a + i) (nE a + j), true) := by
        rw [h1, show ((nE a : Int) + (i : Int)) = ((nE a + i : Nat) : Int) by omega, show ((nE a : Int) + (j : Int)) = ((nE a + j : Nat) : Int) by omega]
        exact cmpG_in' h (by omega) (by omega)
      rw [q1, q2, i64_in ((j : Int) + 1) (by omega)]
      exact c_npos (merge_cmp_r ha hb h hi hj).symm)
    (fun f => by
      rw [zq11q]
      unfold zq118
      exact c_neg (by omega))

theorem merges_p4 (ha : ClosedR a ma) (hb : ClosedR b mb) (h : ClosedR (mergeR a b) m) (hn : nE a ≤ 40) (hn2 : nE b ≤ 40) {one two : List Int} (h1 : one.length = nE a) (h2 : two.length = nE b) (k1 : zq10x β) (k2 : zq10y β) :
    zq11v k1 k2 (two.length : Int) 0 one b.1 b.2.1 b.2.2.1 b.2.2.2 two (mergeR a b).1 (mergeR a b).2.1 (mergeR a b).2.2.1 (mergeR a b).2.2.2 =
      k2 one two (mergeR a b).1 (mergeR a b).2.1 (mergeR a b).2.2.1 (mergeR a b).2.2.2 := by
  unfold zq11v
  exact pass_loop (nE b) (fun f j => zq11t f k1 k2 (two.length : Int) j one b.1 b.2.1 b.2.2.1 b.2.2.2 two (mergeR a b).1 (mergeR a b).2.1 (mergeR a b).2.2.1 (mergeR a b).2.2.2) _ fuel (lt_fuel (by omega))
    (fun f j hj => by
      rw [zq11u]
      unfold zq11b
      refine (c_pos (by omega)).trans ?_
      refine (merges_p3 ha hb h hn hn2 h1 h2 hj _ _ _ _).trans ?_
      rw [i64_in ((j : Int) + 1) (by omega)])
    (fun f => by
      rw [zq11u]
      unfold zq11b
      exact c_neg (by omega))

theorem merge_fits (ha : ClosedR a ma) (hb : ClosedR b mb) (h : ClosedR (mergeR a b) m) {one two : List Int} (h1 : one.length = nE a) (h2 : two.length = nE b) (s1 : SolR a (xOf one)) (s2 : SolR b (xOf two))
    (g1 : ∀ x ∈ one, 0 ≤ x ∧ x ≤ 8589934592) (g2 : ∀ x ∈ two, 0 ≤ x ∧ x ≤ 8589934592) : fitsW (mergeR a b) (one ++ two) = true := by
  have hsol : SolR (mergeR a b) (xOf (one ++ two)) := by
    refine (sol_merge ha.valid hb.valid h.valid _).2 ⟨s1.congr ha.valid fun j hj => ?_, s2.congr hb.valid fun j hj => ?_⟩
    · cases j with
      | zero => rfl
      | succ j => rw [xOf_succ, xOf_succ, getD_append (by omega)]
    · cases j with
      | zero => rfl
      | succ j => rw [shB_succ, xOf_succ, xOf_succ, ← h1, getD_right]
  unfold fitsW
  rw [h.eq, not_broken h.valid hsol, decide_eq_true (show (one ++ two).length = nE (mergeR a b) by rw [List.length_append, nE_merge, h1, h2])]
  have e : (one ++ two).all instB = true := by
    rw [List.all_eq_true]
    intro x hx
    rcases List.mem_append.1 hx with hx | hx
    · exact inN_mk (g1 x hx)
    · exact inN_mk (g2 x hx)
  rw [e]
  rfl

theorem times_in {n : Int} {r : Rec} {ahead times : List Int} (h : RecOk n r ahead times) : ∀ x ∈ times, 0 ≤ x ∧ x ≤ 8589934592 := by
  intro x hx
  obtain ⟨i, hi, rfl⟩ := List.getElem_of_mem hx
  have := h.times_bd (i := i) (by have := h.lenE; unfold nE; omega)
  rw [show times.getD i 0 = times[i] by simp [List.getD, hi]] at this
  omega

theorem timelineMerges (t : List Int) (k : Bool → Option β) : zq11x t k = k true := by
  unfold zq11x zq11e
  refine (light_eq t _).trans ?_
  by_cases hl : (t.length : Int) ≤ 500
  · rw [decide_eq_true hl]
    refine c_f.trans ?_
    refine (roll_eq t _).trans ?_
    obtain ⟨a, d1, one, ah1, ra, hd1, fa⟩ := record_ok 4 (by omega) (roll_ok hl)
    obtain ⟨b, d2, two, ah2, rb, hd2, fb⟩ := record_ok 4 (by omega) hd1
    have na : nE a ≤ 4 := by have := ra.nE_le; omega
    have nb : nE b ≤ 4 := by have := rb.nE_le; omega
    have l1 : one.length = nE a := ra.lenE
    have l2 : two.length = nE b := rb.lenE
    have hEa : nE a = a.2.2.1.length := rfl
    have hEb : nE b = b.2.2.1.length := rfl
    obtain ⟨ma, ha⟩ := ra.closed (by omega)
    obtain ⟨mb, hb⟩ := rb.closed (by omega)
    have z0 : a.1.length + b.1.length ≤ 8 := by have := ra.hosts.most; have := rb.hosts.most; omega
    have z1 : a.2.1.length + b.2.1.length ≤ 64 := by have := ra.fewS; have := rb.fewS; omega
    have z2 : a.2.2.1.length + b.2.2.1.length ≤ 40 := by omega
    have z3 : a.2.2.2.length + b.2.2.2.length ≤ 64 := by have := ra.fewL; have := rb.fewL; omega
    have hv := merge_valid ha.valid hb.valid z0 z1 z2 z3
    obtain ⟨m, h⟩ := merge_closed ha hb hv
    have hE := nE_merge a b
    refine (fa _).trans ?_
    refine (fb _).trans ?_
    refine (timeline_Merge_eq ha.valid hb.valid z0 z1 z2 z3 _).trans ?_
    refine (c_npos rfl).trans ?_
    rw [i64_in ((one.length : Int) + (two.length : Int)) (by omega)]
    refine (c_npos (by show ((mergeR a b).2.2.1.length : Int) = _; have : (mergeR a b).2.2.1.length = nE (mergeR a b) := rfl; omega)).trans ?_
    refine (rConsistent_eq _ _).trans ?_
    rw [h.eq]
    refine c_f.trans ?_
    refine (rWhen_eq _ _).trans ?_
    rw [h.eq]
    refine (rWhen_eq _ _).trans ?_
    rw [ha.eq]
    refine (rWhen_eq _ _).trans ?_
    rw [hb.eq]
    refine c_f.trans ?_
    refine c_f.trans ?_
    refine c_f.trans ?_
    have w1 : (whensN (nE a) ma).length = nE a := whensN_len _ _
    have w2 : (whensN (nE b) mb).length = nE b := whensN_len _ _
    refine (c_room (by omega)).trans ?_
    refine (c_room (by omega)).trans ?_
    rw [merge_ranges ha hb h]
    refine (sameR_self _ (by rw [List.length_append]; omega) _).trans ?_
    refine c_f.trans ?_
    refine (merges_p2 ha hb h (by omega) l1 _ _ _ _ _ _ _).trans ?_
    refine (merges_p4 ha hb h (by omega) (by omega) l1 l2 _ _).trans ?_
    refine (c_room (by omega)).trans ?_
    refine (c_room (by omega)).trans ?_
    refine (rFits_eq ((mergeR a b).1, (mergeR a b).2.1, (mergeR a b).2.2.1, (mergeR a b).2.2.2) _ _).trans ?_
    have ef : fitsW ((mergeR a b).1, (mergeR a b).2.1, (mergeR a b).2.2.1, (mergeR a b).2.2.2) (one ++ two) = true := merge_fits ha hb h l1 l2 (ra.solR (by omega)) (rb.solR (by omega)) (times_in ra) (times_in rb)
    rw [ef]
    refine c_t.trans ?_
    exact sane41 _
  · rw [decide_eq_false hl]
    refine c_t.trans ?_
    exact sane41 _
end
end
end Go.Lift

