/- Contacts of chapter 27, function by function; code and reference. -/
import Derived.Test.YtagpoimmbikajaaPart8
namespace Go.Lift
open Go.RowKit Go.IntWalk
noncomputable section
set_option linter.unusedVariables false
set_option linter.unusedSimpArgs false
set_option maxRecDepth 10000

/-- A contact: page, step, person, start, what is sent, when it was reached. -/
abbrev Cont := Int × Int × Int × Int × Int × Int
abbrev cont0 : Cont := (0, 0, 0, 0, 0, 0)
abbrev Cont.start (c : Cont) : Int := c.2.2.2.1
abbrev Cont.sent (c : Cont) : Int := c.2.2.2.2.1
abbrev Cont.reached (c : Cont) : Int := c.2.2.2.2.2
def rightV (page step person start : Int) : Bool := decide (1 ≤ page) && (decide (-1 ≤ step) && (inB person 0 31 && inB start 0 8589934592))
def contV (c : Cont) : Bool := rightV c.1 c.2.1 c.2.2.1 c.2.2.2.1
def checkD (p : Prof) (c : Cont) : Bool :=
  profV p && (contV c && (decide (c.2.2.1 = p.1) && (inB c.2.2.2.2.1 0 (planOf p c.2.2.2.1).length && (decide (c.2.2.2.2.2 = -1) || (!decide (c.2.2.2.2.1 = 0) && decide (c.2.2.2.1 ≤ c.2.2.2.2.2))))))
def newD (page step person start : Int) : Cont × Int := cond (rightV page step person start) ((page, step, person, start, 0, -1), 0) (cont0, 1)
def nextD (p : Prof) (c : Cont) : Int × Bool :=
  cond (checkD p c && (decide (c.2.2.2.2.2 = -1) && decide (c.2.2.2.2.1 < (planOf p c.2.2.2.1).length))) (((planOf p c.2.2.2.1).getD c.2.2.2.2.1.toNat at0).2.2, true) (0, false)
/-- What is due. -/
def dueD (p : Prof) (c : Cont) (now : Int) : List Att :=
  cond (decide (c.2.2.2.2.2 = -1)) (((planOf p c.2.2.2.1).drop c.2.2.2.2.1.toNat).takeWhile fun a => decide (a.2.2 ≤ now)) []
def sentD (p : Prof) (c : Cont) (now : Int) : Cont := (c.1, c.2.1, c.2.2.1, c.2.2.2.1, c.2.2.2.2.1 + (dueD p c now).length, c.2.2.2.2.2)
def recvD (p : Prof) (c : Cont) (attempt at_ : Int) : Cont × Int :=
  cond (checkD p c)
    (cond (inB attempt 0 (c.2.2.2.2.1 - 1))
      (cond (inB at_ ((planOf p c.2.2.2.1).getD attempt.toNat at0).2.2 8590193792)
        (cond (decide (c.2.2.2.2.2 = -1) || decide (at_ < c.2.2.2.2.2)) ((c.1, c.2.1, c.2.2.1, c.2.2.2.1, c.2.2.2.2.1, at_), 0) (c, 0))
        (cont0, 6))
      (cont0, 3))
    (cont0, 8)

structure CheckOk (p : Prof) (c : Cont) : Prop where
  prof : ProfOk p
  nums : contV c = true
  who : c.2.2.1 = p.1
  st : 0 ≤ c.2.2.2.1 ∧ c.2.2.2.1 ≤ 8589934592
  s1 : 0 ≤ c.2.2.2.2.1
  s2 : c.2.2.2.2.1 ≤ (planOf p c.2.2.2.1).length
  s3 : c.2.2.2.2.1 ≤ 24
  reach : c.2.2.2.2.2 = -1 ∨ (c.2.2.2.2.1 ≠ 0 ∧ c.2.2.2.1 ≤ c.2.2.2.2.2)
theorem checkD_ok {p : Prof} {c : Cont} (h : checkD p c = true) : CheckOk p c := by
  unfold checkD at h
  simp only [Bool.and_eq_true, Bool.or_eq_true, Bool.not_eq_true', decide_eq_true_eq, decide_eq_false_iff_not, inB_iff] at h
  obtain ⟨h1, h2, h3, ⟨h4, h5⟩, h6⟩ := h
  have h7 := h2
  unfold contV rightV at h7
  simp only [Bool.and_eq_true, decide_eq_true_eq, inB_iff] at h7
  have := planOf_len p c.2.2.2.1
  exact ⟨profV_ok h1, h2, h3, h7.2.2.2, h4, h5, by omega, h6⟩
theorem checkD_iff {p : Prof} {c : Cont} : checkD p c = true ↔ profV p = true ∧ contV c = true ∧ c.2.2.1 = p.1 ∧ (0 ≤ c.2.2.2.2.1 ∧ c.2.2.2.2.1 ≤ (planOf p c.2.2.2.1).length) ∧ (c.2.2.2.2.2 = -1 ∨ (c.2.2.2.2.1 ≠ 0 ∧ c.2.2.2.1 ≤ c.2.2.2.2.2)) := by
  unfold checkD
  simp only [Bool.and_eq_true, Bool.or_eq_true, Bool.not_eq_true', decide_eq_true_eq, decide_eq_false_iff_not, inB_iff]
  try exact Iff.rfl

theorem fuel_succ : ∃ m, fuel = m + 1 := ⟨18446744073709551615, rfl⟩

section
variable {β : Type}
theorem d_numbers (c : Cont) (k : Bool → Option β) : zq57 c k = k (contV c) := by
  unfold zq57 zq54 contV rightV
  refine c_andk fun _ => ?_
  refine c_andk fun _ => ?_
  unfold zq2u zq2r
  refine (d_in _ _ _ _).trans ?_
  refine c_andk fun _ => ?_
  exact d_in _ _ _ _
theorem r_right (page step person start : Int) (k : Bool → Option β) : zq2n page step person start k = k (rightV page step person start) := by
  unfold zq2n zq2k rightV
  refine c_andk fun _ => ?_
  refine c_andk fun _ => ?_
  refine (r_in _ _ _ _).trans ?_
  refine c_andk fun _ => ?_
  exact r_in _ _ _ _
theorem d_new (page step person start : Int) (k : Cont → Int → Option β) : zq6t page step person start k = k (newD page step person start).1 (newD page step person start).2 := by
  unfold zq6t zq6q newD
  refine (d_numbers _ _).trans ?_
  show cond (!rightV page step person start) _ _ = _
  cases rightV page step person start <;> rfl
theorem r_new (page step person start : Int) (k : Cont → Int → Option β) : zq3x page step person start k = k (newD page step person start).1 (newD page step person start).2 := by
  unfold zq3x zq3u newD
  refine (r_right _ _ _ _ _).trans ?_
  cases rightV page step person start <;> rfl

theorem d_check (p : Prof) (c : Cont) (k : Bool → Option β) : zqcw p c k = k (checkD p c) := by
  unfold zqcw zqct checkD
  refine (d_valid _ _).trans ?_
  refine c_andk fun _ => ?_
  refine (d_numbers _ _).trans ?_
  refine c_andk fun _ => ?_
  refine c_andk fun _ => ?_
  refine (d_plan _ _ _).trans ?_
  refine (d_in _ _ _ _).trans ?_
  refine c_andk fun _ => ?_
  by_cases h : c.2.2.2.2.2 = -1
  · refine (c_pos h).trans ?_
    rw [decide_eq_true h]; rfl
  · refine (c_neg h).trans ?_
    rw [decide_eq_false h, Bool.false_or]
    exact c_andk fun _ => rfl
theorem r_check (p : Prof) (c : Cont) (k : Bool → Option β) : zq8i p c k = k (checkD p c) := by
  unfold zq8i zq8f checkD
  refine (r27_valid _ _).trans ?_
  refine c_andk fun _ => ?_
  refine (r_right _ _ _ _ _).trans ?_
  refine c_andk fun _ => ?_
  refine c_andk fun _ => ?_
  refine (r_plan _ _ _).trans ?_
  refine (r_in _ _ _ _).trans ?_
  refine c_andk fun hin => ?_
  have hin := inB_iff.1 hin
  by_cases h : c.2.2.2.2.2 = -1
  · refine (c_pos h).trans ?_
    rw [decide_eq_true h]; rfl
  · refine (c_neg h).trans ?_
    rw [decide_eq_false h, Bool.false_or, Bool.and_comm]
    refine c_andk fun _ => k_eq ?_
    by_cases h0 : c.2.2.2.2.1 = 0
    · rw [decide_eq_true h0, decide_eq_false (by omega)]; rfl
    · rw [decide_eq_false h0, decide_eq_true (show 0 < c.2.2.2.2.1 by omega)]; rfl

theorem d_next (p : Prof) (c : Cont) (k : Int → Bool → Option β) : zqds p c k = k (nextD p c).1 (nextD p c).2 := by
  unfold zqds zqdp nextD
  refine (d_check _ _ _).trans ?_
  cases hc : checkD p c with
  | false => rfl
  | true =>
    have q := checkD_ok hc
    have q1 := q.s1; have q2 := q.s2
    refine (c_ff' rfl).trans ?_
    by_cases h : c.2.2.2.2.2 = -1
    · refine (c_npos h).trans ?_
      refine (d_plan _ _ _).trans ?_
      rw [decide_eq_true h]
      by_cases hl : c.2.2.2.2.1 = (planOf p c.2.2.2.1).length
      · refine (c_pos hl).trans ?_
        rw [decide_eq_false (by omega)]; rfl
      · refine (c_neg hl).trans ?_
        rw [decide_eq_true (show c.2.2.2.2.1 < (planOf p c.2.2.2.1).length by omega)]
        refine (c_tt' (by rw [decide_eq_true q1]; rfl)).trans ?_
        rfl
    · refine (c_nneg h).trans ?_
      rw [decide_eq_false h]; rfl
theorem r_next (p : Prof) (c : Cont) (k : Int → Bool → Option β) : zq8p p c k = k (nextD p c).1 (nextD p c).2 := by
  unfold zq8p zq8m nextD
  refine (r_check _ _ _).trans ?_
  cases hc : checkD p c with
  | false => rfl
  | true =>
    have q := checkD_ok hc
    have q1 := q.s1; have q2 := q.s2
    refine (c_ff' rfl).trans ?_
    by_cases h : c.2.2.2.2.2 = -1
    · refine (c_npos h).trans ?_
      refine (r_plan _ _ _).trans ?_
      rw [decide_eq_true h]
      by_cases hl : c.2.2.2.2.1 < (planOf p c.2.2.2.1).length
      · refine (c_pos hl).trans ?_
        rw [decide_eq_true hl]
        refine (c_tt' (by rw [decide_eq_true q1]; rfl)).trans ?_
        rfl
      · refine (c_neg hl).trans ?_
        rw [decide_eq_false hl]; rfl
    · refine (c_nneg h).trans ?_
      rw [decide_eq_false h]; rfl

theorem d_send (p : Prof) (c : Cont) (now : Int) (k : Cont → Int → List Att → Option β) :
    zqde p c now k = cond (checkD p c) (k (sentD p c now) 0 (dueD p c now)) (k cont0 8 []) := by
  unfold zqde zqd7
  refine (d_check _ _ _).trans ?_
  cases hc : checkD p c with
  | false => rfl
  | true =>
    have q := checkD_ok hc
    have q1 := q.s1; have q2 := q.s2; have q3 := q.s3
    refine (c_ff' rfl).trans ?_
    refine (d_plan _ _ _).trans ?_
    have hlen := planOf_len p c.2.2.2.1
    refine (c_tt' (by simp only [Bool.and_eq_true, decide_eq_true_eq]; omega)).trans ?_
    rw [Int.toNat_natCast, List.take_length]
    generalize ht : (planOf p c.2.2.2.1).drop c.2.2.2.2.1.toNat = t
    have htl : t.length ≤ 24 := by rw [← ht, List.length_drop]; omega
    have key : ∀ (r pre : List Att) (m : Nat) (k1 : zqd0 β), t = pre ++ r → r.length < m → c.2.2.2.2.2 = -1 →
        zqda m k1 now t (t.length : Int) (pre.length : Int) c.1 c.2.1 c.2.2.1 c.2.2.2.1 (c.2.2.2.2.1 + pre.length) c.2.2.2.2.2 0 0 0 0 0 0 pre =
          k1 c.1 c.2.1 c.2.2.1 c.2.2.2.1 (c.2.2.2.2.1 + (pre ++ r.takeWhile fun a => decide (a.2.2 ≤ now)).length) c.2.2.2.2.2 0 0 0 0 0 0 (pre ++ r.takeWhile fun a => decide (a.2.2 ≤ now)) := by
      intro r
      induction r with
      | nil =>
        intro pre m k1 hpre hm hr
        obtain ⟨m, rfl⟩ : ∃ m', m = m' + 1 := ⟨m - 1, by simp at hm; omega⟩
        simp only [zqdb, zqd4]
        rw [List.append_nil] at hpre
        refine (c_neg (by rw [hpre]; omega)).trans ?_
        simp
      | cons x r ih =>
        intro pre m k1 hpre hm hr
        obtain ⟨m, rfl⟩ : ∃ m', m = m' + 1 := ⟨m - 1, by simp at hm; omega⟩
        have hl : t.length = pre.length + (r.length + 1) := by rw [hpre]; simp
        have hg : t.getD pre.length ((0 : Int), ((0 : Int), (0 : Int))) = x := by rw [hpre]; simp [List.getD]
        simp only [zqdb, zqd4, Int.toNat_natCast]
        refine (c_pos (by omega)).trans ?_
        refine (c_inb (by omega)).trans ?_
        refine (c_npos hr).trans ?_
        simp only [hg]
        by_cases hx : now < x.2.2
        · refine (c_pos hx).trans ?_
          rw [List.takeWhile_cons_of_neg (by simp; omega)]
          simp
        · refine (c_neg hx).trans ?_
          refine (c_room (by simp only [List.length_cons, List.length_nil]; omega)).trans ?_
          rw [List.takeWhile_cons_of_pos (by simp; omega)]
          have := ih (pre ++ [x]) m k1 (by rw [hpre]; simp) (by simp at hm; omega) hr
          simp only [List.length_append, List.length_cons, List.length_nil, List.append_assoc, List.cons_append, List.nil_append] at this ⊢
          rw [← this, i64_in ((pre.length : Int) + 1) (by omega), i64_in (c.2.2.2.2.1 + (pre.length : Int) + 1) (by omega)]
          congr 1
          omega
    by_cases hr : c.2.2.2.2.2 = -1
    · have h0 := fun k1 => key t [] fuel k1 rfl (lt_fuel (by omega)) hr
      simp only [List.length_nil, List.nil_append, Int.natCast_zero, Int.add_zero] at h0
      refine (h0 _).trans ?_
      unfold sentD dueD
      rw [decide_eq_true hr, ht]
      rfl
    · have : ∀ k1 : zqd0 β, zqdc k1 now t (t.length : Int) 0 c.1 c.2.1 c.2.2.1 c.2.2.2.1 c.2.2.2.2.1 c.2.2.2.2.2 0 0 0 0 0 0 [] = k1 c.1 c.2.1 c.2.2.1 c.2.2.2.1 c.2.2.2.2.1 c.2.2.2.2.2 0 0 0 0 0 0 [] := by
        intro k1
        obtain ⟨m, hm⟩ := fuel_succ
        unfold zqdc
        rw [hm]
        simp only [zqdb, zqd4]
        cases ht : t with
        | nil => exact c_neg (by simp)
        | cons x r =>
          refine (c_pos (by simp)).trans ?_
          refine (c_inb (by simp)).trans ?_
          exact c_nneg hr
      refine (this _).trans ?_
      unfold sentD dueD
      rw [decide_eq_false hr]
      simp

theorem r_send (p : Prof) (c : Cont) (now : Int) (k : Cont → Int → List Att → Option β) :
    zq97 p c now k = cond (checkD p c) (k (sentD p c now) 0 (dueD p c now)) (k cont0 8 []) := by
  unfold zq97 zq90
  refine (r_check _ _ _).trans ?_
  cases hc : checkD p c with
  | false => rfl
  | true =>
    have q := checkD_ok hc
    have q1 := q.s1; have q2 := q.s2; have q3 := q.s3
    refine (c_ff' rfl).trans ?_
    refine (r_plan _ _ _).trans ?_
    have hlen := planOf_len p c.2.2.2.1
    generalize ht : (planOf p c.2.2.2.1).drop c.2.2.2.2.1.toNat = t
    have htl : t.length + c.2.2.2.2.1.toNat = (planOf p c.2.2.2.1).length := by rw [← ht, List.length_drop]; omega
    have key : ∀ (r pre : List Att) (m : Nat) (k1 : zq8t β), t = pre ++ r → r.length < m → c.2.2.2.2.2 = -1 →
        zq93 m k1 now p.1 p.2 c.1 c.2.1 c.2.2.1 c.2.2.2.1 (c.2.2.2.2.1 + pre.length) c.2.2.2.2.2 0 0 0 0 0 0 pre (planOf p c.2.2.2.1) =
          k1 0 c.1 c.2.1 c.2.2.1 c.2.2.2.1 (c.2.2.2.2.1 + (pre ++ r.takeWhile fun a => decide (a.2.2 ≤ now)).length) c.2.2.2.2.2 (pre ++ r.takeWhile fun a => decide (a.2.2 ≤ now)) := by
      intro r
      induction r with
      | nil =>
        intro pre m k1 hpre hm hr
        obtain ⟨m, rfl⟩ : ∃ m', m = m' + 1 := ⟨m - 1, by simp at hm; omega⟩
        rw [List.append_nil] at hpre
        subst hpre
        simp only [zq94, zq8x]
        refine (r_next p (c.1, c.2.1, c.2.2.1, c.2.2.2.1, c.2.2.2.2.1 + (t.length : Int), c.2.2.2.2.2) _).trans ?_
        have : nextD p (c.1, c.2.1, c.2.2.1, c.2.2.2.1, c.2.2.2.2.1 + (t.length : Int), c.2.2.2.2.2) = (0, false) := by
          unfold nextD
          simp only
          rw [decide_eq_false (show ¬ c.2.2.2.2.1 + (t.length : Int) < (planOf p c.2.2.2.1).length by omega)]
          simp
        rw [this]
        refine (c_tt' rfl).trans ?_
        simp
      | cons x r ih =>
        intro pre m k1 hpre hm hr
        obtain ⟨m, rfl⟩ : ∃ m', m = m' + 1 := ⟨m - 1, by simp at hm; omega⟩
        have hl : t.length = pre.length + (r.length + 1) := by rw [hpre]; simp
        have hg : (planOf p c.2.2.2.1).getD (c.2.2.2.2.1 + (pre.length : Int)).toNat at0 = x := by
          have h1 : t[pre.length]? = some x := by rw [hpre]; simp
          rw [← ht, List.getElem?_drop] at h1
          rw [show (c.2.2.2.2.1 + (pre.length : Int)).toNat = c.2.2.2.2.1.toNat + pre.length by omega, List.getD, h1]
          rfl
        simp only [zq94, zq8x]
        refine (r_next p (c.1, c.2.1, c.2.2.1, c.2.2.2.1, c.2.2.2.2.1 + (pre.length : Int), c.2.2.2.2.2) _).trans ?_
        have : nextD p (c.1, c.2.1, c.2.2.1, c.2.2.2.1, c.2.2.2.2.1 + (pre.length : Int), c.2.2.2.2.2) = (x.2.2, true) := by
          have hck : checkD p (c.1, c.2.1, c.2.2.1, c.2.2.2.1, c.2.2.2.2.1 + (pre.length : Int), c.2.2.2.2.2) = true := by
            obtain ⟨a1, a2, a3, a4, a5⟩ := checkD_iff.1 hc
            exact checkD_iff.2 ⟨a1, a2, a3, ⟨by show 0 ≤ c.2.2.2.2.1 + (pre.length : Int); omega, by show c.2.2.2.2.1 + (pre.length : Int) ≤ (planOf p c.2.2.2.1).length; omega⟩, .inl hr⟩
          unfold nextD
          simp only
          rw [hck, decide_eq_true hr, decide_eq_true (show c.2.2.2.2.1 + (pre.length : Int) < (planOf p c.2.2.2.1).length by omega), hg]
          rfl
        rw [this]
        refine (c_ff' rfl).trans ?_
        by_cases hx : now < x.2.2
        · refine (c_pos hx).trans ?_
          rw [List.takeWhile_cons_of_neg (by simp; omega)]
          simp
        · refine (c_neg hx).trans ?_
          refine (c_inb (by omega)).trans ?_
          refine (c_room (by simp only [List.length_cons, List.length_nil]; omega)).trans ?_
          rw [List.takeWhile_cons_of_pos (by simp; omega)]
          have := ih (pre ++ [x]) m k1 (by rw [hpre]; simp) (by simp at hm; omega) hr
          simp only [List.length_append, List.length_cons, List.length_nil, List.append_assoc, List.cons_append, List.nil_append] at this ⊢
          rw [← this, i64_in (c.2.2.2.2.1 + (pre.length : Int) + 1) (by omega)]
          have e : ((planOf p c.2.2.2.1).getD (c.2.2.2.2.1 + (pre.length : Int)).toNat ((0 : Int), ((0 : Int), (0 : Int)))) = x := hg
          rw [e]
          congr 1
          omega
    by_cases hr : c.2.2.2.2.2 = -1
    · have h0 := fun k1 => key t [] fuel k1 rfl (lt_fuel (by omega)) hr
      simp only [List.length_nil, List.nil_append, Int.natCast_zero, Int.add_zero] at h0
      refine (h0 _).trans ?_
      unfold sentD dueD
      rw [decide_eq_true hr, ht]
      rfl
    · have : ∀ k1 : zq8t β, zq95 k1 now p.1 p.2 c.1 c.2.1 c.2.2.1 c.2.2.2.1 c.2.2.2.2.1 c.2.2.2.2.2 0 0 0 0 0 0 [] (planOf p c.2.2.2.1) = k1 0 c.1 c.2.1 c.2.2.1 c.2.2.2.1 c.2.2.2.2.1 c.2.2.2.2.2 [] := by
        intro k1
        obtain ⟨m, hm⟩ := fuel_succ
        unfold zq95
        rw [hm]
        simp only [zq94, zq8x]
        refine (r_next p c _).trans ?_
        have : nextD p c = (0, false) := by
          unfold nextD
          rw [decide_eq_false hr]
          simp
        rw [this]
        exact c_tt' rfl
      refine (this _).trans ?_
      unfold sentD dueD
      rw [decide_eq_false hr]
      simp

theorem d_receipt (p : Prof) (c : Cont) (attempt at_ : Int) (k : Cont → Int → Option β) :
    zqdl p c attempt at_ k = k (recvD p c attempt at_).1 (recvD p c attempt at_).2 := by
  unfold zqdl zqdi recvD
  refine (d_check _ _ _).trans ?_
  cases hc : checkD p c with
  | false => rfl
  | true =>
    have q := checkD_ok hc
    have q1 := q.s1; have q2 := q.s2; have q3 := q.s3
    refine (c_ff' rfl).trans ?_
    rw [i64_in (c.2.2.2.2.1 - 1) (by omega)]
    refine (d_in _ _ _ _).trans ?_
    cases ha : inB attempt 0 (c.2.2.2.2.1 - 1) with
    | false => rfl
    | true =>
      have ha := inB_iff.1 ha
      refine (c_ff' rfl).trans ?_
      refine (d_plan _ _ _).trans ?_
      refine (c_inb (by omega)).trans ?_
      refine (d_in _ _ _ _).trans ?_
      simp only [cond_true]
      cases inB at_ ((planOf p c.2.2.2.1).getD attempt.toNat at0).2.2 8590193792 with
      | false => rfl
      | true =>
        refine (c_ff' rfl).trans ?_
        by_cases h1 : c.2.2.2.2.2 = -1
        · refine (c_pos h1).trans ?_
          rw [decide_eq_true h1]; rfl
        · refine (c_neg h1).trans ?_
          rw [decide_eq_false h1]
          by_cases h2 : at_ < c.2.2.2.2.2
          · refine (c_pos h2).trans ?_
            rw [decide_eq_true h2]; rfl
          · refine (c_neg h2).trans ?_
            rw [decide_eq_false h2]; rfl
theorem r_receipt (p : Prof) (c : Cont) (attempt at_ : Int) (k : Cont → Int → Option β) :
    zq9e p c attempt at_ k = k (recvD p c attempt at_).1 (recvD p c attempt at_).2 := by
  unfold zq9e zq9b recvD
  refine (r_check _ _ _).trans ?_
  cases hc : checkD p c with
  | false => rfl
  | true =>
    have q := checkD_ok hc
    have q1 := q.s1; have q2 := q.s2; have q3 := q.s3
    refine (c_ff' rfl).trans ?_
    rw [i64_in (c.2.2.2.2.1 - 1) (by omega)]
    refine (r_in _ _ _ _).trans ?_
    cases ha : inB attempt 0 (c.2.2.2.2.1 - 1) with
    | false => rfl
    | true =>
      have ha := inB_iff.1 ha
      refine (c_ff' rfl).trans ?_
      refine (r_plan _ _ _).trans ?_
      refine (c_inb (by omega)).trans ?_
      simp only [cond_true]
      unfold inB
      by_cases g1 : ((planOf p c.2.2.2.1).getD attempt.toNat at0).2.2 ≤ at_
      · refine (c_neg (show ¬ at_ < ((planOf p c.2.2.2.1).getD attempt.toNat at0).2.2 by omega)).trans ?_
        rw [decide_eq_true g1]
        by_cases g2 : at_ ≤ 8590193792
        · refine (c_neg (by omega)).trans ?_
          rw [decide_eq_true g2]
          by_cases h1 : c.2.2.2.2.2 = -1
          · refine (c_pos h1).trans ?_
            rw [decide_eq_true h1]; rfl
          · refine (c_neg h1).trans ?_
            rw [decide_eq_false h1]
            by_cases h2 : at_ < c.2.2.2.2.2
            · refine (c_pos h2).trans ?_
              rw [decide_eq_true h2]; rfl
            · refine (c_neg h2).trans ?_
              rw [decide_eq_false h2]; rfl
        · refine (c_pos (by omega)).trans ?_
          rw [decide_eq_false g2]; rfl
      · refine (c_pos (show at_ < ((planOf p c.2.2.2.1).getD attempt.toNat at0).2.2 by omega)).trans ?_
        rw [decide_eq_false g1]; rfl
end
end
end Go.Lift

/- What becomes of a contact (chapter 27): attempts, arrivals, receipts; code and reference. -/
namespace Go.Lift
open Go.RowKit Go.IntWalk
noncomputable section
set_option linter.unusedVariables false
set_option linter.unusedSimpArgs false
set_option maxRecDepth 10000

/-! ### Sorted numbers -/
/-! ### Fates -/
/-- A fate: lost, delay, copy, receipt. -/
abbrev Fate := Bool × Int × Int × Int
abbrev lostF : Fate := (true, 0, 0, 0)
def fateV (f : Fate) : Bool := inB f.2.1 0 86400 && (inB f.2.2.1 0 86400 && inB f.2.2.2 (-1) 86400)
def fateOf (l : List Fate) (k : Int) : Fate :=
  cond (inB k 0 ((l.length : Int) - 1)) (cond (fateV (l.getD k.toNat (false, 0, 0, 0))) (l.getD k.toNat (false, 0, 0, 0)) lostF) lostF
def arrOf (t : Int) (f : Fate) : List Int :=
  cond (inB t 0 8589956192) (cond (fateV f) (cond f.1 [] (cond (decide (f.2.2.1 = 0)) [t + f.2.1] [t + f.2.1, t + f.2.1 + f.2.2.1])) []) []
def recOf (t : Int) (f : Fate) : List Int := cond (decide (f.2.2.2 = -1)) [] ((arrOf t f).map (· + f.2.2.2))

theorem arrOf_len (t : Int) (f : Fate) : (arrOf t f).length ≤ 2 := by
  unfold arrOf
  cases inB t 0 8589956192 <;> cases fateV f <;> cases f.1 <;> cases decide (f.2.2.1 = 0) <;> simp
theorem recOf_len (t : Int) (f : Fate) : (recOf t f).length ≤ 2 := by
  unfold recOf
  have := arrOf_len t f
  cases decide (f.2.2.2 = -1) <;> simp [this]
theorem arrOf_bd {t : Int} {f : Fate} : ∀ x ∈ arrOf t f, 0 ≤ x ∧ x ≤ 9000000000 ∧ fateV f = true := by
  intro x hx
  unfold arrOf at hx
  cases h1 : inB t 0 8589956192 with
  | false => rw [h1] at hx; simp at hx
  | true =>
    cases h2 : fateV f with
    | false => rw [h1, h2] at hx; simp at hx
    | true =>
      have g1 := inB_iff.1 h1
      have g2 := h2
      unfold fateV at g2
      simp only [Bool.and_eq_true, inB_iff] at g2
      rw [h1, h2] at hx
      simp only [cond_true] at hx
      cases h3 : f.1 with
      | true => rw [h3] at hx; simp at hx
      | false =>
        rw [h3] at hx
        simp only [cond_false] at hx
        cases h4 : decide (f.2.2.1 = 0) with
        | true =>
          rw [h4] at hx
          simp only [cond_true, List.mem_singleton] at hx
          exact ⟨by omega, by omega, rfl⟩
        | false =>
          rw [h4] at hx
          simp only [cond_false, List.mem_cons, List.not_mem_nil, or_false] at hx
          exact ⟨by omega, by omega, rfl⟩

section
variable {β : Type}
theorem ch_vfate (f : Fate) (k : Bool → Option β) : zq38 f k = k (fateV f) := by
  unfold zq38 zq35
  refine (ch_in _ _ _ _).trans ?_
  refine c_andk fun _ => ?_
  refine (ch_in _ _ _ _).trans ?_
  refine c_andk fun _ => ?_
  exact ch_in _ _ _ _
theorem ch_fates {l : List Fate} (hl : l.length ≤ 9223372036854775807) (i : Int) (k : Fate → Option β) : zq44 l i k = k (fateOf l i) := by
  unfold zq44 zq41 fateOf
  rw [i64_in ((l.length : Int) - 1) (by omega)]
  refine (ch_in _ _ _ _).trans ?_
  cases h : inB i 0 ((l.length : Int) - 1) with
  | false => rfl
  | true =>
    have h := inB_iff.1 h
    refine (c_tt' rfl).trans ?_
    refine (c_inb (by omega)).trans ?_
    refine (ch_vfate _ _).trans ?_
    simp only [cond_true]
    cases fateV (l.getD i.toNat (false, 0, 0, 0)) with
    | false => rfl
    | true => exact c_inb (by omega)
theorem ch_arrivals (t : Int) (f : Fate) (k : List Int → Option β) : zq4b t f k = k (arrOf t f) := by
  unfold zq4b zq48 arrOf
  refine (ch_in _ _ _ _).trans ?_
  cases h1 : inB t 0 8589956192 with
  | false => rfl
  | true =>
    refine (c_ff' rfl).trans ?_
    refine (ch_vfate _ _).trans ?_
    cases h2 : fateV f with
    | false => rfl
    | true =>
      have g1 := inB_iff.1 h1
      unfold fateV at h2
      simp only [Bool.and_eq_true, inB_iff] at h2
      refine (c_ff' rfl).trans ?_
      simp only [cond_true]
      cases h3 : f.1 with
      | true => rfl
      | false =>
        refine (c_ff' rfl).trans ?_
        rw [i64_in (t + f.2.1) (by omega), i64_in (t + f.2.1 + f.2.2.1) (by omega)]
        by_cases h4 : f.2.2.1 = 0
        · refine (c_npos h4).trans ?_
          rw [decide_eq_true h4]; rfl
        · refine (c_nneg h4).trans ?_
          rw [decide_eq_false h4]
          exact c_room (by simp)
theorem ch_receipts (t : Int) (f : Fate) (k : List Int → Option β) : zq4t t f k = k (recOf t f) := by
  unfold zq4t zq4m recOf
  refine (ch_arrivals _ _ _).trans ?_
  by_cases h : f.2.2.2 = -1
  · refine (c_pos h).trans ?_
    rw [decide_eq_true h]; rfl
  · refine (c_neg h).trans ?_
    rw [decide_eq_false h]
    have hlen := arrOf_len t f
    have hbd : ∀ x ∈ arrOf t f, IntKind.i64.wrap (x + f.2.2.2) = x + f.2.2.2 := by
      intro x hx
      obtain ⟨a1, a2, a3⟩ := arrOf_bd x hx
      unfold fateV at a3
      simp only [Bool.and_eq_true, inB_iff] at a3
      exact i64_in _ (by omega)
    generalize arrOf t f = l at hlen hbd
    have key : ∀ (r pre : List Int) (m : Nat) (k1 : zq4f β), l = pre ++ r → r.length < m →
        zq4p m k1 (l.length : Int) (pre.length : Int) f.1 f.2.1 f.2.2.1 f.2.2.2 (pre.map (· + f.2.2.2) ++ r) = k1 (l.map (· + f.2.2.2)) := by
      intro r
      induction r with
      | nil =>
        intro pre m k1 hp hm
        obtain ⟨m, rfl⟩ : ∃ m', m = m' + 1 := ⟨m - 1, by simp at hm; omega⟩
        rw [List.append_nil] at hp
        subst hp
        simp only [zq4q, zq4j]
        refine (c_neg (by omega)).trans ?_
        rw [List.append_nil]
      | cons x r ih =>
        intro pre m k1 hp hm
        obtain ⟨m, rfl⟩ : ∃ m', m = m' + 1 := ⟨m - 1, by simp at hm; omega⟩
        have hl : l.length = pre.length + (r.length + 1) := by rw [hp]; simp
        have ho : (pre.map (· + f.2.2.2) ++ x :: r).length = l.length := by simp [hl]
        have hg : (pre.map (· + f.2.2.2) ++ x :: r).getD pre.length (0 : Int) = x := by simp [List.getD]
        simp only [zq4q, zq4j, Int.toNat_natCast]
        refine (c_pos (by omega)).trans ?_
        refine (c_inb (by omega)).trans ?_
        refine (c_inb (by omega)).trans ?_
        rw [hg, hbd x (by rw [hp]; simp), i64_in ((pre.length : Int) + 1) (by omega)]
        have := ih (pre ++ [x]) m k1 (by rw [hp]; simp) (by simp at hm; omega)
        simp only [List.length_append, List.length_cons, List.length_nil, List.map_append, List.map_cons, List.map_nil, List.append_assoc, List.cons_append, List.nil_append] at this
        rw [← this]
        congr 1
        rw [List.set_append_right _ _ (by simp)]
        simp
    exact key l [] fuel _ rfl (lt_fuel (by omega))
/-! ### The reference's insertion -/
end
end
end Go.Lift

/- The run of a contact (chapter 27), code and reference; bounds; equal lists; the examples. -/
namespace Go.Lift
open Go.RowKit Go.IntWalk
noncomputable section
set_option linter.unusedVariables false
set_option linter.unusedSimpArgs false
set_option maxRecDepth 10000

abbrev RunS := List Int × List Int × Nat
def runStep (fates : List (List Fate)) (a : Att) (s : RunS) : RunS :=
  (s.1 ++ arrOf a.2.2 (fateOf (fates.getD a.1.toNat []) a.2.1), s.2.1 ++ recOf a.2.2 (fateOf (fates.getD a.1.toNat []) a.2.1), s.2.2 + 1)
def runStop (prev : Option Int) (a : Att) (s : RunS) : Bool := !decide (prev = some a.2.2) && s.2.1.any fun t => decide (t ≤ a.2.2)
def runGo (fates : List (List Fate)) : List Att → Option Int → RunS → RunS
  | [], _, s => s
  | a :: l, prev, s => cond (runStop prev a s) s (runGo fates l (some a.2.2) (runStep fates a s))
def runD (p : Prof) (start : Int) (fates : List (List Fate)) : RunS := runGo fates (planOf p start) none ([], [], 0)

theorem runStep_len (fates : List (List Fate)) (a : Att) (s : RunS) : (runStep fates a s).1.length ≤ s.1.length + 2 ∧ (runStep fates a s).2.1.length ≤ s.2.1.length + 2 := by
  unfold runStep
  have h1 := arrOf_len a.2.2 (fateOf (fates.getD a.1.toNat []) a.2.1)
  have h2 := recOf_len a.2.2 (fateOf (fates.getD a.1.toNat []) a.2.1)
  simp only [List.length_append]
  omega

abbrev lastAt (pre : List Att) : Option Int := pre.getLast?.map fun a => a.2.2

section
variable {β : Type}
theorem d_index2 {l : List Int} (hl : l.length ≤ 1000) (a : Att) (k1 : zqdw β) (k2 : zqdx β) (E : Option β) (hE : ∀ i : Nat, k1 (i : Int) a.1 a.2.1 a.2.2 = E) :
    zqe9 k1 k2 l (l.length : Int) 0 a.1 a.2.1 a.2.2 = cond (l.all fun t => !decide (t ≤ a.2.2)) (k2 a.1 a.2.1 a.2.2) E := by
  refine check_loop (fun m i => zqe7 m k1 k2 l (l.length : Int) i a.1 a.2.1 a.2.2) (fun t => !decide (t ≤ a.2.2)) E (k2 a.1 a.2.1 a.2.2) 0 l fuel (lt_fuel (by omega)) (fun m i hi => ?_) (fun m => ?_)
  · simp only [zqe8, zqe1, Int.toNat_natCast]
    refine (c_pos (by omega)).trans ?_
    refine (c_inb (by omega)).trans ?_
    unfold zq1y zq1v
    rw [i64_in ((i : Int) + 1) (by omega)]
    cases decide (l.getD i 0 ≤ a.2.2) with
    | true => exact hE i
    | false => rfl
  · simp only [zqe8, zqe1]
    rw [c_neg (by omega)]
theorem d_contains2 {l : List Int} (hl : l.length ≤ 1000) (a : Att) (k : Bool → Att → Option β) : zqei l a k = k (l.any fun t => decide (t ≤ a.2.2)) a := by
  unfold zqei zqef zqeb zqe4
  refine (d_index2 hl a _ _ (k true a) fun i => ?_).trans ?_
  · show k (decide ((0 : Int) ≤ (i : Int))) a = k true a
    rw [decide_eq_true (by omega)]
  · have : (l.any fun t => decide (t ≤ a.2.2)) = !(l.all fun t => !decide (t ≤ a.2.2)) := by simp [List.any_eq_not_all_not]
    rw [this]
    cases (l.all fun t => !decide (t ≤ a.2.2)) <;> rfl

theorem d_run1 {fates : List (List Fate)} {f : List Fate} (hf : f.length ≤ 9223372036854775807) {sent t18 t19 : Int} {s : RunS} (hs1 : s.1.length ≤ 100) (hs2 : s.2.1.length ≤ 100) (hs : s.2.2 ≤ 100) (l : List Att) (a : Att) (k1 : zqem β) :
    zqfa k1 fates (s.2.2 : Int) f t18 t19 s.1 s.2.1 l a.1 a.2.1 a.2.2 = k1 fates ((s.2.2 + 1 : Nat) : Int) t18 t19 (s.1 ++ arrOf a.2.2 (fateOf f a.2.1)) (s.2.1 ++ recOf a.2.2 (fateOf f a.2.1)) l := by
  unfold zqfa zqez zqey
  have h1 := arrOf_len a.2.2 (fateOf f a.2.1)
  have h2 := recOf_len a.2.2 (fateOf f a.2.1)
  refine (ch_fates hf _ _).trans ?_
  refine (ch_arrivals _ _ _).trans ?_
  refine (c_room (by omega)).trans ?_
  refine (ch_receipts _ _ _).trans ?_
  refine (c_room (by omega)).trans ?_
  rw [i64_in ((s.2.2 : Int) + 1) (by omega)]
  rfl
theorem getD_len {fates : List (List Fate)} (hf : ∀ f ∈ fates, f.length ≤ 9223372036854775807) (i : Nat) : (fates.getD i []).length ≤ 9223372036854775807 := by
  by_cases h : i < fates.length
  · have : fates.getD i [] = fates[i] := by simp [List.getD, h]
    rw [this]; exact hf _ (List.getElem_mem h)
  · have : fates.getD i [] = [] := by simp [List.getD, h]
    rw [this]; simp
theorem d_run2 {fates : List (List Fate)} (hf : ∀ f ∈ fates, f.length ≤ 9223372036854775807) {t18 t19 : Int} {s : RunS} (hs1 : s.1.length ≤ 100) (hs2 : s.2.1.length ≤ 100) (hs : s.2.2 ≤ 100) (l : List Att) (a : Att) (ha : 0 ≤ a.1) (k1 : zqeq β) :
    zqfc k1 fates (s.2.2 : Int) t18 t19 s.1 s.2.1 l a.1 a.2.1 a.2.2 = k1 fates ((runStep fates a s).2.2 : Int) t18 t19 (runStep fates a s).1 (runStep fates a s).2.1 l := by
  unfold zqfc zqf2 zqf1
  by_cases h : a.1 < (fates.length : Int)
  · refine (c_pos h).trans ?_
    refine (c_inb (by omega)).trans ?_
    exact d_run1 (sent := 0) (getD_len hf _) hs1 hs2 hs l a _
  · refine (c_neg h).trans ?_
    have : fates.getD a.1.toNat [] = [] := by
      have : ¬ a.1.toNat < fates.length := by omega
      simp [List.getD, this]
    unfold runStep
    rw [this]
    exact d_run1 (sent := 0) (by simp) hs1 hs2 hs l a _

theorem d_run3 {fates : List (List Fate)} (hf : ∀ f ∈ fates, f.length ≤ 9223372036854775807) {l : List Att} (hl : l.length ≤ 24) (hok : ∀ a ∈ l, 0 ≤ a.1) :
    ∀ (r pre : List Att) (m : Nat) (s : RunS) (k1 : zqeu β), l = pre ++ r → r.length < m → s.1.length ≤ 2 * pre.length → s.2.1.length ≤ 2 * pre.length → s.2.2 ≤ pre.length →
      zqfe m k1 fates (s.2.2 : Int) (l.length : Int) (pre.length : Int) s.1 s.2.1 l = k1 ((runGo fates r (lastAt pre) s).2.2 : Int) (runGo fates r (lastAt pre) s).1 (runGo fates r (lastAt pre) s).2.1 := by
  intro r
  induction r with
  | nil =>
    intro pre m s k1 hp hm _ _ _
    obtain ⟨m, rfl⟩ : ∃ m', m = m' + 1 := ⟨m - 1, by simp at hm; omega⟩
    rw [List.append_nil] at hp
    subst hp
    simp only [zqff, zqf4]
    exact c_neg (by omega)
  | cons x r ih =>
    intro pre m s k1 hp hm h1 h2 h3
    obtain ⟨m, rfl⟩ : ∃ m', m = m' + 1 := ⟨m - 1, by simp at hm; omega⟩
    have hlen : l.length = pre.length + (r.length + 1) := by rw [hp]; simp
    have hg : l.getD pre.length ((0 : Int), ((0 : Int), (0 : Int))) = x := by rw [hp]; simp [List.getD]
    have hx0 : 0 ≤ x.1 := hok x (by rw [hp]; simp)
    have hnext : ∀ k1 : zqeu β, zqfe m k1 fates ((runStep fates x s).2.2 : Int) (l.length : Int) ((pre.length : Int) + 1) (runStep fates x s).1 (runStep fates x s).2.1 l = k1 ((runGo fates r (some x.2.2) (runStep fates x s)).2.2 : Int) (runGo fates r (some x.2.2) (runStep fates x s)).1 (runGo fates r (some x.2.2) (runStep fates x s)).2.1 := by
      intro k1
      have g := runStep_len fates x s
      have := ih (pre ++ [x]) m (runStep fates x s) k1 (by rw [hp]; simp) (by simp at hm; omega) (by rw [List.length_append, List.length_singleton]; omega) (by rw [List.length_append, List.length_singleton]; omega) (by rw [List.length_append, List.length_singleton]; show s.2.2 + 1 ≤ _; omega)
      have e : lastAt (pre ++ [x]) = some x.2.2 := by simp [lastAt]
      rw [e, List.length_append, List.length_singleton] at this
      exact this
    simp only [zqff, zqf4, Int.toNat_natCast, hg]
    refine (c_pos (by omega)).trans ?_
    refine (c_inb (by omega)).trans ?_
    have hstep : ∀ (b : Bool), cond b (k1 (s.2.2 : Int) s.1 s.2.1) (zqfc (fun fates2 sent2 t182 t192 arrivals2 receipts2 l2 => zqfe m k1 fates2 sent2 t182 (IntKind.i64.wrap (t192 + (1 : Int))) arrivals2 receipts2 l2) fates (s.2.2 : Int) (l.length : Int) (pre.length : Int) s.1 s.2.1 l x.1 x.2.1 x.2.2) =
        k1 ((cond b s (runGo fates r (some x.2.2) (runStep fates x s))).2.2 : Int) (cond b s (runGo fates r (some x.2.2) (runStep fates x s))).1 (cond b s (runGo fates r (some x.2.2) (runStep fates x s))).2.1 := by
      intro b
      cases b with
      | true => rfl
      | false =>
        refine (d_run2 hf (by omega) (by omega) (by omega) l x hx0 _).trans ?_
        rw [i64_in ((pre.length : Int) + 1) (by omega)]
        exact hnext k1
    rcases List.eq_nil_or_concat pre with rfl | ⟨pre', y, rfl⟩
    · refine (c_pos (by simp)).trans ?_
      refine (d_contains2 (by omega) x _).trans ?_
      refine (hstep _).trans ?_
      rfl
    · rw [List.concat_eq_append] at *
      have hy : l.getD pre'.length ((0 : Int), ((0 : Int), (0 : Int))) = y := by rw [hp]; simp [List.getD]
      have hpl : (pre' ++ [y]).length = pre'.length + 1 := by simp
      refine (c_neg (by omega)).trans ?_
      rw [i64_in (((pre' ++ [y]).length : Int) - 1) (by omega), show (((pre' ++ [y]).length : Int) - 1) = (pre'.length : Int) by omega]
      refine (c_inb (by omega)).trans ?_
      simp only [Int.toNat_natCast, hy]
      have hlast : lastAt (pre' ++ [y]) = some y.2.2 := by simp [lastAt]
      by_cases he : y.2.2 = x.2.2
      · refine (c_npos he).trans ?_
        refine (hstep false).trans ?_
        have : runGo fates (x :: r) (lastAt (pre' ++ [y])) s = runGo fates r (some x.2.2) (runStep fates x s) := by
          rw [runGo, runStop, hlast, he]
          simp
        rw [this]
        rfl
      · refine (c_nneg he).trans ?_
        refine (d_contains2 (by omega) x _).trans ?_
        refine (hstep _).trans ?_
        have : runGo fates (x :: r) (lastAt (pre' ++ [y])) s = cond (s.2.1.any fun t => decide (t ≤ x.2.2)) s (runGo fates r (some x.2.2) (runStep fates x s)) := by
          rw [runGo, runStop, hlast]
          rw [decide_eq_false (show ¬ (some y.2.2 : Option Int) = some x.2.2 by simpa using he)]
          rfl
        rw [this]

theorem runGo_len (fates : List (List Fate)) : ∀ (l : List Att) (prev : Option Int) (s : RunS), (runGo fates l prev s).1.length ≤ s.1.length + 2 * l.length ∧ (runGo fates l prev s).2.1.length ≤ s.2.1.length + 2 * l.length
  | [], prev, s => by simp [runGo]
  | a :: l, prev, s => by
    unfold runGo
    have h1 := runGo_len fates l (some a.2.2) (runStep fates a s)
    have h2 := runStep_len fates a s
    simp only [List.length_cons]
    cases runStop prev a s with
    | true => simp only [cond_true]; omega
    | false => simp only [cond_false]; omega

theorem d_run (p : Prof) (start : Int) {fates : List (List Fate)} (hf : ∀ f ∈ fates, f.length ≤ 9223372036854775807) (k : Int → List Int → List Int → Option β) :
    zqfi p start fates k = k ((runD p start fates).2.2 : Int) (sortInts (runD p start fates).1) (sortInts (runD p start fates).2.1) := by
  unfold zqfi zqf7
  refine (d_plan _ _ _).trans ?_
  have hl := planOf_len p start
  have g := runGo_len fates (planOf p start) none ([], [], 0)
  refine (d_run3 hf hl (fun a ha => (planOf_ok a ha).1.c1) (planOf p start) [] fuel ([], [], 0) _ rfl (lt_fuel (by omega)) (by simp) (by simp) (by simp)).trans ?_
  simp only [List.length_nil] at g
  refine (c_pos (show _ < 4611686018427387904 by show (runGo fates (planOf p start) none ([], [], 0)).1.length < _; omega)).trans ?_
  exact c_pos (show _ < 4611686018427387904 by show (runGo fates (planOf p start) none ([], [], 0)).2.1.length < _; omega)

/-! ### The reference's run -/
/-! ### Equal lists -/
theorem same_att {l : List Att} (hl : l.length ≤ 1000) (k : Bool → Option β) : zq16 l l k = k true := by
  unfold zq16 zqz
  refine (c_npos rfl).trans ?_
  refine (check_loop (fun m i => zq12 m (fun t4 => k t4) (fun _ => k true) l l i) (fun _ => true) (k false) (k true) at0 l fuel (lt_fuel (by omega)) (fun m i hi => ?_) (fun m => ?_)).trans ?_
  · simp only [zq13, zqw, Int.toNat_natCast]
    refine (c_pos (by omega)).trans ?_
    refine (c_inb (by omega)).trans ?_
    refine (c_inb (by omega)).trans ?_
    refine (c_ff' (by simp)).trans ?_
    rw [i64_in ((i : Int) + 1) (by omega)]
    rfl
  · simp only [zq13, zqw]
    rw [c_neg (by omega)]
  · have : (l.all fun _ => true) = true := List.all_eq_true.2 fun _ _ => rfl
    rw [this]; rfl
/-! ### The examples -/
theorem sane27 (k : Bool → Option β) : zqfp k = k true := by
  unfold zqfp zqfm
  refine (d_plan _ _ _).trans ?_
  refine (d_run _ _ (by simp) _).trans ?_
  have e1 : planOf (0, [(0, 9, 2, 60), (0, 9, 2, 90)]) 0 = [(0, 0, 0), (1, 0, 0), (0, 1, 60), (1, 1, 90)] := by decide +kernel
  have e2 : runD (0, [(0, 9, 2, 60), (0, 9, 2, 90)]) 0 [[(false, 30, 0, 0)]] = ([30], [30], 2) := by
    unfold runD
    rw [e1]
    decide +kernel
  have e3 : sortInts [30] = [30] := by simp [sortInts, List.mergeSort]
  rw [e1, e2]
  simp only [e3]
  rfl
end
end
end Go.Lift

/- The dice in plain Lean. -/
namespace Go.Lift
open Go.RowKit Go.IntWalk
noncomputable section
set_option linter.unusedVariables false
set_option linter.unusedSimpArgs false

abbrev Dice := List Int × Int
def DiceOk (d : Dice) : Prop := 0 ≤ d.2 ∧ d.2 ≤ d.1.length ∧ d.1.length ≤ 500

theorem light_eq {β : Type} (l : List Int) (k : Bool → Option β) : zq9 l k = k (decide ((l.length : Int) ≤ 500)) := by
  simp only [zq9, zq6]
theorem roll_eq {β : Type} (l : List Int) (k : Dice → Option β) : zqg l k = k (l, 0) := by
  simp only [zqg, zqd]
theorem roll_ok {l : List Int} (h : (l.length : Int) ≤ 500) : DiceOk (l, 0) := ⟨by simp, by simp, by show l.length ≤ 500; omega⟩

theorem next_ok {n : Int} {d : Dice} (hd : DiceOk d) (hn : 1 ≤ n ∧ n ≤ 4611686018427387904) :
    ∃ x d', 0 ≤ x ∧ x < n ∧ DiceOk d' ∧ ∀ {β : Type} (k : Int → Dice → Option β), zqn n d k = k x d' := by
  obtain ⟨h1, h2, h3⟩ := hd
  by_cases ha : (d.1.length : Int) ≤ d.2
  · exact ⟨0, d, by omega, by omega, ⟨h1, h2, h3⟩, fun k => by simp (disch := omega) only [zqn, zqk, c_pos]⟩
  · generalize hv : List.getD d.1 (Int.toNat d.2) (0 : Int) = v
    have hm1 := Int.tmod_lt_of_pos v (show 0 < n by omega)
    have hm2 : -n < Int.tmod v n := by
      have h5 := Int.tmod_lt_of_pos (-v) (show 0 < n by omega)
      rw [Int.neg_tmod] at h5
      omega
    have hd' : DiceOk (d.1, d.2 + 1) := ⟨by show (0 : Int) ≤ d.2 + 1; omega, by show d.2 + 1 ≤ (d.1.length : Int); omega, h3⟩
    by_cases hc : Int.tmod v n < 0
    · refine ⟨Int.tmod v n + n, (d.1, d.2 + 1), by omega, by omega, hd', fun k => ?_⟩
      simp (disch := omega) only [zqn, zqk, hv, c_pos, c_neg, c_inb, c_nneg, i64_in]
    · refine ⟨Int.tmod v n, (d.1, d.2 + 1), by omega, by omega, hd', fun k => ?_⟩
      simp (disch := omega) only [zqn, zqk, hv, c_pos, c_neg, c_inb, c_nneg, i64_in]

end
end Go.Lift

/- The dice in plain Lean: one of several numbers. -/
namespace Go.Lift
open Go.RowKit Go.IntWalk
noncomputable section
set_option linter.unusedVariables false
set_option linter.unusedSimpArgs false

theorem one_ok {l : List Int} {d : Dice} (hl : 0 < l.length) (hlen : l.length ≤ 1000000) (hd : DiceOk d) :
    ∃ x d', x ∈ l ∧ DiceOk d' ∧ ∀ {β : Type} (k : Int → Dice → Option β), zq1d l d k = k x d' := by
  obtain ⟨x, d', h1, h2, hd', hf⟩ := next_ok (n := (l.length : Int)) hd (by omega)
  have hxn : x.toNat < l.length := by omega
  refine ⟨l.getD x.toNat 0, d', ?_, hd', fun k => ?_⟩
  · simp [List.getD, hxn]
  · simp (disch := omega) only [zq1d, zq1a, hf, c_inb]
end
end Go.Lift

/- Drawn persons, fates and contacts (chapter 27). -/
namespace Go.Lift
open Go.RowKit Go.IntWalk
noncomputable section
set_option linter.unusedVariables false
set_option linter.unusedSimpArgs false
set_option maxRecDepth 10000

theorem channel_ok {d : Dice} (hd : DiceOk d) : ∃ c d', chanV c = true ∧ DiceOk d' ∧ ∀ {β : Type} (k : Chan → Dice → Option β), zq1k d k = k c d' := by
  obtain ⟨x1, d1, a1, a2, hd1, f1⟩ := next_ok (n := 3) hd (by omega)
  obtain ⟨x2, d2, m2, hd2, f2⟩ := one_ok (l := [(0 : Int), 30, 60, 3600]) (by simp) (by simp) hd1
  obtain ⟨x3, d3, b1, b2, hd3, f3⟩ := next_ok (n := 4) hd2 (by omega)
  obtain ⟨x4, d4, m4, hd4, f4⟩ := one_ok (l := [(1 : Int), 30, 60, 120]) (by simp) (by simp) hd3
  simp only [List.mem_cons, List.not_mem_nil, or_false] at m2 m4
  refine ⟨(x1, x2, 1 + x3, x4), d4, ?_, hd4, fun k => ?_⟩
  · unfold chanV
    simp only [Bool.and_eq_true, inB_iff]
    omega
  · unfold zq1k zq1h
    refine (f1 _).trans ?_
    refine (f2 _).trans ?_
    refine (f3 _).trans ?_
    refine (f4 _).trans ?_
    rw [i64_in (1 + x3) (by omega)]

theorem person_ok {who : Int} (hw : 0 ≤ who ∧ who ≤ 31) {d : Dice} (hd : DiceOk d) :
    ∃ p d', profV p = true ∧ p.1 = who ∧ p.2.length ≤ 3 ∧ DiceOk d' ∧ ∀ {β : Type} (k : Prof → Dice → Option β), zq3q who d k = k p d' := by
  obtain ⟨x1, d1, a1, a2, hd1, f1⟩ := next_ok (n := 4) hd (by omega)
  have key : ∀ (n : Nat) (m : Nat) (d : Dice) (l : List Chan), n < m → n ≤ 3 → l.length + n ≤ 3 → (∀ c ∈ l, chanV c = true) → DiceOk d → ∃ l' d', l'.length ≤ 3 ∧ (∀ c ∈ l', chanV c = true) ∧ DiceOk d' ∧
      ∀ {β : Type} (k1 : zq3c β), zq3m m k1 (n : Int) d.1 d.2 0 who [] l = k1 d'.1 d'.2 0 who [] l' := by
    intro n
    induction n with
    | zero =>
      intro m d l hm hn hl hv hd
      obtain ⟨m, rfl⟩ : ∃ m', m = m' + 1 := ⟨m - 1, by omega⟩
      refine ⟨l, d, by omega, hv, hd, fun k1 => ?_⟩
      simp only [zq3n, zq3g]
      exact c_neg (by omega)
    | succ n ih =>
      intro m d l hm hn hl hv hd
      obtain ⟨m, rfl⟩ : ∃ m', m = m' + 1 := ⟨m - 1, by omega⟩
      obtain ⟨c, d1, hc, hd1, fc⟩ := channel_ok hd
      obtain ⟨l', d', h1, h2, h3, h4⟩ := ih m d1 (l ++ [c]) (by omega) (by omega) (by simp; omega) (fun x hx => by
        rcases List.mem_append.1 hx with hx | hx
        · exact hv x hx
        · rw [List.mem_singleton.1 hx]; exact hc) hd1
      refine ⟨l', d', h1, h2, h3, fun k1 => ?_⟩
      simp only [zq3n, zq3g]
      refine (c_pos (by omega)).trans ?_
      refine (fc _).trans ?_
      refine (c_room (by simp only [List.length_cons, List.length_nil]; omega)).trans ?_
      rw [show IntKind.i64.wrap (((n + 1 : Nat) : Int) - 1) = (n : Int) by rw [i64_in _ (by omega)]; omega]
      exact h4 k1
  obtain ⟨l', d', h1, h2, h3, h4⟩ := key x1.toNat fuel d1 [] (lt_fuel (by omega)) (by omega) (by simp; omega) (by simp) hd1
  refine ⟨(who, l'), d', ?_, rfl, h1, h3, fun k => ?_⟩
  · unfold profV
    simp only [Bool.and_eq_true, inB_iff, decide_eq_true_eq, List.all_eq_true]
    exact ⟨hw, by omega, h2⟩
  · unfold zq3q zq3j
    refine (f1 _).trans ?_
    rw [show ((x1.toNat : Nat) : Int) = x1 by omega] at h4
    exact h4 _

/-! ### Contacts -/
/-- A contact that stands, and what was sent was due. -/
structure CI (p : Prof) (c : Cont) (now : Int) : Prop where
  ck : checkD p c = true
  due : ∀ i : Nat, (i : Int) < c.2.2.2.2.1 → ((planOf p c.2.2.2.1).getD i at0).2.2 ≤ now

theorem CI.later {p : Prof} {c : Cont} {now now' : Int} (h : CI p c now) (hle : now ≤ now') : CI p c now' := ⟨h.ck, fun i hi => by have := h.due i hi; omega⟩

theorem sentD_check {p : Prof} {c : Cont} (h : checkD p c = true) (now : Int) : checkD p (sentD p c now) = true := by
  obtain ⟨a1, a2, a3, ⟨a4, a5⟩, a6⟩ := checkD_iff.1 h
  have hlen : (dueD p c now).length ≤ (planOf p c.2.2.2.1).length - c.2.2.2.2.1.toNat := by
    unfold dueD
    cases decide (c.2.2.2.2.2 = -1) with
    | false => simp
    | true =>
      have := (List.takeWhile_sublist (l := (planOf p c.2.2.2.1).drop c.2.2.2.2.1.toNat) fun a => decide (a.2.2 ≤ now)).length_le
      rw [List.length_drop] at this
      exact this
  refine checkD_iff.2 ⟨a1, a2, a3, ⟨by show 0 ≤ c.2.2.2.2.1 + _; omega, by show c.2.2.2.2.1 + ((dueD p c now).length : Int) ≤ ((planOf p c.2.2.2.1).length : Int); omega⟩, ?_⟩
  rcases a6 with a6 | ⟨a6, a7⟩
  · exact .inl a6
  · exact .inr ⟨by show c.2.2.2.2.1 + _ ≠ 0; omega, a7⟩

theorem getD_takeWhile {l : List Att} {q : Att → Bool} {i : Nat} (hi : i < (l.takeWhile q).length) : q (l.getD i at0) = true := by
  have h1 : (l.takeWhile q)[i]? = l[i]? := by
    have h2 := List.takeWhile_append_dropWhile (p := q) (l := l)
    have h3 : l[i]? = (l.takeWhile q ++ l.dropWhile q)[i]? := by rw [h2]
    rw [h3, List.getElem?_append_left hi]
  have h2 : l.getD i at0 = (l.takeWhile q)[i] := by
    rw [List.getD, ← h1, List.getElem?_eq_getElem hi]; rfl
  rw [h2]
  exact List.all_eq_true.1 (List.all_takeWhile (p := q) (l := l)) _ (List.getElem_mem hi)

theorem CI.send {p : Prof} {c : Cont} {now : Int} (h : CI p c now) : CI p (sentD p c now) now := by
  refine ⟨sentD_check h.ck now, fun i hi => ?_⟩
  have q := checkD_ok h.ck
  have q1 := q.s1
  have hi : (i : Int) < c.2.2.2.2.1 + ((dueD p c now).length : Int) := hi
  show ((planOf p c.2.2.2.1).getD i at0).2.2 ≤ now
  by_cases h1 : (i : Int) < c.2.2.2.2.1
  · exact h.due i h1
  · unfold dueD at hi
    cases h2 : decide (c.2.2.2.2.2 = -1) with
    | false => rw [h2] at hi; simp at hi; omega
    | true =>
      rw [h2] at hi
      simp only [cond_true] at hi
      obtain ⟨j, rfl⟩ : ∃ j, i = c.2.2.2.2.1.toNat + j := ⟨i - c.2.2.2.2.1.toNat, by omega⟩
      have hj : j < (((planOf p c.2.2.2.1).drop c.2.2.2.2.1.toNat).takeWhile fun a => decide (a.2.2 ≤ now)).length := by omega
      have := getD_takeWhile hj
      have e : ((planOf p c.2.2.2.1).drop c.2.2.2.2.1.toNat).getD j at0 = (planOf p c.2.2.2.1).getD (c.2.2.2.2.1.toNat + j) at0 := by
        simp [List.getD, List.getElem?_drop]
      rw [e] at this
      exact of_decide_eq_true this

theorem recv_ok {p : Prof} {c : Cont} {a t : Int} (h : checkD p c = true) (h0 : (recvD p c a t).2 = 0) :
    ∃ r, (recvD p c a t).1 = (c.1, c.2.1, c.2.2.1, c.2.2.2.1, c.2.2.2.2.1, r) ∧ checkD p (c.1, c.2.1, c.2.2.1, c.2.2.2.1, c.2.2.2.2.1, r) = true := by
  unfold recvD at h0 ⊢
  rw [h] at h0 ⊢
  simp only [cond_true] at h0 ⊢
  cases h1 : inB a 0 (c.2.2.2.2.1 - 1) with
  | false => rw [h1] at h0; simp at h0
  | true =>
    rw [h1] at h0
    simp only [cond_true] at h0 ⊢
    cases h2 : inB t ((planOf p c.2.2.2.1).getD a.toNat at0).2.2 8590193792 with
    | false => rw [h2] at h0; simp at h0
    | true =>
      simp only [cond_true]
      have g1 := inB_iff.1 h1
      have g2 := inB_iff.1 h2
      obtain ⟨a1, a2, a3, ⟨a4, a5⟩, a6⟩ := checkD_iff.1 h
      have hlt : a.toNat < (planOf p c.2.2.2.1).length := by omega
      have e : (planOf p c.2.2.2.1).getD a.toNat at0 = (planOf p c.2.2.2.1)[a.toNat] := by simp [List.getD, hlt]
      have hst := (planOf_ok _ (List.getElem_mem hlt)).1.s1
      rw [← e] at hst
      cases hb : (decide (c.2.2.2.2.2 = -1) || decide (t < c.2.2.2.2.2)) with
      | true => exact ⟨t, rfl, checkD_iff.2 ⟨a1, a2, a3, ⟨a4, a5⟩, .inr ⟨by show c.2.2.2.2.1 ≠ 0; omega, by show c.2.2.2.1 ≤ t; omega⟩⟩⟩
      | false => exact ⟨c.2.2.2.2.2, rfl, h⟩

theorem CI.recv {p : Prof} {c : Cont} {now a t : Int} (h : CI p c now) (h0 : (recvD p c a t).2 = 0) : CI p (recvD p c a t).1 now := by
  obtain ⟨r, h1, h2⟩ := recv_ok h.ck h0
  rw [h1]
  exact ⟨h2, h.due⟩

theorem newD_check {p : Prof} (hp : profV p = true) {page step start : Int} (h1 : 1 ≤ page) (h2 : -1 ≤ step) (h3 : 0 ≤ start ∧ start ≤ 8589934592) :
    newD page step p.1 start = ((page, step, p.1, start, 0, -1), 0) ∧ CI p (page, step, p.1, start, 0, -1) start := by
  have q := (profV_ok hp).who
  have hr : rightV page step p.1 start = true := by
    unfold rightV
    simp only [Bool.and_eq_true, decide_eq_true_eq, inB_iff]
    exact ⟨h1, h2, q, h3⟩
  refine ⟨by unfold newD; rw [hr]; rfl, checkD_iff.2 ⟨hp, hr, rfl, ⟨Int.le_refl _, by show (0 : Int) ≤ (planOf p start).length; omega⟩, .inl rfl⟩, fun i hi => ?_⟩
  have : (i : Int) < 0 := hi
  omega

theorem contact1 {p : Prof} {c : Cont} {now : Int} (h : CI p c now) {d : Dice} (hd : DiceOk d) (i_ : Int) (a1 a2 a3 a4 a5 a6 : Int) :
    ∃ c' d', CI p c' now ∧ DiceOk d' ∧ ∀ {β : Type} (k1 : zqa1 β), zqai k1 now i_ d.1 d.2 p.1 p.2 a1 a2 a3 a4 a5 a6 c.1 c.2.1 c.2.2.1 c.2.2.2.1 c.2.2.2.2.1 c.2.2.2.2.2 =
      k1 now i_ d'.1 d'.2 p.1 p.2 a1 a2 a3 a4 a5 a6 c'.1 c'.2.1 c'.2.2.1 c'.2.2.2.1 c'.2.2.2.2.1 c'.2.2.2.2.2 := by
  obtain ⟨x1, d1, _, _, hd1, f1⟩ := next_ok (n := 3) hd (by omega)
  by_cases hx : x1 = 0
  · obtain ⟨x2, d2, _, _, hd2, f2⟩ := next_ok (n := 5) hd1 (by omega)
    by_cases he : (recvD p c x2 now).2 = 0
    · refine ⟨_, d2, h.recv he, hd2, fun k1 => ?_⟩
      unfold zqai zqaa zqa9
      refine (f1 _).trans ?_
      refine (c_pos hx).trans ?_
      refine (f2 _).trans ?_
      refine (r_receipt p c x2 now _).trans ?_
      exact c_pos he
    · refine ⟨c, d2, h, hd2, fun k1 => ?_⟩
      unfold zqai zqaa zqa9
      refine (f1 _).trans ?_
      refine (c_pos hx).trans ?_
      refine (f2 _).trans ?_
      refine (r_receipt p c x2 now _).trans ?_
      exact c_neg he
  · refine ⟨c, d1, h, hd1, fun k1 => ?_⟩
    unfold zqai zqaa zqa9
    refine (f1 _).trans ?_
    exact c_neg hx

theorem contact_ok {p : Prof} (hp : profV p = true) {d : Dice} (hd : DiceOk d) :
    ∃ c now d', CI p c now ∧ (864000 ≤ now ∧ now ≤ 865000) ∧ DiceOk d' ∧ ∀ {β : Type} (k : Cont → Int → Dice → Option β), zqao p d k = k c now d' := by
  obtain ⟨x1, d1, a1, a2, hd1, f1⟩ := next_ok (n := 100) hd (by omega)
  obtain ⟨x2, d2, b1, b2, hd2, f2⟩ := next_ok (n := 3) hd1 (by omega)
  obtain ⟨x3, d3, c1, c2, hd3, f3⟩ := next_ok (n := 4) hd2 (by omega)
  obtain ⟨x4, d4, e1, e2, hd4, f4⟩ := next_ok (n := 5) hd3 (by omega)
  obtain ⟨hn1, hn2⟩ := newD_check hp (page := 1 + x2) (step := x3 - 1) (start := 864000 + x1) (by omega) (by omega) (by omega)
  have key : ∀ (n : Nat) (m : Nat) (d : Dice) (c : Cont) (now : Int), n < m → n ≤ 4 → CI p c now → 864000 ≤ now → now ≤ 864100 + 60 * (4 - (n : Int)) → DiceOk d → ∃ c' now' d', CI p c' now' ∧ (864000 ≤ now' ∧ now' ≤ 865000) ∧ DiceOk d' ∧
      ∀ {β : Type} (k1 : zqa5 β), zqak m k1 now (n : Int) d.1 d.2 p.1 p.2 0 0 0 0 0 0 c.1 c.2.1 c.2.2.1 c.2.2.2.1 c.2.2.2.2.1 c.2.2.2.2.2 = k1 now' d'.1 d'.2 0 0 0 0 0 0 c'.1 c'.2.1 c'.2.2.1 c'.2.2.2.1 c'.2.2.2.2.1 c'.2.2.2.2.2 := by
    intro n
    induction n with
    | zero =>
      intro m d c now hm hn hc h1 h2 hd
      obtain ⟨m, rfl⟩ : ∃ m', m = m' + 1 := ⟨m - 1, by omega⟩
      refine ⟨c, now, d, hc, by omega, hd, fun k1 => ?_⟩
      simp only [zqal, zqac]
      exact c_neg (by omega)
    | succ n ih =>
      intro m d c now hm hn hc h1 h2 hd
      obtain ⟨m, rfl⟩ : ∃ m', m = m' + 1 := ⟨m - 1, by omega⟩
      obtain ⟨y, d1, my, hd1, fy⟩ := one_ok (l := [(0 : Int), 1, 30, 60]) (by simp) (by simp) hd
      simp only [List.mem_cons, List.not_mem_nil, or_false] at my
      have hc2 := (hc.later (now' := now + y) (by omega)).send
      obtain ⟨c', d2, hc', hd2, f2⟩ := contact1 hc2 hd1 ((n + 1 : Nat) : Int) 0 0 0 0 0 0
      obtain ⟨c'', now', d', g1, g2, g3, g4⟩ := ih m d2 c' (now + y) (by omega) (by omega) hc' (by omega) (by omega) hd2
      refine ⟨c'', now', d', g1, g2, g3, fun k1 => ?_⟩
      simp only [zqal, zqac]
      refine (c_pos (by omega)).trans ?_
      refine (fy _).trans ?_
      rw [i64_in (now + y) (by omega)]
      refine (r_send p c (now + y) _).trans ?_
      refine (c_tt' hc.ck).trans ?_
      refine (c_pos rfl).trans ?_
      refine (f2 _).trans ?_
      rw [show IntKind.i64.wrap (((n + 1 : Nat) : Int) - 1) = (n : Int) by rw [i64_in _ (by omega)]; omega]
      exact g4 k1
  obtain ⟨c', now', d', g1, g2, g3, g4⟩ := key x4.toNat fuel d4 _ (864000 + x1) (lt_fuel (by omega)) (by omega) hn2 (by omega) (by omega) hd4
  refine ⟨c', now', d', g1, g2, g3, fun k => ?_⟩
  unfold zqao zqaf
  refine (f1 _).trans ?_
  rw [i64_in (864000 + x1) (by omega)]
  refine (f2 _).trans ?_
  refine (f3 _).trans ?_
  rw [i64_in (1 + x2) (by omega), i64_in (x3 - 1) (by omega)]
  refine (r_new _ _ _ _ _).trans ?_
  rw [hn1]
  refine (f4 _).trans ?_
  rw [show ((x4.toNat : Nat) : Int) = x4 by omega] at g4
  exact g4 _
end
end Go.Lift

/- Bounds of profiles (chapter 27), drawn fates. -/
namespace Go.Lift
open Go.RowKit Go.IntWalk
noncomputable section
set_option linter.unusedVariables false
set_option linter.unusedSimpArgs false
set_option maxRecDepth 10000

def worstC (c : Chan) : Int := cond (chanV c) ((c.2.2.1 - 1) * c.2.2.2 + c.2.1) 0
def maxW (m : Int) (c : Chan) : Int := if worstC c > m then worstC c else m
def boundD (p : Prof) : Int := cond (profV p) (p.2.foldl maxW 0) 0

theorem worst_bd {c : Chan} (h : chanV c = true) : 0 ≤ (c.2.2.1 - 1) * c.2.2.2 ∧ (c.2.2.1 - 1) * c.2.2.2 ≤ 18000 := by
  have q := chanV_ok h
  have q1 := q.t1; have q2 := q.t2; have q3 := q.p1; have q4 := q.p2
  exact ⟨Int.mul_nonneg (by omega) (by omega), by
    have : (c.2.2.1 - 1) * c.2.2.2 ≤ 5 * 3600 := Int.mul_le_mul (by omega) (by omega) (by omega) (by omega)
    omega⟩
section
variable {β : Type}
theorem ch_worst (c : Chan) (k : Int → Option β) : zq70 c k = k (worstC c) := by
  unfold zq70 zq6x worstC
  refine (ch_valid _ _).trans ?_
  cases h : chanV c with
  | false => rfl
  | true =>
    have q := chanV_ok h
    have q1 := q.l1; have q2 := q.l2; have q3 := q.t1; have q4 := q.t2
    have := worst_bd h
    refine (c_ff' rfl).trans ?_
    rw [i64_in (c.2.2.1 - 1) (by omega), i64_in ((c.2.2.1 - 1) * c.2.2.2) (by omega), i64_in ((c.2.2.1 - 1) * c.2.2.2 + c.2.1) (by omega)]
    rfl
theorem r26_worst (c : Chan) (k : Int → Option β) : zq5l c k = k (worstC c) := by
  unfold zq5l zq5i worstC
  refine (r26_valid _ _).trans ?_
  cases h : chanV c with
  | false => rfl
  | true =>
    have q := chanV_ok h
    have q1 := q.l1; have q2 := q.l2; have q3 := q.t1; have q4 := q.t2
    have := worst_bd h
    refine (c_ff' rfl).trans ?_
    rw [i64_in (c.2.2.1 - 1) (by omega), i64_in ((c.2.2.1 - 1) * c.2.2.2) (by omega), i64_in ((c.2.2.1 - 1) * c.2.2.2 + c.2.1) (by omega)]
    rfl

theorem d_bound (p : Prof) (hl : p.2.length ≤ 1000) (k : Int → Option β) : zqbk p k = k (boundD p) := by
  unfold zqbk zqbd boundD
  refine (fold_loop (fun m i most => zqbg m (fun most => k most) most p.2 (p.2.length : Int) i p.1 p.2) (fun m c => cond (profV p) (maxW m c) m) (fun m => k m) ch0 p.2 0 fuel (lt_fuel (by omega)) (fun m i s hi => ?_) (fun m s => ?_)).trans ?_
  · simp only [zqbh, zqba, Int.toNat_natCast]
    refine (c_pos (by omega)).trans ?_
    refine (c_inb (by omega)).trans ?_
    refine (d_valid p _).trans ?_
    rw [i64_in ((i : Int) + 1) (by omega)]
    cases profV p with
    | false => rfl
    | true => exact ch_worst _ _
  · simp only [zqbh, zqba]
    exact c_neg (by omega)
  · cases profV p with
    | true => rfl
    | false =>
      have : ∀ (l : List Chan) (m : Int), l.foldl (fun m c => cond false (maxW m c) m) m = m := by
        intro l
        induction l with
        | nil => intro m; rfl
        | cons x l ih => intro m; exact ih m
      exact k_eq (this _ _)
theorem r_bound (p : Prof) (hl : p.2.length ≤ 1000) (k : Int → Option β) : zq6m p k = k (boundD p) := by
  unfold zq6m zq6f boundD
  cases hv : profV p with
  | true =>
    refine (fold_loop (fun m i most => zq6i m (fun most => k most) most i p.1 p.2) maxW (fun m => k m) ch0 p.2 0 fuel (lt_fuel (by omega)) (fun m i s hi => ?_) (fun m s => ?_)).trans rfl
    · simp only [zq6j, zq6c, Int.toNat_natCast]
      refine (c_pos (by omega)).trans ?_
      refine (r27_valid p _).trans ?_
      refine (c_tt' hv).trans ?_
      refine (c_inb (by omega)).trans ?_
      rw [i64_in ((i : Int) + 1) (by omega)]
      exact r26_worst _ _
    · simp only [zq6j, zq6c]
      exact c_neg (by omega)
  | false =>
    obtain ⟨m, hm⟩ := fuel_succ
    unfold zq6k
    rw [hm]
    simp only [zq6j, zq6c]
    by_cases h0 : (0 : Int) < (p.2.length : Int)
    · refine (c_pos h0).trans ?_
      refine (r27_valid p _).trans ?_
      exact c_ff' hv
    · exact c_neg h0
end

/-! ### Drawn fates -/
end
end Go.Lift

/- DeliverySends: sending at two instants is sending at the later one. -/
namespace Go.Lift
open Go.RowKit Go.IntWalk
noncomputable section
set_option linter.unusedVariables false
set_option linter.unusedSimpArgs false
set_option maxRecDepth 10000

theorem dueD_len (p : Prof) (c : Cont) (a : Int) : (dueD p c a).length ≤ 24 := by
  unfold dueD
  cases decide (c.2.2.2.2.2 = -1) with
  | false => simp
  | true =>
    have h1 := (List.takeWhile_sublist (l := (planOf p c.2.2.2.1).drop c.2.2.2.2.1.toNat) fun x => decide (x.2.2 ≤ a)).length_le
    have h2 := planOf_len p c.2.2.2.1
    rw [List.length_drop] at h1
    simp only [cond_true]
    omega

theorem eq6_true {x y : Cont} (h : x = y) : (decide (x.1 = y.1) && (decide (x.2.1 = y.2.1) && (decide (x.2.2.1 = y.2.2.1) && (decide (x.2.2.2.1 = y.2.2.2.1) && (decide (x.2.2.2.2.1 = y.2.2.2.2.1) && (decide (x.2.2.2.2.2 = y.2.2.2.2.2) && true)))))) = true := by subst h; simp

end
end Go.Lift

/- DeliverySteps: plans, contacts and all that changes them: code and reference agree. -/
namespace Go.Lift
open Go.RowKit Go.IntWalk
noncomputable section
set_option linter.unusedVariables false
set_option linter.unusedSimpArgs false
set_option maxRecDepth 10000

theorem send_both (q : Prof) (x : Cont) (n : Int) : ∃ C e l, l.length ≤ 24 ∧ (∀ {β : Type} (k : Cont → Int → List Att → Option β), zqde q x n k = k C e l) ∧ (∀ {β : Type} (k : Cont → Int → List Att → Option β), zq97 q x n k = k C e l) := by
  cases h : checkD q x with
  | true => exact ⟨sentD q x n, 0, dueD q x n, dueD_len q x n, fun k => (d_send q x n k).trans (c_tt' h), fun k => (r_send q x n k).trans (c_tt' h)⟩
  | false => exact ⟨cont0, 8, [], by simp, fun k => (d_send q x n k).trans (c_ff' h), fun k => (r_send q x n k).trans (c_ff' h)⟩

theorem steps1 {page step person start now t102 t103 t110 t111 raw : Int} {raw2 : List Chan} {p q : Prof} {x : Cont} {t101 : List Cont} {t109 : List Prof} (l : List Int) (hl : l.length ≤ 10) {d : Dice} (hd : DiceOk d) :
    ∃ d', DiceOk d' ∧ ∀ {β : Type} (k1 : zqft β) (k2 : zqfu β),
      zqgt k1 k2 page step person start now t102 t103 t110 t111 (l.length : Int) 0 raw raw2 d.1 d.2 p.1 p.2 x.1 x.2.1 x.2.2.1 x.2.2.2.1 x.2.2.2.2.1 x.2.2.2.2.2 q.1 q.2 t101 t109 l =
        k2 page step person start now t102 t103 t110 t111 raw raw2 d'.1 d'.2 p.1 p.2 x.1 x.2.1 x.2.2.1 x.2.2.2.1 x.2.2.2.2.1 x.2.2.2.2.2 t101 t109 := by
  have key : ∀ (j i : Nat) (m : Nat) (d : Dice), i + j = l.length → j < m → DiceOk d → ∃ d', DiceOk d' ∧ ∀ {β : Type} (k1 : zqft β) (k2 : zqfu β),
      zqgr m k1 k2 page step person start now t102 t103 t110 t111 (l.length : Int) (i : Int) raw raw2 d.1 d.2 p.1 p.2 x.1 x.2.1 x.2.2.1 x.2.2.2.1 x.2.2.2.2.1 x.2.2.2.2.2 q.1 q.2 t101 t109 l =
        k2 page step person start now t102 t103 t110 t111 raw raw2 d'.1 d'.2 p.1 p.2 x.1 x.2.1 x.2.2.1 x.2.2.2.1 x.2.2.2.2.1 x.2.2.2.2.2 t101 t109 := by
    intro j
    induction j with
    | zero =>
      intro i m d hi hm hd
      obtain ⟨m, rfl⟩ : ∃ m', m = m' + 1 := ⟨m - 1, by omega⟩
      refine ⟨d, hd, fun k1 k2 => ?_⟩
      simp only [zqgs, zqgc]
      exact c_neg (by omega)
    | succ j ih =>
      intro i m d hi hm hd
      obtain ⟨m, rfl⟩ : ∃ m', m = m' + 1 := ⟨m - 1, by omega⟩
      obtain ⟨y, d1, a1, a2, hd1, f1⟩ := next_ok (n := 6) hd (by omega)
      obtain ⟨C, e, o, ho, s1, s2⟩ := send_both q x (l.getD i 0)
      obtain ⟨d', hd', h2⟩ := ih (i + 1) m d1 (by omega) (by omega) hd1
      refine ⟨d', hd', fun k1 k2 => ?_⟩
      simp only [zqgs, zqgc, Int.toNat_natCast]
      refine (c_pos (by omega)).trans ?_
      refine (c_inb (by omega)).trans ?_
      refine (s1 _).trans ?_
      refine (s2 _).trans ?_
      refine (f1 _).trans ?_
      refine (d_receipt q x _ _ _).trans ?_
      refine (r_receipt q x _ _ _).trans ?_
      refine (c_ff' (by rw [eq6_true rfl]; rfl)).trans ?_
      refine (c_npos rfl).trans ?_
      refine (same_att (by omega) _).trans ?_
      refine (c_ff' rfl).trans ?_
      refine (c_ff' (by rw [eq6_true rfl]; rfl)).trans ?_
      refine (c_npos rfl).trans ?_
      rw [i64_in ((i : Int) + 1) (by omega)]
      exact h2 k1 k2
  exact key l.length 0 fuel d (by omega) (lt_fuel (by omega)) hd

theorem steps2 {page step person start now t102 t103 raw : Int} {raw2 : List Chan} {p : Prof} {x : Cont} {t101 : List Cont} (qs : List Prof) (hq : qs.length ≤ 10) (hqs : ∀ q ∈ qs, q.2.length ≤ 1000) {d : Dice} (hd : DiceOk d) :
    ∃ d', DiceOk d' ∧ ∀ {β : Type} (k1 : zqfy β) (k2 : zqfz β),
      zqgx k1 k2 page step person start now t102 t103 (qs.length : Int) 0 raw raw2 d.1 d.2 p.1 p.2 x.1 x.2.1 x.2.2.1 x.2.2.2.1 x.2.2.2.2.1 x.2.2.2.2.2 t101 qs =
        k2 page step person start now t102 t103 raw raw2 d'.1 d'.2 p.1 p.2 t101 := by
  have key : ∀ (j i : Nat) (m : Nat) (d : Dice), i + j = qs.length → j < m → DiceOk d → ∃ d', DiceOk d' ∧ ∀ {β : Type} (k1 : zqfy β) (k2 : zqfz β),
      zqgv m k1 k2 page step person start now t102 t103 (qs.length : Int) (i : Int) raw raw2 d.1 d.2 p.1 p.2 x.1 x.2.1 x.2.2.1 x.2.2.2.1 x.2.2.2.2.1 x.2.2.2.2.2 t101 qs =
        k2 page step person start now t102 t103 raw raw2 d'.1 d'.2 p.1 p.2 t101 := by
    intro j
    induction j with
    | zero =>
      intro i m d hi hm hd
      obtain ⟨m, rfl⟩ : ∃ m', m = m' + 1 := ⟨m - 1, by omega⟩
      refine ⟨d, hd, fun k1 k2 => ?_⟩
      simp only [zqgw, zqgf]
      exact c_neg (by omega)
    | succ j ih =>
      intro i m d hi hm hd
      obtain ⟨m, rfl⟩ : ∃ m', m = m' + 1 := ⟨m - 1, by omega⟩
      have hql : (qs.getD i ((0 : Int), ([] : List Chan))).2.length ≤ 1000 := by
        have hlt : i < qs.length := by omega
        have : qs.getD i ((0 : Int), ([] : List Chan)) = qs[i] := by simp [List.getD, hlt]
        rw [this]; exact hqs _ (List.getElem_mem hlt)
      obtain ⟨d1, hd1, h1⟩ := steps1 (page := page) (step := step) (person := person) (start := start) (now := now) (t102 := t102) (t103 := t103) (t110 := (qs.length : Int)) (t111 := (i : Int)) (raw := raw) (raw2 := raw2) (p := p) (q := qs.getD i ((0 : Int), ([] : List Chan))) (x := x) (t101 := t101) (t109 := qs)
        [now, IntKind.i64.wrap (now + 60), start, IntKind.i64.wrap (now + 9999)] (by simp) hd
      obtain ⟨d', hd', h2⟩ := ih (i + 1) m d1 (by omega) (by omega) hd1
      refine ⟨d', hd', fun k1 k2 => ?_⟩
      simp only [zqgw, zqgf, Int.toNat_natCast]
      refine (c_pos (by omega)).trans ?_
      refine (c_inb (by omega)).trans ?_
      refine (d_next _ x _).trans ?_
      refine (r_next _ x _).trans ?_
      refine (c_npos rfl).trans ?_
      refine (c_ff' (by rw [beq_self_eq_true]; rfl)).trans ?_
      refine (d_check _ x _).trans ?_
      refine (r_check _ x _).trans ?_
      refine (c_ff' (by rw [beq_self_eq_true]; rfl)).trans ?_
      refine (d_valid _ _).trans ?_
      refine (r27_valid _ _).trans ?_
      refine (c_ff' (by rw [beq_self_eq_true]; rfl)).trans ?_
      refine (d_bound _ hql _).trans ?_
      refine (r_bound _ hql _).trans ?_
      refine (c_npos rfl).trans ?_
      refine (d_plan _ _ _).trans ?_
      refine (r_plan _ _ _).trans ?_
      refine (same_att (by have := planOf_len (qs.getD i ((0 : Int), ([] : List Chan))) x.2.2.2.1; omega) _).trans ?_
      refine (c_ff' rfl).trans ?_
      refine (h1 _ _).trans ?_
      rw [i64_in ((i : Int) + 1) (by omega)]
      exact h2 k1 k2
  exact key qs.length 0 fuel d (by omega) (lt_fuel (by omega)) hd

theorem steps3 {β : Type} {page step person start now raw : Int} {raw2 : List Chan} {p : Prof} (hp : p.2.length ≤ 4) (hr : raw2.length ≤ 10) (xs : List Cont) (hx : xs.length ≤ 10) {d : Dice} (hd : DiceOk d) (k1 : zqg3 β) (k2 : zqg4 β) :
    zqh1 k1 k2 page step person start now (xs.length : Int) 0 raw raw2 d.1 d.2 p.1 p.2 xs = k2 page step person start := by
  have key : ∀ (j i : Nat) (m : Nat) (d : Dice), i + j = xs.length → j < m → DiceOk d →
      zqgz m k1 k2 page step person start now (xs.length : Int) (i : Int) raw raw2 d.1 d.2 p.1 p.2 xs = k2 page step person start := by
    intro j
    induction j with
    | zero =>
      intro i m d hi hm hd
      obtain ⟨m, rfl⟩ : ∃ m', m = m' + 1 := ⟨m - 1, by omega⟩
      simp only [zqh0, zqgi]
      exact c_neg (by omega)
    | succ j ih =>
      intro i m d hi hm hd
      obtain ⟨m, rfl⟩ : ∃ m', m = m' + 1 := ⟨m - 1, by omega⟩
      obtain ⟨d1, hd1, h1⟩ := steps2 (page := page) (step := step) (person := person) (start := start) (now := now) (t102 := (xs.length : Int)) (t103 := (i : Int)) (raw := raw) (raw2 := raw2) (p := p) (x := xs.getD i cont0) (t101 := xs) [p, (raw, raw2)] (by simp) (fun q hq => by
        rcases List.mem_cons.1 hq with rfl | hq
        · omega
        · rw [List.mem_singleton.1 hq]; show raw2.length ≤ 1000; omega) hd
      simp only [zqh0, zqgi, Int.toNat_natCast]
      refine (c_pos (by omega)).trans ?_
      refine (c_inb (by omega)).trans ?_
      refine (h1 _ _).trans ?_
      rw [i64_in ((i : Int) + 1) (by omega)]
      exact ih (i + 1) m d1 (by omega) (by omega) hd1
  exact key xs.length 0 fuel d (by omega) (lt_fuel (by omega)) hd

theorem steps4 {β : Type} {page step person start now raw : Int} {raw2 : List Chan} {p : Prof} (hp : p.2.length ≤ 4) (hr : raw2.length ≤ 10) (c o : Cont) {d : Dice} (hd : DiceOk d) (k1 : zqg8 β) :
    zqh3 k1 page step person start now raw raw2 d.1 d.2 p.1 p.2 c.1 c.2.1 c.2.2.1 c.2.2.2.1 c.2.2.2.2.1 c.2.2.2.2.2 o.1 o.2.1 o.2.2.1 o.2.2.2.1 o.2.2.2.2.1 o.2.2.2.2.2 = k1 true := by
  unfold zqh3 zqgm zqgl
  refine (steps3 hp hr [c, o] (by simp) hd _ _).trans ?_
  refine (d_new _ _ _ _ _).trans ?_
  refine (r_new _ _ _ _ _).trans ?_
  refine (c_tt' (eq6_true rfl)).trans ?_
  refine (c_pos rfl).trans ?_
  exact sane27 _

theorem deliverySteps {β : Type} (t : List Int) (raw : Prof) (page step person start : Int) (k : Bool → Option β) : zqh5 t raw page step person start k = k true := by
  unfold zqh5 zqgo
  refine (light_eq t _).trans ?_
  by_cases hl : (t.length : Int) ≤ 500
  · rw [decide_eq_true hl]
    refine (c_ff' rfl).trans ?_
    by_cases h10 : (10 : Int) < (raw.2.length : Int)
    · refine (c_pos h10).trans ?_
      exact sane27 _
    · refine (c_neg h10).trans ?_
      have hr : raw.2.length ≤ 10 := by omega
      obtain ⟨x1, d1, a1, a2, hd1, f1⟩ := next_ok (n := 4) (roll_ok hl) (by omega)
      obtain ⟨p, d2, hp, hp1, hp2, hd2, f2⟩ := person_ok (who := x1) (by omega) hd1
      obtain ⟨c, now, d3, hc, hnow, hd3, f3⟩ := contact_ok hp hd2
      obtain ⟨x2, d4, b1, b2, hd4, f4⟩ := next_ok (n := 6) hd3 (by omega)
      have hp4 : p.2.length ≤ 4 := by omega
      refine (roll_eq t _).trans ?_
      refine (f1 _).trans ?_
      refine (f2 _).trans ?_
      refine (f3 _).trans ?_
      refine (f4 _).trans ?_
      by_cases e0 : x2 = 0
      · refine (c_pos e0).trans ?_
        obtain ⟨y, d5, _, hd5, f5⟩ := one_ok (l := [(-1 : Int), 0, 99]) (by simp) (by simp) hd4
        refine (f5 _).trans ?_
        exact steps4 hp4 hr c (c.1, c.2.1, c.2.2.1, c.2.2.2.1, y, c.2.2.2.2.2) hd5 _
      refine (c_neg e0).trans ?_
      by_cases e1 : x2 = 1
      · refine (c_pos e1).trans ?_
        obtain ⟨y, d5, _, hd5, f5⟩ := one_ok (l := [(0 : Int), now, -2]) (by simp) (by simp) hd4
        refine (f5 _).trans ?_
        exact steps4 hp4 hr c (c.1, c.2.1, c.2.2.1, c.2.2.2.1, c.2.2.2.2.1, y) hd5 _
      refine (c_neg e1).trans ?_
      by_cases e2 : x2 = 2
      · refine (c_pos e2).trans ?_
        obtain ⟨y, d5, _, hd5, f5⟩ := one_ok (l := [(-1 : Int), 8589934592, 8589934593]) (by simp) (by simp) hd4
        refine (f5 _).trans ?_
        exact steps4 hp4 hr c (c.1, c.2.1, c.2.2.1, y, c.2.2.2.2.1, c.2.2.2.2.2) hd5 _
      refine (c_neg e2).trans ?_
      by_cases e3 : x2 = 3
      · refine (c_pos e3).trans ?_
        exact steps4 hp4 hr c (c.1, c.2.1, IntKind.i64.wrap (c.2.2.1 + 1), c.2.2.2.1, c.2.2.2.2.1, c.2.2.2.2.2) hd4 _
      refine (c_neg e3).trans ?_
      by_cases e4 : x2 = 4
      · refine (c_pos e4).trans ?_
        exact steps4 hp4 hr c (0, c.2.1, c.2.2.1, c.2.2.2.1, c.2.2.2.2.1, c.2.2.2.2.2) hd4 _
      refine (c_neg e4).trans ?_
      by_cases e5 : x2 = 5
      · refine (c_pos e5).trans ?_
        exact steps4 hp4 hr c (c.1, -2, c.2.2.1, c.2.2.2.1, c.2.2.2.2.1, c.2.2.2.2.2) hd4 _
      refine (c_neg e5).trans ?_
      exact steps4 hp4 hr c c hd4 _
  · rw [decide_eq_false hl]
    refine (c_tt' rfl).trans ?_
    exact sane27 _
end
end Go.Lift

