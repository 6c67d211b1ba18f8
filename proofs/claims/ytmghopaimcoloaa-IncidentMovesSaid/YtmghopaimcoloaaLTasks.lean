/- IncidentTasks in plain Lean. -/
import Derived.Test.YtmghopaimcoloaaFn0
import Derived.Test.YtmghopaimcoloaaLBase
import Derived.Test.YtmghopaimcoloaaLDice
namespace Go.Lift
open Go.RowKit Go.IntWalk
noncomputable section
set_option linter.unusedVariables false
set_option linter.unusedSimpArgs false
set_option maxRecDepth 10000

theorem sane37 {β : Type} (k : Bool → Option β) : law37_sane k = k true := by kernel_rfl

/-! ### The tests -/
section
variable {β : Type}
theorem in_t {n lo hi : Int} {k : Bool → Option β} (h : lo ≤ n ∧ n ≤ hi) : incident_in n lo hi k = k true := by
  simp (disch := omega) only [incident_in, incident_in_s, c_pos]
  rw [decide_eq_true h.2]
theorem in_f {n lo hi : Int} {k : Bool → Option β} (h : n < lo ∨ hi < n) : incident_in n lo hi k = k false := by
  simp only [incident_in, incident_in_s]
  by_cases h1 : lo ≤ n
  · rw [c_pos h1, decide_eq_false (by omega)]
  · rw [c_neg h1]
theorem body_t {n : Int} {k : Bool → Option β} (h : -1 ≤ n ∧ n ≤ 31) : incident_somebody n k = k true := by
  simp only [incident_somebody, incident_somebody_s]
  by_cases h1 : n = -1
  · rw [c_pos h1]
  · rw [c_neg h1]
    simp (disch := omega) only [incident_person, incident_person_s, in_t]
theorem rin_t {n lo hi : Int} {k : Bool → Option β} (h : lo ≤ n ∧ n ≤ hi) : ref25_In n lo hi k = k true := by
  simp (disch := omega) only [ref25_In, ref25_In_s, c_pos]
  rw [decide_eq_true h.2]
theorem rin_f {n lo hi : Int} {k : Bool → Option β} (h : n < lo ∨ hi < n) : ref25_In n lo hi k = k false := by
  simp only [ref25_In, ref25_In_s]
  by_cases h1 : lo ≤ n
  · rw [c_pos h1, decide_eq_false (by omega)]
  · rw [c_neg h1]
theorem rbody_t {n : Int} {k : Bool → Option β} (h : -1 ≤ n ∧ n ≤ 31) : ref37_person n true k = k true := by
  simp only [ref37_person, ref37_person_s]
  by_cases h1 : n = -1
  · rw [rin_f (by omega)]
    simp only [c_t, c_f]
    rw [decide_eq_true h1]
  · rw [rin_t (by omega)]
    rfl
end

/-! ### The incident of the law -/
abbrev chk : List UInt8 := [99, 104, 101, 99, 107]
abbrev dsk : List UInt8 := [100, 105, 115, 107]
abbrev inc (ts : List api_Task) : api_Incident := (3, (0, (1, (864000, (dsk, ((-1, (-1, -1)), ([5], (ts, ([], ([], ([], 0)))))))))))

def TaskOk (t : api_Task) : Prop := t.1 = chk ∧ (-1 ≤ t.2.1 ∧ t.2.1 ≤ 3) ∧ (864000 ≤ t.2.2.1 ∧ t.2.2.1 < 864300) ∧ (t.2.2.2 = -1 ∨ (t.2.2.1 ≤ t.2.2.2 ∧ t.2.2.2 < 864300))

section
variable {β : Type}
theorem chk_t {k : Bool → Option β} : incident_Text chk k = k true := by kernel_rfl
theorem rchk_t {k : Bool → Option β} : ref37_Text chk k = k true := by kernel_rfl
theorem rdsk_t {k : Bool → Option β} : ref37_Text dsk k = k true := by kernel_rfl

theorem getD_ok {ts : List api_Task} (h : ∀ t ∈ ts, TaskOk t) {i : Nat} (hi : i < ts.length) (d : api_Task) : TaskOk (ts.getD i d) := by
  have : ts.getD i d = ts[i] := by simp [List.getD, hi]
  rw [this]
  exact h _ (List.getElem_mem hi)

theorem tasks_loop {ts : List api_Task} (h : ∀ t ∈ ts, TaskOk t) (hl : ts.length ≤ 16) (k1 : incident_tasks_p1_K1 β) (k2 : incident_tasks_p1_K2 β) {x x2 x3 x5 x6 x7 x8 x9 x10 x11 x12 x13 x14} :
    incident_tasks_p1 k1 k2 ts (ts.length : Int) 0 x x2 x3 864000 x5 x6 x7 x8 x9 x10 x11 x12 x13 x14 = k2 x x2 x3 864000 x5 x6 x7 x8 x9 x10 x11 x12 x13 x14 := by
  refine fold_loop (σ := Unit) (fun m i _ => incident_tasks_p1_n m k1 k2 ts (ts.length : Int) i x x2 x3 864000 x5 x6 x7 x8 x9 x10 x11 x12 x13 x14)
    (fun _ _ => ()) (fun _ => k2 x x2 x3 864000 x5 x6 x7 x8 x9 x10 x11 x12 x13 x14) ([], (0, (0, 0))) ts () fuel (lt_fuel (by omega)) (fun m i s hi => ?_) (fun m s => ?_)
  · have he := getD_ok h hi ([], (0, (0, 0)))
    obtain ⟨e, hee, h1, h2, h3, h4⟩ : ∃ e, ts.getD i ([], (0, (0, 0))) = e ∧ TaskOk e := ⟨_, rfl, he⟩
    simp only [incident_tasks_p1_step, incident_tasks_p1_s, Int.toNat_natCast, hee]
    by_cases hd : e.2.2.2 = -1
    · simp (disch := omega) only [c_pos, c_inb, h1, chk_t, body_t, in_t, c_f, c_t, c_npos, Bool.not_true, i64_in]
    · simp (disch := omega) only [c_pos, c_inb, h1, chk_t, body_t, in_t, c_f, c_t, c_nneg, Bool.not_true, i64_in]
  · simp only [incident_tasks_p1_step, incident_tasks_p1_s]
    rw [c_neg (by omega)]

theorem tasks_t {ts : List api_Task} (h : ∀ t ∈ ts, TaskOk t) (hl : ts.length ≤ 16) (k : Bool → Option β) : incident_tasks (inc ts) k = k true := by
  unfold incident_tasks incident_tasks_s
  exact (tasks_loop h hl _ _).trans (k_eq (decide_eq_true (by show (ts.length : Int) ≤ 16; omega)))

theorem check_roles {k1 : incident_Check_p1_K1 β} {k2 : incident_Check_p1_K2 β} {x x2 x3 x4 x5 x6 x7 x8 x9 x10 x11 x12 x13 x14} :
    incident_Check_p1 k1 k2 (-1) (-1) (-1) 0 x x2 x3 x4 x5 x6 x7 x8 x9 x10 x11 x12 x13 x14 = k2 x x2 x3 x4 x5 x6 x7 x8 x9 x10 x11 x12 x13 x14 := by kernel_rfl
theorem dsk_t {k : Bool → Option β} : incident_Text dsk k = k true := by kernel_rfl
theorem set5_t {k : Bool → Option β} : incident_set [5] 1 999999 k = k true := by kernel_rfl
theorem persons_t {k : Bool → Option β} : incident_persons [] k = k true := by kernel_rfl
theorem updates_t {ts : List api_Task} {k : Bool → Option β} : incident_updates (inc ts) k = k true := by kernel_rfl
theorem changes_t {ts : List api_Task} {k : Bool → Option β} : incident_changes (inc ts) k = k true := by kernel_rfl

theorem check_gen (c1 : T_incident_tasks) (c2 : T_incident_updates) (c3 : T_incident_changes) {ts : List api_Task} (k : Bool → Option β) :
    incident_Check_s incident_Text incident_in incident_number incident_persons incident_set incident_Check_p1 (incident_Check_p2_u c3 c1 c2) (inc ts) k =
      c1 (inc ts) (fun r => cond r (c2 (inc ts) (fun r => cond r (c3 (inc ts) (fun r => k r)) (k false))) (k false)) := by kernel_rfl

theorem check_t {ts : List api_Task} (h : ∀ t ∈ ts, TaskOk t) (hl : ts.length ≤ 16) (k : Bool → Option β) : incident_Check (inc ts) k = k true := by
  unfold incident_Check incident_Check_p2
  refine (check_gen _ _ _ k).trans ?_
  rw [tasks_t h hl, c_t, updates_t, c_t, changes_t]

theorem changeable_t {ts : List api_Task} (h : ∀ t ∈ ts, TaskOk t) (hl : ts.length ≤ 16) (k : Int → Option β) : incident_changeable (inc ts) true k = k 0 := by
  unfold incident_changeable incident_changeable_s
  exact (check_t h hl _).trans rfl

theorem copied_t {ts : List api_Task} (hl : ts.length ≤ 16) {k} : (incident_copied (inc ts) k : Option β) = k 3 0 1 864000 dsk (-1) (-1) (-1) 0 [5] ts [] [] [] := by
  unfold incident_copied incident_copied_s
  refine Eq.trans (b := cond (decide (ts.length * 40 ≤ roomMax)) (k 3 0 1 864000 dsk (-1) (-1) (-1) 0 [5] ts [] [] []) none) ?_ (c_room (by omega))
  kernel_rfl

theorem open_t {k : api_Incident → Int → Option β} : incident_Open 3 864000 1 dsk 5 k = k (inc []) 0 := by kernel_rfl

theorem add_gen {c1 : T_incident_changeable} {c2 : T_incident_in} {c3 : T_incident_somebody} {c4 : T_incident_Text} {c5 : T_incident_copied} {ts : List api_Task} (hl : ts.length < 16) {at_ who : Int} {k : api_Incident → Int → Option β}
    (h1 : ∀ k, (c1 (inc ts) true k : Option β) = k 0) (h2 : ∀ k, (c2 at_ 864000 8589934592 k : Option β) = k true) (h3 : ∀ k, (c3 who k : Option β) = k true) (h4 : ∀ k, (c4 chk k : Option β) = k true)
    (h5 : ∀ k, (c5 (inc ts) k : Option β) = k 3 0 1 864000 dsk (-1) (-1) (-1) 0 [5] ts [] [] []) :
    incident_Add_s c1 c2 c3 (incident_Add_p1_u c4 c5) (inc ts) at_ who chk k = k (inc (ts ++ [(chk, (who, (at_, -1)))])) 0 := by
  refine (h2 _).trans ?_
  refine (h3 _).trans ?_
  refine (h1 _).trans ?_
  refine (h4 _).trans ?_
  refine (c_neg (p := (ts.length : Int) = 16) (by omega)).trans ?_
  refine (h5 _).trans ?_
  exact c_room (by simp only [List.length_cons, List.length_nil]; omega)

theorem add_t {ts : List api_Task} (h : ∀ t ∈ ts, TaskOk t) (hl : ts.length < 16) {at_ who : Int} (ha : 864000 ≤ at_ ∧ at_ < 864300) (hw : -1 ≤ who ∧ who ≤ 3) (k : api_Incident → Int → Option β) :
    incident_Add (inc ts) at_ who chk k = k (inc (ts ++ [(chk, (who, (at_, -1)))])) 0 := by
  unfold incident_Add incident_Add_p1
  exact add_gen hl (changeable_t h (by omega)) (fun k => in_t (by omega)) (fun k => body_t (by omega)) (fun k => chk_t) (fun k => copied_t (by omega))

abbrev zinc : api_Incident := (0, (0, (0, (0, ([], ((0, (0, 0)), ([], ([], ([], ([], ([], 0)))))))))))

theorem i64_len {ts : List api_Task} (hl : ts.length ≤ 16) : IntKind.i64.wrap ((ts.length : Int) - 1) = ts.length - 1 := i64_in _ (by omega)

theorem finish_start {ts : List api_Task} (h : ∀ t ∈ ts, TaskOk t) (hl : ts.length ≤ 16) {at_ j : Int} (ha : 864000 ≤ at_ ∧ at_ < 864300) {k : api_Incident → Int → Option β} {r : Option β}
    (hr : (incident_in j 0 (ts.length - 1) fun rin2 => cond (!rin2) (k zinc 3) (cond (decide (0 ≤ j) && decide (j < (ts.length : Int)))
      (cond (!decide ((ts.getD j.toNat ([], (0, (0, 0)))).2.2.2 = -1)) (k zinc 9) (cond (decide (0 ≤ j) && decide (j < (ts.length : Int)))
        (cond (decide (at_ < (ts.getD j.toNat ([], (0, (0, 0)))).2.2.1)) (k zinc 1) (incident_copied (inc ts) fun a b c d e f g i l m n o p q => cond (decide (0 ≤ j) && decide (j < (n.length : Int)))
          (k (a, (b, (c, (d, (e, ((f, (g, i)), (m, (n.set j.toNat ((n.getD j.toNat ([], (0, (0, 0)))).1, ((n.getD j.toNat ([], (0, (0, 0)))).2.1, ((n.getD j.toNat ([], (0, (0, 0)))).2.2.1, at_))), (o, (p, (q, l))))))))))) 0) none)) none)) none)) = r) :
    incident_Finish (inc ts) j at_ k = r := by
  unfold incident_Finish incident_Finish_s
  refine (in_t (lo := 864000) (by omega)).trans ?_
  refine (changeable_t h (by omega) _).trans ?_
  rw [← i64_len hl] at hr
  exact hr

theorem finish_none {ts : List api_Task} (h : ∀ t ∈ ts, TaskOk t) (hl : ts.length ≤ 16) {at_ j : Int} (ha : 864000 ≤ at_ ∧ at_ < 864300) (hj : (ts.length : Int) ≤ j) (k : api_Incident → Int → Option β) :
    incident_Finish (inc ts) j at_ k = k zinc 3 := finish_start h hl ha <| by
  rw [in_f (by omega)]
  rfl

theorem finish_twice {ts : List api_Task} (h : ∀ t ∈ ts, TaskOk t) (hl : ts.length ≤ 16) {at_ j : Int} (ha : 864000 ≤ at_ ∧ at_ < 864300) (hj : 0 ≤ j ∧ j < ts.length) (hd : (ts.getD j.toNat ([], (0, (0, 0)))).2.2.2 ≠ -1)
    (k : api_Incident → Int → Option β) : incident_Finish (inc ts) j at_ k = k zinc 9 := finish_start h hl ha <| by
  rw [in_t (by omega)]
  simp only [Bool.not_true, c_f]
  rw [c_inb (by omega), c_nneg hd]

theorem finish_early {ts : List api_Task} (h : ∀ t ∈ ts, TaskOk t) (hl : ts.length ≤ 16) {at_ j : Int} (ha : 864000 ≤ at_ ∧ at_ < 864300) (hj : 0 ≤ j ∧ j < ts.length) (hd : (ts.getD j.toNat ([], (0, (0, 0)))).2.2.2 = -1)
    (hb : at_ < (ts.getD j.toNat ([], (0, (0, 0)))).2.2.1) (k : api_Incident → Int → Option β) : incident_Finish (inc ts) j at_ k = k zinc 1 := finish_start h hl ha <| by
  rw [in_t (by omega)]
  simp only [Bool.not_true, c_f]
  rw [c_inb (by omega), c_npos hd, c_inb (by omega), c_pos hb]

def setDone (ts : List api_Task) (j : Nat) (at_ : Int) : List api_Task := ts.set j ((ts.getD j ([], (0, (0, 0)))).1, ((ts.getD j ([], (0, (0, 0)))).2.1, ((ts.getD j ([], (0, (0, 0)))).2.2.1, at_)))

theorem finish_t {ts : List api_Task} (h : ∀ t ∈ ts, TaskOk t) (hl : ts.length ≤ 16) {at_ j : Int} (ha : 864000 ≤ at_ ∧ at_ < 864300) (hj : 0 ≤ j ∧ j < ts.length) (hd : (ts.getD j.toNat ([], (0, (0, 0)))).2.2.2 = -1)
    (hb : ¬ at_ < (ts.getD j.toNat ([], (0, (0, 0)))).2.2.1) (k : api_Incident → Int → Option β) : incident_Finish (inc ts) j at_ k = k (inc (setDone ts j.toNat at_)) 0 := finish_start h hl ha <| by
  rw [in_t (by omega)]
  simp only [Bool.not_true, c_f]
  rw [c_inb (by omega), c_npos hd, c_inb (by omega), c_neg hb, copied_t (by omega), c_inb (by omega)]
  rfl

/-! ### The reference's check -/
theorem rroles {k1 : ref37_Check_p1_K1 β} {k2 : ref37_Check_p1_K2 β} {x x2 x3 x4 x5 x9 x10 x11 x12 x13 x14} :
    ref37_Check_p1 k1 k2 0 x x2 x3 x4 x5 (-1) (-1) (-1) x9 x10 x11 x12 x13 x14 = k2 x x2 x3 x4 x5 (-1) (-1) (-1) x9 x10 x11 x12 x13 x14 := by kernel_rfl
theorem rpages {k1 : ref37_Check_p2_K1 β} {k2 : ref37_Check_p2_K2 β} {x x2 x3 x4 x5 x6 x7 x8 x10 x11 x12 x13 x14} :
    ref37_Check_p2 k1 k2 0 x x2 x3 x4 x5 x6 x7 x8 [5] x10 x11 x12 x13 x14 = k2 x x2 x3 x4 x5 x6 x7 x8 [5] x10 x11 x12 x13 x14 := by kernel_rfl
theorem rset_t {k : Bool → Option β} : ref25_Set [] 32 k = k true := by kernel_rfl
theorem rupd {k1 : ref37_lists_p2_K1 β} {k2 : ref37_lists_p2_K2 β} {a x x2 x3 x4 x5 x6 x7 x8 x9 x10 x12 x13 x14} :
    ref37_lists_p2 k1 k2 a 0 x x2 x3 x4 x5 x6 x7 x8 x9 x10 [] x12 x13 x14 = k2 x x2 x3 x4 x5 x6 x7 x8 x9 x10 [] x12 x13 x14 := by kernel_rfl
theorem rchg {k1 : ref37_lists_p3_K1 β} {k2 : ref37_lists_p3_K2 β} {a b x x2 x3 x4 x5 x6 x7 x8 x9 x10 x11 x12 x14} :
    ref37_lists_p3 k1 k2 a b 0 x x2 x3 x4 x5 x6 x7 x8 x9 x10 x11 x12 [] x14 = k2 b x x2 x3 x4 x5 x6 x7 x8 x9 x10 x11 x12 [] x14 := by kernel_rfl

theorem rtasks {ts : List api_Task} (h : ∀ t ∈ ts, TaskOk t) (hl : ts.length ≤ 16) (k1 : ref37_lists_p1_K1 β) (k2 : ref37_lists_p1_K2 β) {x x2 x3 x5 x6 x7 x8 x9 x11 x12 x13 x14} :
    ref37_lists_p1 k1 k2 0 x x2 x3 864000 x5 x6 x7 x8 x9 ts x11 x12 x13 x14 = k2 x x2 x3 864000 x5 x6 x7 x8 x9 ts x11 x12 x13 x14 := by
  refine fold_loop (σ := Unit) (fun m i _ => ref37_lists_p1_n m k1 k2 i x x2 x3 864000 x5 x6 x7 x8 x9 ts x11 x12 x13 x14)
    (fun _ _ => ()) (fun _ => k2 x x2 x3 864000 x5 x6 x7 x8 x9 ts x11 x12 x13 x14) ([], (0, (0, 0))) ts () fuel (lt_fuel (by omega)) (fun m i s hi => ?_) (fun m s => ?_)
  · have he := getD_ok h hi ([], (0, (0, 0)))
    obtain ⟨e, hee, h1, h2, h3, h4⟩ : ∃ e, ts.getD i ([], (0, (0, 0))) = e ∧ TaskOk e := ⟨_, rfl, he⟩
    simp only [ref37_lists_p1_step, ref37_lists_p1_s, Int.toNat_natCast, hee]
    by_cases hd : e.2.2.2 = -1
    · simp (disch := omega) only [c_pos, c_inb, h1, rchk_t, rbody_t, rin_t, c_f, c_t, c_npos, Bool.not_true, i64_in]
    · simp (disch := omega) only [c_pos, c_inb, h1, rchk_t, rbody_t, rin_t, c_f, c_t, c_nneg, Bool.not_true, i64_in]
  · simp only [ref37_lists_p1_step, ref37_lists_p1_s]
    rw [c_neg (by omega)]

theorem rlists_t {ts : List api_Task} (h : ∀ t ∈ ts, TaskOk t) (hl : ts.length ≤ 16) (k : Bool → Option β) : ref37_lists (inc ts) k = k true := by
  unfold ref37_lists ref37_lists_s
  refine (rtasks h hl _ _).trans ?_
  refine rupd.trans ?_
  refine rchg.trans ?_
  rfl

theorem rcheck_gen (c : T_ref37_lists) {ts : List api_Task} (k : Bool → Option β) :
    ref37_Check_s ref25_In ref25_Set ref37_Text c ref37_state ref37_Check_p1 ref37_Check_p2 (inc ts) k =
      cond (decide ((16 : Int) < (ts.length : Int))) (k false) (c (inc ts) (fun r => cond (!r) (k false) (k true))) := by kernel_rfl

theorem rcheck_t {ts : List api_Task} (h : ∀ t ∈ ts, TaskOk t) (hl : ts.length ≤ 16) (k : Bool → Option β) : ref37_Check (inc ts) k = k true := by
  unfold ref37_Check
  refine (rcheck_gen _ k).trans ?_
  rw [c_neg (by omega), rlists_t h hl]
  rfl
end
end
end Go.Lift
