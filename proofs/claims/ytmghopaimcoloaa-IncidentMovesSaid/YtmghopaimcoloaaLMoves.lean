/- IncidentMoves in plain Lean: an incident with changes. -/
import Derived.Test.YtmghopaimcoloaaFn0
import Derived.Test.YtmghopaimcoloaaLBase
import Derived.Test.YtmghopaimcoloaaLDice
import Derived.Test.YtmghopaimcoloaaLTasks
namespace Go.Lift
open Go.RowKit Go.IntWalk
noncomputable section
set_option linter.unusedVariables false
set_option linter.unusedSimpArgs false
set_option maxRecDepth 10000

abbrev Chg := Int × Int × Int
abbrev incm (st : Int) (chs : List Chg) : api_Incident := (1, (st, (2, (864000, (dsk, ((-1, (-1, -1)), ([], ([], ([], ([], (chs, 0)))))))))))
abbrev cd : Chg := (0, (0, 0))

/-- Changes that ascend, from (a, s) to (a', s'). -/
def ChainOk : Int → Int → List Chg → Int → Int → Prop
  | a, s, [], a', s' => a' = a ∧ s' = s
  | a, s, c :: l, a', s' => (a ≤ c.1 ∧ c.1 ≤ 900000) ∧ (0 ≤ c.2.1 ∧ c.2.1 ≤ 3) ∧ c.2.1 ≠ s ∧ (-1 ≤ c.2.2 ∧ c.2.2 ≤ 31) ∧ ChainOk c.1 c.2.1 l a' s'

theorem ChainOk.append : ∀ {l : List Chg} {a s a' s' : Int} {c : Chg}, ChainOk a s l a' s' → a' ≤ c.1 ∧ c.1 ≤ 900000 → 0 ≤ c.2.1 ∧ c.2.1 ≤ 3 → c.2.1 ≠ s' → -1 ≤ c.2.2 ∧ c.2.2 ≤ 31 → ChainOk a s (l ++ [c]) c.1 c.2.1
  | [], a, s, a', s', c, ⟨h1, h2⟩, h3, h4, h5, h6 => by subst h1 h2; exact ⟨h3, h4, h5, h6, rfl, rfl⟩
  | x :: l, a, s, a', s', c, ⟨h1, h2, h3, h4, h5⟩, g3, g4, g5, g6 => ⟨h1, h2, h3, h4, ChainOk.append h5 g3 g4 g5 g6⟩

theorem ChainOk.foldl : ∀ {l : List Chg} {a s a' s' : Int}, ChainOk a s l a' s' → l.foldl (fun (p : Int × Int) c => (c.1, c.2.1)) (a, s) = (a', s')
  | [], a, s, a', s', ⟨h1, h2⟩ => by rw [h1, h2]; rfl
  | x :: l, a, s, a', s', ⟨_, _, _, _, h5⟩ => by
    have := ChainOk.foldl h5
    simp only [List.foldl_cons]
    exact this

theorem ChainOk.max : ∀ {l : List Chg} {a s a' s' : Int}, ChainOk a s l a' s' → l.foldl (fun (p : Int) c => if c.1 > p then c.1 else p) a = a'
  | [], a, s, a', s', ⟨h1, _⟩ => h1.symm
  | x :: l, a, s, a', s', ⟨⟨h1, _⟩, _, _, _, h5⟩ => by
    simp only [List.foldl_cons]
    have : (if x.1 > a then x.1 else a) = x.1 := by split <;> omega
    rw [this]
    exact ChainOk.max h5

theorem ChainOk.bd : ∀ {l : List Chg} {a s a' s' : Int}, ChainOk a s l a' s' → a ≤ a'
  | [], a, s, a', s', ⟨h1, _⟩ => by omega
  | x :: l, a, s, a', s', ⟨⟨h1, _⟩, _, _, _, h5⟩ => by have := ChainOk.bd h5; omega

def stAt (l : List Chg) (at_ s : Int) : Int := l.foldl (fun (s : Int) c => if c.1 ≤ at_ then c.2.1 else s) s

theorem ChainOk.stAt : ∀ {l : List Chg} {a s a' s' at_ : Int}, ChainOk a s l a' s' → a' ≤ at_ → Go.Lift.stAt l at_ s = s'
  | [], a, s, a', s', at_, ⟨_, h2⟩, _ => h2.symm
  | x :: l, a, s, a', s', at_, ⟨⟨h1, _⟩, _, _, _, h5⟩, h => by
    have hb := ChainOk.bd h5
    have := ChainOk.stAt h5 h
    simp only [Go.Lift.stAt, List.foldl_cons] at this ⊢
    rw [if_pos (by omega)]
    exact this

theorem stAt_app (l : List Chg) (c : Chg) (at_ s : Int) : stAt (l ++ [c]) at_ s = if c.1 ≤ at_ then c.2.1 else stAt l at_ s := by
  simp [stAt, List.foldl_append]

theorem ChainOk.drop {l : List Chg} {a s a' s' : Int} {i : Nat} (hi : i < l.length) (h : ChainOk a s (l.drop i) a' s') :
    (a ≤ (l.getD i cd).1 ∧ (l.getD i cd).1 ≤ 900000) ∧ (0 ≤ (l.getD i cd).2.1 ∧ (l.getD i cd).2.1 ≤ 3) ∧ (l.getD i cd).2.1 ≠ s ∧ (-1 ≤ (l.getD i cd).2.2 ∧ (l.getD i cd).2.2 ≤ 31) ∧ ChainOk (l.getD i cd).1 (l.getD i cd).2.1 (l.drop (i + 1)) a' s' := by
  rw [List.drop_eq_getElem_cons hi] at h
  have : l.getD i cd = l[i] := by simp [List.getD, hi]
  rw [this]
  exact h

section
variable {β : Type}

theorem changes_loop {chs : List Chg} {a' s' : Int} (h : ChainOk 864000 0 chs a' s') (hl : chs.length ≤ 32) (k1 : incident_changes_p1_K1 β) (k2 : incident_changes_p1_K2 β) {x x2 x3 x4 x5 x6 x7 x8 x9 x10 x11 x12 x13 x14} :
    incident_changes_p1 k1 k2 864000 0 chs (chs.length : Int) 0 x x2 x3 x4 x5 x6 x7 x8 x9 x10 x11 x12 x13 x14 = k2 s' x x2 x3 x4 x5 x6 x7 x8 x9 x10 x11 x12 x13 x14 := by
  have := fold_loopI (fun i (p : Int × Int) => ChainOk p.1 p.2 (chs.drop i) a' s') (fun m i (p : Int × Int) => incident_changes_p1_n m k1 k2 p.1 p.2 chs (chs.length : Int) i x x2 x3 x4 x5 x6 x7 x8 x9 x10 x11 x12 x13 x14)
    (fun _ c => (c.1, c.2.1)) (fun p => k2 p.2 x x2 x3 x4 x5 x6 x7 x8 x9 x10 x11 x12 x13 x14) cd chs (864000, 0) fuel (lt_fuel (by omega)) (by simpa using h)
    (fun i p hi hp => (ChainOk.drop hi hp).2.2.2.2)
    (fun m i p hi hp => by
      obtain ⟨e, hee, h1, h2, h3, h4, h5⟩ : ∃ e, chs.getD i cd = e ∧ _ := ⟨_, rfl, ChainOk.drop hi hp⟩
      rw [hee] at h1 h2 h3 h4
      simp only [incident_changes_p1_step, incident_changes_p1_s, Int.toNat_natCast, hee]
      simp (disch := omega) only [c_pos, c_neg, c_inb, body_t, in_t, c_f, c_t, Bool.not_true, i64_in])
    (fun m p hp => by
      simp only [incident_changes_p1_step, incident_changes_p1_s]
      rw [c_neg (by omega)])
  rw [h.foldl] at this
  exact this

theorem changesm_t {st : Int} {chs : List Chg} {a' : Int} (h : ChainOk 864000 0 chs a' st) (hl : chs.length ≤ 32) (k : Bool → Option β) : incident_changes (incm st chs) k = k true := by
  unfold incident_changes incident_changes_s
  refine (changes_loop h hl _ _).trans ?_
  refine (c_pos (p := (chs.length : Int) ≤ 32) (by omega)).trans ?_
  exact k_eq (decide_eq_true rfl)

theorem tasksm_t {st : Int} {chs : List Chg} {k : Bool → Option β} : incident_tasks (incm st chs) k = k true := by kernel_rfl
theorem updatesm_t {st : Int} {chs : List Chg} {k : Bool → Option β} : incident_updates (incm st chs) k = k true := by kernel_rfl
theorem setm_t {k : Bool → Option β} : incident_set [] 1 999999 k = k true := by kernel_rfl

theorem checkm_gen (c1 : T_incident_tasks) (c2 : T_incident_updates) (c3 : T_incident_changes) {st : Int} {chs : List Chg} (hst : 0 ≤ st ∧ st ≤ 3) (k : Bool → Option β) :
    incident_Check_s incident_Text incident_in incident_number incident_persons incident_set incident_Check_p1 (incident_Check_p2_u c3 c1 c2) (incm st chs) k =
      c1 (incm st chs) (fun r => cond r (c2 (incm st chs) (fun r => cond r (c3 (incm st chs) (fun r => k r)) (k false))) (k false)) := by
  refine Eq.trans (b := cond (decide (st = (4 : Int))) (incident_number 0 fun r => cond (!r) (k false) (cond (decide ((0 : Int) = 1)) (k false) (cond (!decide (st = (4 : Int))) (cond (!decide ((0 : Int) = 0)) (k false) (incident_Check_p2_u c3 c1 c2 (fun t2 => k t2) 1 st 2 864000 dsk (-1) (-1) (-1) [] [] [] [] chs 0)) (incident_Check_p2_u c3 c1 c2 (fun t2 => k t2) 1 st 2 864000 dsk (-1) (-1) (-1) [] [] [] [] chs 0))))
    (cond (!decide (st = (4 : Int))) (incident_Check_p2_u c3 c1 c2 (fun t2 => k t2) 1 st 2 864000 dsk (-1) (-1) (-1) [] [] [] [] chs 0) (incident_Check_p2_u c3 c1 c2 (fun t2 => k t2) 1 st 2 864000 dsk (-1) (-1) (-1) [] [] [] [] chs 0))) (by kernel_rfl) ?_
  rw [c_neg (by omega), c_same]
  rfl

theorem checkm_t {st : Int} {chs : List Chg} {a' : Int} (h : ChainOk 864000 0 chs a' st) (hst : 0 ≤ st ∧ st ≤ 3) (hl : chs.length ≤ 32) (k : Bool → Option β) : incident_Check (incm st chs) k = k true := by
  unfold incident_Check incident_Check_p2
  refine (checkm_gen _ _ _ hst k).trans ?_
  rw [tasksm_t, c_t, updatesm_t, c_t, changesm_t h hl]

theorem at_t {st : Int} {chs : List Chg} {a' : Int} (h : ChainOk 864000 0 chs a' st) (hst : 0 ≤ st ∧ st ≤ 3) (hl : chs.length ≤ 32) (at_ : Int) (k : Int → Option β) :
    incident_At (incm st chs) at_ k = k (if at_ < 864000 then -1 else stAt chs at_ 0) := by
  unfold incident_At incident_At_s
  refine (checkm_t h hst hl _).trans ?_
  by_cases hlt : at_ < 864000
  · rw [if_pos hlt]
    exact c_pos hlt
  · rw [if_neg hlt]
    refine (c_neg hlt).trans ?_
    refine fold_loop (fun m i (s : Int) => incident_At_p1_n m (fun state => k state) at_ s chs (chs.length : Int) i) (fun (s : Int) c => if c.1 ≤ at_ then c.2.1 else s) (fun s => k s) cd chs 0 fuel (lt_fuel (by omega)) (fun m i s hi => ?_) (fun m s => ?_)
    · simp only [incident_At_p1_step, incident_At_p1_s, Int.toNat_natCast]
      have e1 : IntKind.i64.wrap ((i : Int) + 1) = i + 1 := i64_in _ (by omega)
      rw [c_pos (by omega), c_inb (by omega), e1]
      by_cases hc : (chs.getD i cd).1 ≤ at_
      · rw [c_pos hc, if_pos hc]
      · rw [c_neg hc, if_neg hc]
    · simp only [incident_At_p1_step, incident_At_p1_s]
      rw [c_neg (by omega)]

theorem latest_t {st : Int} {chs : List Chg} {a' : Int} (h : ChainOk 864000 0 chs a' st) (hl : chs.length ≤ 32) (k : Int → Option β) : incident_latest (incm st chs) k = k a' := by
  have hp1 : ∀ k1 : incident_latest_p1_K1 β, incident_latest_p1 k1 864000 [] 0 0 1 st 2 864000 dsk (-1) (-1) (-1) [] [] [] [] chs 0 = k1 864000 1 st 2 864000 dsk (-1) (-1) (-1) [] [] [] [] chs 0 := fun k1 => by kernel_rfl
  have hp2 : ∀ k1 : incident_latest_p2_K1 β, incident_latest_p2 k1 864000 chs (chs.length : Int) 0 = k1 a' := fun k1 => by
    have := fold_loop (fun m i (s : Int) => incident_latest_p2_n m k1 s chs (chs.length : Int) i) (fun (p : Int) c => if c.1 > p then c.1 else p) (fun s => k1 s) cd chs 864000 fuel (lt_fuel (by omega))
      (fun m i s hi => by
        have e1 : IntKind.i64.wrap ((i : Int) + 1) = i + 1 := i64_in _ (by omega)
        simp only [incident_latest_p2_step, incident_latest_p2_s, Int.toNat_natCast]
        rw [c_pos (by omega), c_inb (by omega), e1])
      (fun m s => by
        simp only [incident_latest_p2_step, incident_latest_p2_s]
        rw [c_neg (by omega)])
    rw [h.max] at this
    exact this
  unfold incident_latest incident_latest_s
  exact (hp1 _).trans (hp2 _)
end
end
end Go.Lift
