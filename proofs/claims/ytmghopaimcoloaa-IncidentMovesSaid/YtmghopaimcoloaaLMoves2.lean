/- IncidentMoves in plain Lean: what Move makes of it, and the law. -/
import Derived.Test.YtmghopaimcoloaaFn0
import Derived.Test.YtmghopaimcoloaaLBase
import Derived.Test.YtmghopaimcoloaaLDice
import Derived.Test.YtmghopaimcoloaaLTasks
import Derived.Test.YtmghopaimcoloaaLMoves
namespace Go.Lift
open Go.RowKit Go.IntWalk
noncomputable section
set_option linter.unusedVariables false
set_option linter.unusedSimpArgs false
set_option maxRecDepth 10000

def poss (st to : Int) : Bool := decide (st = 0 ∧ (to = 1 ∨ to = 2) ∨ st = 1 ∧ (to = 0 ∨ to = 2) ∨ st = 2 ∧ (to = 0 ∨ to = 3))

section
variable {β : Type}
theorem state_cases {st : Int} (h : 0 ≤ st ∧ st ≤ 3) : st = 0 ∨ st = 1 ∨ st = 2 ∨ st = 3 := by omega

theorem can_t {st to : Int} {chs : List Chg} (hst : 0 ≤ st ∧ st ≤ 2) (hto : 0 ≤ to ∧ to ≤ 3) (k : Bool → Option β) : incident_can (incm st chs) to k = k (poss st to) := by
  have h1 : st = 0 ∨ st = 1 ∨ st = 2 := by omega
  have h2 := state_cases hto
  rcases h1 with rfl | rfl | rfl <;> rcases h2 with rfl | rfl | rfl | rfl <;> rfl

theorem rposs_t {st to : Int} (hst : 0 ≤ st ∧ st ≤ 3) (hto : 0 ≤ to ∧ to ≤ 3) (k : Bool → Option β) : ref37_Possible st to k = k (poss st to) := by
  rcases state_cases hst with rfl | rfl | rfl | rfl <;> rcases state_cases hto with rfl | rfl | rfl | rfl <;> kernel_rfl

theorem changeablem {st : Int} {chs : List Chg} {a' : Int} (h : ChainOk 864000 0 chs a' st) (hst : 0 ≤ st ∧ st ≤ 3) (hl : chs.length ≤ 32) (k : Int → Option β) :
    incident_changeable (incm st chs) true k = k (if st = 3 then 9 else 0) := by
  unfold incident_changeable incident_changeable_s
  refine (checkm_t h hst hl _).trans ?_
  rcases state_cases hst with rfl | rfl | rfl | rfl <;> rfl

theorem copiedm {st : Int} {chs : List Chg} (hl : chs.length ≤ 32) {k} : (incident_copied (incm st chs) k : Option β) = k 1 st 2 864000 dsk (-1) (-1) (-1) 0 [] [] [] [] chs := by
  unfold incident_copied incident_copied_s
  refine Eq.trans (b := cond (decide (chs.length * 24 ≤ roomMax)) (k 1 st 2 864000 dsk (-1) (-1) (-1) 0 [] [] [] [] chs) none) ?_ (c_room (by omega))
  kernel_rfl

theorem openm {k : api_Incident → Int → Option β} : incident_Open 1 864000 2 dsk 0 k = k (incm 0 []) 0 := by kernel_rfl

section
variable {c1 : T_incident_changeable} {c2 : T_incident_in} {c3 : T_incident_latest} {c4 : T_incident_somebody} {c5 : T_incident_can} {c6 : T_incident_copied} {st : Int} {chs : List Chg} {a' now to who : Int} {k : api_Incident → Int → Option β}

theorem move_closed (h1 : ∀ k, (c3 (incm st chs) k : Option β) = k a') (h2 : ∀ k, (c2 now a' 8589934592 k : Option β) = k true) (h3 : ∀ k, (c4 who k : Option β) = k true) (h4 : ∀ k, (c1 (incm st chs) true k : Option β) = k 9) :
    incident_Move_s c1 c2 c3 c4 (incident_Move_p1_u c5 c6) (incm st chs) now to who k = k zinc 9 := by
  unfold incident_Move_s
  refine (h1 _).trans ?_
  refine (h2 _).trans ?_
  refine (h3 _).trans ?_
  refine (h4 _).trans ?_
  exact c_nneg (p := (9 : Int) = 0) (by decide)

theorem move_merged (hto : to = 4) (h1 : ∀ k, (c3 (incm st chs) k : Option β) = k a') (h2 : ∀ k, (c2 now a' 8589934592 k : Option β) = k true) (h3 : ∀ k, (c4 who k : Option β) = k true) (h4 : ∀ k, (c1 (incm st chs) true k : Option β) = k 0) :
    incident_Move_s c1 c2 c3 c4 (incident_Move_p1_u c5 c6) (incm st chs) now to who k = k zinc 9 := by
  unfold incident_Move_s
  refine (h1 _).trans ?_
  refine (h2 _).trans ?_
  refine (h3 _).trans ?_
  refine (h4 _).trans ?_
  refine (c_npos (p := (0 : Int) = 0) rfl).trans ?_
  unfold incident_Move_p1_u incident_Move_p1_s
  exact c_pos hto

theorem move_cannot (hto : to ≠ 4) (h1 : ∀ k, (c3 (incm st chs) k : Option β) = k a') (h2 : ∀ k, (c2 now a' 8589934592 k : Option β) = k true) (h3 : ∀ k, (c4 who k : Option β) = k true) (h4 : ∀ k, (c1 (incm st chs) true k : Option β) = k 0)
    (h5 : ∀ k, (c5 (incm st chs) to k : Option β) = k false) :
    incident_Move_s c1 c2 c3 c4 (incident_Move_p1_u c5 c6) (incm st chs) now to who k = k zinc 9 := by
  unfold incident_Move_s
  refine (h1 _).trans ?_
  refine (h2 _).trans ?_
  refine (h3 _).trans ?_
  refine (h4 _).trans ?_
  refine (c_npos (p := (0 : Int) = 0) rfl).trans ?_
  unfold incident_Move_p1_u incident_Move_p1_s
  refine (c_neg hto).trans ?_
  exact h5 _

theorem move_can (hto : to ≠ 4) (hl : chs.length < 32) (h1 : ∀ k, (c3 (incm st chs) k : Option β) = k a') (h2 : ∀ k, (c2 now a' 8589934592 k : Option β) = k true) (h3 : ∀ k, (c4 who k : Option β) = k true) (h4 : ∀ k, (c1 (incm st chs) true k : Option β) = k 0)
    (h5 : ∀ k, (c5 (incm st chs) to k : Option β) = k true) (h6 : ∀ k, (c6 (incm st chs) k : Option β) = k 1 st 2 864000 dsk (-1) (-1) (-1) 0 [] [] [] [] chs) :
    incident_Move_s c1 c2 c3 c4 (incident_Move_p1_u c5 c6) (incm st chs) now to who k = k (incm to (chs ++ [(now, (to, who))])) 0 := by
  unfold incident_Move_s
  refine (h1 _).trans ?_
  refine (h2 _).trans ?_
  refine (h3 _).trans ?_
  refine (h4 _).trans ?_
  refine (c_npos (p := (0 : Int) = 0) rfl).trans ?_
  unfold incident_Move_p1_u incident_Move_p1_s
  refine (c_neg hto).trans ?_
  refine (h5 _).trans ?_
  refine (c_neg (p := (chs.length : Int) = 32) (by omega)).trans ?_
  refine (h6 _).trans ?_
  exact c_room (by simp only [List.length_cons, List.length_nil]; omega)
end

theorem move_t {st : Int} {chs : List Chg} {a' : Int} (h : ChainOk 864000 0 chs a' st) (hst : 0 ≤ st ∧ st ≤ 3) (hl : chs.length < 32) {now to who : Int} (hn : a' ≤ now ∧ now ≤ 900000) (hto : 0 ≤ to ∧ to ≤ 4) (hw : 0 ≤ who ∧ who ≤ 3) (k : api_Incident → Int → Option β) :
    incident_Move (incm st chs) now to who k = if to ≠ 4 ∧ poss st to = true then k (incm to (chs ++ [(now, (to, who))])) 0 else k zinc 9 := by
  have g1 : ∀ k : Int → Option β, incident_latest (incm st chs) k = k a' := fun k => latest_t h (by omega) k
  have g2 : ∀ k : Bool → Option β, incident_in now a' 8589934592 k = k true := fun k => in_t (by omega)
  have g3 : ∀ k : Bool → Option β, incident_somebody who k = k true := fun k => body_t (by omega)
  have g4 : ∀ k : Int → Option β, incident_changeable (incm st chs) true k = k (if st = 3 then 9 else 0) := fun k => changeablem h hst (by omega) k
  unfold incident_Move incident_Move_p1
  by_cases h3 : st = 3
  · have hp : poss st to = false := by subst h3; unfold poss; simp
    rw [if_neg (by rw [hp]; simp)]
    exact move_closed g1 g2 g3 (fun k => (g4 k).trans (by rw [if_pos h3]))
  · have g4' : ∀ k : Int → Option β, incident_changeable (incm st chs) true k = k 0 := fun k => (g4 k).trans (by rw [if_neg h3])
    by_cases h4 : to = 4
    · rw [if_neg (by simp [h4])]
      exact move_merged h4 g1 g2 g3 g4'
    · have g5 : ∀ k : Bool → Option β, incident_can (incm st chs) to k = k (poss st to) := fun k => can_t (by omega) (by omega) k
      cases hp : poss st to with
      | true =>
        rw [if_pos ⟨h4, rfl⟩]
        exact move_can h4 hl g1 g2 g3 g4' (fun k => (g5 k).trans (by rw [hp])) (fun k => copiedm (by omega))
      | false =>
        rw [if_neg (by simp)]
        exact move_cannot h4 g1 g2 g3 g4' (fun k => (g5 k).trans (by rw [hp]))

/-! ### The reference's check -/
theorem rchanges {chs : List Chg} {a' s' : Int} (h : ChainOk 864000 0 chs a' s') (hl : chs.length ≤ 32) (k1 : ref37_lists_p3_K1 β) (k2 : ref37_lists_p3_K2 β) {x x2 x3 x4 x5 x6 x7 x8 x9 x10 x11 x12 x14} :
    ref37_lists_p3 k1 k2 864000 0 0 x x2 x3 x4 x5 x6 x7 x8 x9 x10 x11 x12 chs x14 = k2 s' x x2 x3 x4 x5 x6 x7 x8 x9 x10 x11 x12 chs x14 := by
  have := fold_loopI (fun i (p : Int × Int) => ChainOk p.1 p.2 (chs.drop i) a' s') (fun m i (p : Int × Int) => ref37_lists_p3_n m k1 k2 p.1 p.2 i x x2 x3 x4 x5 x6 x7 x8 x9 x10 x11 x12 chs x14)
    (fun _ c => (c.1, c.2.1)) (fun p => k2 p.2 x x2 x3 x4 x5 x6 x7 x8 x9 x10 x11 x12 chs x14) cd chs (864000, 0) fuel (lt_fuel (by omega)) (by simpa using h)
    (fun i p hi hp => (ChainOk.drop hi hp).2.2.2.2)
    (fun m i p hi hp => by
      obtain ⟨e, hee, h1, h2, h3, h4, h5⟩ : ∃ e, chs.getD i cd = e ∧ _ := ⟨_, rfl, ChainOk.drop hi hp⟩
      rw [hee] at h1 h2 h3 h4
      simp only [ref37_lists_p3_step, ref37_lists_p3_s, ref37_state, ref37_state_s, Int.toNat_natCast, hee]
      simp (disch := omega) only [c_pos, c_neg, c_inb, rbody_t, rin_t, c_f, c_t, Bool.not_true, i64_in])
    (fun m p hp => by
      simp only [ref37_lists_p3_step, ref37_lists_p3_s]
      rw [c_neg (by omega)])
  rw [h.foldl] at this
  exact this

theorem rlistsm {st : Int} {chs : List Chg} {a' : Int} (h : ChainOk 864000 0 chs a' st) (hl : chs.length ≤ 32) (k : Bool → Option β) : ref37_lists (incm st chs) k = k true := by
  have g1 : ∀ (k1 : ref37_lists_p1_K1 β) (k2 : ref37_lists_p1_K2 β), ref37_lists_p1 k1 k2 0 1 st 2 864000 dsk (-1) (-1) (-1) [] [] [] [] chs 0 = k2 1 st 2 864000 dsk (-1) (-1) (-1) [] [] [] [] chs 0 := fun k1 k2 => by kernel_rfl
  unfold ref37_lists ref37_lists_s
  refine (g1 _ _).trans ?_
  refine rupd.trans ?_
  refine (rchanges h hl _ _).trans ?_
  exact k_eq (decide_eq_true rfl)

theorem rcheckm_gen (c : T_ref37_lists) {st : Int} {chs : List Chg} (hst : 0 ≤ st ∧ st ≤ 3) (k : Bool → Option β) :
    ref37_Check_s ref25_In ref25_Set ref37_Text c ref37_state ref37_Check_p1 ref37_Check_p2 (incm st chs) k =
      cond (decide ((32 : Int) < (chs.length : Int))) (k false) (c (incm st chs) (fun r => cond (!r) (k false) (k true))) := by
  rcases state_cases hst with rfl | rfl | rfl | rfl <;> kernel_rfl

theorem rcheckm {st : Int} {chs : List Chg} {a' : Int} (h : ChainOk 864000 0 chs a' st) (hst : 0 ≤ st ∧ st ≤ 3) (hl : chs.length ≤ 32) (k : Bool → Option β) : ref37_Check (incm st chs) k = k true := by
  unfold ref37_Check
  refine (rcheckm_gen _ hst k).trans ?_
  rw [c_neg (by omega), rlistsm h hl]
  rfl
end
end
end Go.Lift
