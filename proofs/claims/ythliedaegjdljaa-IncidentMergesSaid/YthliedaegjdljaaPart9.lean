/- Part9: LDice1, LInc10, LInc11, LInc12, LInc13, LIncMerges. -/
import Derived.Test.YthliedaegjdljaaPart8
set_option linter.unusedVariables false
set_option linter.unusedSimpArgs false
namespace Go.Lift
open Go.RowKit Go.IntWalk
noncomputable section
set_option linter.unusedVariables false
set_option linter.unusedSimpArgs false
theorem one_ok {l : List Int} {d : Dice} (hl : 0 < l.length) (hlen : l.length ≤ 1000000) (hd : DiceOk d) :
    ∃ x d', x ∈ l ∧ DiceOk d' ∧ ∀ {β : Type} (k : Int → Dice → Option β), zq1f l d k = k x d' := by
  obtain ⟨x, d', h1, h2, hd', hf⟩ := next_ok (n := (l.length : Int)) hd (by omega)
  have hxn : x.toNat < l.length := by omega
  refine ⟨l.getD x.toNat 0, d', ?_, hd', fun k => ?_⟩
  · simp [List.getD, hxn]
  · simp (disch := omega) only [zq1f, zq1c, hf, c_inb]
end
end Go.Lift
namespace Go.Lift
open Go.RowKit Go.IntWalk
noncomputable section
set_option linter.unusedVariables false
set_option linter.unusedSimpArgs false
set_option maxRecDepth 10000
structure KeptI (x : Inc) (now : Int) (y : Inc) : Prop where
  chk : checkI y = true
  id : y.id = x.id
  op : y.op = x.op
  st : y.st ≠ 4
  last : lastI y ≤ now
theorem ready_st {x : Inc} (h : readyI x = 0) : x.st ≠ 3 ∧ x.st ≠ 4 := by
  unfold readyI at h
  by_cases hc : checkI x = true
  · rw [if_pos hc] at h
    by_cases h2 : x.st = 3 ∨ x.st = 4
    · rw [if_pos h2] at h; omega
    · exact ⟨fun e => h2 (Or.inl e), fun e => h2 (Or.inr e)⟩
  · rw [if_neg hc] at h; omega
theorem into_zero {x : Inc} (hc : checkI x = true) (h : x.st ≠ 4) : x.in = 0 := by
  obtain ⟨-, -, -, -, -, -, -, -, h9, -⟩ := checkI_iff.1 hc
  rw [decide_eq_false h] at h9
  simpa using h9
section
variable {x : Inc} {now : Int}
theorem assignV_ok (hc : checkI x = true) (hl : lastI x ≤ now) (role who : Int) (h0 : (assignV x role who).2 = 0) : KeptI x now (assignV x role who).1 := by
  unfold assignV at h0 ⊢
  by_cases hr : readyI x = 0
  rotate_left
  · rw [if_neg hr] at h0; exact absurd h0 hr
  rw [if_pos hr] at h0 ⊢
  by_cases h1 : inB role 0 2 = true
  rotate_left
  · rw [if_neg h1] at h0; exact absurd h0 (by decide)
  rw [if_pos h1] at h0 ⊢
  by_cases h2 : bodyB who = true
  rotate_left
  · rw [if_neg h2] at h0; exact absurd h0 (by decide)
  rw [if_pos h2]
  obtain ⟨a1, a2, a3, a4, ⟨b1, b2, b3⟩, a6, a7, a8, a9, a10, a11, a12, a13, a14⟩ := checkI_iff.1 hc
  refine ⟨checkI_iff.2 ⟨a1, a2, a3, a4, ?_, a6, a7, a8, a9, a10, a11, a12, a13, a14⟩, rfl, rfl, (ready_st hr).2, hl⟩
  show bodyB (setRole x.ro role who).1 = true ∧ bodyB (setRole x.ro role who).2.1 = true ∧ bodyB (setRole x.ro role who).2.2 = true
  unfold setRole
  by_cases e0 : role = 0
  · rw [if_pos e0]; exact ⟨h2, b2, b3⟩
  · rw [if_neg e0]
    by_cases e1 : role = 1
    · rw [if_pos e1]; exact ⟨b1, h2, b3⟩
    · rw [if_neg e1]; exact ⟨b1, b2, h2⟩
theorem possI_ne {st to : Int} (h : possI st to = true) : to ≠ st ∧ 0 ≤ to ∧ to ≤ 4 := by
  unfold possI at h
  simp only [Bool.or_eq_true, Bool.and_eq_true, decide_eq_true_eq] at h
  omega
theorem moved_ok (hc : checkI x = true) (hst : x.st ≠ 4) {at_ to who : Int} (h1 : inB at_ (lastI x) 8589934592 = true) (h2 : bodyB who = true) (h3 : to ≠ 4) (h4 : possI x.st to = true) (h5 : x.ch.length < 32) : checkI (movedI x at_ to who) = true ∧ lastI (movedI x at_ to who) ≤ at_ := by
  obtain ⟨a1, a2, a3, a4, a5, a6, a7, a8, a9, a10, a11, a12, a13, a14⟩ := checkI_iff.1 hc
  have h1 := inB_iff.1 h1
  have hn := possI_ne h4
  have hcl := cAt_le a11.1
  have hlen : (x.ch ++ [(at_, (to, who))]).length = x.ch.length + 1 := by simp
  refine ⟨checkI_iff.2 ⟨a1, a2, a3, a4, a5, a6, a7, a8, ?_, a10, a11, ?_, ?_, ?_⟩, ?_⟩
  · show (cond (decide (to = 4)) _ (decide (x.in = 0))) = true
    rw [decide_eq_false h3, into_zero hc hst]
    rfl
  · show chgB (x.ch ++ [(at_, (to, who))]) x.op = true
    rw [chg_snoc, a12]
    simp only [Bool.and_eq_true, Bool.not_eq_true', decide_eq_false_iff_not, inB_iff, Bool.true_and]
    exact ⟨by omega, hn.2, fun e => hn.1 (e.trans a14.symm), h2⟩
  · show (x.ch ++ [(at_, (to, who))]).length ≤ 32
    omega
  · show to = cSt (x.ch ++ [(at_, (to, who))]) (x.ch ++ [(at_, (to, who))]).length
    rw [cSt_snoc]
  · have hu := last_ge_u (x := x)
    show (if (x.ch ++ [(at_, (to, who))]).length = 0 then _ else (if cAt (x.ch ++ [(at_, (to, who))]) x.op (x.ch ++ [(at_, (to, who))]).length > uAt x.up x.op x.up.length then cAt (x.ch ++ [(at_, (to, who))]) x.op (x.ch ++ [(at_, (to, who))]).length else uAt x.up x.op x.up.length)) ≤ at_
    rw [if_neg (by omega), cAt_snoc]
    split <;> omega
theorem moveV_ok (hc : checkI x = true) (hl : lastI x ≤ now) (to who : Int) (h0 : (moveV x now to who).2 = 0) : KeptI x now (moveV x now to who).1 := by
  unfold moveV at h0 ⊢
  by_cases hr : readyI x = 0
  rotate_left
  · rw [if_neg hr] at h0; exact absurd h0 hr
  rw [if_pos hr] at h0 ⊢
  by_cases h1 : inB now (lastI x) 8589934592 = true
  rotate_left
  · rw [if_neg h1] at h0; exact absurd h0 (by decide)
  rw [if_pos h1] at h0 ⊢
  by_cases h2 : bodyB who = true
  rotate_left
  · rw [if_neg h2] at h0; exact absurd h0 (by decide)
  rw [if_pos h2] at h0 ⊢
  by_cases h3 : to = 4
  · rw [if_pos h3] at h0; exact absurd h0 (by decide)
  rw [if_neg h3] at h0 ⊢
  by_cases h4 : possI x.st to = true
  rotate_left
  · rw [if_neg h4] at h0; exact absurd h0 (by decide)
  rw [if_pos h4] at h0 ⊢
  by_cases h5 : 32 ≤ x.ch.length
  · rw [if_pos h5] at h0; exact absurd h0 (by decide)
  rw [if_neg h5]
  have hm := moved_ok hc (ready_st hr).2 h1 h2 h3 h4 (by omega)
  exact ⟨hm.1, rfl, rfl, h3, hm.2⟩
theorem addV_ok (hc : checkI x = true) (hl : lastI x ≤ now) (at_ who : Int) (text : List UInt8) (h0 : (addV x at_ who text).2 = 0) : KeptI x now (addV x at_ who text).1 := by
  unfold addV at h0 ⊢
  by_cases hr : readyI x = 0
  rotate_left
  · rw [if_neg hr] at h0; exact absurd h0 hr
  rw [if_pos hr] at h0 ⊢
  by_cases h1 : inB at_ x.op 8589934592 = true
  rotate_left
  · rw [if_neg h1] at h0; exact absurd h0 (by decide)
  rw [if_pos h1] at h0 ⊢
  by_cases h2 : bodyB who = true
  rotate_left
  · rw [if_neg h2] at h0; exact absurd h0 (by decide)
  rw [if_pos h2] at h0 ⊢
  by_cases h3 : textB text = true
  rotate_left
  · rw [if_neg h3] at h0; exact absurd h0 (by decide)
  rw [if_pos h3] at h0 ⊢
  by_cases h5 : 16 ≤ x.ts.length
  · rw [if_pos h5] at h0; exact absurd h0 (by decide)
  rw [if_neg h5]
  obtain ⟨a1, a2, a3, a4, a5, a6, a7, a8, a9, ⟨a10, b10⟩, a11, a12, a13, a14⟩ := checkI_iff.1 hc
  refine ⟨checkI_iff.2 ⟨a1, a2, a3, a4, a5, a6, a7, a8, a9, ⟨?_, ?_⟩, a11, a12, a13, a14⟩, rfl, rfl, (ready_st hr).2, hl⟩
  · show (x.ts ++ [(text, (who, (at_, -1)))]).all (taskB x.op) = true
    rw [List.all_append, a10]
    simp [taskB, h1, h2, h3]
  · show (x.ts ++ [(text, (who, (at_, -1)))]).length ≤ 16
    rw [List.length_append]
    simp only [List.length_cons, List.length_nil]
    omega
theorem finishV_ok (hc : checkI x = true) (hl : lastI x ≤ now) (task at_ : Int) (h0 : (finishV x task at_).2 = 0) : KeptI x now (finishV x task at_).1 := by
  unfold finishV at h0 ⊢
  by_cases hr : readyI x = 0
  rotate_left
  · rw [if_neg hr] at h0; exact absurd h0 hr
  rw [if_pos hr] at h0 ⊢
  by_cases h1 : inB at_ x.op 8589934592 = true
  rotate_left
  · rw [if_neg h1] at h0; exact absurd h0 (by decide)
  rw [if_pos h1] at h0 ⊢
  by_cases h2 : inB task 0 ((x.ts.length : Int) - 1) = true
  rotate_left
  · rw [if_neg h2] at h0; exact absurd h0 (by decide)
  rw [if_pos h2] at h0 ⊢
  by_cases h3 : (x.ts.getD task.toNat tdI).2.2.2 = -1
  rotate_left
  · rw [if_neg h3] at h0; exact absurd h0 (by decide)
  rw [if_pos h3] at h0 ⊢
  by_cases h5 : at_ < (x.ts.getD task.toNat tdI).2.2.1
  · rw [if_pos h5] at h0; exact absurd h0 (by decide)
  rw [if_neg h5]
  have h1 := inB_iff.1 h1
  have h2 := inB_iff.1 h2
  obtain ⟨a1, a2, a3, a4, a5, a6, a7, a8, a9, ⟨a10, b10⟩, a11, a12, a13, a14⟩ := checkI_iff.1 hc
  refine ⟨checkI_iff.2 ⟨a1, a2, a3, a4, a5, a6, a7, a8, a9, ⟨?_, ?_⟩, a11, a12, a13, a14⟩, rfl, rfl, (ready_st hr).2, hl⟩
  · show (doneT x.ts task.toNat at_).all (taskB x.op) = true
    have hm := List.all_eq_true.1 a10 _ (mem_getD (d := tdI) (show task.toNat < x.ts.length by omega))
    rw [List.all_eq_true]
    intro t ht
    unfold doneT at ht
    rcases List.mem_or_eq_of_mem_set ht with g | g
    · exact List.all_eq_true.1 a10 t g
    · rw [g]
      unfold taskB at hm ⊢
      simp only [Bool.and_eq_true, Bool.or_eq_true, inB_iff, decide_eq_true_eq] at hm ⊢
      exact ⟨hm.1, hm.2.1, hm.2.2.1, Or.inr (by omega)⟩
  · show (doneT x.ts task.toNat at_).length ≤ 16
    unfold doneT
    rw [List.length_set]
    exact b10
theorem set_with {l : List Int} {lo hi x : Int} (h : setB l lo hi = true) (hx : lo ≤ x ∧ x ≤ hi) : setB (withL l x) lo hi = true := by
  have h := setB_iff.1 h
  refine setB_iff.2 ⟨withL_asc h.1, fun y hy => ?_⟩
  rcases withL_mem.1 hy with e | e
  · subst e; exact hx
  · exact h.2 y e
theorem subscribeV_ok (hc : checkI x = true) (hl : lastI x ≤ now) (who : Int) (h0 : (subscribeV x who).2 = 0) : KeptI x now (subscribeV x who).1 := by
  unfold subscribeV at h0 ⊢
  by_cases hr : readyI x = 0
  rotate_left
  · rw [if_neg hr] at h0; exact absurd h0 hr
  rw [if_pos hr] at h0 ⊢
  by_cases h1 : inB who 0 31 = true
  rotate_left
  · rw [if_neg h1] at h0; exact absurd h0 (by decide)
  rw [if_pos h1] at h0 ⊢
  by_cases h5 : who ∈ x.su
  · rw [if_pos h5] at h0; exact absurd h0 (by decide)
  rw [if_neg h5]
  obtain ⟨a1, a2, a3, a4, a5, a6, a7, a8, a9, a10, a11, a12, a13, a14⟩ := checkI_iff.1 hc
  exact ⟨checkI_iff.2 ⟨a1, a2, a3, a4, a5, a6, a7, set_with a8 (inB_iff.1 h1), a9, a10, a11, a12, a13, a14⟩, rfl, rfl, (ready_st hr).2, hl⟩
theorem linkV_ok (hc : checkI x = true) (hl : lastI x ≤ now) (page : Int) (h0 : (linkV x page).2 = 0) : KeptI x now (linkV x page).1 := by
  unfold linkV at h0 ⊢
  by_cases hr : readyI x = 0
  rotate_left
  · rw [if_neg hr] at h0; exact absurd h0 hr
  rw [if_pos hr] at h0 ⊢
  by_cases h1 : inB page 1 999999 = true
  rotate_left
  · rw [if_neg h1] at h0; exact absurd h0 (by decide)
  rw [if_pos h1] at h0 ⊢
  by_cases h5 : page ∈ x.pg
  · rw [if_pos h5] at h0; exact absurd h0 (by decide)
  rw [if_neg h5] at h0 ⊢
  by_cases h6 : 64 ≤ x.pg.length
  · rw [if_pos h6] at h0; exact absurd h0 (by decide)
  rw [if_neg h6]
  obtain ⟨a1, a2, a3, a4, a5, a6, a7, a8, a9, a10, a11, a12, a13, a14⟩ := checkI_iff.1 hc
  have := withL_len page x.pg
  exact ⟨checkI_iff.2 ⟨a1, a2, a3, a4, a5, set_with a6 (inB_iff.1 h1), by show (withL x.pg page).length ≤ 64; omega, a8, a9, a10, a11, a12, a13, a14⟩, rfl, rfl, (ready_st hr).2, hl⟩
theorem set_told {l : List Int} {r : Int} (h : setB l 0 31 = true) (hr : bodyB r = true) : setB (toldStep l r) 0 31 = true := by
  unfold toldStep
  have hr := bodyB_iff.1 hr
  by_cases h0 : 0 ≤ r
  · rw [if_pos h0]; exact set_with h (by omega)
  · rw [if_neg h0]; exact h
theorem told_set (hc : checkI x = true) : setB (toldI x) 0 31 = true := by
  obtain ⟨a1, a2, a3, a4, ⟨b1, b2, b3⟩, a6, a7, a8, a9, a10, a11, a12, a13, a14⟩ := checkI_iff.1 hc
  exact set_told (set_told (set_told a8 b1) b2) b3
theorem told_ok (hc : checkI x = true) (hst : x.st ≠ 4) {at_ : Int} {text : List UInt8} (h1 : inB at_ (lastI x) 8589934592 = true) (h3 : textB text = true) (h5 : x.up.length < 32) :
    checkI (withUpds x (x.up ++ [(at_, (x.st, (text, toldI x)))])) = true ∧ lastI (withUpds x (x.up ++ [(at_, (x.st, (text, toldI x)))])) ≤ at_ := by
  have h1 := inB_iff.1 h1
  have hs := state_of hc
  obtain ⟨a1, a2, a3, a4, a5, a6, a7, a8, a9, a10, ⟨a11, b11⟩, a12, a13, a14⟩ := checkI_iff.1 hc
  have hu := last_ge_u (x := x)
  have hcl := cAt_le (x := x) a11
  refine ⟨checkI_iff.2 ⟨a1, a2, a3, a4, a5, a6, a7, a8, a9, a10, ⟨?_, ?_⟩, a12, a13, a14⟩, ?_⟩
  · show updB (x.up ++ [(at_, (x.st, (text, toldI x)))]) x.op = true
    rw [upd_snoc, a11]
    simp only [Bool.and_eq_true, inB_iff, Bool.true_and]
    exact ⟨by omega, hs, h3, told_set hc⟩
  · show (x.up ++ [(at_, (x.st, (text, toldI x)))]).length ≤ 32
    rw [List.length_append]
    simp only [List.length_cons, List.length_nil]
    omega
  · show (if x.ch.length = 0 then uAt (x.up ++ [(at_, (x.st, (text, toldI x)))]) x.op (x.up ++ [(at_, (x.st, (text, toldI x)))]).length else (if cAt x.ch x.op x.ch.length > uAt (x.up ++ [(at_, (x.st, (text, toldI x)))]) x.op (x.up ++ [(at_, (x.st, (text, toldI x)))]).length then cAt x.ch x.op x.ch.length else uAt (x.up ++ [(at_, (x.st, (text, toldI x)))]) x.op (x.up ++ [(at_, (x.st, (text, toldI x)))]).length)) ≤ at_
    rw [uAt_snoc]
    split
    · exact Int.le_refl _
    · split <;> omega
theorem tellV_ok (hc : checkI x = true) (hl : lastI x ≤ now) (text : List UInt8) (h0 : (tellV x now text).2.1 = 0) : KeptI x now (tellV x now text).1 := by
  unfold tellV at h0 ⊢
  by_cases hr : readyI x = 0
  rotate_left
  · rw [if_neg hr] at h0; exact absurd h0 hr
  rw [if_pos hr] at h0 ⊢
  by_cases h1 : inB now (lastI x) 8589934592 = true
  rotate_left
  · rw [if_neg h1] at h0; exact absurd h0 (by decide)
  rw [if_pos h1] at h0 ⊢
  by_cases h3 : textB text = true
  rotate_left
  · rw [if_neg h3] at h0; exact absurd h0 (by decide)
  rw [if_pos h3] at h0 ⊢
  by_cases h5 : 32 ≤ x.up.length
  · rw [if_pos h5] at h0; exact absurd h0 (by decide)
  rw [if_neg h5]
  have hm := told_ok hc (ready_st hr).2 h1 h3 (by omega)
  exact ⟨hm.1, rfl, rfl, (ready_st hr).2, hm.2⟩
end
end
end Go.Lift
namespace Go.Lift
open Go.RowKit Go.IntWalk
noncomputable section
set_option linter.unusedVariables false
set_option linter.unusedSimpArgs false
set_option maxRecDepth 10000
def P1 {β : Type} (k1 : zqnp β) (now i e t : Int) (b : Bool) (d : Dice) (x y : Inc) : Option β :=
  zqo6 k1 now i e t b d.1 d.2 0 0 0 0 [] 0 0 0 0 x.1 x.2.1 x.2.2.1 x.2.2.2.1 x.2.2.2.2.1 x.2.2.2.2.2.1.1 x.2.2.2.2.2.1.2.1 x.2.2.2.2.2.1.2.2 x.2.2.2.2.2.2.1 x.2.2.2.2.2.2.2.1 x.2.2.2.2.2.2.2.2.1 x.2.2.2.2.2.2.2.2.2.1 x.2.2.2.2.2.2.2.2.2.2.1 x.2.2.2.2.2.2.2.2.2.2.2
    y.1 y.2.1 y.2.2.1 y.2.2.2.1 y.2.2.2.2.1 y.2.2.2.2.2.1.1 y.2.2.2.2.2.1.2.1 y.2.2.2.2.2.1.2.2 y.2.2.2.2.2.2.1 y.2.2.2.2.2.2.2.1 y.2.2.2.2.2.2.2.2.1 y.2.2.2.2.2.2.2.2.2.1 y.2.2.2.2.2.2.2.2.2.2.1 y.2.2.2.2.2.2.2.2.2.2.2 [] [] [] [] []
def Q1 {β : Type} (k1 : zqnp β) (now i e : Int) (d : Dice) (x y : Inc) : Option β :=
  k1 now i e d.1 d.2 0 0 0 0 [] 0 0 0 0 x.1 x.2.1 x.2.2.1 x.2.2.2.1 x.2.2.2.2.1 x.2.2.2.2.2.1.1 x.2.2.2.2.2.1.2.1 x.2.2.2.2.2.1.2.2 x.2.2.2.2.2.2.1 x.2.2.2.2.2.2.2.1 x.2.2.2.2.2.2.2.2.1 x.2.2.2.2.2.2.2.2.2.1 x.2.2.2.2.2.2.2.2.2.2.1 x.2.2.2.2.2.2.2.2.2.2.2
    y.1 y.2.1 y.2.2.1 y.2.2.2.1 y.2.2.2.2.1 y.2.2.2.2.2.1.1 y.2.2.2.2.2.1.2.1 y.2.2.2.2.2.1.2.2 y.2.2.2.2.2.2.1 y.2.2.2.2.2.2.2.1 y.2.2.2.2.2.2.2.2.1 y.2.2.2.2.2.2.2.2.2.1 y.2.2.2.2.2.2.2.2.2.2.1 y.2.2.2.2.2.2.2.2.2.2.2 [] [] [] [] []
def P2 {β : Type} (k1 : zqnt β) (N : Nat) (now i : Int) (d : Dice) (x : Inc) : Option β :=
  zqo8 N k1 now i d.1 d.2 0 0 0 0 [] 0 0 0 0 x.1 x.2.1 x.2.2.1 x.2.2.2.1 x.2.2.2.2.1 x.2.2.2.2.2.1.1 x.2.2.2.2.2.1.2.1 x.2.2.2.2.2.1.2.2 x.2.2.2.2.2.2.1 x.2.2.2.2.2.2.2.1 x.2.2.2.2.2.2.2.2.1 x.2.2.2.2.2.2.2.2.2.1 x.2.2.2.2.2.2.2.2.2.2.1 x.2.2.2.2.2.2.2.2.2.2.2 [] [] [] [] []
def Q2 {β : Type} (k1 : zqnt β) (d : Dice) (x : Inc) : Option β :=
  k1 d.1 d.2 0 0 0 0 [] 0 0 0 0 x.1 x.2.1 x.2.2.1 x.2.2.2.1 x.2.2.2.2.1 x.2.2.2.2.2.1.1 x.2.2.2.2.2.1.2.1 x.2.2.2.2.2.1.2.2 x.2.2.2.2.2.2.1 x.2.2.2.2.2.2.2.1 x.2.2.2.2.2.2.2.2.1 x.2.2.2.2.2.2.2.2.2.1 x.2.2.2.2.2.2.2.2.2.2.1 x.2.2.2.2.2.2.2.2.2.2.2 [] [] [] [] []
theorem made_p1 {x : Inc} (hc : checkI x = true) (hst : x.st ≠ 4) {now : Int} (hl : lastI x ≤ now) (i t : Int) (b : Bool) {d : Dice} (hd : DiceOk d) :
    ∃ y e d', (e = 0 → KeptI x now y) ∧ DiceOk d' ∧ ∀ {β : Type} (k1 : zqnp β), P1 k1 now i 0 t b d x x = Q1 k1 now i e d' x y := by
  have hs := valid_sized hc
  have hsu : x.su.length ≤ 1000 := by
    obtain ⟨-, -, -, -, -, -, -, a8, -⟩ := checkI_iff.1 hc
    have := asc_short a8
    omega
  cases b with
  | true =>
    obtain ⟨a, d1, ha0, ha1, hd1, f1⟩ := next_ok (n := 5) hd (by omega)
    obtain ⟨w, d2, hw0, hw1, hd2, f2⟩ := next_ok (n := 4) hd1 (by omega)
    refine ⟨(moveV x now a w).1, (moveV x now a w).2, d2, moveV_ok hc hl a w, hd2, fun k1 => ?_⟩
    unfold P1 zqo6 zqny zqnx
    refine c_t.trans ?_
    refine (f1 _).trans ?_
    refine (f2 _).trans ?_
    exact rMove_eq (x := x) hs hc now a w _
  | false =>
  by_cases h4 : t = 4
  · obtain ⟨a, d1, ha0, ha1, hd1, f1⟩ := next_ok (n := 4) hd (by omega)
    refine ⟨(addV x now a [100, 111, 32, 105, 116]).1, (addV x now a [100, 111, 32, 105, 116]).2, d1, addV_ok hc hl now a _, hd1, fun k1 => ?_⟩
    unfold P1 zqo6 zqny zqnx
    refine c_f.trans ?_
    refine (c_pos h4).trans ?_
    refine (f1 _).trans ?_
    exact rAdd_eq (x := x) hs now a _ (by simp) _
  by_cases h5 : t = 5
  · obtain ⟨a, d1, ha0, ha1, hd1, f1⟩ := next_ok (n := 3) hd (by omega)
    refine ⟨(finishV x a now).1, (finishV x a now).2, d1, finishV_ok hc hl a now, hd1, fun k1 => ?_⟩
    unfold P1 zqo6 zqny zqnx
    refine c_f.trans ?_
    refine (c_neg h4).trans ?_
    refine (c_pos h5).trans ?_
    refine (f1 _).trans ?_
    exact rFinish_eq (x := x) hs a now _
  by_cases h6 : t = 6
  · obtain ⟨a, d1, ha0, ha1, hd1, f1⟩ := next_ok (n := 6) hd (by omega)
    refine ⟨(subscribeV x a).1, (subscribeV x a).2, d1, subscribeV_ok hc hl a, hd1, fun k1 => ?_⟩
    unfold P1 zqo6 zqny zqnx
    refine c_f.trans ?_
    refine (c_neg h4).trans ?_
    refine (c_neg h5).trans ?_
    refine (c_pos h6).trans ?_
    refine (f1 _).trans ?_
    exact rSubscribe_eq (x := x) hs a _
  by_cases h7 : t = 7
  · refine ⟨(tellV x now [110, 101, 119, 115]).1, (tellV x now [110, 101, 119, 115]).2.1, d, tellV_ok hc hl _, hd, fun k1 => ?_⟩
    unfold P1 zqo6 zqny zqnx
    refine c_f.trans ?_
    refine (c_neg h4).trans ?_
    refine (c_neg h5).trans ?_
    refine (c_neg h6).trans ?_
    refine (c_pos h7).trans ?_
    exact rTell_eq (x := x) hs hc now _ (by simp) hsu _
  by_cases h8 : t = 8
  · obtain ⟨a, d1, ha0, ha1, hd1, f1⟩ := next_ok (n := 5) hd (by omega)
    refine ⟨(linkV x (1 + a)).1, (linkV x (1 + a)).2, d1, linkV_ok hc hl (1 + a), hd1, fun k1 => ?_⟩
    unfold P1 zqo6 zqny zqnx
    refine c_f.trans ?_
    refine (c_neg h4).trans ?_
    refine (c_neg h5).trans ?_
    refine (c_neg h6).trans ?_
    refine (c_neg h7).trans ?_
    refine (c_pos h8).trans ?_
    refine (f1 _).trans ?_
    rw [i64_in (1 + a) (by omega)]
    exact rLink_eq (x := x) hs (1 + a) _
  · refine ⟨x, 0, d, fun _ => ⟨hc, rfl, rfl, hst, hl⟩, hd, fun k1 => ?_⟩
    unfold P1 zqo6 zqny zqnx
    refine c_f.trans ?_
    refine (c_neg h4).trans ?_
    refine (c_neg h5).trans ?_
    refine (c_neg h6).trans ?_
    refine (c_neg h7).trans ?_
    exact c_neg h8
structure MadeI (id op : Int) (now i : Int) (d : Dice) (x : Inc) : Prop where
  chk : checkI x = true
  id : x.id = id
  op : x.op = op
  st : x.st ≠ 4
  last : lastI x ≤ now
  dice : DiceOk d
  low : 0 ≤ now
  far : now ≤ 864050 + 60 * (100 - i)
  i0 : 0 ≤ i ∧ i ≤ 100
theorem made_step {id op now i : Int} {d : Dice} {x : Inc} (h : MadeI id op now i d x) (hi : 0 < i) :
    ∃ now' d' x', MadeI id op now' (i - 1) d' x' ∧ ∀ {β : Type} (k1 : zqnt β) (m : Nat), P2 k1 (m + 1) now i d x = P2 k1 m now' (i - 1) d' x' := by
  have hs := valid_sized h.chk
  have hi0 := h.i0
  have hlow := h.low
  have hfar := h.far
  obtain ⟨o, d1, ho, hd1, f1⟩ := one_ok (l := [0, 5, 60]) (by simp) (by simp) h.dice
  have ho' : 0 ≤ o ∧ o ≤ 60 := by simp at ho; omega
  have ew : IntKind.i64.wrap (now + o) = now + o := i64_in _ (by omega)
  have ei : IntKind.i64.wrap (i - 1) = i - 1 := i64_in _ (by omega)
  obtain ⟨t, d2, ht0, ht1, hd2, f2⟩ := next_ok (n := 9) hd1 (by omega)
  have hl : lastI x ≤ now + o := by have := h.last; omega
  have same : MadeI id op (now + o) (i - 1) d2 x := ⟨h.chk, h.id, h.op, h.st, hl, hd2, by omega, by omega, by omega⟩
  have keep : ∀ {y d'}, KeptI x (now + o) y → DiceOk d' → MadeI id op (now + o) (i - 1) d' y := fun hy hd' => ⟨hy.chk, hy.id.trans h.id, hy.op.trans h.op, hy.st, hy.last, hd', by omega, by omega, by omega⟩
  have skip : ∀ {d'}, DiceOk d' → MadeI id op (now + o) (i - 1) d' x := fun hd' => ⟨h.chk, h.id, h.op, h.st, hl, hd', by omega, by omega, by omega⟩
  by_cases h0 : t = 0
  · obtain ⟨r, d3, hr0, hr1, hd3, f3⟩ := next_ok (n := 3) hd2 (by omega)
    obtain ⟨w, d4, hw0, hw1, hd4, f4⟩ := next_ok (n := 5) hd3 (by omega)
    have ev : IntKind.i64.wrap (w - 1) = w - 1 := i64_in _ (by omega)
    by_cases he : (assignV x r (w - 1)).2 = 0
    · refine ⟨now + o, d4, (assignV x r (w - 1)).1, keep (assignV_ok h.chk hl _ _ he) hd4, fun k1 m => ?_⟩
      unfold P2
      rw [zqo9]
      unfold zqo0
      refine (c_pos hi).trans ?_
      refine (f1 _).trans ?_
      refine (f2 _).trans ?_
      refine (c_pos h0).trans ?_
      refine (f3 _).trans ?_
      refine (f4 _).trans ?_
      rw [ev, ew, ei]
      refine (rAssign_eq (x := x) hs _ _ _).trans ?_
      exact c_pos he
    · refine ⟨now + o, d4, x, skip hd4, fun k1 m => ?_⟩
      unfold P2
      rw [zqo9]
      unfold zqo0
      refine (c_pos hi).trans ?_
      refine (f1 _).trans ?_
      refine (f2 _).trans ?_
      refine (c_pos h0).trans ?_
      refine (f3 _).trans ?_
      refine (f4 _).trans ?_
      rw [ev, ew, ei]
      refine (rAssign_eq (x := x) hs _ _ _).trans ?_
      exact c_neg he
  · obtain ⟨b, hb⟩ : ∃ b : Bool, b = (decide (t = 1) || (decide (t = 2) || decide (t = 3))) := ⟨_, rfl⟩
    obtain ⟨y, e, d3, hy, hd3, f3⟩ := made_p1 h.chk h.st hl i t b hd2
    have go : ∀ {β : Type} (k1 : zqnt β) (m : Nat), P2 k1 (m + 1) now i d x = cond (decide (e = 0)) (P2 k1 m (now + o) (i - 1) d3 y) (P2 k1 m (now + o) (i - 1) d3 x) := by
      intro β k1 m
      have tail := f3 (β := β) (fun now3 i_2 e d3 d4 t610 t611 t612 t613 t614 t615 t616 t617 t618 x15 x16 x17 x18 x19 x20 x21 x22 x23 x24 x25 x26 x27 x28 y y2 y3 y4 y5 y6 y7 y8 y9 y10 y11 y12 y13 y14 b4_2 b5_2 b6_2 b7_2 b8_ =>
        cond (decide (e = 0)) (zqo8 m k1 now3 (IntKind.i64.wrap (i_2 - (1 : Int))) d3 d4 t610 t611 t612 t613 t614 t615 t616 t617 t618 y y2 y3 y4 y5 y6 y7 y8 y9 y10 y11 y12 y13 y14 b4_2 b5_2 b6_2 b7_2 b8_)
        (zqo8 m k1 now3 (IntKind.i64.wrap (i_2 - (1 : Int))) d3 d4 t610 t611 t612 t613 t614 t615 t616 t617 t618 x15 x16 x17 x18 x19 x20 x21 x22 x23 x24 x25 x26 x27 x28 b4_2 b5_2 b6_2 b7_2 b8_))
      unfold Q1 at tail
      dsimp only at tail
      rw [ei] at tail
      unfold P2
      rw [zqo9]
      unfold zqo0
      refine (c_pos hi).trans ?_
      refine (f1 _).trans ?_
      refine (f2 _).trans ?_
      refine (c_neg h0).trans ?_
      dsimp only
      rw [ew]
      by_cases h1 : t = 1
      · have hb1 : b = true := by rw [hb, h1]; rfl
        rw [hb1] at tail
        refine (c_pos h1).trans ?_
        rw [decide_eq_true h1]
        exact tail
      refine (c_neg h1).trans ?_
      by_cases h2 : t = 2
      · have hb1 : b = true := by rw [hb, h2]; rfl
        rw [hb1] at tail
        refine (c_pos h2).trans ?_
        rw [decide_eq_true h2]
        exact tail
      refine (c_neg h2).trans ?_
      have hb1 : b = decide (t = 3) := by rw [hb, decide_eq_false h1, decide_eq_false h2]; rfl
      rw [hb1] at tail
      exact tail
    by_cases he : e = 0
    · refine ⟨now + o, d3, y, keep (hy he) hd3, fun k1 m => ?_⟩
      rw [go]
      exact c_pos he
    · refine ⟨now + o, d3, x, skip hd3, fun k1 m => ?_⟩
      rw [go]
      exact c_neg he
theorem made_loop (id op : Int) : ∀ (N : Nat) (now i : Int) (d : Dice) (x : Inc), MadeI id op now i d x → i.toNat < N →
    ∃ now' d' x', MadeI id op now' 0 d' x' ∧ ∀ {β : Type} (k1 : zqnt β), P2 k1 N now i d x = Q2 k1 d' x'
  | 0, _, _, _, _, _, hN => absurd hN (by omega)
  | N + 1, now, i, d, x, h, hN => by
    by_cases hi : 0 < i
    · obtain ⟨now', d', x', h', f⟩ := made_step h hi
      obtain ⟨now2, d2, x2, h2, g⟩ := made_loop id op N now' (i - 1) d' x' h' (by have := h.i0; omega)
      exact ⟨now2, d2, x2, h2, fun k1 => (f k1 N).trans (g k1)⟩
    · have : i = 0 := by have := h.i0; omega
      subst this
      refine ⟨now, d, x, h, fun k1 => ?_⟩
      unfold P2 Q2
      rw [zqo9]
      unfold zqo0
      exact c_neg hi
theorem incident_ok (id n : Int) (hid : 1 ≤ id ∧ id ≤ 999999) (hn : 0 ≤ n ∧ n ≤ 90) {d : Dice} (hd : DiceOk d) :
    ∃ x d', checkI x = true ∧ x.id = id ∧ x.st ≠ 4 ∧ (x.op = 864000 ∨ x.op = 864050) ∧ lastI x ≤ 870050 ∧ DiceOk d' ∧ ∀ {β : Type} (k : Inc → Dice → Option β), zqoc id n d k = k x d' := by
  obtain ⟨o, d1, ho, hd1, f1⟩ := one_ok (l := [0, 50]) (by simp) (by simp) hd
  have ho' : o = 0 ∨ o = 50 := by simpa using ho
  obtain ⟨s, d2, hs0, hs1, hd2, f2⟩ := next_ok (n := 5) hd1 (by omega)
  obtain ⟨p, d3, hp0, hp1, hd3, f3⟩ := next_ok (n := 3) hd2 (by omega)
  obtain ⟨c, d4, hc0, hc1, hd4, f4⟩ := next_ok (n := n + 1) hd3 (by omega)
  have hck : checkI (openX id (864000 + o) (1 + s) [116, 114, 111, 117, 98, 108, 101] p) = true := by
    refine checkI_iff.2 ⟨hid, by show 1 ≤ 1 + s ∧ 1 + s ≤ 5; omega, by show 0 ≤ 864000 + o ∧ 864000 + o ≤ 8589934592; omega, (show textB [116, 114, 111, 117, 98, 108, 101] = true by decide), (show bodyB (-1) = true ∧ bodyB (-1) = true ∧ bodyB (-1) = true by decide), ?_, ?_, (show setB [] 0 31 = true by decide), rfl, ⟨rfl, Nat.zero_le _⟩, ⟨rfl, Nat.zero_le _⟩, rfl, Nat.zero_le _, rfl⟩
    · show setB (if p = 0 then [] else [p]) 1 999999 = true
      have : p = 0 ∨ p = 1 ∨ p = 2 := by omega
      rcases this with rfl | rfl | rfl <;> decide
    · show (if p = 0 then ([] : List Int) else [p]).length ≤ 64
      split <;> simp
  have hm : MadeI id (864000 + o) (864000 + o) c d4 (openX id (864000 + o) (1 + s) [116, 114, 111, 117, 98, 108, 101] p) := by
    refine ⟨hck, rfl, rfl, by show (0 : Int) ≠ 4; decide, ?_, hd4, by omega, by omega, by omega⟩
    exact Int.le_refl (864000 + o)
  obtain ⟨now', d', x', h', g⟩ := made_loop id (864000 + o) fuel (864000 + o) c d4 _ hm (lt_fuel (by omega))
  have hfar := h'.far
  refine ⟨x', d', h'.chk, h'.id, h'.st, by have := h'.op; omega, by have := h'.last; omega, h'.dice, fun k => ?_⟩
  unfold zqoc zqo3
  refine (f1 _).trans ?_
  refine (f2 _).trans ?_
  refine (f3 _).trans ?_
  rw [i64_in (864000 + o) (by omega), i64_in (1 + s) (by omega)]
  refine (rOpen_eq _ _ _ _ (by simp) _ _).trans ?_
  rw [if_pos hck]
  rw [i64_in (n + 1) (by omega)]
  refine (f4 _).trans ?_
  unfold zqoa
  exact g _
end
end Go.Lift
namespace Go.Lift
open Go.RowKit Go.IntWalk
noncomputable section
set_option linter.unusedVariables false
set_option linter.unusedSimpArgs false
set_option maxRecDepth 10000
section
variable {β : Type}
theorem rsame_self (l : List Int) (hl : l.length ≤ 100000) (k : Bool → Option β) : zq64 l l k = k true := by
  unfold zq64 zq5x
  refine (c_npos rfl).trans ?_
  unfold zq62
  have h := scan_state l.length (fun _ => ()) (fun _ => true) (fun m j _ => zq60 m (fun t => k t) (fun _ => k true) l l j) (k true) none fuel (lt_fuel (by omega))
    (fun m i hi => by
      rw [zq61]
      unfold zq5u
      refine (c_pos (by omega)).trans ?_
      refine (c_inb (by omega)).trans ?_
      refine (c_inb (by omega)).trans ?_
      refine (c_npos rfl).trans ?_
      dsimp only
      rw [i64_in ((i : Int) + 1) (by omega)]
      rfl)
    (fun m => by
      rw [zq61]
      unfold zq5u
      exact c_neg (by omega))
  rw [all_true] at h
  exact h
theorem isame_p1 {a10 : List ITask} (hl : a10.length ≤ 100000) (k1 : zqd1 β) (k2 : zqd2 β) {a a2 a3 a4 a5 a6 a7 a8 a9 a11 a12 a13 a14 b b2 b3 b4 b5 b6 b7 b8 b9 b11 b12 b13 b14} :
    zqdu k1 k2 0 a a2 a3 a4 a5 a6 a7 a8 a9 a10 a11 a12 a13 a14 b b2 b3 b4 b5 b6 b7 b8 b9 a10 b11 b12 b13 b14 = k2 a a2 a3 a4 a5 a6 a7 a8 a9 a10 a11 a12 a13 a14 b b2 b3 b4 b5 b6 b7 b8 b9 a10 b11 b12 b13 b14 := by
  unfold zqdu
  have h := scan_state a10.length (fun _ => ()) (fun _ => true) (fun m i _ => zqds m k1 k2 i a a2 a3 a4 a5 a6 a7 a8 a9 a10 a11 a12 a13 a14 b b2 b3 b4 b5 b6 b7 b8 b9 a10 b11 b12 b13 b14) (k2 a a2 a3 a4 a5 a6 a7 a8 a9 a10 a11 a12 a13 a14 b b2 b3 b4 b5 b6 b7 b8 b9 a10 b11 b12 b13 b14) none fuel (lt_fuel (by omega))
    (fun m i hi => by
      rw [zqdt]
      unfold zqdg
      refine (c_pos (by omega)).trans ?_
      refine (c_inb (by omega)).trans ?_
      refine (c_inb (by omega)).trans ?_
      simp only [decide_true, Bool.and_true, Bool.not_true, cond_false, cond_true]
      rw [i64_in ((i : Int) + 1) (by omega)])
    (fun m => by
      rw [zqdt]
      unfold zqdg
      exact c_neg (by omega))
  rw [all_true] at h
  exact h
theorem isame_p2 {a13 : List IChg} (hl : a13.length ≤ 100000) (k1 : zqd6 β) (k2 : zqd7 β) {a a2 a3 a4 a5 a6 a7 a8 a9 a10 a11 a12 a14 b b2 b3 b4 b5 b6 b7 b8 b9 b10 b11 b12 b14} :
    zqdy k1 k2 0 a a2 a3 a4 a5 a6 a7 a8 a9 a10 a11 a12 a13 a14 b b2 b3 b4 b5 b6 b7 b8 b9 b10 b11 b12 a13 b14 = k2 a a2 a3 a4 a5 a6 a7 a8 a9 a10 a11 a12 a13 a14 b b2 b3 b4 b5 b6 b7 b8 b9 b10 b11 b12 a13 b14 := by
  unfold zqdy
  have h := scan_state a13.length (fun _ => ()) (fun _ => true) (fun m i _ => zqdw m k1 k2 i a a2 a3 a4 a5 a6 a7 a8 a9 a10 a11 a12 a13 a14 b b2 b3 b4 b5 b6 b7 b8 b9 b10 b11 b12 a13 b14) (k2 a a2 a3 a4 a5 a6 a7 a8 a9 a10 a11 a12 a13 a14 b b2 b3 b4 b5 b6 b7 b8 b9 b10 b11 b12 a13 b14) none fuel (lt_fuel (by omega))
    (fun m i hi => by
      rw [zqdx]
      unfold zqdj
      refine (c_pos (by omega)).trans ?_
      refine (c_inb (by omega)).trans ?_
      refine (c_inb (by omega)).trans ?_
      simp only [decide_true, Bool.and_true, Bool.not_true, cond_false, cond_true]
      rw [i64_in ((i : Int) + 1) (by omega)])
    (fun m => by
      rw [zqdx]
      unfold zqdj
      exact c_neg (by omega))
  rw [all_true] at h
  exact h
theorem isame_p3 {a11 : List IUpd} (hl : a11.length ≤ 100000) (hu : ∀ u ∈ a11, u.2.2.2.length ≤ 100000) (k1 : zqdb β) (k2 : zqdc β) {a a2 a3 a4 a5 a6 a7 a8 a9 a10 a12 a13 a14 b b2 b3 b4 b5 b6 b7 b8 b9 b10 b12 b13 b14} :
    zqe2 k1 k2 0 a a2 a3 a4 a5 a6 a7 a8 a9 a10 a11 a12 a13 a14 b b2 b3 b4 b5 b6 b7 b8 b9 b10 a11 b12 b13 b14 = k2 () := by
  unfold zqe2
  have h := scan_state a11.length (fun _ => ()) (fun _ => true) (fun m i _ => zqe0 m k1 k2 i a a2 a3 a4 a5 a6 a7 a8 a9 a10 a11 a12 a13 a14 b b2 b3 b4 b5 b6 b7 b8 b9 b10 a11 b12 b13 b14) (k2 ()) none fuel (lt_fuel (by omega))
    (fun m i hi => by
      have h1 := hu _ (mem_getD (d := ((0, (0, ([], []))) : IUpd)) hi)
      rw [zqe1]
      unfold zqdm
      refine (c_pos (by omega)).trans ?_
      refine (c_inb (by omega)).trans ?_
      refine (c_inb (by omega)).trans ?_
      refine (c_npos rfl).trans ?_
      refine (c_npos rfl).trans ?_
      refine (c_npos rfl).trans ?_
      dsimp only
      rw [Int.toNat_natCast]
      refine (rsame_self _ h1 _).trans ?_
      refine c_f.trans ?_
      rw [i64_in ((i : Int) + 1) (by omega)]
      rfl)
    (fun m => by
      rw [zqe1]
      unfold zqdm
      exact c_neg (by omega))
  rw [all_true] at h
  exact h
theorem isame_self {x : Inc} (hs : SizedI x) (k : Bool → Option β) : zqe4 x x k = k true := by
  unfold zqe4 zqdp
  refine (c_npos rfl).trans ?_
  refine (c_npos rfl).trans ?_
  refine (c_npos rfl).trans ?_
  refine (c_npos rfl).trans ?_
  refine (c_npos rfl).trans ?_
  have e : (decide (x.2.2.2.2.2.1.1 = x.2.2.2.2.2.1.1) && (decide (x.2.2.2.2.2.1.2.1 = x.2.2.2.2.2.1.2.1) && (decide (x.2.2.2.2.2.1.2.2 = x.2.2.2.2.2.1.2.2) && true))) = true := by simp
  rw [e]
  refine c_f.trans ?_
  refine (c_npos rfl).trans ?_
  refine (rsame_self _ hs.pg _).trans ?_
  refine c_f.trans ?_
  refine (rsame_self _ hs.su _).trans ?_
  refine c_f.trans ?_
  refine (c_npos rfl).trans ?_
  refine (c_npos rfl).trans ?_
  refine (c_npos rfl).trans ?_
  refine (isame_p1 hs.ts _ _).trans ?_
  refine (isame_p2 hs.ch _ _).trans ?_
  exact isame_p3 hs.up hs.ul _ _
end
theorem line_ok {d : Dice} (hd : DiceOk d) : ∃ s d', s.length ≤ 20 ∧ DiceOk d' ∧ ∀ {β : Type} (k : List UInt8 → Dice → Option β), zq24 d k = k s d' := by
  obtain ⟨r, d1, hr0, hr1, hd1, f1⟩ := next_ok (n := 7) hd (by omega)
  obtain ⟨o, d2, ho, hd2, f2⟩ := one_ok (l := [0, 1, 2, 0, 1, 5, r]) (by simp) (by simp) hd1
  have ho' : 0 ≤ o ∧ o < 7 := by simp at ho; omega
  refine ⟨([[100, 105, 115, 107, 32, 102, 117, 108, 108], [119, 101, 98], [120], [], [97, 10, 98], [126, 111, 107, 126], [195, 169]] : List (List UInt8)).getD o.toNat [], d2, ?_, hd2, fun k => ?_⟩
  · have hc : o = 0 ∨ o = 1 ∨ o = 2 ∨ o = 3 ∨ o = 4 ∨ o = 5 ∨ o = 6 := by omega
    rcases hc with rfl | rfl | rfl | rfl | rfl | rfl | rfl <;> decide
  · unfold zq24 zq21
    refine (f1 _).trans ?_
    refine (f2 _).trans ?_
    exact c_inb (by show 0 ≤ o ∧ o < 7; exact ho')
theorem some_loop : ∀ (N : Nat) (i : Int) (d : Dice) (out : List Int), 0 ≤ i → i ≤ 100 → i.toNat < N → DiceOk d → out.length + i.toNat ≤ 100 →
    ∃ l d', l.length ≤ 100 ∧ DiceOk d' ∧ ∀ {β : Type} (k1 : zq28 β), zq2i N k1 i d.1 d.2 out = k1 d'.1 d'.2 l
  | 0, _, _, _, _, _, hN, _, _ => absurd hN (by omega)
  | N + 1, i, d, out, h0, h1, hN, hd, hl => by
    by_cases hi : 0 < i
    · obtain ⟨r, d1, hr0, hr1, hd1, f1⟩ := next_ok (n := 9) hd (by omega)
      obtain ⟨l, d2, h2, hd2, g⟩ := some_loop N (i - 1) d1 (out ++ [r - 2]) (by omega) (by omega) (by omega) hd1 (by rw [List.length_append]; simp only [List.length_cons, List.length_nil]; omega)
      refine ⟨l, d2, h2, hd2, fun k1 => ?_⟩
      rw [zq2j]
      unfold zq2c
      refine (c_pos hi).trans ?_
      refine (f1 _).trans ?_
      refine (c_room (by simp only [List.length_cons, List.length_nil]; omega)).trans ?_
      dsimp only
      rw [i64_in (i - 1) (by omega), i64_in (r - 2) (by omega)]
      exact g k1
    · refine ⟨out, d, by omega, hd, fun k1 => ?_⟩
      rw [zq2j]
      unfold zq2c
      exact c_neg hi
theorem some_ok {d : Dice} (hd : DiceOk d) : ∃ l d', l.length ≤ 100 ∧ DiceOk d' ∧ ∀ {β : Type} (k : Dice → List Int → Option β), zq2m d k = k d' l := by
  obtain ⟨r, d1, hr0, hr1, hd1, f1⟩ := next_ok (n := 5) hd (by omega)
  obtain ⟨l, d2, h2, hd2, g⟩ := some_loop fuel r d1 [] (by omega) (by omega) (lt_fuel (by omega)) hd1 (by simp only [List.length_nil]; omega)
  refine ⟨l, d2, h2, hd2, fun k => ?_⟩
  unfold zq2m zq2f zq2k
  refine (f1 _).trans ?_
  exact g _
def withTitle (x : Inc) (s : List UInt8) : Inc := (x.1, (x.2.1, (x.2.2.1, (x.2.2.2.1, (s, x.2.2.2.2.2)))))
def withChgs (x : Inc) (st : Int) (l : List IChg) : Inc := (x.1, (st, (x.2.2.1, (x.2.2.2.1, (x.2.2.2.2.1, (x.2.2.2.2.2.1, (x.2.2.2.2.2.2.1, (x.2.2.2.2.2.2.2.1, (x.2.2.2.2.2.2.2.2.1, (x.2.2.2.2.2.2.2.2.2.1, (l, x.2.2.2.2.2.2.2.2.2.2.2)))))))))))
section
variable {x : Inc}
theorem SizedI.role (hs : SizedI x) (r : Int × (Int × Int)) : SizedI (withRole x r) := ⟨hs.ti, hs.pg, hs.ts, hs.up, hs.su, hs.ch, hs.tt, hs.ut, hs.ul⟩
theorem SizedI.pages (hs : SizedI x) {l : List Int} (hl : l.length ≤ 100000) : SizedI (withPages x l) := ⟨hs.ti, hl, hs.ts, hs.up, hs.su, hs.ch, hs.tt, hs.ut, hs.ul⟩
theorem SizedI.subs (hs : SizedI x) {l : List Int} (hl : l.length ≤ 100000) : SizedI (withSubs x l) := ⟨hs.ti, hs.pg, hs.ts, hs.up, hl, hs.ch, hs.tt, hs.ut, hs.ul⟩
theorem SizedI.tasks (hs : SizedI x) {l : List ITask} (hl : l.length ≤ 100000) (ht : ∀ t ∈ l, t.1.length ≤ 100000) : SizedI (withTasks x l) := ⟨hs.ti, hs.pg, hl, hs.up, hs.su, hs.ch, ht, hs.ut, hs.ul⟩
theorem SizedI.upds (hs : SizedI x) {l : List IUpd} (hl : l.length ≤ 100000) (ht : ∀ t ∈ l, t.2.2.1.length ≤ 100000) (hu : ∀ t ∈ l, t.2.2.2.length ≤ 100000) : SizedI (withUpds x l) := ⟨hs.ti, hs.pg, hs.ts, hl, hs.su, hs.ch, hs.tt, ht, hu⟩
theorem SizedI.title (hs : SizedI x) {s : List UInt8} (hl : s.length ≤ 100000) : SizedI (withTitle x s) := ⟨hl, hs.pg, hs.ts, hs.up, hs.su, hs.ch, hs.tt, hs.ut, hs.ul⟩
theorem SizedI.chgs (hs : SizedI x) (st : Int) {l : List IChg} (hl : l.length ≤ 100000) : SizedI (withChgs x st l) := ⟨hs.ti, hs.pg, hs.ts, hs.up, hs.su, hl, hs.tt, hs.ut, hs.ul⟩
theorem SizedI.nums (hs : SizedI x) (a b c e f : Int) : SizedI (a, (b, (c, (e, (x.2.2.2.2.1, (x.2.2.2.2.2.1, (x.2.2.2.2.2.2.1, (x.2.2.2.2.2.2.2.1, (x.2.2.2.2.2.2.2.2.1, (x.2.2.2.2.2.2.2.2.2.1, (x.2.2.2.2.2.2.2.2.2.2.1, f))))))))))) := ⟨hs.ti, hs.pg, hs.ts, hs.up, hs.su, hs.ch, hs.tt, hs.ut, hs.ul⟩
def O1 {β : Type} (k1 : zqc8 β) (N : Nat) (d : Dice) (x : Inc) (l : List ITask) : Option β :=
  zqcp N k1 d.1 d.2 0 0 0 0 [] 0 0 0 0 x.1 x.2.1 x.2.2.1 x.2.2.2.1 x.2.2.2.2.1 x.2.2.2.2.2.1.1 x.2.2.2.2.2.1.2.1 x.2.2.2.2.2.1.2.2 x.2.2.2.2.2.2.2.2.2.2.2 [] [] [] [] [] x.2.2.2.2.2.2.1 l x.2.2.2.2.2.2.2.2.1 x.2.2.2.2.2.2.2.2.2.1 x.2.2.2.2.2.2.2.2.2.2.1
theorem odd_fill (x : Inc) : ∀ (N : Nat) (d : Dice) (l : List ITask), l.length ≤ 17 → 17 - l.length < N → DiceOk d → (∀ t ∈ l, t.1.length ≤ 100000) →
    ∃ l' d', l'.length ≤ 17 ∧ (∀ t ∈ l', t.1.length ≤ 100000) ∧ DiceOk d' ∧ ∀ {β : Type} (k1 : zqc8 β), O1 k1 N d x l = k1 d'.1 d'.2 0 0 0 0 [] 0 0 0 0 x.1 x.2.1 x.2.2.1 x.2.2.2.1 x.2.2.2.2.1 x.2.2.2.2.2.1.1 x.2.2.2.2.2.1.2.1 x.2.2.2.2.2.1.2.2 x.2.2.2.2.2.2.2.2.2.2.2 [] [] [] [] [] x.2.2.2.2.2.2.1 l' x.2.2.2.2.2.2.2.2.1 x.2.2.2.2.2.2.2.2.2.1 x.2.2.2.2.2.2.2.2.2.2.1
  | 0, _, _, _, hN, _, _ => absurd hN (by omega)
  | N + 1, d, l, hl, hN, hd, ht => by
    obtain ⟨r, d1, hr0, hr1, hd1, f1⟩ := next_ok (n := 2) hd (by omega)
    have ew : IntKind.i64.wrap (16 - r) = 16 - r := i64_in _ (by omega)
    by_cases hc : (l.length : Int) ≤ 16 - r
    · obtain ⟨l', d', h1, h2, h3, g⟩ := odd_fill x N d1 (l ++ [([120], (-1, (864900, -1)))]) (by rw [List.length_append]; simp only [List.length_cons, List.length_nil]; omega) (by rw [List.length_append]; simp only [List.length_cons, List.length_nil]; omega) hd1
        (fun t h => by rcases List.mem_append.1 h with g | g; exact ht t g; rw [List.mem_singleton] at g; subst g; simp)
      refine ⟨l', d', h1, h2, h3, fun k1 => ?_⟩
      unfold O1
      rw [zqcq]
      unfold zqcg
      refine (f1 _).trans ?_
      rw [ew]
      refine (c_pos hc).trans ?_
      refine (c_room (by simp only [List.length_cons, List.length_nil]; omega)).trans ?_
      exact g k1
    · refine ⟨l, d1, hl, ht, hd1, fun k1 => ?_⟩
      unfold O1
      rw [zqcq]
      unfold zqcg
      refine (f1 _).trans ?_
      rw [ew]
      exact c_neg hc
def O2 {β : Type} (k1 : zqcc β) (N : Nat) (d : Dice) (x : Inc) (l : List IChg) : Option β :=
  zqct N k1 d.1 d.2 0 0 0 0 [] 0 0 0 0 x.1 x.2.1 x.2.2.1 x.2.2.2.1 x.2.2.2.2.1 x.2.2.2.2.2.1.1 x.2.2.2.2.2.1.2.1 x.2.2.2.2.2.1.2.2 x.2.2.2.2.2.2.2.2.2.2.2 [] [] [] [] [] x.2.2.2.2.2.2.1 x.2.2.2.2.2.2.2.1 x.2.2.2.2.2.2.2.2.1 x.2.2.2.2.2.2.2.2.2.1 l
theorem odd_turns (x : Inc) (d : Dice) : ∀ (N : Nat) (l : List IChg), l.length ≤ 32 → 32 - l.length < N →
    ∃ l', l'.length ≤ 32 ∧ ∀ {β : Type} (k1 : zqcc β), O2 k1 N d x l = k1 d.1 d.2 0 0 0 0 [] 0 0 0 0 x.1 x.2.1 x.2.2.1 x.2.2.2.1 x.2.2.2.2.1 x.2.2.2.2.2.1.1 x.2.2.2.2.2.1.2.1 x.2.2.2.2.2.1.2.2 x.2.2.2.2.2.2.2.2.2.2.2 [] [] [] [] [] x.2.2.2.2.2.2.1 x.2.2.2.2.2.2.2.1 x.2.2.2.2.2.2.2.2.1 x.2.2.2.2.2.2.2.2.2.1 l'
  | 0, _, _, hN => absurd hN (by omega)
  | N + 1, l, hl, hN => by
    by_cases hc : (l.length : Int) < 31
    · obtain ⟨l', h1, g⟩ := odd_turns x d N (l ++ [(864900, (1, 0)), (864900, (0, 0))]) (by rw [List.length_append]; simp only [List.length_cons, List.length_nil]; omega) (by rw [List.length_append]; simp only [List.length_cons, List.length_nil]; omega)
      refine ⟨l', h1, fun k1 => ?_⟩
      unfold O2
      rw [zqcu]
      unfold zqcj
      refine (c_pos hc).trans ?_
      refine (c_room (by simp only [List.length_cons, List.length_nil]; omega)).trans ?_
      exact g k1
    · refine ⟨l, hl, fun k1 => ?_⟩
      unfold O2
      rw [zqcu]
      unfold zqcj
      exact c_neg hc
end
end
end Go.Lift
namespace Go.Lift
open Go.RowKit Go.IntWalk
noncomputable section
set_option linter.unusedVariables false
set_option linter.unusedSimpArgs false
set_option maxRecDepth 10000
theorem odd_ok {x : Inc} (hc : checkI x = true) {d : Dice} (hd : DiceOk d) : ∃ y d', SizedI y ∧ DiceOk d' ∧ ∀ {β : Type} (k : Inc → Dice → Option β), zqcx x d k = k y d' := by
  have hs := valid_sized hc
  obtain ⟨-, -, -, -, -, -, a7, -, -, ⟨-, a10⟩, ⟨-, a11⟩, -, a13, -⟩ := checkI_iff.1 hc
  obtain ⟨r, d1, hr0, hr1, hd1, f1⟩ := next_ok (n := 14) hd (by omega)
  by_cases c0 : r = 0
  · obtain ⟨o, d2, ho, hd2, fd2⟩ := one_ok (l := [0, 999999, 1000000]) (by simp) (by simp) hd1
    refine ⟨(o, (x.2.1, (x.2.2.1, (x.2.2.2.1, (x.2.2.2.2.1, (x.2.2.2.2.2.1, (x.2.2.2.2.2.2.1, (x.2.2.2.2.2.2.2.1, (x.2.2.2.2.2.2.2.2.1, (x.2.2.2.2.2.2.2.2.2.1, (x.2.2.2.2.2.2.2.2.2.2.1, x.2.2.2.2.2.2.2.2.2.2.2))))))))))), d2, hs.nums _ _ _ _ _, by assumption, fun k => ?_⟩
    unfold zqcx zqcm
    refine (rcopy_eq hs _).trans ?_
    refine (f1 _).trans ?_
    refine (c_pos c0).trans ?_
    exact fd2 _
  by_cases c1 : r = 1
  · obtain ⟨o, d2, ho0, ho1, hd2, fd2⟩ := next_ok (n := 7) hd1 (by omega)
    refine ⟨(x.1, (IntKind.i64.wrap (o - 1), (x.2.2.1, (x.2.2.2.1, (x.2.2.2.2.1, (x.2.2.2.2.2.1, (x.2.2.2.2.2.2.1, (x.2.2.2.2.2.2.2.1, (x.2.2.2.2.2.2.2.2.1, (x.2.2.2.2.2.2.2.2.2.1, (x.2.2.2.2.2.2.2.2.2.2.1, x.2.2.2.2.2.2.2.2.2.2.2))))))))))), d2, hs.nums _ _ _ _ _, by assumption, fun k => ?_⟩
    unfold zqcx zqcm
    refine (rcopy_eq hs _).trans ?_
    refine (f1 _).trans ?_
    refine (c_neg c0).trans ((c_pos c1).trans ?_)
    exact fd2 _
  by_cases c2 : r = 2
  · obtain ⟨o, d2, ho, hd2, fd2⟩ := one_ok (l := [0, 1, 5, 6]) (by simp) (by simp) hd1
    refine ⟨(x.1, (x.2.1, (o, (x.2.2.2.1, (x.2.2.2.2.1, (x.2.2.2.2.2.1, (x.2.2.2.2.2.2.1, (x.2.2.2.2.2.2.2.1, (x.2.2.2.2.2.2.2.2.1, (x.2.2.2.2.2.2.2.2.2.1, (x.2.2.2.2.2.2.2.2.2.2.1, x.2.2.2.2.2.2.2.2.2.2.2))))))))))), d2, hs.nums _ _ _ _ _, by assumption, fun k => ?_⟩
    unfold zqcx zqcm
    refine (rcopy_eq hs _).trans ?_
    refine (f1 _).trans ?_
    refine (c_neg c0).trans ((c_neg c1).trans ((c_pos c2).trans ?_))
    exact fd2 _
  by_cases c3 : r = 3
  · obtain ⟨o, d2, ho, hd2, fd2⟩ := one_ok (l := [-1, 0, 864030, 8589934593]) (by simp) (by simp) hd1
    refine ⟨(x.1, (x.2.1, (x.2.2.1, (o, (x.2.2.2.2.1, (x.2.2.2.2.2.1, (x.2.2.2.2.2.2.1, (x.2.2.2.2.2.2.2.1, (x.2.2.2.2.2.2.2.2.1, (x.2.2.2.2.2.2.2.2.2.1, (x.2.2.2.2.2.2.2.2.2.2.1, x.2.2.2.2.2.2.2.2.2.2.2))))))))))), d2, hs.nums _ _ _ _ _, by assumption, fun k => ?_⟩
    unfold zqcx zqcm
    refine (rcopy_eq hs _).trans ?_
    refine (f1 _).trans ?_
    refine (c_neg c0).trans ((c_neg c1).trans ((c_neg c2).trans ((c_pos c3).trans ?_)))
    exact fd2 _
  by_cases c4 : r = 4
  · obtain ⟨w, d2, hw, hd2, fd2⟩ := line_ok hd1
    refine ⟨withTitle x w, d2, hs.title (by omega), by assumption, fun k => ?_⟩
    unfold zqcx zqcm
    refine (rcopy_eq hs _).trans ?_
    refine (f1 _).trans ?_
    refine (c_neg c0).trans ((c_neg c1).trans ((c_neg c2).trans ((c_neg c3).trans ((c_pos c4).trans ?_))))
    exact fd2 _
  by_cases c5 : r = 5
  · obtain ⟨p, d2, hp0, hp1, hd2, f2⟩ := next_ok (n := 3) hd1 (by omega)
    obtain ⟨w, d3, hw, hd3, f3⟩ := one_ok (l := [-2, -1, 31, 32]) (by simp) (by simp) hd2
    refine ⟨withRole x (setRole x.ro p w), d3, hs.role _, hd3, fun k => ?_⟩
    unfold zqcx zqcm
    refine (rcopy_eq hs _).trans ?_
    refine (f1 _).trans ?_
    refine (c_neg c0).trans ((c_neg c1).trans ((c_neg c2).trans ((c_neg c3).trans ((c_neg c4).trans ((c_pos c5).trans ?_)))))
    refine (f2 _).trans ?_
    refine (f3 _).trans ?_
    have hp : p = 0 ∨ p = 1 ∨ p = 2 := by omega
    rcases hp with rfl | rfl | rfl <;> rfl
  by_cases c6 : r = 6
  · obtain ⟨w, d2, hw, hd2, fd2⟩ := some_ok hd1
    refine ⟨withPages x w, d2, hs.pages (by omega), by assumption, fun k => ?_⟩
    unfold zqcx zqcm
    refine (rcopy_eq hs _).trans ?_
    refine (f1 _).trans ?_
    refine (c_neg c0).trans ((c_neg c1).trans ((c_neg c2).trans ((c_neg c3).trans ((c_neg c4).trans ((c_neg c5).trans ((c_pos c6).trans ?_))))))
    exact fd2 _
  by_cases c7 : r = 7
  · obtain ⟨w, d2, hw, hd2, fd2⟩ := line_ok hd1
    obtain ⟨p, d3, hp, hd3, fd3⟩ := one_ok (l := [-1, 0, 99]) (by simp) (by simp) hd2
    obtain ⟨a, d4, ha0, ha1, hd4, fd4⟩ := next_ok (n := 200) hd3 (by omega)
    obtain ⟨e, d5, he, hd5, fd5⟩ := one_ok (l := [-1, 864000, 864300]) (by simp) (by simp) hd4
    refine ⟨withTasks x (x.ts ++ [(w, (p, (IntKind.i64.wrap (864000 + a), e)))]), d5, hs.tasks (by rw [List.length_append]; simp only [List.length_cons, List.length_nil]; omega) (fun t h => by rcases List.mem_append.1 h with g | g; exact hs.tt t g; rw [List.mem_singleton] at g; subst g; show w.length ≤ 100000; omega), by assumption, fun k => ?_⟩
    unfold zqcx zqcm
    refine (rcopy_eq hs _).trans ?_
    refine (f1 _).trans ?_
    refine (c_neg c0).trans ((c_neg c1).trans ((c_neg c2).trans ((c_neg c3).trans ((c_neg c4).trans ((c_neg c5).trans ((c_neg c6).trans ((c_pos c7).trans ?_)))))))
    refine (fd2 _).trans ?_
    refine (fd3 _).trans ?_
    refine (fd4 _).trans ?_
    refine (fd5 _).trans ?_
    exact c_room (by show (x.ts.length + 1) * 40 ≤ 140737488355328; omega)
  by_cases c8 : r = 8
  · obtain ⟨a, d2, ha0, ha1, hd2, fd2⟩ := next_ok (n := 300) hd1 (by omega)
    obtain ⟨b, d3, hb0, hb1, hd3, fd3⟩ := next_ok (n := 6) hd2 (by omega)
    obtain ⟨w, d4, hw, hd4, fd4⟩ := line_ok hd3
    obtain ⟨l, d5, hl, hd5, fd5⟩ := some_ok hd4
    refine ⟨withUpds x (x.up ++ [(IntKind.i64.wrap (864000 + a), (b, (w, l)))]), d5, hs.upds (by rw [List.length_append]; simp only [List.length_cons, List.length_nil]; omega) (fun t h => by rcases List.mem_append.1 h with g | g; exact hs.ut t g; rw [List.mem_singleton] at g; subst g; show w.length ≤ 100000; omega) (fun t h => by rcases List.mem_append.1 h with g | g; exact hs.ul t g; rw [List.mem_singleton] at g; subst g; show l.length ≤ 100000; omega), by assumption, fun k => ?_⟩
    unfold zqcx zqcm
    refine (rcopy_eq hs _).trans ?_
    refine (f1 _).trans ?_
    refine (c_neg c0).trans ((c_neg c1).trans ((c_neg c2).trans ((c_neg c3).trans ((c_neg c4).trans ((c_neg c5).trans ((c_neg c6).trans ((c_neg c7).trans ((c_pos c8).trans ?_))))))))
    refine (fd2 _).trans ?_
    refine (fd3 _).trans ?_
    refine (fd4 _).trans ?_
    refine (fd5 _).trans ?_
    exact c_room (by show (x.up.length + 1) * 56 ≤ 140737488355328; omega)
  by_cases c9 : r = 9
  · obtain ⟨a, d2, ha0, ha1, hd2, fd2⟩ := next_ok (n := 300) hd1 (by omega)
    obtain ⟨b, d3, hb0, hb1, hd3, fd3⟩ := next_ok (n := 6) hd2 (by omega)
    obtain ⟨e, d4, he, hd4, fd4⟩ := one_ok (l := [-2, -1, 0]) (by simp) (by simp) hd3
    refine ⟨withChgs x x.st (x.ch ++ [(IntKind.i64.wrap (864000 + a), (b, e))]), d4, hs.chgs _ (by rw [List.length_append]; simp only [List.length_cons, List.length_nil]; omega), by assumption, fun k => ?_⟩
    unfold zqcx zqcm
    refine (rcopy_eq hs _).trans ?_
    refine (f1 _).trans ?_
    refine (c_neg c0).trans ((c_neg c1).trans ((c_neg c2).trans ((c_neg c3).trans ((c_neg c4).trans ((c_neg c5).trans ((c_neg c6).trans ((c_neg c7).trans ((c_neg c8).trans ((c_pos c9).trans ?_)))))))))
    refine (fd2 _).trans ?_
    refine (fd3 _).trans ?_
    refine (fd4 _).trans ?_
    exact c_room (by show (x.ch.length + 1) * 24 ≤ 140737488355328; omega)
  by_cases c10 : r = 10
  · obtain ⟨w, d2, hw, hd2, fd2⟩ := some_ok hd1
    refine ⟨withSubs x w, d2, hs.subs (by omega), by assumption, fun k => ?_⟩
    unfold zqcx zqcm
    refine (rcopy_eq hs _).trans ?_
    refine (f1 _).trans ?_
    refine (c_neg c0).trans ((c_neg c1).trans ((c_neg c2).trans ((c_neg c3).trans ((c_neg c4).trans ((c_neg c5).trans ((c_neg c6).trans ((c_neg c7).trans ((c_neg c8).trans ((c_neg c9).trans ((c_pos c10).trans ?_))))))))))
    exact fd2 _
  by_cases c11 : r = 11
  · obtain ⟨o, d2, ho, hd2, fd2⟩ := one_ok (l := [0, 1, 2]) (by simp) (by simp) hd1
    refine ⟨(x.1, (x.2.1, (x.2.2.1, (x.2.2.2.1, (x.2.2.2.2.1, (x.2.2.2.2.2.1, (x.2.2.2.2.2.2.1, (x.2.2.2.2.2.2.2.1, (x.2.2.2.2.2.2.2.2.1, (x.2.2.2.2.2.2.2.2.2.1, (x.2.2.2.2.2.2.2.2.2.2.1, o))))))))))), d2, hs.nums _ _ _ _ _, by assumption, fun k => ?_⟩
    unfold zqcx zqcm
    refine (rcopy_eq hs _).trans ?_
    refine (f1 _).trans ?_
    refine (c_neg c0).trans ((c_neg c1).trans ((c_neg c2).trans ((c_neg c3).trans ((c_neg c4).trans ((c_neg c5).trans ((c_neg c6).trans ((c_neg c7).trans ((c_neg c8).trans ((c_neg c9).trans ((c_neg c10).trans ((c_pos c11).trans ?_)))))))))))
    exact fd2 _
  by_cases c12 : r = 12
  · obtain ⟨l, d2, hl, ht, hd2, g⟩ := odd_fill x fuel d1 x.ts (by omega) (lt_fuel (by omega)) hd1 hs.tt
    refine ⟨withTasks x l, d2, hs.tasks (by omega) ht, by assumption, fun k => ?_⟩
    unfold zqcx zqcm
    refine (rcopy_eq hs _).trans ?_
    refine (f1 _).trans ?_
    refine (c_neg c0).trans ((c_neg c1).trans ((c_neg c2).trans ((c_neg c3).trans ((c_neg c4).trans ((c_neg c5).trans ((c_neg c6).trans ((c_neg c7).trans ((c_neg c8).trans ((c_neg c9).trans ((c_neg c10).trans ((c_neg c11).trans ((c_pos c12).trans ?_))))))))))))
    exact g _
  by_cases c13 : r = 13
  · obtain ⟨l, hl, g⟩ := odd_turns x d1 fuel x.ch (by omega) (lt_fuel (by omega))
    refine ⟨withChgs x 0 l, d1, hs.chgs _ (by omega), by assumption, fun k => ?_⟩
    unfold zqcx zqcm
    refine (rcopy_eq hs _).trans ?_
    refine (f1 _).trans ?_
    refine (c_neg c0).trans ((c_neg c1).trans ((c_neg c2).trans ((c_neg c3).trans ((c_neg c4).trans ((c_neg c5).trans ((c_neg c6).trans ((c_neg c7).trans ((c_neg c8).trans ((c_neg c9).trans ((c_neg c10).trans ((c_neg c11).trans ((c_neg c12).trans ((c_pos c13).trans ?_)))))))))))))
    exact g _
  · exfalso
    omega
end
end Go.Lift
namespace Go.Lift
open Go.RowKit Go.IntWalk
noncomputable section
set_option linter.unusedVariables false
set_option linter.unusedSimpArgs false
set_option maxRecDepth 10000
theorem sane37m {β : Type} (k : Bool → Option β) : zqrf k = k true := by kernel_rfl
theorem merge_zero {a b : Inc} {at_ who : Int} (h : mergeE a b at_ who = 0) : (checkI a = true ∧ checkI b = true) ∧ (readyI a = 0 ∧ possI b.st 4 = true) ∧ a.id ≠ b.id ∧ (inB at_ (lastI b) 8589934592 = true ∧ bodyB who = true) ∧ ¬ fullI a b := by
  unfold mergeE at h
  by_cases h1 : checkI a = true ∧ checkI b = true
  rotate_left
  · rw [if_neg h1] at h; exact absurd h (by decide)
  rw [if_pos h1] at h
  by_cases h2 : readyI a = 0 ∧ possI b.st 4 = true
  rotate_left
  · rw [if_neg h2] at h; exact absurd h (by decide)
  rw [if_pos h2] at h
  by_cases h3 : a.id = b.id
  · rw [if_pos h3] at h; exact absurd h (by decide)
  rw [if_neg h3] at h
  by_cases h4 : inB at_ (lastI b) 8589934592 = true ∧ bodyB who = true
  rotate_left
  · rw [if_neg h4] at h; exact absurd h (by decide)
  rw [if_pos h4] at h
  by_cases h5 : fullI a b
  · rw [if_pos h5] at h; exact absurd h (by decide)
  exact ⟨h1, h2, h3, h4, h5⟩
theorem set_join {l m : List Int} {lo hi : Int} (h1 : setB l lo hi = true) (h2 : setB m lo hi = true) : setB (joinI l m) lo hi = true := by
  refine setB_iff.2 ⟨joinI_asc l m, fun x hx => ?_⟩
  rcases joinI_mem.1 hx with h | h
  · exact (setB_iff.1 h1).2 x h
  · exact (setB_iff.1 h2).2 x h
theorem mvT_ok {o o' : Int} (ho : 0 ≤ o ∧ o ≤ 8589934592) {t : ITask} (ht : taskB o' t = true) : taskB o (mvT o t) = true := by
  unfold taskB at ht ⊢
  simp only [Bool.and_eq_true, Bool.or_eq_true, inB_iff, decide_eq_true_eq] at ht ⊢
  obtain ⟨h1, h2, h3, h4⟩ := ht
  refine ⟨h1, h2, ?_, ?_⟩
  · show o ≤ (if o > t.2.2.1 then o else t.2.2.1) ∧ (if o > t.2.2.1 then o else t.2.2.1) ≤ 8589934592
    split <;> omega
  · show (if t.2.2.2 = -1 then -1 else (if o > t.2.2.2 then o else t.2.2.2)) = -1 ∨ (if o > t.2.2.1 then o else t.2.2.1) ≤ (if t.2.2.2 = -1 then -1 else (if o > t.2.2.2 then o else t.2.2.2)) ∧ (if t.2.2.2 = -1 then -1 else (if o > t.2.2.2 then o else t.2.2.2)) ≤ 8589934592
    by_cases e : t.2.2.2 = -1
    · left; rw [if_pos e]
    · right
      rw [if_neg e]
      have h4 := h4.resolve_left e
      split <;> split <;> omega
theorem mergedA_ok {a b : Inc} {at_ who : Int} (h : mergeE a b at_ who = 0) : checkI (mergedA a b) = true := by
  obtain ⟨⟨ha, hb⟩, -, -, -, hf⟩ := merge_zero h
  obtain ⟨a1, a2, a3, a4, a5, a6, a7, a8, a9, ⟨a10, b10⟩, a11, a12, a13, a14⟩ := checkI_iff.1 ha
  obtain ⟨-, -, -, -, -, c6, c7, c8, -, ⟨c10, d10⟩, -, -, -, -⟩ := checkI_iff.1 hb
  unfold fullI at hf
  refine checkI_iff.2 ⟨a1, a2, a3, a4, a5, set_join a6 c6, ?_, set_join a8 c8, a9, ⟨?_, ?_⟩, a11, a12, a13, a14⟩
  · show (joinI a.pg b.pg).length ≤ 64
    omega
  · show (a.ts ++ b.ts.map (mvT a.op)).all (taskB a.op) = true
    rw [List.all_append, a10, Bool.true_and, List.all_eq_true]
    intro t ht
    obtain ⟨z, hz, rfl⟩ := List.mem_map.1 ht
    exact mvT_ok a3 (List.all_eq_true.1 c10 z hz)
  · show (a.ts ++ b.ts.map (mvT a.op)).length ≤ 16
    rw [List.length_append, List.length_map]
    omega
theorem mergedB_ok {a b : Inc} {at_ who : Int} (h : mergeE a b at_ who = 0) : checkI (mergedB a b at_ who) = true := by
  obtain ⟨⟨ha, hb⟩, ⟨-, hp⟩, hid, ⟨hin, hw⟩, hf⟩ := merge_zero h
  obtain ⟨i1, -⟩ := checkI_iff.1 ha
  obtain ⟨a1, a2, a3, a4, a5, a6, a7, a8, a9, a10, ⟨a11, b11⟩, a12, a13, a14⟩ := checkI_iff.1 hb
  unfold fullI at hf
  have hin := inB_iff.1 hin
  have hcl := cAt_le (x := b) a11
  have hn := possI_ne hp
  refine checkI_iff.2 ⟨a1, a2, a3, a4, a5, a6, a7, a8, ?_, a10, ⟨a11, b11⟩, ?_, ?_, ?_⟩
  · show (cond (decide ((4 : Int) = 4)) (inB a.id 1 999999 && !decide (a.id = b.id)) _) = true
    rw [decide_eq_true rfl, inB_iff.2 i1, decide_eq_false hid]
    rfl
  · show chgB (b.ch ++ [(at_, (4, who))]) b.op = true
    rw [chg_snoc, a12]
    simp only [Bool.and_eq_true, Bool.not_eq_true', decide_eq_false_iff_not, inB_iff, Bool.true_and]
    exact ⟨by omega, hn.2, fun e => hn.1 (e.trans a14.symm), hw⟩
  · show (b.ch ++ [(at_, (4, who))]).length ≤ 32
    rw [List.length_append]
    simp only [List.length_cons, List.length_nil]
    omega
  · show 4 = cSt (b.ch ++ [(at_, (4, who))]) (b.ch ++ [(at_, (4, who))]).length
    rw [cSt_snoc]
theorem zeroI_sized : SizedI zeroI := ⟨Nat.zero_le _, Nat.zero_le _, Nat.zero_le _, Nat.zero_le _, Nat.zero_le _, Nat.zero_le _, (fun t h => absurd h List.not_mem_nil), (fun t h => absurd h List.not_mem_nil), (fun t h => absurd h List.not_mem_nil)⟩
section
variable {β : Type}
theorem merges_p1 {t126 a9 : List Int} (hl : t126.length ≤ 1000) (ha : a9.length ≤ 100000) (hm : ∀ x ∈ t126, x ∈ a9) (k1 : zqrj β) (k2 : zqrk β) {at_ who t54 t55 t71 t72 d d2 p_ p_2 p_3 p_4 p_5 p_6 p_7 p_8 p_9 p_10 p_11 p_12 p_13 p_14 p_15 p_16 p_17 p_18 p_19 p_20 p_21 p_22 p_23 p_24 p_25 p_26 p_27 p_28 a a2 a3 a4 a5 a6 a7 a8 a10 a11 a12 a13 a14 b b2 b3 b4 b5 b6 b7 b8 b9 b10 b11 b12 b13 b14 t53 t70} :
    zqsk k1 k2 at_ who t54 t55 t71 t72 (t126.length : Int) 0 d d2 p_ p_2 p_3 p_4 p_5 p_6 p_7 p_8 p_9 p_10 p_11 p_12 p_13 p_14 p_15 p_16 p_17 p_18 p_19 p_20 p_21 p_22 p_23 p_24 p_25 p_26 p_27 p_28 a a2 a3 a4 a5 a6 a7 a8 a9 a10 a11 a12 a13 a14 b b2 b3 b4 b5 b6 b7 b8 b9 b10 b11 b12 b13 b14 t53 t70 t126 = k2 at_ who t54 t55 t71 t72 d d2 p_ p_2 p_3 p_4 p_5 p_6 p_7 p_8 p_9 p_10 p_11 p_12 p_13 p_14 p_15 p_16 p_17 p_18 p_19 p_20 p_21 p_22 p_23 p_24 p_25 p_26 p_27 p_28 a a2 a3 a4 a5 a6 a7 a8 a9 a10 a11 a12 a13 a14 b b2 b3 b4 b5 b6 b7 b8 b9 b10 b11 b12 b13 b14 t53 t70 := by
  unfold zqsk
  have h := scan_state t126.length (fun _ => ()) (fun _ => true) (fun m i _ => zqsi m k1 k2 at_ who t54 t55 t71 t72 (t126.length : Int) i d d2 p_ p_2 p_3 p_4 p_5 p_6 p_7 p_8 p_9 p_10 p_11 p_12 p_13 p_14 p_15 p_16 p_17 p_18 p_19 p_20 p_21 p_22 p_23 p_24 p_25 p_26 p_27 p_28 a a2 a3 a4 a5 a6 a7 a8 a9 a10 a11 a12 a13 a14 b b2 b3 b4 b5 b6 b7 b8 b9 b10 b11 b12 b13 b14 t53 t70 t126) (k2 at_ who t54 t55 t71 t72 d d2 p_ p_2 p_3 p_4 p_5 p_6 p_7 p_8 p_9 p_10 p_11 p_12 p_13 p_14 p_15 p_16 p_17 p_18 p_19 p_20 p_21 p_22 p_23 p_24 p_25 p_26 p_27 p_28 a a2 a3 a4 a5 a6 a7 a8 a9 a10 a11 a12 a13 a14 b b2 b3 b4 b5 b6 b7 b8 b9 b10 b11 b12 b13 b14 t53 t70) none fuel (lt_fuel (by omega))
    (fun m i hi => by
      rw [zqsj]
      unfold zqs3
      refine (c_pos (by omega)).trans ?_
      refine (c_inb (by omega)).trans ?_
      dsimp only
      rw [Int.toNat_natCast]
      refine (ihas_eq _ ha _ _).trans ?_
      refine (c_npos (hm _ (mem_getD hi))).trans ?_
      rw [i64_in ((i : Int) + 1) (by omega)]
      rfl)
    (fun m => by
      rw [zqsj]
      unfold zqs3
      exact c_neg (by omega))
  rw [all_true] at h
  exact h
theorem merges_p2 {t145 a12 : List Int} (hl : t145.length ≤ 1000) (ha : a12.length ≤ 100000) (hm : ∀ x ∈ t145, x ∈ a12) (k1 : zqro β) (k2 : zqrp β) {at_ who t54 t55 t71 t72 d d2 p_ p_2 p_3 p_4 p_5 p_6 p_7 p_8 p_9 p_10 p_11 p_12 p_13 p_14 p_15 p_16 p_17 p_18 p_19 p_20 p_21 p_22 p_23 p_24 p_25 p_26 p_27 p_28 a a2 a3 a4 a5 a6 a7 a8 a9 a10 a11 a13 a14 b b2 b3 b4 b5 b6 b7 b8 b9 b10 b11 b12 b13 b14 t53 t70} :
    zqso k1 k2 at_ who t54 t55 t71 t72 (t145.length : Int) 0 d d2 p_ p_2 p_3 p_4 p_5 p_6 p_7 p_8 p_9 p_10 p_11 p_12 p_13 p_14 p_15 p_16 p_17 p_18 p_19 p_20 p_21 p_22 p_23 p_24 p_25 p_26 p_27 p_28 a a2 a3 a4 a5 a6 a7 a8 a9 a10 a11 a12 a13 a14 b b2 b3 b4 b5 b6 b7 b8 b9 b10 b11 b12 b13 b14 t53 t70 t145 = k2 at_ who t54 t55 t71 t72 d d2 p_ p_2 p_3 p_4 p_5 p_6 p_7 p_8 p_9 p_10 p_11 p_12 p_13 p_14 p_15 p_16 p_17 p_18 p_19 p_20 p_21 p_22 p_23 p_24 p_25 p_26 p_27 p_28 a a2 a3 a4 a5 a6 a7 a8 a9 a10 a11 a12 a13 a14 b b2 b3 b4 b5 b6 b7 b8 b9 b10 b11 b12 b13 b14 t53 t70 := by
  unfold zqso
  have h := scan_state t145.length (fun _ => ()) (fun _ => true) (fun m i _ => zqsm m k1 k2 at_ who t54 t55 t71 t72 (t145.length : Int) i d d2 p_ p_2 p_3 p_4 p_5 p_6 p_7 p_8 p_9 p_10 p_11 p_12 p_13 p_14 p_15 p_16 p_17 p_18 p_19 p_20 p_21 p_22 p_23 p_24 p_25 p_26 p_27 p_28 a a2 a3 a4 a5 a6 a7 a8 a9 a10 a11 a12 a13 a14 b b2 b3 b4 b5 b6 b7 b8 b9 b10 b11 b12 b13 b14 t53 t70 t145) (k2 at_ who t54 t55 t71 t72 d d2 p_ p_2 p_3 p_4 p_5 p_6 p_7 p_8 p_9 p_10 p_11 p_12 p_13 p_14 p_15 p_16 p_17 p_18 p_19 p_20 p_21 p_22 p_23 p_24 p_25 p_26 p_27 p_28 a a2 a3 a4 a5 a6 a7 a8 a9 a10 a11 a12 a13 a14 b b2 b3 b4 b5 b6 b7 b8 b9 b10 b11 b12 b13 b14 t53 t70) none fuel (lt_fuel (by omega))
    (fun m i hi => by
      rw [zqsn]
      unfold zqs6
      refine (c_pos (by omega)).trans ?_
      refine (c_inb (by omega)).trans ?_
      dsimp only
      rw [Int.toNat_natCast]
      refine (ihas_eq _ ha _ _).trans ?_
      refine (c_npos (hm _ (mem_getD hi))).trans ?_
      rw [i64_in ((i : Int) + 1) (by omega)]
      rfl)
    (fun m => by
      rw [zqsn]
      unfold zqs6
      exact c_neg (by omega))
  rw [all_true] at h
  exact h
theorem merges_p3 {p q : Inc} (hp : SizedI p) (hq : SizedI q) {t70 : List (Int × Int)} (hl : t70.length ≤ 100) (k1 : zqrt β) (k2 : zqru β) {at_ who t54 t55 d d2 t53} :
    zqss k1 k2 at_ who t54 t55 (t70.length : Int) 0 d d2 p.1 p.2.1 p.2.2.1 p.2.2.2.1 p.2.2.2.2.1 p.2.2.2.2.2.1.1 p.2.2.2.2.2.1.2.1 p.2.2.2.2.2.1.2.2 p.2.2.2.2.2.2.1 p.2.2.2.2.2.2.2.1 p.2.2.2.2.2.2.2.2.1 p.2.2.2.2.2.2.2.2.2.1 p.2.2.2.2.2.2.2.2.2.2.1 p.2.2.2.2.2.2.2.2.2.2.2 q.1 q.2.1 q.2.2.1 q.2.2.2.1 q.2.2.2.2.1 q.2.2.2.2.2.1.1 q.2.2.2.2.2.1.2.1 q.2.2.2.2.2.1.2.2 q.2.2.2.2.2.2.1 q.2.2.2.2.2.2.2.1 q.2.2.2.2.2.2.2.2.1 q.2.2.2.2.2.2.2.2.2.1 q.2.2.2.2.2.2.2.2.2.2.1 q.2.2.2.2.2.2.2.2.2.2.2 t53 t70 = k2 at_ who t54 t55 d d2 t53 := by
  unfold zqss
  have h := scan_state t70.length (fun _ => ()) (fun _ => true) (fun m i _ => zqsq m k1 k2 at_ who t54 t55 (t70.length : Int) i d d2 p.1 p.2.1 p.2.2.1 p.2.2.2.1 p.2.2.2.2.1 p.2.2.2.2.2.1.1 p.2.2.2.2.2.1.2.1 p.2.2.2.2.2.1.2.2 p.2.2.2.2.2.2.1 p.2.2.2.2.2.2.2.1 p.2.2.2.2.2.2.2.2.1 p.2.2.2.2.2.2.2.2.2.1 p.2.2.2.2.2.2.2.2.2.2.1 p.2.2.2.2.2.2.2.2.2.2.2 q.1 q.2.1 q.2.2.1 q.2.2.2.1 q.2.2.2.2.1 q.2.2.2.2.2.1.1 q.2.2.2.2.2.1.2.1 q.2.2.2.2.2.1.2.2 q.2.2.2.2.2.2.1 q.2.2.2.2.2.2.2.1 q.2.2.2.2.2.2.2.2.1 q.2.2.2.2.2.2.2.2.2.1 q.2.2.2.2.2.2.2.2.2.2.1 q.2.2.2.2.2.2.2.2.2.2.2 t53 t70) (k2 at_ who t54 t55 d d2 t53) none fuel (lt_fuel (by omega))
    (fun m i hi => by
      rw [zqsr]
      unfold zqs9
      refine (c_pos (by omega)).trans ?_
      refine (c_inb (by omega)).trans ?_
      dsimp only
      rw [Int.toNat_natCast]
      refine (iMerge_eq (a := p) (b := q) hp hq _ _ _).trans ?_
      by_cases h0 : mergeE p q (t70.getD i ((0 : Int), (0 : Int))).1 (t70.getD i ((0 : Int), (0 : Int))).2 = 0
      · refine (mergeK_ok h0).trans ?_
        refine (rMerge_eq (a := p) (b := q) hp hq _ _ _).trans ?_
        refine (mergeK_ok h0).trans ?_
        have ha := mergedA_ok h0
        have hb := mergedB_ok h0
        have sa := valid_sized ha
        have sb := valid_sized hb
        obtain ⟨⟨hca, hcb⟩, -, -, -, hf⟩ := merge_zero h0
        obtain ⟨-, -, -, -, -, -, l7, l8, -, ⟨-, l10⟩, -, -, -, -⟩ := checkI_iff.1 hca
        obtain ⟨-, -, -, -, -, -, m7, m8, -, ⟨-, m10⟩, -, -, -, -⟩ := checkI_iff.1 hcb
        have l8 := asc_short l8
        have m8 := asc_short m8
        refine (c_npos rfl).trans ?_
        refine (isame_self sa _).trans ?_
        refine c_f.trans ?_
        refine (isame_self sb _).trans ?_
        refine c_f.trans ?_
        refine (c_npos rfl).trans ?_
        refine (c_room (by show p.pg.length * 8 ≤ 140737488355328; omega)).trans ?_
        refine (c_room (by show (p.pg.length + q.pg.length) * 8 ≤ 140737488355328; omega)).trans ?_
        refine (merges_p1 (by show (p.pg ++ q.pg).length ≤ 1000; rw [List.length_append]; omega) sa.pg (fun x hx => joinI_mem.2 (List.mem_append.1 hx)) _ _).trans ?_
        refine (c_room (by show p.su.length * 8 ≤ 140737488355328; omega)).trans ?_
        refine (c_room (by show (p.su.length + q.su.length) * 8 ≤ 140737488355328; omega)).trans ?_
        refine (merges_p2 (by show (p.su ++ q.su).length ≤ 1000; rw [List.length_append]; omega) sa.su (fun x hx => joinI_mem.2 (List.mem_append.1 hx)) _ _).trans ?_
        have e : ((mergedA p q).2.2.2.2.2.2.2.1.length : Int) = IntKind.i64.wrap ((p.2.2.2.2.2.2.2.1.length : Int) + (q.2.2.2.2.2.2.2.1.length : Int)) := by
          rw [i64_in _ (by show -9223372036854775808 ≤ (p.ts.length : Int) + (q.ts.length : Int) ∧ (p.ts.length : Int) + (q.ts.length : Int) ≤ 9223372036854775807; omega)]
          show ((p.ts ++ q.ts.map (mvT p.op)).length : Int) = (p.ts.length : Int) + (q.ts.length : Int)
          rw [List.length_append, List.length_map]
          omega
        refine (c_npos e).trans ?_
        refine (c_npos rfl).trans ?_
        refine (c_npos rfl).trans ?_
        refine (rcheck_eq sa _).trans ?_
        rw [ha]
        refine c_f.trans ?_
        refine (rcheck_eq sb _).trans ?_
        rw [hb]
        refine c_f.trans ?_
        rw [i64_in ((i : Int) + 1) (by omega)]
        rfl
      · refine (mergeK_e rfl h0).trans ?_
        refine (rMerge_eq (a := p) (b := q) hp hq _ _ _).trans ?_
        refine (mergeK_e rfl h0).trans ?_
        refine (c_npos rfl).trans ?_
        refine (isame_self zeroI_sized _).trans ?_
        refine c_f.trans ?_
        refine (isame_self zeroI_sized _).trans ?_
        refine c_f.trans ?_
        refine (c_nneg h0).trans ?_
        rw [i64_in ((i : Int) + 1) (by omega)]
        rfl)
    (fun m => by
      rw [zqsr]
      unfold zqs9
      exact c_neg (by omega))
  rw [all_true] at h
  exact h
theorem merges_p4 {t53 : List (Inc × Inc)} (hl : t53.length ≤ 100) (hs : ∀ u ∈ t53, SizedI u.1 ∧ SizedI u.2) (at_ who : Int) (k1 : zqry β) (k2 : zqrz β) :
    ∀ (N i : Nat) (d : Dice), DiceOk d → i ≤ t53.length → t53.length - i < N → zqsu N k1 k2 at_ who (t53.length : Int) (i : Int) d.1 d.2 t53 = k2 ()
  | 0, _, _, _, _, hN => absurd hN (by omega)
  | N + 1, i, d, hd, hi, hN => by
    rw [zqsv]
    unfold zqsc
    by_cases hlt : i < t53.length
    · obtain ⟨r, d1, hr0, hr1, hd1, f1⟩ := next_ok (n := 5) hd (by omega)
      obtain ⟨s, d2, hs0, hs1, hd2, f2⟩ := next_ok (n := 100) hd1 (by omega)
      refine (c_pos (by omega)).trans ?_
      refine (c_inb (by omega)).trans ?_
      refine (f1 _).trans ?_
      refine (f2 _).trans ?_
      rw [Int.toNat_natCast]
      have hu := hs _ (mem_getD (d := (zeroI, zeroI)) hlt)
      refine (merges_p3 hu.1 hu.2 (t70 := [(at_, who), (866000, IntKind.i64.wrap (r - 1)), (IntKind.i64.wrap (864000 + s), 1)]) (by simp) _ _).trans ?_
      rw [i64_in ((i : Int) + 1) (by omega)]
      exact merges_p4 hl hs at_ who k1 k2 N (i + 1) d2 hd2 (by omega) (by omega)
    · exact c_neg (by omega)
theorem incidentMerges (t : List Int) (at_ who : Int) (k : Bool → Option β) : zqsy t at_ who k = k true := by
  unfold zqsy zqsf
  refine (light_eq t _).trans ?_
  by_cases hl : (t.length : Int) ≤ 500
  · rw [decide_eq_true hl]
    refine c_f.trans ?_
    refine (roll_eq t _).trans ?_
    obtain ⟨r, d1, hr0, hr1, hd1, f1⟩ := next_ok (n := 3) (roll_ok hl) (by omega)
    refine (f1 _).trans ?_
    rw [i64_in (1 + r) (by omega)]
    obtain ⟨x, d2, hx, -, -, -, -, hd2, f2⟩ := incident_ok (1 + r) 8 (by omega) (by omega) hd1
    refine (f2 _).trans ?_
    obtain ⟨s, d3, hs0, hs1, hd3, f3⟩ := next_ok (n := 3) hd2 (by omega)
    refine (f3 _).trans ?_
    rw [i64_in (1 + s) (by omega)]
    obtain ⟨y, d4, hy, -, -, -, -, hd4, f4⟩ := incident_ok (1 + s) 8 (by omega) (by omega) hd3
    refine (f4 _).trans ?_
    obtain ⟨u, d5, hu, hd5, f5⟩ := odd_ok hx hd4
    refine (f5 _).trans ?_
    obtain ⟨v, d6, hv, hd6, f6⟩ := odd_ok hy hd5
    refine (f6 _).trans ?_
    unfold zqsw
    have hsx := valid_sized hx
    have hsy := valid_sized hy
    refine (merges_p4 (t53 := [(x, y), (u, y), (x, v)]) (by simp) (fun w hw => ?_) at_ who _ _ fuel 0 d6 hd6 (by simp) (lt_fuel (by simp))).trans ?_
    · simp only [List.mem_cons, List.not_mem_nil, or_false] at hw
      rcases hw with rfl | rfl | rfl
      · exact ⟨hsx, hsy⟩
      · exact ⟨hu, hsy⟩
      · exact ⟨hsx, hv⟩
    · exact sane37m _
  · rw [decide_eq_false hl]
    refine c_t.trans ?_
    exact sane37m _
end
end
end Go.Lift
