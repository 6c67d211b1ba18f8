/- The lifter, part C: what it means that an operation is done as the evaluator says. -/
import Derived.Test.YtmghopaimcoloaaLiftB
import Derived.Orders
import Derived.Laws.Rows
import Derived.Laws.CopyRow
import Derived.Laws.MakeOwn
import Derived.Laws.Build
import Derived.Laws.StructEq
import Derived.Laws.Small
import Derived.Deep.RegionLaw
namespace Go.Lift
open Go.RowKit

def Blk.live : Blk → Bool
  | .dead => false
  | _ => true

def Own (pl : Nat → Option Pl) (bl : Nat → Option Blk) (g : Nat) : Prop :=
  ∃ i B p, bl i = some B ∧ B.live = true ∧ pl i = some p ∧ p.blk = some g

def envOf (ok0 : Nat → Prop) (base : Nat) (pl : Nat → Option Pl) (bl : Nat → Option Blk) (w : World) : Env :=
  { w, ok := fun g => (ok0 g ∨ base ≤ g) ∧ ¬ Own pl bl g, base, pl, bl }

structure RelB (ok0 : Nat → Prop) (base : Nat) (pl : Nat → Option Pl) (bl : Nat → Option Blk) (w : World) : Prop where
  baseLe : base ≤ w.heap.size
  blks : ∀ i B, bl i = some B → ∃ p, pl i = some p ∧ BRep (envOf ok0 base pl bl w) B p
  sep : ∀ i j B C p q g, i ≠ j → bl i = some B → bl j = some C → B.live = true → C.live = true → pl i = some p → pl j = some q → p.blk = some g → q.blk ≠ some g
  fresh : ∀ i, bl i = none → pl i = none

structure Step (pl : Nat → Option Pl) (bl : Nat → Option Blk) (w : World) (pl' : Nat → Option Pl) (bl' : Nat → Option Blk) (w' : World) : Prop where
  os : w'.os = w.os
  tape : w'.tape = w.tape
  output : w'.output = w.output
  size : w.heap.size ≤ w'.heap.size
  out : ∀ g, g < w.heap.size → ¬ Own pl bl g → w'.heap[g]? = w.heap[g]? ∧ ¬ Own pl' bl' g
  cells : ∀ b g, pl b = some (.cells g) → pl' b = some (.cells g)
  rows : ∀ b sv, pl b = some (.row sv) → ∃ sv', pl' b = some (.row sv') ∧ ∀ t e ver' l', bl' b = some (.row t e ver' l') →
    ∃ ver l, bl b = some (.row t e ver l) ∧ ver ≤ ver' ∧ (ver = ver' → sv' = sv ∧ l'.length = l.length)

theorem Step.refl (pl : Nat → Option Pl) (bl : Nat → Option Blk) (w : World) : Step pl bl w pl bl w :=
  ⟨rfl, rfl, rfl, Nat.le_refl _, fun _ _ h => ⟨rfl, h⟩, fun _ _ h => h, fun _ sv h => ⟨sv, h, fun _ _ ver' l' hb => ⟨ver', l', hb, Nat.le_refl _, fun _ => ⟨rfl, rfl⟩⟩⟩⟩

theorem Step.trans {pl pl1 pl2 : Nat → Option Pl} {bl bl1 bl2 : Nat → Option Blk} {w w1 w2 : World} (h : Step pl bl w pl1 bl1 w1) (k : Step pl1 bl1 w1 pl2 bl2 w2) : Step pl bl w pl2 bl2 w2 := by
  refine ⟨k.os.trans h.os, k.tape.trans h.tape, k.output.trans h.output, Nat.le_trans h.size k.size, fun g hg ho => ?_, fun b g hb => k.cells b g (h.cells b g hb), fun b sv hb => ?_⟩
  · obtain ⟨h1, h2⟩ := h.out g hg ho
    obtain ⟨k1, k2⟩ := k.out g (Nat.lt_of_lt_of_le hg h.size) h2
    exact ⟨k1.trans h1, k2⟩
  · obtain ⟨sv1, p1, r1⟩ := h.rows b sv hb
    obtain ⟨sv2, p2, r2⟩ := k.rows b sv1 p1
    refine ⟨sv2, p2, fun t e ver2 l2 hb2 => ?_⟩
    obtain ⟨ver1, l1, hb1, le1, eq1⟩ := r2 t e ver2 l2 hb2
    obtain ⟨ver0, l0, hb0, le0, eq0⟩ := r1 t e ver1 l1 hb1
    refine ⟨ver0, l0, hb0, Nat.le_trans le0 le1, fun he => ?_⟩
    have e01 : ver0 = ver1 := Nat.le_antisymm le0 (he ▸ le1)
    have e12 : ver1 = ver2 := e01 ▸ he
    exact ⟨(eq1 e12).1.trans (eq0 e01).1, (eq1 e12).2.trans (eq0 e01).2⟩

/-- As 'Step', but only the first m blocks keep their numbers. -/
structure StepM (m : Nat) (pl : Nat → Option Pl) (bl : Nat → Option Blk) (w : World) (pl' : Nat → Option Pl) (bl' : Nat → Option Blk) (w' : World) : Prop where
  os : w'.os = w.os
  tape : w'.tape = w.tape
  output : w'.output = w.output
  size : w.heap.size ≤ w'.heap.size
  out : ∀ g, g < w.heap.size → ¬ Own pl bl g → w'.heap[g]? = w.heap[g]? ∧ ¬ Own pl' bl' g
  cells : ∀ b g, b < m → pl b = some (.cells g) → pl' b = some (.cells g)
  rows : ∀ b sv, b < m → pl b = some (.row sv) → ∃ sv', pl' b = some (.row sv')

theorem Step.toM {m : Nat} {pl pl' : Nat → Option Pl} {bl bl' : Nat → Option Blk} {w w' : World} (h : Step pl bl w pl' bl' w') : StepM m pl bl w pl' bl' w' :=
  ⟨h.os, h.tape, h.output, h.size, h.out, fun b g _ => h.cells b g, fun b sv _ hb => by obtain ⟨sv', h1, _⟩ := h.rows b sv hb; exact ⟨sv', h1⟩⟩

theorem StepM.refl (m : Nat) (pl : Nat → Option Pl) (bl : Nat → Option Blk) (w : World) : StepM m pl bl w pl bl w := (Step.refl pl bl w).toM

theorem StepM.trans {m : Nat} {pl pl1 pl2 : Nat → Option Pl} {bl bl1 bl2 : Nat → Option Blk} {w w1 w2 : World} (h : StepM m pl bl w pl1 bl1 w1) (k : StepM m pl1 bl1 w1 pl2 bl2 w2) : StepM m pl bl w pl2 bl2 w2 := by
  refine ⟨k.os.trans h.os, k.tape.trans h.tape, k.output.trans h.output, Nat.le_trans h.size k.size, fun g hg ho => ?_, fun b g hm hb => k.cells b g hm (h.cells b g hm hb), fun b sv hm hb => ?_⟩
  · obtain ⟨h1, h2⟩ := h.out g hg ho
    obtain ⟨k1, k2⟩ := k.out g (Nat.lt_of_lt_of_le hg h.size) h2
    exact ⟨k1.trans h1, k2⟩
  · obtain ⟨sv', h1⟩ := h.rows b sv hm hb
    exact k.rows b sv' hm h1

theorem Step.ext {ok0 : Nat → Prop} {base : Nat} {pl pl' : Nat → Option Pl} {bl bl' : Nat → Option Blk} {w w' : World} (h : Step pl bl w pl' bl' w') :
    Ext (envOf ok0 base pl bl w) (envOf ok0 base pl' bl' w') :=
  ⟨Nat.le_refl _, fun g hg hlt => ⟨⟨hg.1, (h.out g hlt hg.2).2⟩, (h.out g hlt hg.2).1⟩, h.cells, h.rows⟩

def upd {α : Type} (f : Nat → Option α) (i : Nat) (x : α) : Nat → Option α := fun j => if j = i then some x else f j
def updL {α : Type} (f : Nat → Option α) : List (Nat × α) → Nat → Option α
  | [] => f
  | (i, x) :: r => updL (upd f i x) r

theorem look_puts {α : Type} : ∀ (r l : List (Nat × α)), look (puts l r) = updL (look l) r
  | [], _ => rfl
  | (i, x) :: r, l => by
    rw [puts, look_puts r, updL]
    congr 1
    funext j
    rw [look_put, upd]

/-- The operation does what the evaluator says: the result v, the blocks wr. -/
def OpOk (P : Program) (o : Oper) (ρ : Operand → V) (bl : Nat → Option Blk) (v : V) (wr : List (Nat × Blk)) : Prop :=
  ∀ (ok0 : Nat → Prop) (base : Nat) (pl : Nat → Option Pl) (w : World) (a : Act), RelB ok0 base pl bl w →
    (∀ x ∈ o.op.operands, VRep (envOf ok0 base pl bl w) (ρ x) (a.eval x)) →
    ∀ (K : Act → World → Prop) (Q : Exit → Act → World → Prop),
      (∀ val pl' w', RelB ok0 base pl' (updL bl wr) w' → Step pl bl w pl' (updL bl wr) w' → VRep (envOf ok0 base pl' (updL bl wr) w') v val → K (a.put o.dst val) w') →
      o.wp P a w K Q

section
variable {P : Program} {o : Oper} {ρ : Operand → V} {bl : Nat → Option Blk} {v : V}

theorem wp_of_value {a : Act} {w w' : World} {val : Value} (h : (execOp a.eval o).run P w = .ok (.value val) w') {K : Act → World → Prop} {Q : Exit → Act → World → Prop} (hk : K (a.put o.dst val) w') : o.wp P a w K Q := by
  unfold Oper.wp
  rw [h]
  exact hk

theorem wp_of_skip {a : Act} {w w' : World} (h : (execOp a.eval o).run P w = .ok .skip w') {K : Act → World → Prop} {Q : Exit → Act → World → Prop} (hk : K (a.put o.dst undef) w') : o.wp P a w K Q := by
  unfold Oper.wp
  rw [h]
  exact hk

theorem OpOk.of_pure (h : ∀ (ok0 : Nat → Prop) (base : Nat) (pl : Nat → Option Pl) (w : World) (a : Act), RelB ok0 base pl bl w →
    (∀ x ∈ o.op.operands, VRep (envOf ok0 base pl bl w) (ρ x) (a.eval x)) → ∃ val, (execOp a.eval o).run P w = .ok (.value val) w ∧ VRep (envOf ok0 base pl bl w) v val) : OpOk P o ρ bl v [] := by
  intro ok0 base pl w a hr hx K Q hk
  obtain ⟨val, h1, h2⟩ := h ok0 base pl w a hr hx
  exact wp_of_value h1 (hk val pl w hr (Step.refl pl bl w) h2)
end

/-! ### A new block; a block written -/
section
variable {ok0 : Nat → Prop} {base : Nat} {pl : Nat → Option Pl} {bl : Nat → Option Blk} {w : World}

/-- One block of the evaluator's is new or has turned: the general step. -/
theorem RelB.put (hr : RelB ok0 base pl bl w) {i : Nat} {B : Blk} {p : Pl} {w' : World}
    (hs : Step pl bl w (upd pl i p) (upd bl i B) w')
    (hB : BRep (envOf ok0 base (upd pl i p) (upd bl i B) w') B p)
    (hg : ∀ j C q g, j ≠ i → bl j = some C → C.live = true → pl j = some q → q.blk = some g → w'.heap[g]? = w.heap[g]? ∧ p.blk ≠ some g)
    : RelB ok0 base (upd pl i p) (upd bl i B) w' := by
  refine ⟨Nat.le_trans hr.baseLe hs.size, fun j C hC => ?_, fun j k C D q r g hjk hC hD hlC hlD hq hr' hqg => ?_, fun j hj => ?_⟩
  · by_cases hj : j = i
    · subst hj
      simp only [upd, if_true, Option.some.injEq] at hC
      subst hC
      exact ⟨p, by simp [upd], hB⟩
    · simp only [upd, hj, if_false] at hC ⊢
      obtain ⟨q, hq, hBq⟩ := hr.blks j C hC
      refine ⟨q, hq, ?_⟩
      cases hl : C.live with
      | false => cases C <;> first | exact trivial | simp [Blk.live] at hl
      | true => exact BRep.mono hs.ext hBq fun g hqg => (hg j C q g hj hC hl hq hqg).1
  · by_cases hj : j = i
    · by_cases hk : k = i
      · exact absurd (hj.trans hk.symm) hjk
      · subst hj
        simp only [upd, if_true, Option.some.injEq, hk, if_false] at hC hD hq hr'
        subst hC hq
        intro hrg
        exact (hg k D r g hk hD hlD hr' hrg).2 hqg
    · by_cases hk : k = i
      · subst hk
        simp only [upd, if_true, Option.some.injEq, hj, if_false] at hC hD hq hr'
        subst hD hr'
        exact (hg j C q g hj hC hlC hq hqg).2
      · simp only [upd, hj, hk, if_false] at hC hD hq hr'
        exact hr.sep j k C D q r g hjk hC hD hlC hlD hq hr' hqg
  · by_cases hj' : j = i
    · subst hj'; simp [upd] at hj
    · simp only [upd, hj', if_false] at hj ⊢
      exact hr.fresh j hj

theorem Own.lt (hr : RelB ok0 base pl bl w) {g : Nat} (h : Own pl bl g) : g < w.heap.size := by
  obtain ⟨i, B, p, hB, hl, hp, hg⟩ := h
  obtain ⟨q, hq, hR⟩ := hr.blks i B hB
  rw [hp] at hq
  injection hq with hq
  subst hq
  cases B with
  | dead => simp [Blk.live] at hl
  | cells t cs =>
    cases p with
    | row _ => exact hR.elim
    | cells g' =>
      obtain ⟨vs, h1, _⟩ := hR
      simp only [Pl.blk, Option.some.injEq] at hg
      subst hg
      exact (Array.getElem?_eq_some_iff.1 h1).1
  | map t k v vg l =>
    cases p with
    | row _ => exact hR.elim
    | cells g' =>
      obtain ⟨es, clock, h1, _⟩ := hR
      simp only [Pl.blk, Option.some.injEq] at hg
      subst hg
      exact (Array.getElem?_eq_some_iff.1 h1).1
  | row t e ver l =>
    cases p with
    | cells _ => exact hR.elim
    | row sv =>
      obtain ⟨xs, _, h2⟩ := hR
      exact (h2.lt g hg).2

/-- A new block. -/
theorem Step.new (hr : RelB ok0 base pl bl w) {i : Nat} (hi : bl i = none) {B : Blk} {p : Pl} {w' : World} (hg : w.grownBy w' none)
    (hp : ∀ g, p.blk = some g → w.heap.size ≤ g) : Step pl bl w (upd pl i p) (upd bl i B) w' := by
  have hpi := hr.fresh i hi
  refine ⟨hg.os, hg.tape, hg.output, hg.size, fun g hlt ho => ⟨hg.block g hlt (by simp), ?_⟩, fun b g hb => ?_, fun b sv hb => ?_⟩
  · rintro ⟨j, C, q, hC, hl, hq, hqg⟩
    by_cases hj : j = i
    · subst hj
      simp only [upd, if_true, Option.some.injEq] at hC hq
      subst hq
      have := hp g hqg
      omega
    · simp only [upd, hj, if_false] at hC hq
      exact ho ⟨j, C, q, hC, hl, hq, hqg⟩
  · have hbi : b ≠ i := by rintro rfl; rw [hpi] at hb; cases hb
    simp [upd, hbi, hb]
  · have hbi : b ≠ i := by rintro rfl; rw [hpi] at hb; cases hb
    exact ⟨sv, by simp [upd, hbi, hb], fun t e ver' l' hb' => ⟨ver', l', by simpa [upd, hbi] using hb', Nat.le_refl _, fun _ => ⟨rfl, rfl⟩⟩⟩

theorem RelB.new (hr : RelB ok0 base pl bl w) {i : Nat} (hi : bl i = none) {B : Blk} {p : Pl} {w' : World} (hg : w.grownBy w' none)
    (hp : ∀ g, p.blk = some g → w.heap.size ≤ g) (hB : BRep (envOf ok0 base (upd pl i p) (upd bl i B) w') B p) : RelB ok0 base (upd pl i p) (upd bl i B) w' := by
  refine hr.put (Step.new hr hi hg hp) hB fun j C q g hj hC hl hq hqg => ?_
  have hlt : g < w.heap.size := Own.lt hr ⟨j, C, q, hC, hl, hq, hqg⟩
  refine ⟨hg.block g hlt (by simp), fun hpg => ?_⟩
  have := hp g hpg
  omega

/-- A row of one's own, grown or written in its place. -/
theorem Step.grown (_hr : RelB ok0 base pl bl w) {i : Nat} {t : TypeId} {e : Ty} {ver ver' : Nat} {l l' : List e.den} (hi : bl i = some (.row t e ver l)) {sv sv' : Value} (hpi : pl i = some (.row sv)) {w' : World}
    (hg : w.grownBy w' sv.ownBlock) (hv : sv'.ownBlock = sv.ownBlock ∨ ∀ g, sv'.ownBlock = some g → w.heap.size ≤ g) (hver : ver ≤ ver' ∧ (ver = ver' → sv' = sv ∧ l'.length = l.length)) :
    Step pl bl w (upd pl i (.row sv')) (upd bl i (.row t e ver' l')) w' := by
  have hown : ∀ g, sv.ownBlock = some g → Own pl bl g := fun g h => ⟨i, _, _, hi, rfl, hpi, h⟩
  refine ⟨hg.os, hg.tape, hg.output, hg.size, fun g hlt ho => ⟨hg.block g hlt (fun h => ho (hown g h.symm)), ?_⟩, fun b g hb => ?_, fun b sv0 hb => ?_⟩
  · rintro ⟨j, C, q, hC, hl, hq, hqg⟩
    by_cases hj : j = i
    · subst hj
      simp only [upd, if_true, Option.some.injEq] at hC hq
      subst hq
      rcases hv with hv | hv
      · exact ho (hown g (hv ▸ hqg))
      · have := hv g hqg
        omega
    · simp only [upd, hj, if_false] at hC hq
      exact ho ⟨j, C, q, hC, hl, hq, hqg⟩
  · have hbi : b ≠ i := by rintro rfl; rw [hpi] at hb; cases hb
    simp [upd, hbi, hb]
  · by_cases hbi : b = i
    · subst hbi
      rw [hpi] at hb
      injection hb with hb
      injection hb with hb
      subst hb
      refine ⟨sv', by simp [upd], fun t1 e1 ver1 l1 h1 => ?_⟩
      simp only [upd, if_true, Option.some.injEq] at h1
      injection h1 with h2 h3 h4 h5
      subst h2 h3 h4
      simp only [heq_eq_eq] at h5
      subst h5
      exact ⟨ver, l, hi, hver.1, hver.2⟩
    · exact ⟨sv0, by simp [upd, hbi, hb], fun t e ver' l' hb' => ⟨ver', l', by simpa [upd, hbi] using hb', Nat.le_refl _, fun _ => ⟨rfl, rfl⟩⟩⟩

theorem RelB.grown (hr : RelB ok0 base pl bl w) {i : Nat} {t : TypeId} {e : Ty} {ver ver' : Nat} {l l' : List e.den} (hi : bl i = some (.row t e ver l)) {sv sv' : Value} (hpi : pl i = some (.row sv)) {w' : World}
    (hg : w.grownBy w' sv.ownBlock) (hv : sv'.ownBlock = sv.ownBlock ∨ ∀ g, sv'.ownBlock = some g → w.heap.size ≤ g) (hver : ver ≤ ver' ∧ (ver = ver' → sv' = sv ∧ l'.length = l.length))
    (hB : BRep (envOf ok0 base (upd pl i (.row sv')) (upd bl i (.row t e ver' l')) w') (.row t e ver' l') (.row sv')) :
    RelB ok0 base (upd pl i (.row sv')) (upd bl i (.row t e ver' l')) w' := by
  refine hr.put (Step.grown hr hi hpi hg hv hver) hB fun j C q g hj hC hl hq hqg => ?_
  have hlt : g < w.heap.size := Own.lt hr ⟨j, C, q, hC, hl, hq, hqg⟩
  have hne : sv.ownBlock ≠ some g := fun h => hr.sep j i _ _ _ _ g hj hC hi hl rfl hq hpi hqg h
  refine ⟨hg.block g hlt (fun h => hne h.symm), fun hpg => ?_⟩
  rcases hv with hv | hv
  · exact hne (hv ▸ hpg)
  · have := hv g hpg
    omega

/-- A block of cells written in its place. -/
theorem Step.wroteB (_hr : RelB ok0 base pl bl w) {i g0 : Nat} {B B' : Blk} (hi : bl i = some B) (hl : B.live = true) (hpi : pl i = some (.cells g0)) {w' : World}
    (hg : w.grownBy w' (some g0)) : Step pl bl w (upd pl i (.cells g0)) (upd bl i B') w' := by
  have hown : Own pl bl g0 := ⟨i, _, _, hi, hl, hpi, rfl⟩
  refine ⟨hg.os, hg.tape, hg.output, hg.size, fun g hlt ho => ⟨hg.block g hlt (fun h => ho (by injection h with h; subst h; exact hown)), ?_⟩, fun b g hb => ?_, fun b sv0 hb => ?_⟩
  · rintro ⟨j, C, q, hC, hl, hq, hqg⟩
    by_cases hj : j = i
    · subst hj
      simp only [upd, if_true, Option.some.injEq] at hC hq
      subst hq
      simp only [Pl.blk, Option.some.injEq] at hqg
      subst hqg
      exact ho hown
    · simp only [upd, hj, if_false] at hC hq
      exact ho ⟨j, C, q, hC, hl, hq, hqg⟩
  · by_cases hbi : b = i
    · subst hbi; rw [hpi] at hb; simpa [upd] using hb
    · simp [upd, hbi, hb]
  · have hbi : b ≠ i := by rintro rfl; rw [hpi] at hb; cases hb
    exact ⟨sv0, by simp [upd, hbi, hb], fun t e ver' l' hb' => ⟨ver', l', by simpa [upd, hbi] using hb', Nat.le_refl _, fun _ => ⟨rfl, rfl⟩⟩⟩

theorem RelB.wroteB (hr : RelB ok0 base pl bl w) {i g0 : Nat} {B B' : Blk} (hi : bl i = some B) (hl0 : B.live = true) (hpi : pl i = some (.cells g0)) {w' : World}
    (hg : w.grownBy w' (some g0)) (hB : BRep (envOf ok0 base (upd pl i (.cells g0)) (upd bl i B') w') B' (.cells g0)) :
    RelB ok0 base (upd pl i (.cells g0)) (upd bl i B') w' := by
  refine hr.put (Step.wroteB hr hi hl0 hpi hg) hB fun j C q g hj hC hl hq hqg => ?_
  have hlt : g < w.heap.size := Own.lt hr ⟨j, C, q, hC, hl, hq, hqg⟩
  have hne : g0 ≠ g := fun h => hr.sep j i _ _ _ _ g hj hC hi hl hl0 hq hpi hqg (by rw [← h]; rfl)
  exact ⟨hg.block g hlt (fun h => hne (by injection h with h; exact h.symm)), fun hpg => hne (by simpa [Pl.blk] using hpg)⟩

theorem Step.wrote (hr : RelB ok0 base pl bl w) {i g0 : Nat} {t : TypeId} {cs cs' : List C} (hi : bl i = some (.cells t cs)) (hpi : pl i = some (.cells g0)) {w' : World}
    (hg : w.grownBy w' (some g0)) : Step pl bl w (upd pl i (.cells g0)) (upd bl i (.cells t cs')) w' := Step.wroteB hr hi rfl hpi hg
theorem RelB.wrote (hr : RelB ok0 base pl bl w) {i g0 : Nat} {t : TypeId} {cs cs' : List C} (hi : bl i = some (.cells t cs)) (hpi : pl i = some (.cells g0)) {w' : World}
    (hg : w.grownBy w' (some g0)) (hB : BRep (envOf ok0 base (upd pl i (.cells g0)) (upd bl i (.cells t cs')) w') (.cells t cs') (.cells g0)) :
    RelB ok0 base (upd pl i (.cells g0)) (upd bl i (.cells t cs')) w' := RelB.wroteB hr hi rfl hpi hg hB
end
end Go.Lift
