/- The lifter, part C: what it means that an operation is done as the evaluator says. -/
import Derived.Test.YtamnjokpncjbfaaLiftB
import Derived.Orders
import Derived.Laws.Rows
import Derived.Laws.CopyRow
import Derived.Laws.MakeOwn
import Derived.Laws.Build
import Derived.Laws.StructEq
import Derived.Laws.Small
import Derived.Deep.RegionLaw
namespace Go.Lift
open Go.RowKit

def Blk.live : Blk → Bool
  | .dead => false
  | _ => true

def Own (pl : Nat → Option Pl) (bl : Nat → Option Blk) (g : Nat) : Prop :=
  ∃ i B p, bl i = some B ∧ B.live = true ∧ pl i = some p ∧ p.has g

def envOf (ok0 : Nat → Prop) (base : Nat) (pl : Nat → Option Pl) (bl : Nat → Option Blk) (w : World) : Env :=
  { w, ok := fun g => (ok0 g ∨ base ≤ g) ∧ ¬ Own pl bl g, base, pl, bl }

structure RelB (ok0 : Nat → Prop) (base : Nat) (pl : Nat → Option Pl) (bl : Nat → Option Blk) (w : World) : Prop where
  baseLe : base ≤ w.heap.size
  blks : ∀ i B, bl i = some B → ∃ p, pl i = some p ∧ BRep (envOf ok0 base pl bl w) B p
  sep : ∀ i j B C p q g, i ≠ j → bl i = some B → bl j = some C → B.live = true → C.live = true → pl i = some p → pl j = some q → p.has g → ¬ q.has g
  fresh : ∀ i, bl i = none → pl i = none

structure Step (pl : Nat → Option Pl) (bl : Nat → Option Blk) (w : World) (pl' : Nat → Option Pl) (bl' : Nat → Option Blk) (w' : World) : Prop where
  os : w'.os = w.os
  tape : w'.tape = w.tape
  output : w'.output = w.output
  size : w.heap.size ≤ w'.heap.size
  out : ∀ g, g < w.heap.size → ¬ Own pl bl g → w'.heap[g]? = w.heap[g]? ∧ ¬ Own pl' bl' g
  cells : ∀ b g, pl b = some (.cells g) → pl' b = some (.cells g)
  rows : ∀ b sv svs, pl b = some (.row sv svs) → ∃ sv' svs', pl' b = some (.row sv' svs') ∧ KeepR (bl b) (bl' b) sv svs sv' svs'

theorem Step.refl (pl : Nat → Option Pl) (bl : Nat → Option Blk) (w : World) : Step pl bl w pl bl w :=
  ⟨rfl, rfl, rfl, Nat.le_refl _, fun _ _ h => ⟨rfl, h⟩, fun _ _ h => h, fun _ sv svs h => ⟨sv, svs, h, KeepR.refl _ _ _⟩⟩

theorem Step.trans {pl pl1 pl2 : Nat → Option Pl} {bl bl1 bl2 : Nat → Option Blk} {w w1 w2 : World} (h : Step pl bl w pl1 bl1 w1) (k : Step pl1 bl1 w1 pl2 bl2 w2) : Step pl bl w pl2 bl2 w2 := by
  refine ⟨k.os.trans h.os, k.tape.trans h.tape, k.output.trans h.output, Nat.le_trans h.size k.size, fun g hg ho => ?_, fun b g hb => k.cells b g (h.cells b g hb), fun b sv svs hb => ?_⟩
  · obtain ⟨h1, h2⟩ := h.out g hg ho
    obtain ⟨k1, k2⟩ := k.out g (Nat.lt_of_lt_of_le hg h.size) h2
    exact ⟨k1.trans h1, k2⟩
  · obtain ⟨sv1, svs1, p1, r1⟩ := h.rows b sv svs hb
    obtain ⟨sv2, svs2, p2, r2⟩ := k.rows b sv1 svs1 p1
    exact ⟨sv2, svs2, p2, r1.trans r2⟩

/-- As 'Step', but only the first m blocks keep their numbers. -/
structure StepM (m : Nat) (pl : Nat → Option Pl) (bl : Nat → Option Blk) (w : World) (pl' : Nat → Option Pl) (bl' : Nat → Option Blk) (w' : World) : Prop where
  os : w'.os = w.os
  tape : w'.tape = w.tape
  output : w'.output = w.output
  size : w.heap.size ≤ w'.heap.size
  out : ∀ g, g < w.heap.size → ¬ Own pl bl g → w'.heap[g]? = w.heap[g]? ∧ ¬ Own pl' bl' g
  cells : ∀ b g, b < m → pl b = some (.cells g) → pl' b = some (.cells g)
  rows : ∀ b sv svs, b < m → pl b = some (.row sv svs) → ∃ sv' svs', pl' b = some (.row sv' svs')

theorem Step.toM {m : Nat} {pl pl' : Nat → Option Pl} {bl bl' : Nat → Option Blk} {w w' : World} (h : Step pl bl w pl' bl' w') : StepM m pl bl w pl' bl' w' :=
  ⟨h.os, h.tape, h.output, h.size, h.out, fun b g _ => h.cells b g, fun b sv svs _ hb => by obtain ⟨sv', svs', h1, _⟩ := h.rows b sv svs hb; exact ⟨sv', svs', h1⟩⟩

theorem StepM.refl (m : Nat) (pl : Nat → Option Pl) (bl : Nat → Option Blk) (w : World) : StepM m pl bl w pl bl w := (Step.refl pl bl w).toM

theorem StepM.trans {m : Nat} {pl pl1 pl2 : Nat → Option Pl} {bl bl1 bl2 : Nat → Option Blk} {w w1 w2 : World} (h : StepM m pl bl w pl1 bl1 w1) (k : StepM m pl1 bl1 w1 pl2 bl2 w2) : StepM m pl bl w pl2 bl2 w2 := by
  refine ⟨k.os.trans h.os, k.tape.trans h.tape, k.output.trans h.output, Nat.le_trans h.size k.size, fun g hg ho => ?_, fun b g hm hb => k.cells b g hm (h.cells b g hm hb), fun b sv svs hm hb => ?_⟩
  · obtain ⟨h1, h2⟩ := h.out g hg ho
    obtain ⟨k1, k2⟩ := k.out g (Nat.lt_of_lt_of_le hg h.size) h2
    exact ⟨k1.trans h1, k2⟩
  · obtain ⟨sv', svs', h1⟩ := h.rows b sv svs hm hb
    exact k.rows b sv' svs' hm h1

theorem Step.ext {ok0 : Nat → Prop} {base : Nat} {pl pl' : Nat → Option Pl} {bl bl' : Nat → Option Blk} {w w' : World} (h : Step pl bl w pl' bl' w') :
    Ext (envOf ok0 base pl bl w) (envOf ok0 base pl' bl' w') :=
  ⟨Nat.le_refl _, fun g hg hlt => ⟨⟨hg.1, (h.out g hlt hg.2).2⟩, (h.out g hlt hg.2).1⟩, h.cells, h.rows⟩

def upd {α : Type} (f : Nat → Option α) (i : Nat) (x : α) : Nat → Option α := fun j => if j = i then some x else f j
def updL {α : Type} (f : Nat → Option α) : List (Nat × α) → Nat → Option α
  | [] => f
  | (i, x) :: r => updL (upd f i x) r

theorem look_puts {α : Type} : ∀ (r l : List (Nat × α)), look (puts l r) = updL (look l) r
  | [], _ => rfl
  | (i, x) :: r, l => by
    rw [puts, look_puts r, updL]
    congr 1
    funext j
    rw [look_put, upd]

/-- The operation does what the evaluator says: the result v, the blocks wr. -/
def OpOk (P : Program) (o : Oper) (ρ : Operand → V) (bl : Nat → Option Blk) (v : V) (wr : List (Nat × Blk)) : Prop :=
  ∀ (ok0 : Nat → Prop) (base : Nat) (pl : Nat → Option Pl) (w : World) (a : Act), RelB ok0 base pl bl w →
    (∀ x ∈ o.op.operands, VRep (envOf ok0 base pl bl w) (ρ x) (a.eval x)) →
    ∀ (K : Act → World → Prop) (Q : Exit → Act → World → Prop),
      (∀ val pl' w', RelB ok0 base pl' (updL bl wr) w' → Step pl bl w pl' (updL bl wr) w' → VRep (envOf ok0 base pl' (updL bl wr) w') v val → K (a.put o.dst val) w') →
      o.wp P a w K Q

section
variable {P : Program} {o : Oper} {ρ : Operand → V} {bl : Nat → Option Blk} {v : V}

theorem wp_of_value {a : Act} {w w' : World} {val : Value} (h : (execOp a.eval o).run P w = .ok (.value val) w') {K : Act → World → Prop} {Q : Exit → Act → World → Prop} (hk : K (a.put o.dst val) w') : o.wp P a w K Q := by
  unfold Oper.wp
  rw [h]
  exact hk

theorem wp_of_skip {a : Act} {w w' : World} (h : (execOp a.eval o).run P w = .ok .skip w') {K : Act → World → Prop} {Q : Exit → Act → World → Prop} (hk : K (a.put o.dst undef) w') : o.wp P a w K Q := by
  unfold Oper.wp
  rw [h]
  exact hk

theorem OpOk.of_pure (h : ∀ (ok0 : Nat → Prop) (base : Nat) (pl : Nat → Option Pl) (w : World) (a : Act), RelB ok0 base pl bl w →
    (∀ x ∈ o.op.operands, VRep (envOf ok0 base pl bl w) (ρ x) (a.eval x)) → ∃ val, (execOp a.eval o).run P w = .ok (.value val) w ∧ VRep (envOf ok0 base pl bl w) v val) : OpOk P o ρ bl v [] := by
  intro ok0 base pl w a hr hx K Q hk
  obtain ⟨val, h1, h2⟩ := h ok0 base pl w a hr hx
  exact wp_of_value h1 (hk val pl w hr (Step.refl pl bl w) h2)
end

/-! ### A new block; a block written -/
section
variable {ok0 : Nat → Prop} {base : Nat} {pl : Nat → Option Pl} {bl : Nat → Option Blk} {w : World}

/-- One block of the evaluator's is new or has turned: the general step. -/
theorem RelB.put (hr : RelB ok0 base pl bl w) {i : Nat} {B : Blk} {p : Pl} {w' : World}
    (hs : Step pl bl w (upd pl i p) (upd bl i B) w')
    (hB : BRep (envOf ok0 base (upd pl i p) (upd bl i B) w') B p)
    (hg : ∀ j C q g, j ≠ i → bl j = some C → C.live = true → pl j = some q → q.has g → w'.heap[g]? = w.heap[g]? ∧ ¬ p.has g)
    : RelB ok0 base (upd pl i p) (upd bl i B) w' := by
  refine ⟨Nat.le_trans hr.baseLe hs.size, fun j C hC => ?_, fun j k C D q r g hjk hC hD hlC hlD hq hr' hqg => ?_, fun j hj => ?_⟩
  · by_cases hj : j = i
    · subst hj
      simp only [upd, if_true, Option.some.injEq] at hC
      subst hC
      exact ⟨p, by simp [upd], hB⟩
    · simp only [upd, hj, if_false] at hC ⊢
      obtain ⟨q, hq, hBq⟩ := hr.blks j C hC
      refine ⟨q, hq, ?_⟩
      cases hl : C.live with
      | false => cases C <;> first | exact trivial | simp [Blk.live] at hl
      | true => exact BRep.mono hs.ext hBq fun g hqg => (hg j C q g hj hC hl hq hqg).1
  · by_cases hj : j = i
    · by_cases hk : k = i
      · exact absurd (hj.trans hk.symm) hjk
      · subst hj
        simp only [upd, if_true, Option.some.injEq, hk, if_false] at hC hD hq hr'
        subst hC hq
        intro hrg
        exact (hg k D r g hk hD hlD hr' hrg).2 hqg
    · by_cases hk : k = i
      · subst hk
        simp only [upd, if_true, Option.some.injEq, hj, if_false] at hC hD hq hr'
        subst hD hr'
        exact (hg j C q g hj hC hlC hq hqg).2
      · simp only [upd, hj, hk, if_false] at hC hD hq hr'
        exact hr.sep j k C D q r g hjk hC hD hlC hlD hq hr' hqg
  · by_cases hj' : j = i
    · subst hj'; simp [upd] at hj
    · simp only [upd, hj', if_false] at hj ⊢
      exact hr.fresh j hj

theorem Own.lt (hr : RelB ok0 base pl bl w) {g : Nat} (h : Own pl bl g) : g < w.heap.size := by
  obtain ⟨i, B, p, hB, hl, hp, hg⟩ := h
  obtain ⟨q, hq, hR⟩ := hr.blks i B hB
  rw [hp] at hq
  injection hq with hq
  subst hq
  cases B with
  | dead => simp [Blk.live] at hl
  | cells t cs =>
    cases p with
    | row _ _ => exact hR.elim
    | cells g' =>
      obtain ⟨vs, h1, _⟩ := hR
      have hg : g' = g := hg
      subst hg
      exact (Array.getElem?_eq_some_iff.1 h1).1
  | map t k v vg l =>
    cases p with
    | row _ _ => exact hR.elim
    | cells g' =>
      obtain ⟨es, clock, h1, _⟩ := hR
      have hg : g' = g := hg
      subst hg
      exact (Array.getElem?_eq_some_iff.1 h1).1
  | row t e ver l =>
    cases p with
    | cells _ => exact hR.elim
    | row sv svs =>
      obtain ⟨h0, xs, _, h2⟩ := hR
      subst h0
      exact (h2.lt g (Pl.has_row hg)).2
  | mat t et e ver iver hole l =>
    cases p with
    | cells _ => exact hR.elim
    | row sv svs =>
      have hR : MatOk _ t et e hole l sv svs := hR
      rcases hg with hg | ⟨i, s, hs, hg⟩
      · obtain ⟨vs, h1, _⟩ := hR.outer
        exact (h1.lt g hg).2
      · have hlt : i < l.length := by rw [← hR.len]; exact (List.getElem?_eq_some_iff.1 hs).1
        obtain ⟨xs, _, h2⟩ := hR.inner i s l[i] hs (List.getElem?_eq_getElem hlt)
        exact (h2.lt g hg).2

/-- A new block. -/
theorem Step.new (hr : RelB ok0 base pl bl w) {i : Nat} (hi : bl i = none) {B : Blk} {p : Pl} {w' : World} (hg : w.grownBy w' none)
    (hp : ∀ g, p.has g → w.heap.size ≤ g) : Step pl bl w (upd pl i p) (upd bl i B) w' := by
  have hpi := hr.fresh i hi
  refine ⟨hg.os, hg.tape, hg.output, hg.size, fun g hlt ho => ⟨hg.block g hlt (by simp), ?_⟩, fun b g hb => ?_, fun b sv svs hb => ?_⟩
  · rintro ⟨j, C, q, hC, hl, hq, hqg⟩
    by_cases hj : j = i
    · subst hj
      simp only [upd, if_true, Option.some.injEq] at hC hq
      subst hq
      have := hp g hqg
      omega
    · simp only [upd, hj, if_false] at hC hq
      exact ho ⟨j, C, q, hC, hl, hq, hqg⟩
  · have hbi : b ≠ i := by rintro rfl; rw [hpi] at hb; cases hb
    simp [upd, hbi, hb]
  · have hbi : b ≠ i := by rintro rfl; rw [hpi] at hb; cases hb
    exact ⟨sv, svs, by simp [upd, hbi, hb], KeepR.of_eq (fun C hC => by simpa [upd, hbi] using hC) _ _⟩

theorem RelB.new (hr : RelB ok0 base pl bl w) {i : Nat} (hi : bl i = none) {B : Blk} {p : Pl} {w' : World} (hg : w.grownBy w' none)
    (hp : ∀ g, p.has g → w.heap.size ≤ g) (hB : BRep (envOf ok0 base (upd pl i p) (upd bl i B) w') B p) : RelB ok0 base (upd pl i p) (upd bl i B) w' := by
  refine hr.put (Step.new hr hi hg hp) hB fun j C q g hj hC hl hq hqg => ?_
  have hlt : g < w.heap.size := Own.lt hr ⟨j, C, q, hC, hl, hq, hqg⟩
  refine ⟨hg.block g hlt (by simp), fun hpg => ?_⟩
  have := hp g hpg
  omega

/-- A row or a slice of slices, grown or written in its place: one block of memory at most is touched. -/
theorem Step.grownP (_hr : RelB ok0 base pl bl w) {i : Nat} {B B' : Blk} (hi : bl i = some B) (hlv : B.live = true) {sv sv' : Value} {svs svs' : List (Option Value)} (hpi : pl i = some (.row sv svs)) {w' : World} {og : Option Nat}
    (hg : w.grownBy w' og) (hog : ∀ g, og = some g → (Pl.row sv svs).has g) (hv : ∀ g, (Pl.row sv' svs').has g → (Pl.row sv svs).has g ∨ w.heap.size ≤ g) (hk : KeepR (some B) (some B') sv svs sv' svs') :
    Step pl bl w (upd pl i (.row sv' svs')) (upd bl i B') w' := by
  have hown : ∀ g, (Pl.row sv svs).has g → Own pl bl g := fun g h => ⟨i, _, _, hi, hlv, hpi, h⟩
  refine ⟨hg.os, hg.tape, hg.output, hg.size, fun g hlt ho => ⟨hg.block g hlt (fun h => ho (hown g (hog g h.symm))), ?_⟩, fun b g hb => ?_, fun b sv0 svs0 hb => ?_⟩
  · rintro ⟨j, C, q, hC, hl, hq, hqg⟩
    by_cases hj : j = i
    · subst hj
      simp only [upd, if_true, Option.some.injEq] at hC hq
      subst hq
      rcases hv g hqg with hv | hv
      · exact ho (hown g hv)
      · omega
    · simp only [upd, hj, if_false] at hC hq
      exact ho ⟨j, C, q, hC, hl, hq, hqg⟩
  · have hbi : b ≠ i := by rintro rfl; rw [hpi] at hb; cases hb
    simp [upd, hbi, hb]
  · by_cases hbi : b = i
    · subst hbi
      rw [hpi] at hb
      injection hb with hb
      injection hb with hb hb2
      subst hb hb2
      refine ⟨sv', svs', by simp [upd], ?_⟩
      rw [hi]
      simpa [upd] using hk
    · exact ⟨sv0, svs0, by simp [upd, hbi, hb], KeepR.of_eq (fun C hC => by simpa [upd, hbi] using hC) _ _⟩

theorem RelB.grownP (hr : RelB ok0 base pl bl w) {i : Nat} {B B' : Blk} (hi : bl i = some B) (hlv : B.live = true) {sv sv' : Value} {svs svs' : List (Option Value)} (hpi : pl i = some (.row sv svs)) {w' : World} {og : Option Nat}
    (hg : w.grownBy w' og) (hog : ∀ g, og = some g → (Pl.row sv svs).has g) (hv : ∀ g, (Pl.row sv' svs').has g → (Pl.row sv svs).has g ∨ w.heap.size ≤ g) (hk : KeepR (some B) (some B') sv svs sv' svs')
    (hB : BRep (envOf ok0 base (upd pl i (.row sv' svs')) (upd bl i B') w') B' (.row sv' svs')) :
    RelB ok0 base (upd pl i (.row sv' svs')) (upd bl i B') w' := by
  refine hr.put (Step.grownP hr hi hlv hpi hg hog hv hk) hB fun j C q g hj hC hl hq hqg => ?_
  have hlt : g < w.heap.size := Own.lt hr ⟨j, C, q, hC, hl, hq, hqg⟩
  have hne : ¬ (Pl.row sv svs).has g := fun h => hr.sep j i _ _ _ _ g hj hC hi hl hlv hq hpi hqg h
  refine ⟨hg.block g hlt (fun h => hne (hog g h.symm)), fun hpg => ?_⟩
  rcases hv g hpg with hv | hv
  · exact hne hv
  · omega

theorem KeepR.ofRow {t : TypeId} {e : Ty} {ver ver' : Nat} {l l' : List e.den} {sv sv' : Value} {svs svs' : List (Option Value)} (hver : ver ≤ ver' ∧ (ver = ver' → sv' = sv ∧ l'.length = l.length)) :
    KeepR (some (.row t e ver l)) (some (.row t e ver' l')) sv svs sv' svs' := by
  constructor
  · intro t1 e1 ver1 l1 h1
    simp only [Option.some.injEq] at h1
    injection h1 with h2 h3 h4 h5
    subst h2 h3 h4
    simp only [heq_eq_eq] at h5
    subst h5
    exact ⟨ver, l, rfl, hver.1, hver.2⟩
  · intro t1 et1 e1 ver1 iver1 hole1 l1 h1
    cases h1

theorem KeepR.ofMat {t et : TypeId} {e : Ty} {ver ver' iver iver' : Nat} {hole hole' : Option Nat} {l l' : List (List e.den)} {sv sv' : Value} {svs svs' : List (Option Value)} (hver : ver ≤ ver' ∧ (ver = ver' → sv' = sv ∧ l'.length = l.length))
    (hiver : iver ≤ iver' ∧ (iver = iver' → svs' = svs ∧ l'.map List.length = l.map List.length)) :
    KeepR (some (.mat t et e ver iver hole l)) (some (.mat t et e ver' iver' hole' l')) sv svs sv' svs' := by
  constructor
  · intro t1 e1 ver1 l1 h1
    cases h1
  · intro t1 et1 e1 ver1 iver1 hole1 l1 h1
    simp only [Option.some.injEq] at h1
    injection h1 with h2 h3 h4 h5 h6 h7 h8
    subst h2 h3 h4 h5 h6 h7
    simp only [heq_eq_eq] at h8
    subst h8
    exact ⟨ver, iver, hole, l, rfl, hver.1, hiver.1, hver.2, hiver.2⟩

theorem KeepR.ofDead {B : Option Blk} {sv sv' : Value} {svs svs' : List (Option Value)} : KeepR B (some .dead) sv svs sv' svs' :=
  ⟨fun _ _ _ _ h => (by cases h), fun _ _ _ _ _ _ _ h => (by cases h)⟩

/-- A row of one's own, grown or written in its place. -/
theorem Step.grown (_hr : RelB ok0 base pl bl w) {i : Nat} {t : TypeId} {e : Ty} {ver ver' : Nat} {l l' : List e.den} (hi : bl i = some (.row t e ver l)) {sv sv' : Value} (hpi : pl i = some (.row sv [])) {w' : World}
    (hg : w.grownBy w' sv.ownBlock) (hv : sv'.ownBlock = sv.ownBlock ∨ ∀ g, sv'.ownBlock = some g → w.heap.size ≤ g) (hver : ver ≤ ver' ∧ (ver = ver' → sv' = sv ∧ l'.length = l.length)) :
    Step pl bl w (upd pl i (.row sv' [])) (upd bl i (.row t e ver' l')) w' :=
  Step.grownP _hr hi rfl hpi hg (fun g h => .inl h) (fun g h => by
    have h := Pl.has_row h
    rcases hv with hv | hv
    · exact .inl (.inl (hv ▸ h))
    · exact .inr (hv g h)) (KeepR.ofRow hver)

theorem RelB.grown (hr : RelB ok0 base pl bl w) {i : Nat} {t : TypeId} {e : Ty} {ver ver' : Nat} {l l' : List e.den} (hi : bl i = some (.row t e ver l)) {sv sv' : Value} (hpi : pl i = some (.row sv [])) {w' : World}
    (hg : w.grownBy w' sv.ownBlock) (hv : sv'.ownBlock = sv.ownBlock ∨ ∀ g, sv'.ownBlock = some g → w.heap.size ≤ g) (hver : ver ≤ ver' ∧ (ver = ver' → sv' = sv ∧ l'.length = l.length))
    (hB : BRep (envOf ok0 base (upd pl i (.row sv' [])) (upd bl i (.row t e ver' l')) w') (.row t e ver' l') (.row sv' [])) :
    RelB ok0 base (upd pl i (.row sv' [])) (upd bl i (.row t e ver' l')) w' :=
  RelB.grownP hr hi rfl hpi hg (fun g h => .inl h) (fun g h => by
    have h := Pl.has_row h
    rcases hv with hv | hv
    · exact .inl (.inl (hv ▸ h))
    · exact .inr (hv g h)) (KeepR.ofRow hver) hB

/-- A block of cells written in its place. -/
theorem Step.wroteB (_hr : RelB ok0 base pl bl w) {i g0 : Nat} {B B' : Blk} (hi : bl i = some B) (hl : B.live = true) (hpi : pl i = some (.cells g0)) {w' : World}
    (hg : w.grownBy w' (some g0)) : Step pl bl w (upd pl i (.cells g0)) (upd bl i B') w' := by
  have hown : Own pl bl g0 := ⟨i, _, _, hi, hl, hpi, rfl⟩
  refine ⟨hg.os, hg.tape, hg.output, hg.size, fun g hlt ho => ⟨hg.block g hlt (fun h => ho (by injection h with h; subst h; exact hown)), ?_⟩, fun b g hb => ?_, fun b sv0 svs0 hb => ?_⟩
  · rintro ⟨j, C, q, hC, hl, hq, hqg⟩
    by_cases hj : j = i
    · subst hj
      simp only [upd, if_true, Option.some.injEq] at hC hq
      subst hq
      have hqg : g0 = g := hqg
      subst hqg
      exact ho hown
    · simp only [upd, hj, if_false] at hC hq
      exact ho ⟨j, C, q, hC, hl, hq, hqg⟩
  · by_cases hbi : b = i
    · subst hbi; rw [hpi] at hb; simpa [upd] using hb
    · simp [upd, hbi, hb]
  · have hbi : b ≠ i := by rintro rfl; rw [hpi] at hb; cases hb
    exact ⟨sv0, svs0, by simp [upd, hbi, hb], KeepR.of_eq (fun C hC => by simpa [upd, hbi] using hC) _ _⟩

theorem RelB.wroteB (hr : RelB ok0 base pl bl w) {i g0 : Nat} {B B' : Blk} (hi : bl i = some B) (hl0 : B.live = true) (hpi : pl i = some (.cells g0)) {w' : World}
    (hg : w.grownBy w' (some g0)) (hB : BRep (envOf ok0 base (upd pl i (.cells g0)) (upd bl i B') w') B' (.cells g0)) :
    RelB ok0 base (upd pl i (.cells g0)) (upd bl i B') w' := by
  refine hr.put (Step.wroteB hr hi hl0 hpi hg) hB fun j C q g hj hC hl hq hqg => ?_
  have hlt : g < w.heap.size := Own.lt hr ⟨j, C, q, hC, hl, hq, hqg⟩
  have hne : g0 ≠ g := fun h => hr.sep j i _ _ _ _ g hj hC hi hl hl0 hq hpi hqg h
  exact ⟨hg.block g hlt (fun h => hne (by injection h with h; exact h.symm)), fun hpg => hne hpg⟩

theorem Step.wrote (hr : RelB ok0 base pl bl w) {i g0 : Nat} {t : TypeId} {cs cs' : List C} (hi : bl i = some (.cells t cs)) (hpi : pl i = some (.cells g0)) {w' : World}
    (hg : w.grownBy w' (some g0)) : Step pl bl w (upd pl i (.cells g0)) (upd bl i (.cells t cs')) w' := Step.wroteB hr hi rfl hpi hg
theorem RelB.wrote (hr : RelB ok0 base pl bl w) {i g0 : Nat} {t : TypeId} {cs cs' : List C} (hi : bl i = some (.cells t cs)) (hpi : pl i = some (.cells g0)) {w' : World}
    (hg : w.grownBy w' (some g0)) (hB : BRep (envOf ok0 base (upd pl i (.cells g0)) (upd bl i (.cells t cs')) w') (.cells t cs') (.cells g0)) :
    RelB ok0 base (upd pl i (.cells g0)) (upd bl i (.cells t cs')) w' := RelB.wroteB hr hi rfl hpi hg hB

/-! ### Two blocks at once -/
def OwnAt (pl : Nat → Option Pl) (bl : Nat → Option Blk) (i g : Nat) : Prop := ∃ B p, bl i = some B ∧ B.live = true ∧ pl i = some p ∧ p.has g

theorem Step.two (hr : RelB ok0 base pl bl w) {i j : Nat} (hij : i ≠ j) {Bi Bj : Blk} {pi pj : Pl} {w' : World} {og : Option Nat}
    (hg : w.grownBy w' og) (hog : ∀ g, og = some g → OwnAt pl bl i g ∨ OwnAt pl bl j g)
    (hi : ∀ g, Bi.live = true → pi.has g → OwnAt pl bl i g ∨ OwnAt pl bl j g ∨ w.heap.size ≤ g)
    (hj : ∀ g, Bj.live = true → pj.has g → OwnAt pl bl i g ∨ OwnAt pl bl j g ∨ w.heap.size ≤ g)
    (hci : ∀ g, pl i = some (.cells g) → pi = .cells g) (hcj : ∀ g, pl j = some (.cells g) → pj = .cells g)
    (hri : ∀ sv svs, pl i = some (.row sv svs) → ∃ sv' svs', pi = .row sv' svs' ∧ KeepR (bl i) (some Bi) sv svs sv' svs')
    (hrj : ∀ sv svs, pl j = some (.row sv svs) → ∃ sv' svs', pj = .row sv' svs' ∧ KeepR (bl j) (some Bj) sv svs sv' svs') :
    Step pl bl w (upd (upd pl i pi) j pj) (upd (upd bl i Bi) j Bj) w' := by
  have hOwn : ∀ k g, OwnAt pl bl k g → Own pl bl g := fun k g ⟨B, p, h1, h2, h3, h4⟩ => ⟨k, B, p, h1, h2, h3, h4⟩
  refine ⟨hg.os, hg.tape, hg.output, hg.size, fun g hlt ho => ⟨hg.block g hlt (fun h => ?_), ?_⟩, fun b g hb => ?_, fun b sv svs hb => ?_⟩
  · rcases hog g h.symm with h | h
    · exact ho (hOwn i g h)
    · exact ho (hOwn j g h)
  · rintro ⟨k, C, q, hC, hl, hq, hqg⟩
    by_cases hkj : k = j
    · subst hkj
      simp only [upd, if_true, Option.some.injEq] at hC hq
      subst hq hC
      rcases hj g hl hqg with h | h | h
      · exact ho (hOwn i g h)
      · exact ho (hOwn k g h)
      · omega
    · by_cases hki : k = i
      · subst hki
        simp only [upd, hkj, if_false, if_true, Option.some.injEq] at hC hq
        subst hq hC
        rcases hi g hl hqg with h | h | h
        · exact ho (hOwn k g h)
        · exact ho (hOwn j g h)
        · omega
      · simp only [upd, hkj, hki, if_false] at hC hq
        exact ho ⟨k, C, q, hC, hl, hq, hqg⟩
  · by_cases hkj : b = j
    · subst hkj; simp [upd, hcj g hb]
    · by_cases hki : b = i
      · subst hki; simp [upd, hkj, hci g hb]
      · simp [upd, hkj, hki, hb]
  · by_cases hkj : b = j
    · subst hkj
      obtain ⟨sv', svs', h1, h2⟩ := hrj sv svs hb
      exact ⟨sv', svs', by simp [upd, h1], by simpa [upd] using h2⟩
    · by_cases hki : b = i
      · subst hki
        obtain ⟨sv', svs', h1, h2⟩ := hri sv svs hb
        exact ⟨sv', svs', by simp [upd, hkj, h1], by simpa [upd, hkj] using h2⟩
      · exact ⟨sv, svs, by simp [upd, hkj, hki, hb], KeepR.of_eq (fun C hC => by simpa [upd, hkj, hki] using hC) _ _⟩

theorem RelB.two (hr : RelB ok0 base pl bl w) {i j : Nat} (hij : i ≠ j) {Bi Bj : Blk} {pi pj : Pl} {w' : World} {og : Option Nat}
    (hg : w.grownBy w' og) (hog : ∀ g, og = some g → OwnAt pl bl i g ∨ OwnAt pl bl j g)
    (hi : ∀ g, Bi.live = true → pi.has g → OwnAt pl bl i g ∨ OwnAt pl bl j g ∨ w.heap.size ≤ g)
    (hj : ∀ g, Bj.live = true → pj.has g → OwnAt pl bl i g ∨ OwnAt pl bl j g ∨ w.heap.size ≤ g)
    (hd : ∀ g, Bi.live = true → Bj.live = true → pi.has g → ¬ pj.has g)
    (hs : Step pl bl w (upd (upd pl i pi) j pj) (upd (upd bl i Bi) j Bj) w')
    (hBi : BRep (envOf ok0 base (upd (upd pl i pi) j pj) (upd (upd bl i Bi) j Bj) w') Bi pi)
    (hBj : BRep (envOf ok0 base (upd (upd pl i pi) j pj) (upd (upd bl i Bi) j Bj) w') Bj pj) :
    RelB ok0 base (upd (upd pl i pi) j pj) (upd (upd bl i Bi) j Bj) w' := by
  -- another block's memory is none of these two's
  have hoth : ∀ k C q g, k ≠ i → k ≠ j → bl k = some C → C.live = true → pl k = some q → q.has g → w'.heap[g]? = w.heap[g]? ∧ (Bi.live = true → ¬ pi.has g) ∧ (Bj.live = true → ¬ pj.has g) := by
    intro k C q g hki hkj hC hl hq hqg
    have hlt : g < w.heap.size := Own.lt hr ⟨k, C, q, hC, hl, hq, hqg⟩
    have hni : ∀ m, k ≠ m → ¬ OwnAt pl bl m g := fun m hm ⟨B, p, h1, h2, h3, h4⟩ => hr.sep k m C B q p g hm hC h1 hl h2 hq h3 hqg h4
    refine ⟨hg.block g hlt (fun h => ?_), fun hli h => ?_, fun hlj h => ?_⟩
    · rcases hog g h.symm with h | h
      · exact hni i hki h
      · exact hni j hkj h
    · rcases hi g hli h with h | h | h
      · exact hni i hki h
      · exact hni j hkj h
      · omega
    · rcases hj g hlj h with h | h | h
      · exact hni i hki h
      · exact hni j hkj h
      · omega
  have hbl : ∀ k, upd (upd bl i Bi) j Bj k = if k = j then some Bj else if k = i then some Bi else bl k := fun k => rfl
  have hpl : ∀ k, upd (upd pl i pi) j pj k = if k = j then some pj else if k = i then some pi else pl k := fun k => rfl
  refine ⟨Nat.le_trans hr.baseLe hs.size, fun k C hC => ?_, fun k m C D q r g hkm hC hD hlC hlD hq hr' hqg => ?_, fun k hk => ?_⟩
  · by_cases hkj : k = j
    · subst hkj
      simp only [upd, if_true, Option.some.injEq] at hC
      subst hC
      exact ⟨pj, by simp [upd], hBj⟩
    · by_cases hki : k = i
      · subst hki
        simp only [upd, hkj, if_false, if_true, Option.some.injEq] at hC
        subst hC
        exact ⟨pi, by simp [upd, hkj], hBi⟩
      · simp only [upd, hkj, hki, if_false] at hC ⊢
        obtain ⟨q, hq, hBq⟩ := hr.blks k C hC
        refine ⟨q, hq, ?_⟩
        cases hl : C.live with
        | false => cases C <;> first | exact trivial | simp [Blk.live] at hl
        | true => exact BRep.mono hs.ext hBq fun g hqg => (hoth k C q g hki hkj hC hl hq hqg).1
  · rw [hbl] at hC hD
    rw [hpl] at hq hr'
    by_cases hkj : k = j
    · subst hkj
      have hmk : m ≠ k := fun h => hkm h.symm
      simp only [if_true, hmk, if_false, Option.some.injEq] at hC hD hq hr'
      subst hC hq
      by_cases hmi : m = i
      · subst hmi
        simp only [if_true, Option.some.injEq] at hD hr'
        subst hD hr'
        exact fun h => hd g hlD hlC h hqg
      · simp only [hmi, if_false] at hD hr'
        exact fun h => (hoth m D r g hmi hmk hD hlD hr' h).2.2 hlC hqg
    · by_cases hki : k = i
      · subst hki
        simp only [hkj, if_false, if_true, Option.some.injEq] at hC hq
        subst hC hq
        by_cases hmj : m = j
        · subst hmj
          simp only [if_true, Option.some.injEq] at hD hr'
          subst hD hr'
          exact hd g hlC hlD hqg
        · have hmk : m ≠ k := fun h => hkm h.symm
          simp only [hmj, hmk, if_false] at hD hr'
          exact fun h => (hoth m D r g hmk hmj hD hlD hr' h).2.1 hlC hqg
      · simp only [hkj, hki, if_false] at hC hq
        by_cases hmj : m = j
        · subst hmj
          simp only [if_true, Option.some.injEq] at hD hr'
          subst hD hr'
          exact (hoth k C q g hki hkj hC hlC hq hqg).2.2 hlD
        · by_cases hmi : m = i
          · subst hmi
            simp only [hmj, if_false, if_true, Option.some.injEq] at hD hr'
            subst hD hr'
            exact (hoth k C q g hki hkj hC hlC hq hqg).2.1 hlD
          · simp only [hmj, hmi, if_false] at hD hr'
            exact hr.sep k m C D q r g hkm hC hD hlC hlD hq hr' hqg
  · rw [hbl] at hk
    rw [hpl]
    by_cases hkj : k = j
    · simp [hkj] at hk
    · by_cases hki : k = i
      · simp [hkj, hki] at hk
        split at hk <;> cases hk
      · simp only [hkj, hki, if_false] at hk ⊢
        exact hr.fresh k hk
end
end Go.Lift
