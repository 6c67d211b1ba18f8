/- When a clock showed a reading. -/
import Derived.Test.YtamnjokpncjbfaaFn2
import Derived.Test.YtamnjokpncjbfaaLBase
import Derived.Test.YtamnjokpncjbfaaLDice
import Derived.Test.YtamnjokpncjbfaaLClock
import Derived.Test.YtamnjokpncjbfaaLRecord
namespace Go.Lift
open Go.RowKit Go.IntWalk
noncomputable section
set_option linter.unusedVariables false
set_option linter.unusedSimpArgs false

theorem elapsed_le {drift d : Int} (h1 : 0 ≤ drift ∧ drift ≤ 500000) (h2 : 0 ≤ d ∧ d ≤ 8589934592) : (elapsed drift d).1 ≤ d ∧ d ≤ (elapsed drift d).2 := by
  unfold elapsed
  rw [inN_mk h1, inN_mk h2]
  simp only [Bool.and_true, cond_true]
  have hp1 : (0 : Int) < 1000000 + drift := by omega
  have hp2 : (0 : Int) < 1000000 - drift := by omega
  constructor
  · apply Int.le_of_lt_add_one
    rw [Int.ediv_lt_iff_lt_mul hp1]
    have : (d + 1) * 1000000 ≤ (d + 1) * (1000000 + drift) := Int.mul_le_mul_of_nonneg_left (by omega) (by omega)
    omega
  · rw [Int.le_ediv_iff_mul_le hp2]
    have : d * (1000000 - drift) ≤ d * 1000000 := Int.mul_le_mul_of_nonneg_left (by omega) (by omega)
    omega

/-- What a comparison says of a reading, if its numbers are right. -/
theorem fromS_eq {h : Host} {s : Sync} {c : Int} (h1 : 0 ≤ h.2 ∧ h.2 ≤ 500000) (h2 : okSync s = true) (h3 : 0 ≤ c ∧ c ≤ 8589934592) :
    fromS h s c = if s.2.1 ≤ c then (s.2.2.1 + (elapsed h.2 (c - s.2.1)).1, s.2.2.2 + (elapsed h.2 (c - s.2.1)).2) else (s.2.2.1 - (elapsed h.2 (s.2.1 - c)).2, s.2.2.2 - (elapsed h.2 (s.2.1 - c)).1) := by
  unfold fromS
  rw [h2, inN_mk h3, vHost, inN_mk h1]
  simp only [Bool.and_self, cond_true]
  split <;> rename_i hc
  · rw [decide_eq_true hc]; rfl
  · rw [decide_eq_false hc]; rfl

theorem fromS_bd {h : Host} {s : Sync} {c : Int} (h1 : 0 ≤ h.2 ∧ h.2 ≤ 500000) (h2 : okSync s = true) (h3 : 0 ≤ c ∧ c ≤ 8589934592) :
    -17179869184 ≤ (fromS h s c).1 ∧ (fromS h s c).1 ≤ 25769803776 ∧ -17179869184 ≤ (fromS h s c).2 ∧ (fromS h s c).2 ≤ 25769803776 := by
  rw [fromS_eq h1 h2 h3]
  have e1 := @elapsed_bd h.2 (c - s.2.1)
  have e2 := @elapsed_bd h.2 (s.2.1 - c)
  simp only [okSync, Bool.and_eq_true, inN_iff, decide_eq_true_eq] at h2
  split <;> simp only <;> omega

/-- The range that a true comparison gives has the true time. -/
theorem fromS_true {h : Host} {s : Sync} {c t a : Int} (h1 : 0 ≤ h.2 ∧ h.2 ≤ 500000) (h2 : okSync s = true) (h3 : 0 ≤ c ∧ c ≤ 8589934592) (hs : s.2.1 = t + a) (hl : s.2.2.1 ≤ t) (hh : t ≤ s.2.2.2) :
    (fromS h s c).1 ≤ c - a ∧ c - a ≤ (fromS h s c).2 := by
  rw [fromS_eq h1 h2 h3]
  simp only [okSync, Bool.and_eq_true, inN_iff, decide_eq_true_eq] at h2
  split
  · have := elapsed_le h1 (d := c - s.2.1) (by omega)
    simp only; omega
  · have := elapsed_le h1 (d := s.2.1 - c) (by omega)
    simp only; omega

theorem meet2_eq (a b : Int × Int) : meet2 a b = (max a.1 b.1, min a.2 b.2) := by
  unfold meet2
  congr 1
  · omega
  · omega

/-- The ranges that the comparisons of a host give. -/
def froms (hosts : List Host) (host c : Int) (syncs : List Sync) : List (Int × Int) := (syncs.filter fun s => decide (s.1 = host)).map fun s => fromS (hosts.getD host.toNat ([], 0)) s c

theorem whenR_eq (r : Rec) (host c : Int) : whenR r host c = (froms r.1 host c r.2.1).foldl meet2 (0, 8589934592) := by
  unfold whenR froms
  generalize ((0 : Int), (8589934592 : Int)) = o
  induction r.2.1 generalizing o with
  | nil => rfl
  | cons s l ih =>
    simp only [List.foldl_cons, ih, List.filter_cons]
    cases decide (s.1 = host) <;> rfl

theorem foldl_meet_in {x : Int} : ∀ {l : List (Int × Int)} {o : Int × Int}, o.1 ≤ x ∧ x ≤ o.2 → (∀ f ∈ l, f.1 ≤ x ∧ x ≤ f.2) → (l.foldl meet2 o).1 ≤ x ∧ x ≤ (l.foldl meet2 o).2
  | [], o, h, _ => h
  | f :: l, o, h, hl => by
    have h1 := hl f (by simp)
    refine foldl_meet_in (o := meet2 o f) ?_ fun g hg => hl g (by simp [hg])
    rw [meet2_eq]
    simp only; omega

theorem foldl_meet_bd : ∀ {l : List (Int × Int)} {o : Int × Int}, o.1 ≤ (l.foldl meet2 o).1 ∧ (l.foldl meet2 o).2 ≤ o.2
  | [], o => ⟨Int.le_refl _, Int.le_refl _⟩
  | f :: l, o => by
    have := @foldl_meet_bd l (meet2 o f)
    rw [meet2_eq] at this
    rw [List.foldl_cons, meet2_eq]
    simp only at this
    omega

theorem foldl_meet_some {P : Int → Prop} : ∀ {l : List (Int × Int)} {o : Int × Int}, P o.1 → P o.2 → (∀ f ∈ l, P f.1 ∧ P f.2) → P (l.foldl meet2 o).1 ∧ P (l.foldl meet2 o).2
  | [], o, h1, h2, _ => ⟨h1, h2⟩
  | f :: l, o, h1, h2, hl => by
    obtain ⟨k1, k2⟩ := hl f (by simp)
    refine foldl_meet_some (o := meet2 o f) ?_ ?_ fun g hg => hl g (by simp [hg])
    · simp only [meet2]; split <;> assumption
    · simp only [meet2]; split <;> assumption

section
variable {n : Int} {r : Rec} {ahead times : List Int}
theorem RecOk.sync_ok (h : RecOk n r ahead times) {s : Sync} (hs : s ∈ r.2.1) : okSync s = true ∧ 864000 ≤ s.2.1 ∧ s.2.1 ≤ 864500 ∧ 863980 ≤ s.2.2.1 ∧ s.2.2.2 ≤ 864415 := by
  obtain ⟨a1, a2, t, a3, a4, a5, a6, a7, a8, a9⟩ := h.syncs s hs
  have := ahead_bd h.hosts s.1.toNat
  refine ⟨?_, by omega, by omega, by omega, by omega⟩
  simp only [okSync, Bool.and_eq_true, inN_iff, decide_eq_true_eq]
  omega
theorem RecOk.drift_ok (h : RecOk n r ahead times) (i : Nat) : 0 ≤ (r.1.getD i ([], 0)).2 ∧ (r.1.getD i ([], 0)).2 ≤ 500000 := by
  by_cases hi : i < r.1.length
  · have := h.hosts.drift _ (getD_mem (d := ([], 0)) hi); omega
  · simp [List.getD, hi]

theorem RecOk.froms_true (h : RecOk n r ahead times) {host c : Int} (hh : 0 ≤ host ∧ host < r.1.length) (hc : 0 ≤ c ∧ c ≤ 8589934592) :
    ∀ f ∈ froms r.1 host c r.2.1, f.1 ≤ c - ahead.getD host.toNat 0 ∧ c - ahead.getD host.toNat 0 ≤ f.2 := by
  intro f hf
  simp only [froms, List.mem_map, List.mem_filter, decide_eq_true_eq] at hf
  obtain ⟨s, ⟨hs, rfl⟩, rfl⟩ := hf
  obtain ⟨a1, a2, t, a3, a4, a5, a6, a7, a8, a9⟩ := h.syncs s hs
  exact fromS_true (h.drift_ok _) (h.sync_ok hs).1 hc a5 a7 a8

theorem RecOk.when_true (h : RecOk n r ahead times) {host c : Int} (hh : 0 ≤ host ∧ host < r.1.length) (hc : 100 ≤ c ∧ c ≤ 8589934592) :
    (whenR r host c).1 ≤ c - ahead.getD host.toNat 0 ∧ c - ahead.getD host.toNat 0 ≤ (whenR r host c).2 := by
  rw [whenR_eq]
  have := ahead_bd h.hosts host.toNat
  exact foldl_meet_in (by simp only; omega) (h.froms_true hh (by omega))

theorem RecOk.when? (h : RecOk n r ahead times) (hn : n ≤ 40) {host c : Int} (hh : 0 ≤ host ∧ host < r.1.length) (hc : 100 ≤ c ∧ c ≤ 8589934592) : when? r host c = (whenR r host c, true) := by
  have h1 := h.when_true hh hc
  unfold Go.Lift.when?
  rw [h.valid hn, inN_mk (by omega), inN_mk (by omega)]
  simp only [Bool.and_self, cond_true]
  rw [decide_eq_false (by omega)]
  rfl
end

theorem foldl_meet_shift (d : Int) : ∀ (l : List (Int × Int)) (o : Int × Int), (l.map fun f => (f.1 + d, f.2 + d)).foldl meet2 (o.1 + d, o.2 + d) = ((l.foldl meet2 o).1 + d, (l.foldl meet2 o).2 + d)
  | [], o => rfl
  | f :: l, o => by
    rw [List.map_cons, List.foldl_cons, List.foldl_cons, ← foldl_meet_shift d l]
    congr 1
    simp only [meet2_eq]
    congr 1 <;> omega
end
end Go.Lift
