/- ClockMore, ClockMoves and ClockExact in plain Lean. -/
import Derived.Test.YtamnjokpncjbfaaFn1
import Derived.Test.YtamnjokpncjbfaaLBase
import Derived.Test.YtamnjokpncjbfaaLDice
import Derived.Test.YtamnjokpncjbfaaLClock
import Derived.Test.YtamnjokpncjbfaaLRecord
namespace Go.Lift
open Go.RowKit Go.IntWalk
noncomputable section
set_option linter.unusedVariables false
set_option linter.unusedSimpArgs false

theorem elapsed_le {drift d : Int} (h1 : 0 ≤ drift ∧ drift ≤ 500000) (h2 : 0 ≤ d ∧ d ≤ 8589934592) : (elapsed drift d).1 ≤ d ∧ d ≤ (elapsed drift d).2 := by
  unfold elapsed
  rw [inN_mk h1, inN_mk h2]
  simp only [Bool.and_true, cond_true]
  have hp1 : (0 : Int) < 1000000 + drift := by omega
  have hp2 : (0 : Int) < 1000000 - drift := by omega
  constructor
  · apply Int.le_of_lt_add_one
    rw [Int.ediv_lt_iff_lt_mul hp1]
    have : (d + 1) * 1000000 ≤ (d + 1) * (1000000 + drift) := Int.mul_le_mul_of_nonneg_left (by omega) (by omega)
    omega
  · rw [Int.le_ediv_iff_mul_le hp2]
    have : d * (1000000 - drift) ≤ d * 1000000 := Int.mul_le_mul_of_nonneg_left (by omega) (by omega)
    omega

/-- What a comparison says of a reading, if its numbers are right. -/
theorem fromS_eq {h : Host} {s : Sync} {c : Int} (h1 : 0 ≤ h.2 ∧ h.2 ≤ 500000) (h2 : okSync s = true) (h3 : 0 ≤ c ∧ c ≤ 8589934592) :
    fromS h s c = if s.2.1 ≤ c then (s.2.2.1 + (elapsed h.2 (c - s.2.1)).1, s.2.2.2 + (elapsed h.2 (c - s.2.1)).2) else (s.2.2.1 - (elapsed h.2 (s.2.1 - c)).2, s.2.2.2 - (elapsed h.2 (s.2.1 - c)).1) := by
  unfold fromS
  rw [h2, inN_mk h3, vHost, inN_mk h1]
  simp only [Bool.and_self, cond_true]
  split <;> rename_i hc
  · rw [decide_eq_true hc]; rfl
  · rw [decide_eq_false hc]; rfl

theorem fromS_bd {h : Host} {s : Sync} {c : Int} (h1 : 0 ≤ h.2 ∧ h.2 ≤ 500000) (h2 : okSync s = true) (h3 : 0 ≤ c ∧ c ≤ 8589934592) :
    -17179869184 ≤ (fromS h s c).1 ∧ (fromS h s c).1 ≤ 25769803776 ∧ -17179869184 ≤ (fromS h s c).2 ∧ (fromS h s c).2 ≤ 25769803776 := by
  rw [fromS_eq h1 h2 h3]
  have e1 := @elapsed_bd h.2 (c - s.2.1)
  have e2 := @elapsed_bd h.2 (s.2.1 - c)
  simp only [okSync, Bool.and_eq_true, inN_iff, decide_eq_true_eq] at h2
  split <;> simp only <;> omega

/-- The range that a true comparison gives has the true time. -/
theorem fromS_true {h : Host} {s : Sync} {c t a : Int} (h1 : 0 ≤ h.2 ∧ h.2 ≤ 500000) (h2 : okSync s = true) (h3 : 0 ≤ c ∧ c ≤ 8589934592) (hs : s.2.1 = t + a) (hl : s.2.2.1 ≤ t) (hh : t ≤ s.2.2.2) :
    (fromS h s c).1 ≤ c - a ∧ c - a ≤ (fromS h s c).2 := by
  rw [fromS_eq h1 h2 h3]
  simp only [okSync, Bool.and_eq_true, inN_iff, decide_eq_true_eq] at h2
  split
  · have := elapsed_le h1 (d := c - s.2.1) (by omega)
    simp only; omega
  · have := elapsed_le h1 (d := s.2.1 - c) (by omega)
    simp only; omega

theorem meet2_eq (a b : Int × Int) : meet2 a b = (max a.1 b.1, min a.2 b.2) := by
  unfold meet2
  congr 1
  · omega
  · omega

/-- The ranges that the comparisons of a host give. -/
def froms (hosts : List Host) (host c : Int) (syncs : List Sync) : List (Int × Int) := (syncs.filter fun s => decide (s.1 = host)).map fun s => fromS (hosts.getD host.toNat ([], 0)) s c

theorem whenR_eq (r : Rec) (host c : Int) : whenR r host c = (froms r.1 host c r.2.1).foldl meet2 (0, 8589934592) := by
  unfold whenR froms
  generalize ((0 : Int), (8589934592 : Int)) = o
  induction r.2.1 generalizing o with
  | nil => rfl
  | cons s l ih =>
    simp only [List.foldl_cons, ih, List.filter_cons]
    cases decide (s.1 = host) <;> rfl

theorem foldl_meet_in {x : Int} : ∀ {l : List (Int × Int)} {o : Int × Int}, o.1 ≤ x ∧ x ≤ o.2 → (∀ f ∈ l, f.1 ≤ x ∧ x ≤ f.2) → (l.foldl meet2 o).1 ≤ x ∧ x ≤ (l.foldl meet2 o).2
  | [], o, h, _ => h
  | f :: l, o, h, hl => by
    have h1 := hl f (by simp)
    refine foldl_meet_in (o := meet2 o f) ?_ fun g hg => hl g (by simp [hg])
    rw [meet2_eq]
    simp only; omega

theorem foldl_meet_bd : ∀ {l : List (Int × Int)} {o : Int × Int}, o.1 ≤ (l.foldl meet2 o).1 ∧ (l.foldl meet2 o).2 ≤ o.2
  | [], o => ⟨Int.le_refl _, Int.le_refl _⟩
  | f :: l, o => by
    have := @foldl_meet_bd l (meet2 o f)
    rw [meet2_eq] at this
    rw [List.foldl_cons, meet2_eq]
    simp only at this
    omega

theorem foldl_meet_some {P : Int → Prop} : ∀ {l : List (Int × Int)} {o : Int × Int}, P o.1 → P o.2 → (∀ f ∈ l, P f.1 ∧ P f.2) → P (l.foldl meet2 o).1 ∧ P (l.foldl meet2 o).2
  | [], o, h1, h2, _ => ⟨h1, h2⟩
  | f :: l, o, h1, h2, hl => by
    obtain ⟨k1, k2⟩ := hl f (by simp)
    refine foldl_meet_some (o := meet2 o f) ?_ ?_ fun g hg => hl g (by simp [hg])
    · simp only [meet2]; split <;> assumption
    · simp only [meet2]; split <;> assumption

section
variable {n : Int} {r : Rec} {ahead times : List Int}
theorem RecOk.sync_ok (h : RecOk n r ahead times) {s : Sync} (hs : s ∈ r.2.1) : okSync s = true ∧ 864000 ≤ s.2.1 ∧ s.2.1 ≤ 864500 ∧ 863980 ≤ s.2.2.1 ∧ s.2.2.2 ≤ 864415 := by
  obtain ⟨a1, a2, t, a3, a4, a5, a6, a7, a8, a9⟩ := h.syncs s hs
  have := ahead_bd h.hosts s.1.toNat
  refine ⟨?_, by omega, by omega, by omega, by omega⟩
  simp only [okSync, Bool.and_eq_true, inN_iff, decide_eq_true_eq]
  omega
theorem RecOk.drift_ok (h : RecOk n r ahead times) (i : Nat) : 0 ≤ (r.1.getD i ([], 0)).2 ∧ (r.1.getD i ([], 0)).2 ≤ 500000 := by
  by_cases hi : i < r.1.length
  · have := h.hosts.drift _ (getD_mem (d := ([], 0)) hi); omega
  · simp [List.getD, hi]

theorem RecOk.froms_true (h : RecOk n r ahead times) {host c : Int} (hh : 0 ≤ host ∧ host < r.1.length) (hc : 0 ≤ c ∧ c ≤ 8589934592) :
    ∀ f ∈ froms r.1 host c r.2.1, f.1 ≤ c - ahead.getD host.toNat 0 ∧ c - ahead.getD host.toNat 0 ≤ f.2 := by
  intro f hf
  simp only [froms, List.mem_map, List.mem_filter, decide_eq_true_eq] at hf
  obtain ⟨s, ⟨hs, rfl⟩, rfl⟩ := hf
  obtain ⟨a1, a2, t, a3, a4, a5, a6, a7, a8, a9⟩ := h.syncs s hs
  exact fromS_true (h.drift_ok _) (h.sync_ok hs).1 hc a5 a7 a8

theorem RecOk.when_true (h : RecOk n r ahead times) {host c : Int} (hh : 0 ≤ host ∧ host < r.1.length) (hc : 100 ≤ c ∧ c ≤ 8589934592) :
    (whenR r host c).1 ≤ c - ahead.getD host.toNat 0 ∧ c - ahead.getD host.toNat 0 ≤ (whenR r host c).2 := by
  rw [whenR_eq]
  have := ahead_bd h.hosts host.toNat
  exact foldl_meet_in (by simp only; omega) (h.froms_true hh (by omega))

theorem RecOk.when? (h : RecOk n r ahead times) (hn : n ≤ 40) {host c : Int} (hh : 0 ≤ host ∧ host < r.1.length) (hc : 100 ≤ c ∧ c ≤ 8589934592) : when? r host c = (whenR r host c, true) := by
  have h1 := h.when_true hh hc
  unfold Go.Lift.when?
  rw [h.valid hn, inN_mk (by omega), inN_mk (by omega)]
  simp only [Bool.and_self, cond_true]
  rw [decide_eq_false (by omega)]
  rfl
end

/-! ### Shift -/
theorem shiftR_eq {a : Int × Int} {d : Int} (h1 : -1000000000000 ≤ a.1 ∧ a.1 ≤ 1000000000000) (h2 : -1000000000000 ≤ a.2 ∧ a.2 ≤ 1000000000000) (h3 : -1000000 ≤ d ∧ d ≤ 1000000) : shiftR a d = (a.1 + d, a.2 + d) := by
  unfold shiftR bnd movedE w64
  rw [inN_mk (by omega), inN_mk (by omega), inN_mk (by omega)]
  simp only [Bool.and_self, cond_true]
  rw [i64_in _ (by omega), i64_in _ (by omega), decide_eq_false (by omega), decide_eq_false (by omega), decide_eq_false (by omega), decide_eq_false (by omega)]
  simp only [Bool.or_self, cond_false]
  congr 1 <;> omega

section
variable {β : Type}
theorem clockMore {t : List Int} (k : Bool → Option β) : law38_ClockMore t k = k true := by
  simp only [law38_ClockMore, law38_ClockMore_s, light_eq, law38_sane_eq, roll_eq, c_not]
  by_cases hl : ¬ (t.length : Int) ≤ 500
  · rw [decide_eq_false hl]; rfl
  have hl := Decidable.not_not.1 hl
  rw [decide_eq_true hl, c_t]
  obtain ⟨r, d1, times, ahead, hr, hd1, f1⟩ := record_ok 3 (by omega) (roll_ok hl)
  obtain ⟨x, d2, hx0, hx1, hd2, f2⟩ := next_ok (n := 500) hd1 (by omega)
  obtain ⟨y, d3, hy0, hy1, hd3, f3⟩ := next_ok (n := 500) hd2 (by omega)
  obtain ⟨z, d4, hz0, hz1, hd4, f4⟩ := next_ok (n := 200) hd3 (by omega)
  obtain ⟨u, d5, hu0, hu1, hd5, f5⟩ := next_ok (n := 200) hd4 (by omega)
  obtain ⟨v, d6, hv0, hv1, hd6, f6⟩ := next_ok (n := 50) hd5 (by omega)
  have hsome := hr.some_
  have hfew := hr.fewS
  have hw := hr.when? (by omega) (host := 0) (c := 864000 + x) (by omega) (by omega)
  have ht := hr.when_true (host := 0) (c := 864000 + x) (by omega) (by omega)
  have ha := ahead_bd hr.hosts 0
  have hs : okSync (0, 864000 + y, 864000 + z, 864300 + u) = true := by
    simp only [okSync, Bool.and_eq_true, inN_iff, decide_eq_true_eq]; omega
  have hdr := hr.drift_ok 0
  have hv : valid (r.1, r.2.1 ++ [(0, 864000 + y, 864000 + z, 864300 + u)], r.2.2) = true := by
    have := hr.valid (by omega)
    simp only [valid, small, Bool.and_eq_true, List.all_append, List.all_cons, List.all_nil, List.length_append, List.length_cons, List.length_nil, Bool.not_eq_true', decide_eq_false_iff_not] at this ⊢
    obtain ⟨⟨b1, b2, b3, b4⟩, b5, b6, b7, b8⟩ := this
    refine ⟨⟨b1, by omega, b3, b4⟩, b5, ⟨b6, ?_, trivial⟩, b7, b8⟩
    simp only [vSync, hs, Bool.and_true, inN_iff]
    omega
  generalize hS : ((0, 864000 + y, 864000 + z, 864300 + u) : Sync) = S at hs hv
  have hw2 : when? (r.1, r.2.1 ++ [S], r.2.2) 0 (864000 + x) = (meet2 (whenR r 0 (864000 + x)) (fromS (r.1.getD 0 ([], 0)) S (864000 + x)), !decide ((meet2 (whenR r 0 (864000 + x)) (fromS (r.1.getD 0 ([], 0)) S (864000 + x))).2 < (meet2 (whenR r 0 (864000 + x)) (fromS (r.1.getD 0 ([], 0)) S (864000 + x))).1)) := by
    have e : whenR (r.1, r.2.1 ++ [S], r.2.2) 0 (864000 + x) = meet2 (whenR r 0 (864000 + x)) (fromS (r.1.getD 0 ([], 0)) S (864000 + x)) := by
      subst hS
      unfold whenR
      simp [List.foldl_append]
    unfold Go.Lift.when?
    rw [hv, inN_mk (by simp only; omega), inN_mk (by omega)]
    simp only [Bool.and_self, cond_true]
    rw [e]
  have hb := fromS_bd hdr hs (c := 864000 + x) (by omega)
  have hb2 := @foldl_meet_bd (froms r.1 0 (864000 + x) r.2.1) (0, 8589934592)
  rw [← whenR_eq] at hb2
  simp only [Int.toNat_zero] at ht
  simp only [clock_When_eq, clock_From_eq, clock_Meet_eq, clock_Shift_eq, clock_Empty_eq]
  simp (disch := omega) only [f1, f2, f3, f4, f5, f6, i64_in, c_room, List.length_cons, List.length_nil, hw, hw2, hS, Bool.not_true, c_f, c_inb, Int.toNat_zero]
  generalize fromS (r.1.getD 0 ([], 0)) S (864000 + x) = f at *
  generalize whenR r 0 (864000 + x) = w at *
  have hm := meet2_eq w f
  generalize meet2 w f = q at *
  subst hm
  rw [shiftR_eq (by omega) (by omega) (by omega), shiftR_eq (by simp only; omega) (by simp only; omega) (by omega), meet2_eq]
  simp only
  rw [show max (w.1 + (v - 25)) (max w.1 f.1 + (v - 25)) = max w.1 f.1 + (v - 25) by omega, show min (w.2 + (v - 25)) (min w.2 f.2 + (v - 25)) = min w.2 f.2 + (v - 25) by omega]
  rw [decide_eq_true (show w.1 ≤ max w.1 f.1 by omega), decide_eq_true (show min w.2 f.2 ≤ w.2 by omega)]
  simp

/-! ### ClockMoves -/
abbrev shiftS (d : Int) (s : Sync) : Sync := (0, s.2.1, s.2.2.1 + d, s.2.2.2 + d)
def movedG (d : Int) (acc : List Sync) (s : Sync) : List Sync := cond (decide (s.1 = 0)) (acc ++ [shiftS d s]) acc
theorem movedG_foldl (d : Int) : ∀ (l acc : List Sync), l.foldl (movedG d) acc = acc ++ (l.filter fun s => decide (s.1 = 0)).map (shiftS d)
  | [], acc => by simp
  | s :: l, acc => by
    simp only [List.foldl_cons, movedG_foldl d l, List.filter_cons, movedG]
    cases decide (s.1 = 0) <;> simp

theorem fromS_self {h : Host} {s : Sync} (h1 : 0 ≤ h.2 ∧ h.2 ≤ 500000) (h2 : okSync s = true) : fromS h s s.2.1 = (s.2.2.1, s.2.2.2) := by
  have h3 := h2
  simp only [okSync, Bool.and_eq_true, inN_iff, decide_eq_true_eq] at h3
  rw [fromS_eq h1 h2 (by omega)]
  simp only [Int.le_refl, if_true]
  have : elapsed h.2 (s.2.1 - s.2.1) = (0, 0) := by
    unfold elapsed
    rw [inN_mk h1, inN_mk (by omega), Int.sub_self]
    simp only [Bool.and_self, cond_true]
    have : (0 * 1000000 + (1000000 - h.2) - 1) / (1000000 - h.2) = 0 := Int.ediv_eq_zero_of_lt (by omega) (by omega)
    rw [this]
    simp
  rw [this]
  simp

theorem fromS_shift {h : Host} {s : Sync} {c d : Int} (h1 : 0 ≤ h.2 ∧ h.2 ≤ 500000) (h2 : okSync s = true) (hd : 0 ≤ d ∧ s.2.2.2 + d ≤ 8589934592) (h3 : 0 ≤ c ∧ c ≤ 8589934592) : okSync (shiftS d s) = true ∧ fromS h (shiftS d s) c = ((fromS h s c).1 + d, (fromS h s c).2 + d) := by
  have h4 : okSync (shiftS d s) = true := by
    simp [okSync, shiftS, inN] at h2 ⊢
    omega
  refine ⟨h4, ?_⟩
  rw [fromS_eq h1 h2 h3, fromS_eq h1 h4 h3]
  simp only [shiftS]
  by_cases hc : s.2.1 ≤ c
  · rw [if_pos hc, if_pos hc]
    simp only [Prod.mk.injEq]
    omega
  · rw [if_neg hc, if_neg hc]
    simp only [Prod.mk.injEq]
    omega

theorem moves_p1 (k1 : law38_ClockMoves_p1_K1 β) (k2 : law38_ClockMoves_p1_K2 β) {d c n : Int} (hd : 0 ≤ d ∧ d ≤ 65535) {r : Rec} {ahead times : List Int} (h : RecOk n r ahead times) :
    law38_ClockMoves_p1 k1 k2 d c r.2.1 r.2.1.length 0 r.1 r.2.1 r.2.2.1 r.2.2.2 r.1 [] [] [] = k2 d c r.1 r.2.1 r.2.2.1 r.2.2.2 r.1 (r.2.1.foldl (movedG d) []) [] [] := by
  have hfew := h.fewS
  have hm := h.hosts.most
  refine fold_loopI (fun i s => s.length ≤ i) (fun m i s => law38_ClockMoves_p1_n m k1 k2 d c r.2.1 r.2.1.length i r.1 r.2.1 r.2.2.1 r.2.2.2 r.1 s [] []) (movedG d) (fun s => k2 d c r.1 r.2.1 r.2.2.1 r.2.2.2 r.1 s [] []) (0, 0, 0, 0) r.2.1 [] fuel (lt_fuel (by omega)) (by simp) (fun i s hi hs => ?_) (fun m i s hi hs => ?_) (fun m s hs => ?_)
  · simp only [movedG]
    cases decide ((r.2.1.getD i (0, 0, 0, 0)).1 = 0) with
    | true => simp; omega
    | false => simp only [cond_false]; omega
  · have hmem : r.2.1.getD i (0, 0, 0, 0) ∈ r.2.1 := getD_mem hi
    obtain ⟨a1, a2, -⟩ := h.syncs _ hmem
    obtain ⟨b1, b2, b3, b4, b5⟩ := h.sync_ok hmem
    have hf := fromS_self (h.drift_ok (r.2.1.getD i (0, 0, 0, 0)).1.toNat) b1
    have b6 := b1
    simp only [okSync, Bool.and_eq_true, inN_iff, decide_eq_true_eq] at b6
    simp (disch := omega) only [law38_ClockMoves_p1_step, law38_ClockMoves_p1_s, c_pos, c_inb, Int.toNat_natCast, clock_From_eq, hf, i64_in, c_room, List.length_cons, List.length_nil, decide_true, Bool.and_self, Bool.not_true, c_f, movedG, shiftS]
    cases decide ((r.2.1.getD i (0, 0, 0, 0)).1 = 0) <;> rfl
  · simp (disch := omega) only [law38_ClockMoves_p1_step, law38_ClockMoves_p1_s, c_neg]

theorem foldl_meet_shift (d : Int) : ∀ (l : List (Int × Int)) (o : Int × Int), (l.map fun f => (f.1 + d, f.2 + d)).foldl meet2 (o.1 + d, o.2 + d) = ((l.foldl meet2 o).1 + d, (l.foldl meet2 o).2 + d)
  | [], o => rfl
  | f :: l, o => by
    rw [List.map_cons, List.foldl_cons, List.foldl_cons, ← foldl_meet_shift d l]
    congr 1
    simp only [meet2_eq]
    congr 1 <;> omega

theorem clockMoves {t : List Int} {n : Int} (hn : 0 ≤ n ∧ n ≤ 65535) (k : Bool → Option β) : law38_ClockMoves t n k = k true := by
  simp only [law38_ClockMoves, law38_ClockMoves_s, light_eq, law38_sane_eq, roll_eq, c_not]
  by_cases hl : ¬ (t.length : Int) ≤ 500
  · rw [decide_eq_false hl]; rfl
  have hl := Decidable.not_not.1 hl
  rw [decide_eq_true hl, c_t]
  obtain ⟨r, d1, times, ahead, hr, hd1, f1⟩ := record_ok 2 (by omega) (roll_ok hl)
  obtain ⟨x, d2, hx0, hx1, hd2, f2⟩ := next_ok (n := 400) hd1 (by omega)
  have hsome := hr.some_
  have hfew := hr.fewS
  have ha := ahead_bd hr.hosts 0
  have hdr := hr.drift_ok 0
  have hw := hr.when? (by omega) (host := 0) (c := 864000 + x) (by omega) (by omega)
  have ht := hr.when_true (host := 0) (c := 864000 + x) (by omega) (by omega)
  have hfr := hr.froms_true (host := 0) (c := 864000 + x) (by omega) (by omega)
  simp only [Int.toNat_zero] at ht hfr
  simp (disch := omega) only [f1, f2, i64_in, moves_p1 _ _ hn hr]
  rw [movedG_foldl, List.nil_append]
  have hmv : ∀ s ∈ (r.2.1.filter fun s => decide (s.1 = 0)).map (shiftS n), s.1 = 0 ∧ okSync s = true := by
    intro s hs
    simp only [List.mem_map, List.mem_filter] at hs
    obtain ⟨s', ⟨hs', -⟩, rfl⟩ := hs
    obtain ⟨b1, b2, b3, b4, b5⟩ := hr.sync_ok hs'
    exact ⟨rfl, (fromS_shift hdr b1 (d := n) (c := 0) (by omega) (by omega)).1⟩
  have hlen : ((r.2.1.filter fun s => decide (s.1 = 0)).map (shiftS n)).length ≤ 4 := by
    rw [List.length_map]
    exact Nat.le_trans (List.length_filter_le _ _) hfew
  have hfm : froms r.1 0 (864000 + x) ((r.2.1.filter fun s => decide (s.1 = 0)).map (shiftS n)) = (froms r.1 0 (864000 + x) r.2.1).map fun f => (f.1 + n, f.2 + n) := by
    unfold froms
    rw [List.filter_eq_self.2 (fun s hs => by simpa using (hmv s hs).1), List.map_map, List.map_map]
    apply List.map_congr_left
    intro s hs
    simp only [List.mem_filter] at hs
    obtain ⟨b1, b2, b3, b4, b5⟩ := hr.sync_ok hs.1
    exact (fromS_shift hdr b1 (d := n) (c := 864000 + x) (by omega) (by omega)).2
  have hne : ((r.2.1.filter fun s => decide (s.1 = 0)).map (shiftS n)).length = (froms r.1 0 (864000 + x) r.2.1).length := by simp [froms]
  have hfb : ∀ f ∈ froms r.1 0 (864000 + x) r.2.1, 0 ≤ f.1 ∧ f.1 ≤ 864400 ∧ 860000 ≤ f.2 ∧ f.2 ≤ 900000000 := by
    intro f hf
    have hf' := hf
    simp only [froms, List.mem_map, List.mem_filter, decide_eq_true_eq] at hf'
    obtain ⟨s, ⟨hs, hs0⟩, rfl⟩ := hf'
    obtain ⟨b1, b2, b3, b4, b5⟩ := hr.sync_ok hs
    have h5 := hfr _ hf
    simp only [Int.toNat_zero] at h5 ⊢
    rw [fromS_eq hdr b1 (by omega)] at h5 ⊢
    have key : ∀ e : Int, 0 ≤ e → e ≤ 1000 → (elapsed (r.1.getD 0 ([], 0)).2 e).2 ≤ 2001 ∧ 0 ≤ (elapsed (r.1.getD 0 ([], 0)).2 e).1 := by
      intro e h0 h1
      unfold elapsed
      rw [inN_mk hdr, inN_mk (by omega)]
      simp only [Bool.and_self, cond_true]
      refine ⟨?_, Int.ediv_nonneg (by omega) (by omega)⟩
      apply Int.le_of_lt_add_one
      rw [Int.ediv_lt_iff_lt_mul (by omega)]
      have : (2001 + 1) * 500000 ≤ (2001 + 1) * (1000000 - (r.1.getD 0 ([], 0)).2) := Int.mul_le_mul_of_nonneg_left (by omega) (by omega)
      omega
    have k3 : s.2.2.1 ≤ s.2.2.2 := by simp only [okSync, Bool.and_eq_true, inN_iff, decide_eq_true_eq] at b1; omega
    split at h5
    · rename_i hc
      have := key (864000 + x - s.2.1) (by omega) (by omega)
      rw [if_pos hc]
      simp only at h5 ⊢
      omega
    · rename_i hc
      have := key (s.2.1 - (864000 + x)) (by omega) (by omega)
      rw [if_neg hc]
      simp only at h5 ⊢
      omega
  generalize hM : (r.2.1.filter fun s => decide (s.1 = 0)).map (shiftS n) = M at *
  generalize hFr : froms r.1 0 (864000 + x) r.2.1 = L at *
  have hvM : valid (r.1, M, [], []) = true := by
    have := hr.valid (by omega)
    simp only [valid, small, Bool.and_eq_true, Bool.not_eq_true', decide_eq_false_iff_not, List.all_nil, List.length_nil, List.all_eq_true] at this ⊢
    refine ⟨⟨this.1.1, by omega, by omega, by omega⟩, this.2.1, fun s hs => ?_, trivial, trivial⟩
    obtain ⟨q1, q2⟩ := hmv s hs
    simp only [vSync, q2, Bool.and_true, inN_iff]
    omega
  have hwL : whenR r 0 (864000 + x) = L.foldl meet2 (0, 8589934592) := by rw [whenR_eq, hFr]
  have hwM : whenR (r.1, M, [], []) 0 (864000 + x) = (L.map fun f => (f.1 + n, f.2 + n)).foldl meet2 (0, 8589934592) := by rw [whenR_eq]; simp only; rw [hfm]
  simp only [clock_When_eq, clock_Shift_eq, law38_sane_eq]
  rw [show ((r.1, r.2.1, r.2.2.1, r.2.2.2) : Rec) = r from rfl, hw]
  simp only [Bool.not_true, c_f]
  cases L with
  | nil =>
    have hM0 : M = [] := List.eq_nil_of_length_eq_zero (by rw [hne]; rfl)
    subst hM0
    have e : when? (r.1, [], [], []) 0 (864000 + x) = ((0, 8589934592), true) := by
      unfold Go.Lift.when?
      rw [hvM, inN_mk (by simp only; omega), inN_mk (by omega), hwM]
      rfl
    rw [e, hwL]
    rfl
  | cons f L =>
    have h0 : meet2 (0, 8589934592) f = f := by
      obtain ⟨q1, q2, q3, q4⟩ := hfb f (by simp)
      rw [meet2_eq]
      simp only
      rw [Int.max_eq_right (by omega), Int.min_eq_right (by omega)]
    have h1 : meet2 (0, 8589934592) (f.1 + n, f.2 + n) = (f.1 + n, f.2 + n) := by
      obtain ⟨q1, q2, q3, q4⟩ := hfb f (by simp)
      rw [meet2_eq]
      simp only
      rw [Int.max_eq_right (by omega), Int.min_eq_right (by omega)]
    rw [List.foldl_cons, h0] at hwL
    rw [List.map_cons, List.foldl_cons, h1, foldl_meet_shift, ← hwL] at hwM
    have e : when? (r.1, M, [], []) 0 (864000 + x) = (((whenR r 0 (864000 + x)).1 + n, (whenR r 0 (864000 + x)).2 + n), true) := by
      unfold Go.Lift.when?
      rw [hvM, inN_mk (by simp only; omega), inN_mk (by omega), hwM]
      simp only [Bool.and_self, cond_true]
      rw [decide_eq_false (by omega)]
      rfl
    have hb := foldl_meet_some (P := fun z => 0 ≤ z ∧ z ≤ 900000000) (l := L) (o := f) (by have := hfb f (by simp); omega) (by have := hfb f (by simp); omega) (fun g hg => by have := hfb g (by simp [hg]); omega)
    rw [← hwL] at hb
    have hM0 : ¬ (M.length : Int) = 0 := by rw [hne]; simp; omega
    rw [e]
    simp only [Bool.not_true, c_f]
    rw [c_neg hM0, shiftR_eq (by omega) (by omega) (by omega)]
    simp

/-! ### ClockExact -/
theorem exact_p1 (k1 : law38_ClockExact_p1_K1 β) (k2 : law38_ClockExact_p1_K2 β) (n m a1 a2 : Int) (h : List UInt8) (h2 s s2 s3 s4 a a2' b b2 : Int) (d : List Int) (d2 : Int) (x : List Host) (x2 : List Sync) (x3 : List Event) (x4 : List Link) (l : List Rec) (ps : List (Int × Int)) (hp : ps.length ≤ 1000) :
    law38_ClockExact_p1 k1 k2 n m a1 a2 ps.length 0 h h2 s s2 s3 s4 a a2' b b2 d d2 x x2 x3 x4 l ps = k2 n m a1 a2 h h2 s s2 s3 s4 a a2' b b2 d d2 l := by
  refine Eq.trans (check_loop (fun q i => law38_ClockExact_p1_n q k1 k2 n m a1 a2 ps.length i h h2 s s2 s3 s4 a a2' b b2 d d2 x x2 x3 x4 l ps) (fun _ => true) (k1 false) (k2 n m a1 a2 h h2 s s2 s3 s4 a a2' b b2 d d2 l) (0, 0) ps fuel (lt_fuel (by omega)) (fun q i hi => ?_) (fun q => ?_)) ?_
  · simp (disch := omega) only [law38_ClockExact_p1_step, law38_ClockExact_p1_s, c_pos, c_inb, clock_When_eq, ref38_When_eq, i64_in, decide_true, Bool.and_self, Bool.not_true, c_f, beq_self_eq_true, c_t]
  · simp (disch := omega) only [law38_ClockExact_p1_step, law38_ClockExact_p1_s, c_neg]
  · rw [List.all_eq_true.2 (fun _ _ => rfl)]; rfl

theorem exact_p2 (n m : Int) (h : List UInt8) (h2 s s2 s3 s4 a a2 b b2 : Int) (l : List Rec) (hl : l.length ≤ 1000) {d : Dice} (hd : DiceOk d) :
    ∃ d' : Dice, DiceOk d' ∧ ∀ {β : Type} (k : law38_ClockExact_p2_K1 β × law38_ClockExact_p2_K2 β), law38_ClockExact_p2 k.1 k.2 n m l.length 0 h h2 s s2 s3 s4 a a2 b b2 d.1 d.2 l = k.2 n m h h2 s s2 s3 s4 a a2 b b2 d'.1 d'.2 := by
  refine count_loop (σ := Dice) (ρ := Dice) (Kt := fun β => law38_ClockExact_p2_K1 β × law38_ClockExact_p2_K2 β) (fun k q i d => law38_ClockExact_p2_n q k.1 k.2 n m l.length i h h2 s s2 s3 s4 a a2 b b2 d.1 d.2 l) (fun k d' => k.2 n m h h2 s s2 s3 s4 a a2 b b2 d'.1 d'.2)
    l.length (fun _ d => DiceOk d) DiceOk (fun i d hi hd => ?_) (fun d hd => ?_) fuel (lt_fuel (by omega)) d hd
  · obtain ⟨x, d1, hx0, hx1, hd1, f1⟩ := next_ok (n := 4) hd (by omega)
    obtain ⟨y, d2, hy0, hy1, hd2, f2⟩ := next_ok (n := 500) hd1 (by omega)
    obtain ⟨z, d3, hz, hd3, f3⟩ := one_ok (l := [-1, 0, 8589934592, 8589934593]) (by simp) (by simp) hd2
    refine .inl ⟨d3, hd3, fun k q => ?_⟩
    simp (disch := omega) only [law38_ClockExact_p2_step, law38_ClockExact_p2_s, c_pos, c_inb, clock_Valid_eq, ref38_Valid_eq, i64_in, beq_self_eq_true, Bool.not_true, c_f, f1, f2, f3, pair_eta]
    rw [exact_p1 _ _ _ _ _ _ _ _ _ _ _ _ _ _ _ _ _ _ _ _ _ _ _ _ (by simp), i64_in _ (by omega)]
  · exact ⟨d, hd, fun k q => by simp (disch := omega) only [law38_ClockExact_p2_step, law38_ClockExact_p2_s, c_neg]⟩

theorem exact_p3 (k1 : law38_ClockExact_p3_K1 β) (k2 : law38_ClockExact_p3_K2 β) (n dr : Int) (h : List UInt8) (h2 s s2 s3 s4 a a2' b b2 : Int) (d : List Int) (d2 : Int) (ps : List (Int × Int)) (hp : ps.length ≤ 1000) :
    law38_ClockExact_p3 k1 k2 n dr ps.length 0 h h2 s s2 s3 s4 a a2' b b2 d d2 ps = k2 n dr h h2 s s2 s3 s4 a a2' b b2 d d2 := by
  refine Eq.trans (check_loop (fun q i => law38_ClockExact_p3_n q k1 k2 n dr ps.length i h h2 s s2 s3 s4 a a2' b b2 d d2 ps) (fun _ => true) (k1 false) (k2 n dr h h2 s s2 s3 s4 a a2' b b2 d d2) (0, 0) ps fuel (lt_fuel (by omega)) (fun q i hi => ?_) (fun q => ?_)) ?_
  · simp (disch := omega) only [law38_ClockExact_p3_step, law38_ClockExact_p3_s, c_pos, c_inb, clock_Elapsed_eq, ref38_Elapsed_eq, i64_in, decide_true, Bool.not_true, c_f, c_t]
  · simp (disch := omega) only [law38_ClockExact_p3_step, law38_ClockExact_p3_s, c_neg]
  · rw [List.all_eq_true.2 (fun _ _ => rfl)]; rfl

theorem clockExact (t : List Int) (raw : Rec) (h : Host) (s : Sync) (a b : Int × Int) (n m : Int) (k : Bool → Option β) : law38_ClockExact t raw h s a b n m k = k true := by
  simp only [law38_ClockExact, law38_ClockExact_s, light_eq, law38_sane_eq, roll_eq, c_not]
  by_cases hl : ¬ (t.length : Int) ≤ 500
  · rw [decide_eq_false hl]; rfl
  have hl := Decidable.not_not.1 hl
  rw [decide_eq_true hl, c_t]
  generalize decide ((100 : Int) < _) = q
  cases q with
  | true => rfl
  | false =>
    rw [c_f]
    obtain ⟨r, d1, times, ahead, hr, hd1, f1⟩ := record_ok 6 (by omega) (roll_ok hl)
    have hb := valid_bd (hr.valid (by omega))
    obtain ⟨r', d2, hd2, f2⟩ := oddrecord_ok (r := r) hd1 hr.some_ (by omega) (by omega) (by omega) (by omega)
    obtain ⟨d3, hd3, f3⟩ := exact_p2 n m h.1 h.2 s.1 s.2.1 s.2.2.1 s.2.2.2 a.1 a.2 b.1 b.2 [r, r', raw] (by simp) hd2
    obtain ⟨x4, d4, -, hd4, f4⟩ := one_ok (l := [0, 1, 100, 500000, 500001, -1]) (by simp) (by simp) hd3
    obtain ⟨x5, d5, -, hd5, f5⟩ := one_ok (l := [0, 1, 77, 8589934592, 8589934593, -1]) (by simp) (by simp) hd4
    obtain ⟨x6, d6, -, hd6, f6⟩ := one_ok (l := [0, 100, 864000, -1]) (by simp) (by simp) hd5
    obtain ⟨x7, d7, -, hd7, f7⟩ := one_ok (l := [0, 50, 864000]) (by simp) (by simp) hd6
    obtain ⟨x8, d8, -, hd8, f8⟩ := one_ok (l := [0, 50, 90, 864009, 8589934593]) (by simp) (by simp) hd7
    obtain ⟨x9, d9, -, hd9, f9⟩ := one_ok (l := [0, 90, 864070, 8589934592]) (by simp) (by simp) hd8
    obtain ⟨x10, d10, -, hd10, f10⟩ := one_ok (l := [0, -1099511627776, 5, -1099511627775]) (by simp) (by simp) hd9
    obtain ⟨x11, d11, -, hd11, f11⟩ := one_ok (l := [9, 1099511627776, 1099511627775, -9]) (by simp) (by simp) hd10
    obtain ⟨x12, d12, -, hd12, f12⟩ := one_ok (l := [0, 5, -5, 1099511627776, -1099511627776, 1099511627777]) (by simp) (by simp) hd11
    simp only [f1, f2]
    rw [f3 (_, _)]
    simp only [f4, f5, pair_eta]
    rw [exact_p3 _ _ _ _ _ _ _ _ _ _ _ _ _ _ _ _ _ (by simp)]
    simp only [f6, f7, f8, f9, f10, f11, f12, pair_eta, clock_From_eq, ref38_From_eq, clock_Meet_eq, ref38_Meet_eq, clock_Empty_eq, ref38_Empty_eq, clock_Shift_eq, ref38_Shift_eq, decide_true, Bool.and_self, c_t, beq_self_eq_true]
end
end
end Go.Lift
