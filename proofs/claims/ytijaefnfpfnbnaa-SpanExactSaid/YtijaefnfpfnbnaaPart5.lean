/- The reference's normal form of any spans: by the borders and how many spans lie over each number. -/
import Derived.Test.YtijaefnfpfnbnaaPart4
namespace Go.Lift
open Go.RowKit Go.IntWalk
noncomputable section
set_option linter.unusedVariables false
set_option linter.unusedSimpArgs false

theorem mGet_mPut' (l : List (Int × Int)) (a b v z : Int) : mGet (.int .i64) (mPut (.int .i64) l a v) b z = if a = b then v else mGet (.int .i64) l b z := by
  induction l with
  | nil =>
    simp only [mPut, mGet, keyEq]
    by_cases h : a = b
    · simp [h]
    · simp [h]
  | cons y r ih =>
    simp only [mPut, keyEq]
    by_cases h1 : y.1 = a
    · simp only [h1, decide_true, cond_true, mGet, keyEq]
      by_cases h : a = b
      · simp [h]
      · simp [h]
    · simp only [h1, decide_false, cond_false, mGet, keyEq]
      by_cases h : y.1 = b
      · have : ¬ a = b := fun e => h1 (h.trans e.symm)
        simp [h, this]
      · simp only [h, decide_false, cond_false]
        exact ih

def isNe (s : Sp) : Bool := decide (s.1 < s.2)
/-- How many begin, or end, at a number; up to it. -/
def cntF (l : List Sp) (x : Int) : Int := (l.countP fun s => isNe s && decide (s.1 = x) : Nat)
def cntT (l : List Sp) (x : Int) : Int := (l.countP fun s => isNe s && decide (s.2 = x) : Nat)
def cumF (l : List Sp) (x : Int) : Int := (l.countP fun s => isNe s && decide (s.1 ≤ x) : Nat)
def cumT (l : List Sp) (x : Int) : Int := (l.countP fun s => isNe s && decide (s.2 ≤ x) : Nat)
def depthS (l : List Sp) (x : Int) : Int := cumF l x - cumT l x
def ptsS (l : List Sp) : List Int := l.flatMap fun s => if s.1 < s.2 then [s.1, s.2] else []

theorem countP_step (p : Sp → Bool) (s : Sp) (l : List Sp) : (((s :: l).countP p : Nat) : Int) = (l.countP p : Nat) + (if p s = true then 1 else 0) := by
  rw [List.countP_cons]
  split <;> simp

theorem depth_cons (s : Sp) (l : List Sp) (x : Int) : depthS (s :: l) x = depthS l x + (if s.1 ≤ x ∧ x < s.2 then 1 else 0) := by
  unfold depthS cumF cumT
  rw [countP_step, countP_step]
  by_cases h1 : s.1 < s.2
  · simp only [isNe, h1, decide_true, Bool.true_and, decide_eq_true_eq]
    by_cases h2 : s.1 ≤ x <;> by_cases h3 : s.2 ≤ x
    · rw [if_pos h2, if_pos h3, if_neg (by omega)]; omega
    · rw [if_pos h2, if_neg h3, if_pos (by omega)]; omega
    · omega
    · rw [if_neg h2, if_neg h3, if_neg (by omega)]; omega
  · have : ¬ (s.1 ≤ x ∧ x < s.2) := by omega
    simp [isNe, h1, this]

theorem depth_pos (l : List Sp) (x : Int) : 0 ≤ depthS l x ∧ (0 < depthS l x ↔ hasS l x) := by
  induction l with
  | nil =>
    refine ⟨by simp [depthS, cumF, cumT], fun h => ?_, fun h => absurd h hasS_nil⟩
    simp [depthS, cumF, cumT] at h
  | cons s l ih =>
    rw [depth_cons, hasS_cons]
    obtain ⟨i1, i2⟩ := ih
    by_cases h : s.1 ≤ x ∧ x < s.2
    · rw [if_pos h]
      exact ⟨by omega, fun _ => .inl h, fun _ => by omega⟩
    · rw [if_neg h]
      refine ⟨by omega, fun q => .inr (i2.1 (by omega)), ?_⟩
      rintro (q | q)
      · exact absurd q h
      · have := i2.2 q; omega

/-- Nothing begins or ends between a and p. -/
theorem depth_step (l : List Sp) {a p : Int} (hap : a < p) (hn : ∀ y ∈ ptsS l, ¬ (a < y ∧ y < p)) : depthS l p = depthS l a + (cntF l p - cntT l p) ∧ ∀ x, a ≤ x → x < p → depthS l x = depthS l a := by
  induction l with
  | nil => simp [depthS, cumF, cumT, cntF, cntT]
  | cons s l ih =>
    have hn' : ∀ y ∈ ptsS l, ¬ (a < y ∧ y < p) := fun y hy => hn y (by simp only [ptsS, List.flatMap_cons, List.mem_append]; exact .inr hy)
    obtain ⟨i1, i2⟩ := ih hn'
    by_cases hs : s.1 < s.2
    · have h1 := hn s.1 (by simp [ptsS, hs])
      have h2 := hn s.2 (by simp [ptsS, hs])
      have ef : cntF (s :: l) p = cntF l p + (if s.1 = p then 1 else 0) := by
        unfold cntF; rw [countP_step]; simp [isNe, hs]
      have et : cntT (s :: l) p = cntT l p + (if s.2 = p then 1 else 0) := by
        unfold cntT; rw [countP_step]; simp [isNe, hs]
      refine ⟨?_, fun x h3 h4 => ?_⟩
      · rw [depth_cons, depth_cons, ef, et, i1]
        by_cases q1 : s.1 ≤ a <;> by_cases q2 : s.2 ≤ a <;> by_cases q3 : s.1 = p <;> by_cases q4 : s.2 = p <;> simp only [q3, q4, if_true, if_false] <;> (split <;> split <;> omega)
      · rw [depth_cons, depth_cons, i2 x h3 h4]
        congr 1
        have : (s.1 ≤ x ∧ x < s.2) ↔ (s.1 ≤ a ∧ a < s.2) := by omega
        simp only [this]
    · have ef : cntF (s :: l) p = cntF l p := by
        unfold cntF; rw [countP_step]; simp [isNe, hs]
      have et : cntT (s :: l) p = cntT l p := by
        unfold cntT; rw [countP_step]; simp [isNe, hs]
      have hz : ∀ x, depthS (s :: l) x = depthS l x := fun x => by rw [depth_cons, if_neg (by omega)]; omega
      refine ⟨by rw [hz, hz, ef, et, i1], fun x h3 h4 => by rw [hz, hz, i2 x h3 h4]⟩

theorem mem_pts {l : List Sp} {y : Int} : y ∈ ptsS l ↔ ∃ s ∈ l, s.1 < s.2 ∧ (y = s.1 ∨ y = s.2) := by
  simp only [ptsS, List.mem_flatMap]
  constructor
  · rintro ⟨s, hs, h⟩
    split at h
    · rename_i hlt
      simp only [List.mem_cons, List.not_mem_nil, or_false] at h
      exact ⟨s, hs, hlt, h⟩
    · cases h
  · rintro ⟨s, hs, hlt, h⟩
    exact ⟨s, hs, by rw [if_pos hlt]; simpa using h⟩

theorem cnt_bounds (p : Sp → Bool) (l : List Sp) : (0 : Int) ≤ (l.countP p : Nat) ∧ ((l.countP p : Nat) : Int) ≤ l.length := by
  have := List.countP_le_length (p := p) (l := l)
  omega

/-! ### Collecting the borders -/
def rangeS (s : Sp) : Prop := s.1 < s.2 → 0 ≤ s.1 ∧ s.2 ≤ 8589934592

theorem ref_coll (l : List Sp) (hl : l.length ≤ 4096) : ∀ (r : List Sp) (j N : Nat) (at_ : List Int) (op sh : List (Int × Int)), l.drop j = r → r.length < N → (∀ s ∈ r, rangeS s) → at_.length + 2 * r.length ≤ 10000 →
    (∀ x, 0 ≤ mGet (.int .i64) op x 0 ∧ mGet (.int .i64) op x 0 + r.length ≤ 10000) → (∀ x, 0 ≤ mGet (.int .i64) sh x 0 ∧ mGet (.int .i64) sh x 0 + r.length ≤ 10000) →
    ∃ at' op' sh', (at' = at_ ++ ptsS r ∧ (∀ x, mGet (.int .i64) op' x 0 = mGet (.int .i64) op x 0 + cntF r x) ∧ (∀ x, mGet (.int .i64) sh' x 0 = mGet (.int .i64) sh x 0 + cntT r x)) ∧
      ∀ {β : Type} (k1 : zqaf β) (k2 : zqag β), zqbi N k1 k2 l (j : Int) at_ op sh = k2 at' op' sh'
  | [], j, 0, _, _, _, _, h, _, _, _, _ => absurd h (Nat.not_lt_zero _)
  | _ :: _, j, 0, _, _, _, _, h, _, _, _, _ => absurd h (Nat.not_lt_zero _)
  | [], j, N + 1, at_, op, sh, hd, h, hr, ha, ho, hs => by
    refine ⟨at_, op, sh, ⟨by simp [ptsS], fun x => by simp [cntF], fun x => by simp [cntT]⟩, fun k1 k2 => ?_⟩
    have : l.length ≤ j := by simpa using hd
    rw [zqbj]
    unfold zqb0
    exact c_neg (by omega)
  | s :: r, j, N + 1, at_, op, sh, hd, h, hr, ha, ho, hs => by
    obtain ⟨hj, hg, hd'⟩ := drop_cons hd ((0 : Int), (0 : Int))
    simp only [List.length_cons] at h ha ho hs
    have hrs := hr s (by simp)
    have hr' : ∀ t ∈ r, rangeS t := fun t ht => hr t (by simp [ht])
    have ew : IntKind.i64.wrap ((j : Int) + 1) = ((j + 1 : Nat) : Int) := by rw [wr (by omega) (by omega)]; omega
    by_cases hne : s.1 < s.2
    · obtain ⟨b1, b2⟩ := hrs hne
      have ho1 := ho s.1
      have hs1 := hs s.2
      obtain ⟨at', op', sh', ⟨e1, e2, e3⟩, hf⟩ := ref_coll l hl r (j + 1) N (at_ ++ [s.1, s.2]) (mPut (.int .i64) op s.1 (mGet (.int .i64) op s.1 0 + 1)) (mPut (.int .i64) sh s.2 (mGet (.int .i64) sh s.2 0 + 1)) hd' (by omega) hr' (by simp; omega)
        (fun x => by rw [mGet_mPut']; have := ho x; split <;> omega) (fun x => by rw [mGet_mPut']; have := hs x; split <;> omega)
      refine ⟨at', op', sh', ⟨?_, fun x => ?_, fun x => ?_⟩, fun k1 k2 => ?_⟩
      · rw [e1]; simp [ptsS, hne]
      · rw [e2, mGet_mPut']
        have ef : cntF (s :: r) x = cntF r x + (if s.1 = x then 1 else 0) := by
          unfold cntF; rw [countP_step]; simp [isNe, hne]
        rw [ef]
        split
        · rename_i hx; rw [hx]; omega
        · omega
      · rw [e3, mGet_mPut']
        have ef : cntT (s :: r) x = cntT r x + (if s.2 = x then 1 else 0) := by
          unfold cntT; rw [countP_step]; simp [isNe, hne]
        rw [ef]
        split
        · rename_i hx; rw [hx]; omega
        · omega
      · rw [zqbj]
        unfold zqb0
        simp only [Int.toNat_natCast, hg]
        refine (c_pos (by omega)).trans ?_
        refine (c_inb (by omega)).trans ?_
        refine (c_neg (by omega)).trans ?_
        refine (c_neg (by omega)).trans ?_
        refine (c_neg (by omega)).trans ?_
        refine (c_room (by simp; omega)).trans ?_
        rw [wr (x := mGet (.int .i64) op s.1 0 + 1) (by omega) (by omega), wr (x := mGet (.int .i64) sh s.2 0 + 1) (by omega) (by omega), ew]
        exact hf k1 k2
    · obtain ⟨at', op', sh', ⟨e1, e2, e3⟩, hf⟩ := ref_coll l hl r (j + 1) N at_ op sh hd' (by omega) hr' (by omega) (fun x => by have := ho x; omega) (fun x => by have := hs x; omega)
      refine ⟨at', op', sh', ⟨?_, fun x => ?_, fun x => ?_⟩, fun k1 k2 => ?_⟩
      · rw [e1]; simp [ptsS, hne]
      · rw [e2]
        have ef : cntF (s :: r) x = cntF r x := by
          unfold cntF; rw [countP_step]; simp [isNe, hne]
        rw [ef]
      · rw [e3]
        have ef : cntT (s :: r) x = cntT r x := by
          unfold cntT; rw [countP_step]; simp [isNe, hne]
        rw [ef]
      · rw [zqbj]
        unfold zqb0
        simp only [Int.toNat_natCast, hg]
        refine (c_pos (by omega)).trans ?_
        refine (c_inb (by omega)).trans ?_
        refine (c_pos (by omega)).trans ?_
        rw [ew]
        exact hf k1 k2

/-! ### The sweep -/
/-- What is known behind the border a. -/
def SweepI (S : List Sp) (a depth : Int) (out : List Sp) : Prop :=
  depth = depthS S a ∧
  (depth = 0 → NFa (-1) out ∧ (∀ x, x ≤ a → (hasS out x ↔ hasS S x)) ∧ ∀ s ∈ out, s.2 ≤ a) ∧
  (0 < depth → ∃ dn st, out = dn ++ [(st, 0)] ∧ 0 ≤ st ∧ st ≤ a ∧ NFa (-1) dn ∧ (∀ s ∈ dn, s.2 < st) ∧ (∀ x, x < st → (hasS dn x ↔ hasS S x)) ∧ ∀ x, st ≤ x → x ≤ a → hasS S x)

/-- What one border makes of the list. -/
def sweepO (before depth p : Int) (out : List Sp) : List Sp :=
  if before = 0 then (if 0 < depth then out ++ [(p, 0)] else out) else (if depth = 0 then out.dropLast ++ [((out.getLastD (0, 0)).1, p)] else out)

theorem hasS_ends {l : List Sp} {a x : Int} (h : ∀ s ∈ l, s.2 ≤ a) (hx : a ≤ x) : ¬ hasS l x := by
  rintro ⟨s, hs, _, h2⟩
  have := h s hs
  omega

theorem sweep_step {S : List Sp} {a p depth : Int} {out : List Sp} (h : SweepI S a depth out) (hap : a < p) (h0 : 0 ≤ p) (hn : ∀ y ∈ ptsS S, ¬ (a < y ∧ y < p)) :
    SweepI S p (depth + (cntF S p - cntT S p)) (sweepO depth (depth + (cntF S p - cntT S p)) p out) ∧ (0 < depth → out ≠ []) := by
  obtain ⟨d1, d2⟩ := depth_step S hap hn
  obtain ⟨i1, i2, i3⟩ := h
  have hdp : depth + (cntF S p - cntT S p) = depthS S p := by rw [i1, d1]
  rw [hdp]
  have hbet : ∀ x, a ≤ x → x < p → (hasS S x ↔ hasS S a) := fun x h1 h2 => by
    rw [← (depth_pos S x).2, ← (depth_pos S a).2, d2 x h1 h2]
  have hda := depth_pos S a
  have hdp' := depth_pos S p
  rw [← i1] at hda
  refine ⟨⟨rfl, ?_, ?_⟩, ?_⟩
  · intro hz
    unfold sweepO
    by_cases hb : depth = 0
    · rw [if_pos hb, if_neg (by omega)]
      obtain ⟨j1, j2, j3⟩ := i2 hb
      refine ⟨j1, fun x hx => ?_, fun s hs => by have := j3 s hs; omega⟩
      by_cases hxa : x ≤ a
      · exact j2 x hxa
      · have : ¬ hasS S x := by
          by_cases hxp : x < p
          · rw [hbet x (by omega) hxp, ← hda.2]; omega
          · have : x = p := by omega
            rw [this, ← hdp'.2]; omega
        exact ⟨fun q => absurd q (hasS_ends j3 (by omega)), fun q => absurd q this⟩
    · rw [if_neg hb, if_pos hz]
      obtain ⟨dn, st, rfl, s0, s1, j1, j2, j3, j4⟩ := i3 (by omega)
      have e1 : (dn ++ [(st, (0 : Int))]).dropLast = dn := by simp
      have e2 : ((dn ++ [(st, (0 : Int))]).getLastD (0, 0)).1 = st := by simp
      rw [e1, e2]
      have hm : NFa (-1) (dn ++ [(st, p)]) := by
        refine NFa.append (b := st - 1) j1 (fun x hx => ?_) ⟨by simp only; omega, by simp only; omega, trivial⟩ (by omega)
        obtain ⟨s, hs, _, h2⟩ := hx
        have := j2 s hs
        omega
      refine ⟨hm, fun x hx => ?_, fun s hs => ?_⟩
      · rw [hasS_append]
        have hone : hasS [(st, p)] x ↔ st ≤ x ∧ x < p := by
          rw [hasS_cons]
          exact ⟨fun q => q.resolve_right hasS_nil, .inl⟩
        rw [hone]
        by_cases hxs : x < st
        · rw [j3 x hxs]
          exact ⟨fun q => q.resolve_right (by omega), .inl⟩
        · have hno : ¬ hasS dn x := fun ⟨s, hs, _, h2⟩ => by have := j2 s hs; omega
          by_cases hxp : x < p
          · have : hasS S x := by
              by_cases hxa : x ≤ a
              · exact j4 x (by omega) hxa
              · rw [hbet x (by omega) hxp]
                exact j4 a (by omega) (Int.le_refl _)
            exact ⟨fun _ => this, fun _ => .inr ⟨by omega, hxp⟩⟩
          · have hxe : x = p := by omega
            have : ¬ hasS S x := by rw [hxe, ← hdp'.2]; omega
            refine ⟨?_, fun q => absurd q this⟩
            rintro (q | q)
            · exact absurd q hno
            · omega
      · rcases List.mem_append.1 hs with q | q
        · have := j2 s q; omega
        · simp only [List.mem_singleton] at q; rw [q]; exact Int.le_refl _
  · intro hpos
    unfold sweepO
    by_cases hb : depth = 0
    · rw [if_pos hb, if_pos hpos]
      obtain ⟨j1, j2, j3⟩ := i2 hb
      refine ⟨out, p, rfl, h0, Int.le_refl _, j1, fun s hs => by have := j3 s hs; omega, fun x hx => ?_, fun x h1 h2 => ?_⟩
      · by_cases hxa : x ≤ a
        · exact j2 x hxa
        · have : ¬ hasS S x := by rw [hbet x (by omega) hx, ← hda.2]; omega
          exact ⟨fun q => absurd q (hasS_ends j3 (by omega)), fun q => absurd q this⟩
      · have : x = p := by omega
        rw [this]
        exact hdp'.2.1 hpos
    · rw [if_neg hb, if_neg (by omega)]
      obtain ⟨dn, st, rfl, s0, s1, j1, j2, j3, j4⟩ := i3 (by omega)
      refine ⟨dn, st, rfl, s0, by omega, j1, j2, j3, fun x h1 h2 => ?_⟩
      by_cases hxa : x ≤ a
      · exact j4 x h1 hxa
      · by_cases hxp : x < p
        · rw [hbet x (by omega) hxp]
          exact j4 a (by omega) (Int.le_refl _)
        · have : x = p := by omega
          rw [this]
          exact hdp'.2.1 hpos
  · intro hpos
    obtain ⟨dn, st, rfl, _⟩ := i3 hpos
    simp

theorem sweepO_len (b d p : Int) (out : List Sp) : (sweepO b d p out).length ≤ out.length + 1 := by
  unfold sweepO
  split <;> split <;> simp <;> omega

theorem ref_sweep {S : List Sp} {at_ : List Int} {op sh : List (Int × Int)} (hS : S.length ≤ 4096) (hat : at_.length ≤ 10000) (hasc : Asc at_) (hp0 : ∀ y ∈ at_, 0 ≤ y) (hpts : ∀ y, y ∈ at_ ↔ y ∈ ptsS S)
    (ho : ∀ x, mGet (.int .i64) op x 0 = cntF S x) (hs : ∀ x, mGet (.int .i64) sh x 0 = cntT S x) : ∀ (r : List Int) (j N : Nat) (a depth : Int) (out : List Sp), at_.drop j = r → r.length < N → SweepI S a depth out → -1 ≤ a → (∀ y ∈ at_, y ≤ a ∨ y ∈ r) → (∀ y ∈ r, a < y) → out.length ≤ j →
    ∃ out', (NFa (-1) out' ∧ (∀ x, hasS out' x ↔ hasS S x)) ∧ ∀ {β : Type} (k1 : zqaw β), zqbs N k1 depth (j : Int) at_ op sh out = k1 out'
  | [], j, 0, _, _, _, _, h, _, _, _, _, _ => absurd h (Nat.not_lt_zero _)
  | _ :: _, j, 0, _, _, _, _, h, _, _, _, _, _ => absurd h (Nat.not_lt_zero _)
  | [], j, N + 1, a, depth, out, hd, h, hI, ha, hin, hgt, hol => by
    have hle : ∀ y ∈ ptsS S, y ≤ a := fun y hy => (hin y ((hpts y).2 hy)).resolve_right (by simp)
    have hno : ∀ x, a ≤ x → ¬ hasS S x := by
      rintro x hx ⟨s, hs1, h1, h2⟩
      have := hle s.2 (mem_pts.2 ⟨s, hs1, by omega, .inr rfl⟩)
      omega
    obtain ⟨i1, i2, i3⟩ := hI
    have hz : depth = 0 := by
      have h1 := depth_pos S a
      have h2 : ¬ 0 < depthS S a := fun q => hno a (Int.le_refl _) (h1.2.1 q)
      omega
    obtain ⟨j1, j2, j3⟩ := i2 hz
    refine ⟨out, ⟨j1, fun x => ?_⟩, fun k1 => ?_⟩
    · by_cases hx : x ≤ a
      · exact j2 x hx
      · exact ⟨fun q => absurd q (hasS_ends j3 (by omega)), fun q => absurd q (hno x (by omega))⟩
    · have : at_.length ≤ j := by simpa using hd
      rw [zqbt]
      unfold zqbc
      exact c_neg (by omega)
  | p :: r, j, N + 1, a, depth, out, hd, h, hI, ha, hin, hgt, hol => by
    obtain ⟨hj, hg, hd'⟩ := drop_cons hd (0 : Int)
    simp only [List.length_cons] at h
    have hmem : p ∈ at_ := List.mem_of_mem_drop (by rw [hd]; simp)
    have hpr : ∀ y ∈ r, p < y := by
      have := hasc.sublist (List.drop_sublist j at_)
      rw [hd] at this
      exact (List.pairwise_cons.1 this).1
    have hap : a < p := hgt p (by simp)
    have hbt : ∀ y ∈ ptsS S, ¬ (a < y ∧ y < p) := by
      rintro y hy ⟨h1, h2⟩
      rcases hin y ((hpts y).2 hy) with q | q
      · omega
      · rcases List.mem_cons.1 q with rfl | q
        · omega
        · have := hpr y q; omega
    obtain ⟨hI', hne⟩ := sweep_step hI hap (hp0 p hmem) hbt
    have c1 := cnt_bounds (fun s => isNe s && decide (s.1 = p)) S
    have c2 := cnt_bounds (fun s => isNe s && decide (s.2 = p)) S
    have c1 : 0 ≤ cntF S p ∧ cntF S p ≤ S.length := c1
    have c2 : 0 ≤ cntT S p ∧ cntT S p ≤ S.length := c2
    have hdep : 0 ≤ depth ∧ depth ≤ S.length := by
      rw [hI.1]
      have := depth_pos S a
      have c3 := cnt_bounds (fun s => isNe s && decide (s.1 ≤ a)) S
      have c4 := cnt_bounds (fun s => isNe s && decide (s.2 ≤ a)) S
      have e : depthS S a = ((S.countP fun s => isNe s && decide (s.1 ≤ a) : Nat) : Int) - (S.countP fun s => isNe s && decide (s.2 ≤ a) : Nat) := rfl
      omega
    have hdep' : 0 ≤ depth + (cntF S p - cntT S p) := by rw [hI'.1]; exact (depth_pos S p).1
    obtain ⟨out', hq, hf⟩ := ref_sweep hS hat hasc hp0 hpts ho hs r (j + 1) N p _ _ hd' (by omega) hI' (by omega) (fun y hy => by
      rcases hin y hy with q | q
      · exact .inl (by omega)
      · rcases List.mem_cons.1 q with rfl | q
        · exact .inl (Int.le_refl _)
        · exact .inr q) hpr (by have := sweepO_len depth (depth + (cntF S p - cntT S p)) p out; omega)
    refine ⟨out', hq, fun k1 => ?_⟩
    rw [zqbt]
    unfold zqbc
    simp only [Int.toNat_natCast, hg]
    refine (c_pos (by omega)).trans ?_
    refine (c_inb (by omega)).trans ?_
    refine (c_inb (by omega)).trans ?_
    rw [ho p, hs p, wr (x := cntF S p - cntT S p) (by omega) (by omega), wr (x := depth + (cntF S p - cntT S p)) (by omega) (by omega)]
    have ew : IntKind.i64.wrap ((j : Int) + 1) = ((j + 1 : Nat) : Int) := by rw [wr (by omega) (by omega)]; omega
    have hfin : ∀ out2, out2 = sweepO depth (depth + (cntF S p - cntT S p)) p out → zqbs N k1 (depth + (cntF S p - cntT S p)) (IntKind.i64.wrap ((j : Int) + 1)) at_ op sh out2 = k1 out' := by
      intro out2 e
      rw [ew, e]
      exact hf k1
    have p4f : ∀ {β : Type} (k1 : zqas β) (d b : Int), zqbq k1 d (j : Int) b false at_ op sh out = k1 d (j : Int) b at_ op sh out := fun _ _ _ => rfl
    have p4t : ∀ {β : Type} (k1 : zqas β) (d b : Int), zqbq k1 d (j : Int) b true at_ op sh out = k1 d (j : Int) b at_ op sh (out ++ [(p, 0)]) := by
      intro β k1 d b
      show zqb9 k1 d (j : Int) b true at_ op sh out = _
      unfold zqb9
      refine c_t.trans ?_
      refine (c_inb (by omega)).trans ?_
      simp only [Int.toNat_natCast, hg]
      exact c_room (by simp; omega)
    have p2f : ∀ {β : Type} (k1 : zqak β) (d : Int) (o : List Sp), zqbm k1 d (j : Int) false at_ op sh o = k1 d (j : Int) at_ op sh o := fun _ _ _ => rfl
    have p2t : ∀ {β : Type} (k1 : zqak β) (d : Int), out ≠ [] → zqbm k1 d (j : Int) true at_ op sh out = k1 d (j : Int) at_ op sh (out.dropLast ++ [((out.getLastD (0, 0)).1, p)]) := by
      intro β k1 d hno
      show zqb3 k1 d (j : Int) true at_ op sh out = _
      unfold zqb3
      refine c_t.trans ?_
      refine (c_inb (by omega)).trans ?_
      simp only [Int.toNat_natCast, hg]
      rcases List.eq_nil_or_concat out with e | ⟨L, y, e⟩
      · exact absurd e hno
      · rw [List.concat_eq_append] at e
        have hlen : out.length = L.length + 1 := by rw [e]; simp
        have e1 : IntKind.i64.wrap ((out.length : Int) - 1) = (L.length : Int) := by
          rw [wr (by omega) (by omega)]; omega
        rw [e1]
        refine (c_inb (by omega)).trans ?_
        simp only [Int.toNat_natCast]
        rw [e]
        simp [List.getD]
    have p3z : ∀ {β : Type} (k1 : zqao β) (d : Int) (o : List Sp), zqbo k1 d (j : Int) 0 at_ op sh o = k1 d (j : Int) at_ op sh o := by
      intro β k1 d o
      show zqb6 zqbm k1 d (j : Int) 0 at_ op sh o = _
      unfold zqb6
      exact c_neg (by omega)
    by_cases hb : depth = 0
    · refine (c_pos hb).trans ?_
      by_cases hd2 : 0 < depth + (cntF S p - cntT S p)
      · rw [decide_eq_true hd2]
        refine (p4t _ _ _).trans ?_
        rw [hb] at hd2 ⊢
        refine (p3z _ _ _).trans ?_
        rw [hb] at hfin
        exact hfin _ (by unfold sweepO; rw [if_pos rfl, if_pos hd2])
      · rw [decide_eq_false hd2]
        refine (p4f _ _ _).trans ?_
        rw [hb] at hd2 ⊢
        refine (p3z _ _ _).trans ?_
        rw [hb] at hfin
        exact hfin _ (by unfold sweepO; rw [if_pos rfl, if_neg hd2])
    · refine (c_neg hb).trans ?_
      refine (p4f _ _ _).trans ?_
      show zqb6 zqbm _ _ (j : Int) depth at_ op sh out = _
      unfold zqb6
      refine (c_pos (by omega)).trans ?_
      by_cases hd2 : depth + (cntF S p - cntT S p) = 0
      · rw [decide_eq_true hd2]
        refine (p2t _ _ (hne (by omega))).trans ?_
        exact hfin _ (by unfold sweepO; rw [if_neg hb, if_pos hd2])
      · rw [decide_eq_false hd2]
        refine (p2f _ _ _).trans ?_
        exact hfin _ (by unfold sweepO; rw [if_neg hb, if_neg hd2])

/-- The reference's normal form. -/
theorem ref_normal {l : List Sp} (hl : l.length ≤ 4096) (hr : ∀ s ∈ l, rangeS s) :
    ∃ out, (NFa (-1) out ∧ (∀ x, hasS out x ↔ hasS l x)) ∧ ∀ {β : Type} (k : Int → List Sp → Option β), zqbw l k = k 0 out := by
  have hz : ∀ x : Int, mGet (.int .i64) ([] : List (Int × Int)) x 0 = 0 := fun _ => rfl
  obtain ⟨at_, op, sh, ⟨e1, e2, e3⟩, hf⟩ := ref_coll l hl l 0 fuel [] [] [] rfl (lt_fuel (by omega)) hr (by simp; omega) (fun x => by rw [hz]; omega) (fun x => by rw [hz]; omega)
  simp only [List.nil_append] at e1
  have hlen : ∀ m : List Sp, (ptsS m).length ≤ 2 * m.length := by
    intro m
    induction m with
    | nil => simp [ptsS]
    | cons s m ih =>
      have : ptsS (s :: m) = (if s.1 < s.2 then [s.1, s.2] else []) ++ ptsS m := rfl
      rw [this, List.length_append, List.length_cons]
      split <;> simp <;> omega
  have hat : at_.length ≤ 8192 := by rw [e1]; have := hlen l; omega
  obtain ⟨p, ⟨p1, p2, p3⟩, hs⟩ := srt (l := at_) (by omega)
  have hp2 : ∀ y, y ∈ p ↔ y ∈ ptsS l := fun y => by rw [p2, e1]
  have h0 : ∀ y ∈ ptsS l, 0 ≤ y := by
    intro y hy
    obtain ⟨s, hs, hlt, h⟩ := mem_pts.1 hy
    have := hr s hs hlt
    omega
  have hdz : depthS l (-1) = 0 := by
    have h1 := depth_pos l (-1)
    have h2 : ¬ hasS l (-1) := by
      rintro ⟨s, hs, h3, h4⟩
      have := hr s hs (by omega)
      omega
    have h3 : ¬ 0 < depthS l (-1) := fun q => h2 (h1.2.1 q)
    omega
  have hst : SweepI l (-1) 0 [] := by
    refine ⟨hdz.symm, fun _ => ⟨trivial, fun x hx => ⟨fun q => absurd q hasS_nil, ?_⟩, by simp⟩, fun h => absurd h (by omega)⟩
    rintro ⟨s, hs, h3, h4⟩
    have := hr s hs (by omega)
    omega
  obtain ⟨out, hq, hg⟩ := ref_sweep (S := l) (at_ := p) (op := op) (sh := sh) hl (by omega) p1 (fun y hy => h0 y ((hp2 y).1 hy)) hp2 (fun x => by rw [e2, hz]; omega) (fun x => by rw [e3, hz]; omega) p 0 fuel (-1) 0 [] rfl (lt_fuel (by omega))
    hst (Int.le_refl _) (fun y hy => .inr hy) (fun y hy => by have := h0 y ((hp2 y).1 hy); omega) (by simp)
  refine ⟨out, hq, fun k => ?_⟩
  show zqbf zq89 zqbk zqbu l k = _
  unfold zqbf
  refine (c_neg (by omega)).trans ?_
  refine (hf _ _).trans ?_
  refine (hs _).trans ?_
  exact hg _
end
end Go.Lift

/- The functions of package span in plain Lean. -/
namespace Go.Lift
open Go.RowKit Go.IntWalk
noncomputable section
set_option linter.unusedVariables false
set_option linter.unusedSimpArgs false
set_option maxRecDepth 10000

/-! ### Valid -/
def vB : Int → List Sp → Bool
  | _, [] => true
  | p, s :: l => decide (p < s.1) && (decide (s.1 < s.2) && (decide (s.2 ≤ 8589934592) && vB s.2 l))
theorem vB_iff : ∀ {l : List Sp} {p : Int}, vB p l = true ↔ NFa p l ∧ ∀ s ∈ l, s.2 ≤ 8589934592
  | [], p => by simp [vB, NFa]
  | s :: l, p => by
    simp only [vB, Bool.and_eq_true, decide_eq_true_eq, NFa, List.mem_cons, forall_eq_or_imp, vB_iff (l := l) (p := s.2)]
    constructor
    · rintro ⟨h1, h2, h3, h4, h5⟩
      exact ⟨⟨h1, h2, h4⟩, h3, h5⟩
    · rintro ⟨⟨h1, h2, h4⟩, h3, h5⟩
      exact ⟨h1, h2, h3, h4, h5⟩
def validB (l : List Sp) : Bool := decide (l.length ≤ 4096) && vB (-1) l
structure VS (l : List Sp) : Prop where
  len : l.length ≤ 4096
  nf : NFa (-1) l
  le : ∀ s ∈ l, s.2 ≤ 8589934592
theorem validB_iff {l : List Sp} : validB l = true ↔ VS l := by
  unfold validB
  rw [Bool.and_eq_true, decide_eq_true_eq, vB_iff]
  exact ⟨fun h => ⟨h.1, h.2.1, h.2.2⟩, fun h => ⟨h.len, h.nf, h.le⟩⟩

section
variable {β : Type}

theorem valid_loop (l : List Sp) (hl : l.length ≤ 4096) (k1 : zqz β) (k2 : zq10 β) : ∀ (r : List Sp) (j N : Nat) (p : Int), l.drop j = r → r.length < N → -1 ≤ p → (j = 0 → p = -1) → (0 < j → p = (l.getD (j - 1) ((0 : Int), (0 : Int))).2) →
    zq1a N k1 k2 l l (l.length : Int) (j : Int) = cond (vB p r) (k2 ()) (k1 false)
  | [], j, 0, _, _, h, _, _, _ => absurd h (Nat.not_lt_zero _)
  | _ :: _, j, 0, _, _, h, _, _, _ => absurd h (Nat.not_lt_zero _)
  | [], j, N + 1, p, hd, h, _, _, _ => by
    have : l.length ≤ j := by simpa using hd
    rw [zq1b]
    unfold zq14
    exact c_neg (by omega)
  | s :: r, j, N + 1, p, hd, h, hp, hp0, hp1 => by
    obtain ⟨hj, hg, hd'⟩ := drop_cons hd ((0 : Int), (0 : Int))
    simp only [List.length_cons] at h
    have ew : IntKind.i64.wrap ((j : Int) + 1) = ((j + 1 : Nat) : Int) := by rw [wr (by omega) (by omega)]; omega
    rw [zq1b]
    unfold zq14
    simp only [Int.toNat_natCast, hg]
    refine (c_pos (by omega)).trans ?_
    refine (c_inb (by omega)).trans ?_
    unfold vB
    by_cases h1 : s.1 < 0
    · refine (c_pos h1).trans ?_
      rw [decide_eq_false (show ¬ p < s.1 by omega), Bool.false_and]
      rfl
    refine (c_neg h1).trans ?_
    by_cases h2 : s.2 ≤ s.1
    · refine (c_pos h2).trans ?_
      rw [decide_eq_false (show ¬ s.1 < s.2 by omega), Bool.false_and, Bool.and_false]
      rfl
    refine (c_neg h2).trans ?_
    by_cases h3 : 8589934592 < s.2
    · refine (c_pos h3).trans ?_
      rw [decide_eq_false (show ¬ s.2 ≤ 8589934592 by omega), Bool.false_and, Bool.and_false, Bool.and_false]
      rfl
    refine (c_neg h3).trans ?_
    rw [decide_eq_true (show s.1 < s.2 by omega), decide_eq_true (show s.2 ≤ 8589934592 by omega), Bool.true_and, Bool.true_and]
    have ih := valid_loop l hl k1 k2 r (j + 1) N s.2 hd' (by omega) (by omega) (by omega) (fun _ => by rw [Nat.add_sub_cancel, hg])
    by_cases hj0 : j = 0
    · have := hp0 hj0
      refine (c_neg (by omega)).trans ?_
      rw [decide_eq_true (show p < s.1 by omega), Bool.true_and, ew]
      exact ih
    · refine (c_pos (by omega)).trans ?_
      have e2 : IntKind.i64.wrap ((j : Int) - 1) = ((j - 1 : Nat) : Int) := by rw [wr (by omega) (by omega)]; omega
      rw [e2]
      refine (c_inb (by omega)).trans ?_
      simp only [Int.toNat_natCast]
      have hp2 := hp1 (by omega)
      by_cases h4 : s.1 ≤ p
      · refine (c_pos (by rw [← hp2]; exact h4)).trans ?_
        rw [decide_eq_false (show ¬ p < s.1 by omega), Bool.false_and]
        rfl
      · refine (c_neg (by rw [← hp2]; exact h4)).trans ?_
        rw [decide_eq_true (show p < s.1 by omega), Bool.true_and, ew]
        exact ih

theorem valid_eq (l : List Sp) (k : Bool → Option β) : zq1e l k = k (validB l) := by
  show zq17 zq1c l k = _
  unfold zq17 validB
  by_cases h : l.length ≤ 4096
  · refine (c_neg (by omega)).trans ?_
    rw [decide_eq_true h, Bool.true_and]
    refine (valid_loop l h _ _ l 0 fuel (-1) rfl (lt_fuel (by omega)) (by omega) (fun _ => rfl) (fun h => by omega)).trans ?_
    cases vB (-1) l <;> rfl
  · refine (c_pos (by omega)).trans ?_
    rw [decide_eq_false h, Bool.false_and]

/-! ### Length -/
theorem lengthS_cons (s : Sp) (l : List Sp) : lengthS (s :: l) = (s.2 - s.1) + lengthS l := by simp [lengthS]
theorem length_loop (k1 : zq1i β) (l : List Sp) (hl : l.length ≤ 4096) : ∀ (r : List Sp) (j N : Nat) (n c : Int), l.drop j = r → r.length < N → 0 ≤ n → NFa c r → -1 ≤ c → (∀ s ∈ r, s.2 ≤ 8589934592) → n ≤ 1 + c →
    zq1s N k1 n l (l.length : Int) (j : Int) = k1 (n + lengthS r)
  | [], j, 0, _, _, _, h, _, _, _, _, _ => absurd h (Nat.not_lt_zero _)
  | _ :: _, j, 0, _, _, _, h, _, _, _, _, _ => absurd h (Nat.not_lt_zero _)
  | [], j, N + 1, n, c, hd, h, _, _, _, _, _ => by
    have : l.length ≤ j := by simpa using hd
    rw [zq1t]
    unfold zq1m
    refine (c_neg (by omega)).trans ?_
    simp [lengthS]
  | s :: r, j, N + 1, n, c, hd, h, hn0, ⟨q1, q2, q3⟩, hc, hm, hn => by
    obtain ⟨hj, hg, hd'⟩ := drop_cons hd ((0 : Int), (0 : Int))
    simp only [List.length_cons] at h
    have ew : IntKind.i64.wrap ((j : Int) + 1) = ((j + 1 : Nat) : Int) := by rw [wr (by omega) (by omega)]; omega
    have hs := hm s (by simp)
    rw [zq1t]
    unfold zq1m
    simp only [Int.toNat_natCast, hg]
    refine (c_pos (by omega)).trans ?_
    refine (c_inb (by omega)).trans ?_
    rw [wr (x := s.2 - s.1) (by omega) (by omega), wr (x := n + (s.2 - s.1)) (by omega) (by omega), ew]
    refine (length_loop k1 l hl r (j + 1) N (n + (s.2 - s.1)) s.2 hd' (by omega) (by omega) q3 (by omega) (fun t ht => hm t (by simp [ht])) (by omega)).trans ?_
    rw [lengthS_cons]
    congr 1
    omega

theorem VS.range {l : List Sp} (h : VS l) : ∀ s ∈ l, 0 ≤ s.1 ∧ s.1 < s.2 ∧ s.2 ≤ 8589934592 := fun s hs => by
  have := h.nf.mem s hs
  have := h.le s hs
  omega

theorem length_eq (l : List Sp) (k : Int → Option β) : zq1w l k = k (if validB l then lengthS l else 0) := by
  show zq1p zq1e zq1u l k = _
  unfold zq1p
  refine (valid_eq l _).trans ?_
  cases hv : validB l with
  | false => rfl
  | true =>
    have h := validB_iff.1 hv
    have hlen := h.len
    have e := length_loop (fun n => k n) l h.len l 0 fuel 0 (-1) rfl (lt_fuel (by omega)) (by omega) h.nf (by omega) h.le (by omega)
    rw [Int.natCast_zero, Int.zero_add] at e
    rw [if_pos rfl]
    refine c_f.trans ?_
    exact e

/-! ### First, Gap, Has -/
theorem first_loop (x : Int) (k1 : zq96 β) (k2 : zq97 β) (l : List Sp) (hl : l.length ≤ 4096) : ∀ (r : List Sp) (j N : Nat), l.drop j = r → r.length < N →
    zq9h N k1 k2 x l (l.length : Int) (j : Int) = (match firstS x r with | some n => k1 n true | none => k2 ())
  | [], j, 0, _, h => absurd h (Nat.not_lt_zero _)
  | _ :: _, j, 0, _, h => absurd h (Nat.not_lt_zero _)
  | [], j, N + 1, hd, h => by
    have : l.length ≤ j := by simpa using hd
    rw [zq9i]
    unfold zq9b
    exact c_neg (by omega)
  | s :: r, j, N + 1, hd, h => by
    obtain ⟨hj, hg, hd'⟩ := drop_cons hd ((0 : Int), (0 : Int))
    simp only [List.length_cons] at h
    have ew : IntKind.i64.wrap ((j : Int) + 1) = ((j + 1 : Nat) : Int) := by rw [wr (by omega) (by omega)]; omega
    rw [zq9i]
    unfold zq9b
    simp only [Int.toNat_natCast, hg]
    refine (c_pos (by omega)).trans ?_
    refine (c_inb (by omega)).trans ?_
    unfold firstS
    by_cases hx : x < s.2
    · refine (c_pos hx).trans ?_
      rw [if_pos hx]
      have : (if s.1 > x then s.1 else x) = max x s.1 := by split <;> omega
      rw [this]
    · refine (c_neg hx).trans ?_
      rw [if_neg hx, ew]
      exact first_loop x k1 k2 l hl r (j + 1) N hd' (by omega)

theorem first_eq (l : List Sp) (x : Int) (k : Int → Bool → Option β) : zq9l l x k = if validB l then (match firstS x l with | some n => k n true | none => k 0 false) else k 0 false := by
  show zq9e zq1e zq9j l x k = _
  unfold zq9e
  refine (valid_eq l _).trans ?_
  cases hv : validB l with
  | false => rfl
  | true =>
    have hlen := (validB_iff.1 hv).len
    have e := first_loop x (fun n b => k n b) (fun _ => k 0 false) l hlen l 0 fuel rfl (lt_fuel (by omega))
    rw [Int.natCast_zero] at e
    rw [if_pos rfl]
    refine c_f.trans ?_
    exact e

theorem gap_loop (x : Int) (k1 : zq9p β) (k2 : zq9q β) (l : List Sp) (hl : l.length ≤ 4096) (hk : ∀ y, k1 y = k2 y) : ∀ (r : List Sp) (j N : Nat), l.drop j = r → r.length < N →
    zqa0 N k1 k2 x l (l.length : Int) (j : Int) = k1 (gapS x r)
  | [], j, 0, _, h => absurd h (Nat.not_lt_zero _)
  | _ :: _, j, 0, _, h => absurd h (Nat.not_lt_zero _)
  | [], j, N + 1, hd, h => by
    have : l.length ≤ j := by simpa using hd
    rw [zqa1]
    unfold zq9u
    exact (c_neg (by omega)).trans (hk x).symm
  | s :: r, j, N + 1, hd, h => by
    obtain ⟨hj, hg, hd'⟩ := drop_cons hd ((0 : Int), (0 : Int))
    simp only [List.length_cons] at h
    have ew : IntKind.i64.wrap ((j : Int) + 1) = ((j + 1 : Nat) : Int) := by rw [wr (by omega) (by omega)]; omega
    rw [zqa1]
    unfold zq9u
    simp only [Int.toNat_natCast, hg]
    refine (c_pos (by omega)).trans ?_
    refine (c_inb (by omega)).trans ?_
    unfold gapS
    rw [ew]
    have ih := gap_loop x k1 k2 l hl hk r (j + 1) N hd' (by omega)
    by_cases h1 : s.1 ≤ x
    · refine (c_pos h1).trans ?_
      by_cases h2 : x < s.2
      · refine (c_pos h2).trans ?_
        rw [if_pos ⟨h1, h2⟩]
      · refine (c_neg h2).trans ?_
        rw [if_neg (fun q => h2 q.2)]
        exact ih
    · refine (c_neg h1).trans ?_
      rw [if_neg (fun q => h1 q.1)]
      exact ih

theorem gap_eq (l : List Sp) (x : Int) (k : Int → Option β) : zqa4 l x k = k (if validB l then gapS x l else x) := by
  show zq9x zq1e zqa2 l x k = _
  unfold zq9x
  refine (valid_eq l _).trans ?_
  cases hv : validB l with
  | false => rfl
  | true =>
    have hlen := (validB_iff.1 hv).len
    have e := gap_loop x (fun y => k y) (fun y => k y) l hlen (fun _ => rfl) l 0 fuel rfl (lt_fuel (by omega))
    rw [Int.natCast_zero] at e
    rw [if_pos rfl]
    refine c_f.trans ?_
    exact e

theorem hasf_eq (s : Sp) (x : Int) (k : Bool → Int → Option β) : zq52 s x k = k (decide (s.1 ≤ x) && decide (x < s.2)) x := by
  show zq4z s x k = _
  unfold zq4z
  by_cases h : s.1 ≤ x
  · refine (c_pos h).trans ?_
    rw [decide_eq_true h, Bool.true_and]
  · refine (c_neg h).trans ?_
    rw [decide_eq_false h, Bool.false_and]

theorem hasi_loop (x : Int) (k1 : zqgo β) (k2 : zqgp β) (l : List Sp) (hl : l.length ≤ 4096) (q : Option β) (hk : ∀ i, 0 ≤ i → k1 i x = q) : ∀ (r : List Sp) (j N : Nat), l.drop j = r → r.length < N →
    zqgz N k1 k2 l (l.length : Int) (j : Int) x = if hasB r x then q else k2 x
  | [], j, 0, _, h => absurd h (Nat.not_lt_zero _)
  | _ :: _, j, 0, _, h => absurd h (Nat.not_lt_zero _)
  | [], j, N + 1, hd, h => by
    have : l.length ≤ j := by simpa using hd
    rw [zqh0]
    unfold zqgt
    exact c_neg (by omega)
  | s :: r, j, N + 1, hd, h => by
    obtain ⟨hj, hg, hd'⟩ := drop_cons hd ((0 : Int), (0 : Int))
    simp only [List.length_cons] at h
    have ew : IntKind.i64.wrap ((j : Int) + 1) = ((j + 1 : Nat) : Int) := by rw [wr (by omega) (by omega)]; omega
    rw [zqh0]
    unfold zqgt
    simp only [Int.toNat_natCast, hg]
    refine (c_pos (by omega)).trans ?_
    refine (c_inb (by omega)).trans ?_
    refine (hasf_eq _ _ _).trans ?_
    have e : hasB (s :: r) x = ((decide (s.1 ≤ x) && decide (x < s.2)) || hasB r x) := by simp [hasB]
    rw [e, ew]
    cases hb : (decide (s.1 ≤ x) && decide (x < s.2)) with
    | true => exact hk _ (by omega)
    | false => exact hasi_loop x k1 k2 l hl q hk r (j + 1) N hd' (by omega)

theorem has_eq (l : List Sp) (x : Int) (k : Bool → Option β) : zqim l x k = k (validB l && hasB l x) := by
  show zqij zqht zq1e l x k = _
  unfold zqij
  refine (valid_eq l _).trans ?_
  cases hv : validB l with
  | false => rfl
  | true =>
    have hlen := (validB_iff.1 hv).len
    refine c_t.trans ?_
    show zqhq zqh3 l x _ = _
    unfold zqhq
    show zqgw zqh1 l x _ = _
    unfold zqgw
    refine (hasi_loop x _ _ l hlen (k true) (fun i hi => by show k (decide (0 ≤ i)) = k true; rw [decide_eq_true hi]) l 0 fuel rfl (lt_fuel (by omega))).trans ?_
    cases hasB l x <;> rfl
end

/-! ### Common -/
theorem common_loop {a b : List Sp} (ha : a.length ≤ 100000) (hb : b.length ≤ 100000) {β : Type} (k1 : zq5a β) : ∀ (n i j N : Nat) (out : List Sp), (a.length - i) + (b.length - j) ≤ n → n < N → out.length ≤ i + j → i ≤ a.length → j ≤ b.length →
    zq5p N k1 a b (i : Int) (j : Int) out = k1 (out ++ commonS n (a.drop i) (b.drop j))
  | n, i, j, 0, _, _, h, _, _, _ => absurd h (Nat.not_lt_zero _)
  | 0, i, j, N + 1, out, hn, h, ho, hi, hj => by
    rw [zq5q]
    unfold zq5h
    refine (c_neg (by omega)).trans ?_
    simp [commonS]
  | n + 1, i, j, N + 1, out, hn, h, ho, hi, hj => by
    rw [zq5q]
    unfold zq5h
    by_cases hia : i < a.length
    · refine (c_pos (by omega)).trans ?_
      by_cases hjb : j < b.length
      · refine (c_pos (by omega)).trans ?_
        have ea : a.drop i = a[i] :: a.drop (i + 1) := List.drop_eq_getElem_cons hia
        have eb : b.drop j = b[j] :: b.drop (j + 1) := List.drop_eq_getElem_cons hjb
        have ga : a.getD i ((0 : Int), (0 : Int)) = a[i] := by simp [List.getD, hia]
        have gb : b.getD j ((0 : Int), (0 : Int)) = b[j] := by simp [List.getD, hjb]
        simp only [Int.toNat_natCast, ga, gb]
        rw [ea, eb]
        generalize a[i] = x at *
        generalize b[j] = y at *
        have e1 : (if y.1 > x.1 then y.1 else x.1) = max x.1 y.1 := by split <;> omega
        have e2 : (if y.2 < x.2 then y.2 else x.2) = min x.2 y.2 := by split <;> omega
        rw [e1, e2]
        have ewi : IntKind.i64.wrap ((i : Int) + 1) = ((i + 1 : Nat) : Int) := by rw [wr (by omega) (by omega)]; omega
        have ewj : IntKind.i64.wrap ((j : Int) + 1) = ((j + 1 : Nat) : Int) := by rw [wr (by omega) (by omega)]; omega
        have hp1 : ∀ (out2 : List Sp), out2.length ≤ i + j + 1 → zq5n (fun a2 b2 i2 j2 out2 => zq5p N k1 a2 b2 i2 j2 out2) a b (i : Int) (j : Int) out2 =
            k1 (out2 ++ (if x.2 < y.2 then commonS n (a.drop (i + 1)) (y :: b.drop (j + 1)) else commonS n (x :: a.drop (i + 1)) (b.drop (j + 1)))) := by
          intro out2 hlen
          show zq5e _ a b (i : Int) (j : Int) out2 = _
          unfold zq5e
          simp only [Int.toNat_natCast, ga, gb]
          refine (c_inb (by omega)).trans ?_
          refine (c_inb (by omega)).trans ?_
          rw [ewi, ewj]
          by_cases hc : x.2 < y.2
          · refine (c_pos hc).trans ?_
            rw [if_pos hc, ← eb]
            exact common_loop ha hb k1 n (i + 1) j N out2 (by omega) (by omega) (by omega) (by omega) (by omega)
          · refine (c_neg hc).trans ?_
            rw [if_neg hc, ← ea]
            exact common_loop ha hb k1 n i (j + 1) N out2 (by omega) (by omega) (by omega) (by omega) (by omega)
        have ec : commonS (n + 1) (x :: a.drop (i + 1)) (y :: b.drop (j + 1)) = (if max x.1 y.1 < min x.2 y.2 then [(max x.1 y.1, min x.2 y.2)] else []) ++ (if x.2 < y.2 then commonS n (a.drop (i + 1)) (y :: b.drop (j + 1)) else commonS n (x :: a.drop (i + 1)) (b.drop (j + 1))) := rfl
        rw [ec]
        refine (c_inb (by omega)).trans ?_
        refine (c_inb (by omega)).trans ?_
        refine (c_inb (by omega)).trans ?_
        refine (c_inb (by omega)).trans ?_
        by_cases hc : max x.1 y.1 < min x.2 y.2
        · refine (c_pos hc).trans ?_
          refine (c_room (by simp; omega)).trans ?_
          rw [if_pos hc, ← List.append_assoc]
          exact hp1 _ (by simp; omega)
        · refine (c_neg hc).trans ?_
          rw [if_neg hc, List.nil_append]
          exact hp1 _ (by omega)
      · refine (c_neg (by omega)).trans ?_
        rw [List.drop_eq_nil_of_le (show b.length ≤ j by omega)]
        have : commonS (n + 1) (a.drop i) [] = [] := by
          cases a.drop i <;> rfl
        rw [this, List.append_nil]
    · refine (c_neg (by omega)).trans ?_
      rw [List.drop_eq_nil_of_le (show a.length ≤ i by omega)]
      have : commonS (n + 1) [] (b.drop j) = [] := rfl
      rw [this, List.append_nil]

theorem common_eq {a b : List Sp} (ha : a.length ≤ 100000) (hb : b.length ≤ 100000) {β : Type} (k : List Sp → Option β) : zq5t a b k = k (commonS (a.length + b.length) a b) := by
  show zq5k zq5r a b k = _
  unfold zq5k
  refine (common_loop ha hb _ (a.length + b.length) 0 0 fuel [] (by omega) (lt_fuel (by omega)) (by simp) (by omega) (by omega)).trans ?_
  simp

/-! ### Without -/
theorem cutS_skip {e at_ : Int} (h : at_ < e) : ∀ {p m : List Sp}, (∀ t ∈ p, t.1 < t.2 ∧ t.2 ≤ at_) → cutS e at_ (p ++ m) = cutS e at_ m
  | [], _, _ => rfl
  | t :: p, m, hp => by
    have ht := hp t (by simp)
    have e1 : cutS e at_ ((t :: p) ++ m) = if t.1 < e then restS t.1 at_ ++ cutS e (max at_ t.2) (p ++ m) else restS e at_ := rfl
    rw [e1, if_pos (by omega)]
    have e2 : restS t.1 at_ = [] := by unfold restS; rw [if_neg (by omega)]
    have e3 : max at_ t.2 = at_ := by omega
    rw [e2, e3, List.nil_append]
    exact cutS_skip h fun q hq => hp q (by simp [hq])

section
variable {β : Type}
theorem without_p1 {b : List Sp} (hb : b.length ≤ 10000) (k1 : zq5x β) (t11 : List Sp) (t12 t13 : Int) (out : List Sp) (s s2 : Int) : ∀ (r : List Sp) (j N : Nat), b.drop j = r → r.length < N →
    ∃ j', j ≤ j' ∧ j' ≤ max j b.length ∧ (∀ t ∈ (b.drop j).take (j' - j), t.2 ≤ s) ∧ zq6l N k1 b (j : Int) t11 t12 t13 out s s2 = k1 b (j' : Int) t11 t12 t13 out s s2
  | [], j, 0, _, h => absurd h (Nat.not_lt_zero _)
  | _ :: _, j, 0, _, h => absurd h (Nat.not_lt_zero _)
  | [], j, N + 1, hd, h => by
    have : b.length ≤ j := by simpa using hd
    refine ⟨j, Nat.le_refl _, by omega, by simp, ?_⟩
    rw [zq6m]
    unfold zq69
    exact c_neg (by omega)
  | t :: r, j, N + 1, hd, h => by
    obtain ⟨hj, hg, hd'⟩ := drop_cons hd ((0 : Int), (0 : Int))
    simp only [List.length_cons] at h
    have ew : IntKind.i64.wrap ((j : Int) + 1) = ((j + 1 : Nat) : Int) := by rw [wr (by omega) (by omega)]; omega
    by_cases hc : t.2 ≤ s
    · obtain ⟨j', h1, h2, h3, h4⟩ := without_p1 hb k1 t11 t12 t13 out s s2 r (j + 1) N hd' (by omega)
      refine ⟨j', by omega, by omega, ?_, ?_⟩
      · intro u hu
        rw [hd] at hu
        have e : j' - j = (j' - (j + 1)) + 1 := by omega
        rw [e, List.take_succ_cons] at hu
        rcases List.mem_cons.1 hu with rfl | hu
        · exact hc
        · exact h3 u (by rw [hd']; exact hu)
      · rw [zq6m]
        unfold zq69
        simp only [Int.toNat_natCast, hg]
        refine (c_pos (by omega)).trans ?_
        refine (c_inb (by omega)).trans ?_
        refine (c_pos hc).trans ?_
        rw [ew]
        exact h4
    · refine ⟨j, Nat.le_refl _, by omega, by simp, ?_⟩
      rw [zq6m]
      unfold zq69
      simp only [Int.toNat_natCast, hg]
      refine (c_pos (by omega)).trans ?_
      refine (c_inb (by omega)).trans ?_
      exact c_neg hc

theorem without_p2 {b : List Sp} (hb : b.length ≤ 10000) (k1 : zq61 β) (k_ : Int) (t11 : List Sp) (t12 t13 : Int) (s s2 : Int) : ∀ (r : List Sp) (i N : Nat) (at_ : Int) (out : List Sp), b.drop i = r → r.length < N → out.length + r.length ≤ 1000000000 →
    ∃ at' pre, pre ++ restS s2 at' = cutS s2 at_ r ∧ pre.length ≤ r.length ∧ zq6p N k1 b k_ at_ (i : Int) t11 t12 t13 out s s2 = k1 b k_ at' t11 t12 t13 (out ++ pre) s s2
  | [], j, 0, _, _, _, h, _ => absurd h (Nat.not_lt_zero _)
  | _ :: _, j, 0, _, _, _, h, _ => absurd h (Nat.not_lt_zero _)
  | [], i, N + 1, at_, out, hd, h, ho => by
    have : b.length ≤ i := by simpa using hd
    refine ⟨at_, [], rfl, by simp, ?_⟩
    rw [zq6q]
    unfold zq6c
    rw [List.append_nil]
    exact c_neg (by omega)
  | t :: r, i, N + 1, at_, out, hd, h, ho => by
    obtain ⟨hj, hg, hd'⟩ := drop_cons hd ((0 : Int), (0 : Int))
    simp only [List.length_cons] at h ho
    have ew : IntKind.i64.wrap ((i : Int) + 1) = ((i + 1 : Nat) : Int) := by rw [wr (by omega) (by omega)]; omega
    have em : (if t.2 > at_ then t.2 else at_) = max at_ t.2 := by split <;> omega
    have ec : cutS s2 at_ (t :: r) = if t.1 < s2 then restS t.1 at_ ++ cutS s2 (max at_ t.2) r else restS s2 at_ := rfl
    by_cases hc : t.1 < s2
    · rw [ec, if_pos hc]
      by_cases hlt : at_ < t.1
      · obtain ⟨at', pre, h1, h2, h3⟩ := without_p2 hb k1 k_ t11 t12 t13 s s2 r (i + 1) N (max at_ t.2) (out ++ [(at_, t.1)]) hd' (by omega) (by simp; omega)
        refine ⟨at', (at_, t.1) :: pre, ?_, by simp; omega, ?_⟩
        · have : restS t.1 at_ = [(at_, t.1)] := by unfold restS; rw [if_pos hlt]
          rw [this, List.cons_append, h1]; rfl
        · rw [zq6q]
          unfold zq6c
          simp only [Int.toNat_natCast, hg, em, ew]
          refine (c_pos (by omega)).trans ?_
          refine (c_inb (by omega)).trans ?_
          refine (c_pos hc).trans ?_
          refine (c_inb (by omega)).trans ?_
          refine (c_pos hlt).trans ?_
          refine (c_inb (by omega)).trans ?_
          refine (c_room (by simp; omega)).trans ?_
          refine (c_inb (by omega)).trans ?_
          rw [h3, List.append_assoc]
          rfl
      · obtain ⟨at', pre, h1, h2, h3⟩ := without_p2 hb k1 k_ t11 t12 t13 s s2 r (i + 1) N (max at_ t.2) out hd' (by omega) (by omega)
        refine ⟨at', pre, ?_, by simp; omega, ?_⟩
        · have : restS t.1 at_ = [] := by unfold restS; rw [if_neg hlt]
          rw [this, h1]; rfl
        · rw [zq6q]
          unfold zq6c
          simp only [Int.toNat_natCast, hg, em, ew]
          refine (c_pos (by omega)).trans ?_
          refine (c_inb (by omega)).trans ?_
          refine (c_pos hc).trans ?_
          refine (c_inb (by omega)).trans ?_
          refine (c_neg hlt).trans ?_
          refine (c_inb (by omega)).trans ?_
          exact h3
    · rw [ec, if_neg hc]
      refine ⟨at_, [], rfl, by simp, ?_⟩
      rw [zq6q]
      unfold zq6c
      simp only [Int.toNat_natCast, hg]
      rw [List.append_nil]
      refine (c_pos (by omega)).trans ?_
      refine (c_inb (by omega)).trans ?_
      exact c_neg hc

theorem take_add_drop {α : Type} {l : List α} {j j' : Nat} (h : j ≤ j') : l.take j' = l.take j ++ (l.drop j).take (j' - j) := by
  have e : j' = j + (j' - j) := by omega
  rw [e, List.take_add, Nat.add_sub_cancel_left]

theorem without_p3 {a b : List Sp} (ha : a.length ≤ 10000) (hb : b.length ≤ 10000) {ca : Int} (hna : NFa ca a) (hnb : ∀ t ∈ b, t.1 < t.2) (k1 : zq65 β) : ∀ (r : List Sp) (i k N : Nat) (c : Int) (out : List Sp), a.drop i = r → r.length < N → NFa c r → k ≤ b.length → (∀ t ∈ b.take k, t.2 ≤ c) → out.length ≤ i * 10001 →
    zq6t N k1 b (k : Int) a (a.length : Int) (i : Int) out = k1 (out ++ withoutS r b)
  | [], j, _, 0, _, _, _, h, _, _, _, _ => absurd h (Nat.not_lt_zero _)
  | _ :: _, j, _, 0, _, _, _, h, _, _, _, _ => absurd h (Nat.not_lt_zero _)
  | [], i, k, N + 1, c, out, hd, h, hr, hk, ht, ho => by
    have : a.length ≤ i := by simpa using hd
    rw [zq6u]
    unfold zq6f
    refine (c_neg (by omega)).trans ?_
    simp [withoutS]
  | s :: r, i, k, N + 1, c, out, hd, h, hr, hk, ht, ho => by
    obtain ⟨hj, hg, hd'⟩ := drop_cons hd ((0 : Int), (0 : Int))
    simp only [List.length_cons] at h
    obtain ⟨r1, r2, r3⟩ := hr
    have ew : IntKind.i64.wrap ((i : Int) + 1) = ((i + 1 : Nat) : Int) := by rw [wr (by omega) (by omega)]; omega
    rw [zq6u]
    unfold zq6f
    simp only [Int.toNat_natCast, hg]
    refine (c_pos (by omega)).trans ?_
    refine (c_inb (by omega)).trans ?_
    obtain ⟨k', q1, q2, q3, q4⟩ := without_p1 hb (fun b2 k2 t112 t122 t132 out2 s s2 => zq6r (fun b3 k3 at_ t113 t123 t133 out3 s3 s4 =>
        cond (decide (at_ < s4)) (cond (decide ((out3.length + ([(at_, s4)] : List Sp).length) * 16 ≤ roomMax)) (zq6t N k1 b3 k3 t113 t123 (IntKind.i64.wrap (t133 + 1)) (out3 ++ [(at_, s4)])) none)
          (zq6t N k1 b3 k3 t113 t123 (IntKind.i64.wrap (t133 + 1)) out3)) b2 k2 s k2 t112 t122 t132 out2 s s2) a (a.length : Int) (i : Int) out s.1 s.2 (b.drop k) k fuel rfl (lt_fuel (by simp; omega))
    refine q4.trans ?_
    obtain ⟨at', pre, w1, w2, w3⟩ := without_p2 hb (fun b3 k3 at_ t113 t123 t133 out3 s3 s4 =>
        cond (decide (at_ < s4)) (cond (decide ((out3.length + ([(at_, s4)] : List Sp).length) * 16 ≤ roomMax)) (zq6t N k1 b3 k3 t113 t123 (IntKind.i64.wrap (t133 + 1)) (out3 ++ [(at_, s4)])) none)
          (zq6t N k1 b3 k3 t113 t123 (IntKind.i64.wrap (t133 + 1)) out3)) (k' : Int) a (a.length : Int) (i : Int) s.1 s.2 (b.drop k') k' fuel s.1 out rfl (lt_fuel (by simp; omega)) (by simp; omega)
    refine w3.trans ?_
    have hk' : k' ≤ b.length := by omega
    have htk : ∀ t ∈ b.take k', t.2 ≤ s.1 := by
      intro t hm
      rw [take_add_drop q1] at hm
      rcases List.mem_append.1 hm with hm | hm
      · have := ht t hm; omega
      · exact q3 t hm
    have hcut : cutS s.2 s.1 b = cutS s.2 s.1 (b.drop k') := by
      have e : b = b.take k' ++ b.drop k' := (List.take_append_drop k' b).symm
      have := cutS_skip (e := s.2) (at_ := s.1) r2 (p := b.take k') (m := b.drop k') (fun t hm => ⟨hnb t (List.mem_of_mem_take hm), htk t hm⟩)
      rw [← e] at this
      exact this
    have hwo : withoutS (s :: r) b = cutS s.2 s.1 b ++ withoutS r b := rfl
    rw [hwo, hcut, ← w1]
    have hlp : pre.length ≤ 10000 := by simp at w2; omega
    have ih : ∀ out2, out2.length ≤ (i + 1) * 10001 → zq6t N k1 b (k' : Int) a (a.length : Int) (IntKind.i64.wrap ((i : Int) + 1)) out2 = k1 (out2 ++ withoutS r b) := by
      intro out2 hl2
      rw [ew]
      exact without_p3 ha hb hna hnb k1 r (i + 1) k' N s.2 out2 hd' (by omega) r3 hk' (fun t hm => by have := htk t hm; omega) hl2
    by_cases hlt : at' < s.2
    · refine (c_pos hlt).trans ?_
      refine (c_room (by simp; omega)).trans ?_
      have : restS s.2 at' = [(at', s.2)] := by unfold restS; rw [if_pos hlt]
      rw [this]
      refine (ih _ (by simp; omega)).trans ?_
      simp
    · refine (c_neg hlt).trans ?_
      have : restS s.2 at' = [] := by unfold restS; rw [if_neg hlt]
      rw [this, List.append_nil]
      refine (ih _ (by simp; omega)).trans ?_
      simp

theorem without_eq {a b : List Sp} (ha : a.length ≤ 10000) (hb : b.length ≤ 10000) {ca : Int} (hna : NFa ca a) (hnb : ∀ t ∈ b, t.1 < t.2) (k : List Sp → Option β) : zq6x a b k = k (withoutS a b) := by
  show zq6i zq6v a b k = _
  unfold zq6i
  refine (without_p3 ha hb hna hnb _ a 0 0 fuel ca [] rfl (lt_fuel (by omega)) hna (by omega) (by simp) (by simp)).trans ?_
  simp
end
end
end Go.Lift

/- The dice in plain Lean. -/
namespace Go.Lift
open Go.RowKit Go.IntWalk
noncomputable section
set_option linter.unusedVariables false
set_option linter.unusedSimpArgs false

abbrev Dice := List Int × Int
def DiceOk (d : Dice) : Prop := 0 ≤ d.2 ∧ d.2 ≤ d.1.length ∧ d.1.length ≤ 500

theorem light_eq {β : Type} (l : List Int) (k : Bool → Option β) : zq5 l k = k (decide ((l.length : Int) ≤ 500)) := by
  simp only [zq5, zq2]
theorem roll_eq {β : Type} (l : List Int) (k : Dice → Option β) : zqc l k = k (l, 0) := by
  simp only [zqc, zq9]
theorem roll_ok {l : List Int} (h : (l.length : Int) ≤ 500) : DiceOk (l, 0) := ⟨by simp, by simp, by show l.length ≤ 500; omega⟩

theorem next_ok {n : Int} {d : Dice} (hd : DiceOk d) (hn : 1 ≤ n ∧ n ≤ 4611686018427387904) :
    ∃ x d', 0 ≤ x ∧ x < n ∧ DiceOk d' ∧ ∀ {β : Type} (k : Int → Dice → Option β), zq34 n d k = k x d' := by
  obtain ⟨h1, h2, h3⟩ := hd
  by_cases ha : (d.1.length : Int) ≤ d.2
  · exact ⟨0, d, by omega, by omega, ⟨h1, h2, h3⟩, fun k => by simp (disch := omega) only [zq34, zq31, c_pos]⟩
  · generalize hv : List.getD d.1 (Int.toNat d.2) (0 : Int) = v
    have hm1 := Int.tmod_lt_of_pos v (show 0 < n by omega)
    have hm2 : -n < Int.tmod v n := by
      have h5 := Int.tmod_lt_of_pos (-v) (show 0 < n by omega)
      rw [Int.neg_tmod] at h5
      omega
    have hd' : DiceOk (d.1, d.2 + 1) := ⟨by show (0 : Int) ≤ d.2 + 1; omega, by show d.2 + 1 ≤ (d.1.length : Int); omega, h3⟩
    by_cases hc : Int.tmod v n < 0
    · refine ⟨Int.tmod v n + n, (d.1, d.2 + 1), by omega, by omega, hd', fun k => ?_⟩
      simp (disch := omega) only [zq34, zq31, hv, c_pos, c_neg, c_inb, c_nneg, i64_in]
    · refine ⟨Int.tmod v n, (d.1, d.2 + 1), by omega, by omega, hd', fun k => ?_⟩
      simp (disch := omega) only [zq34, zq31, hv, c_pos, c_neg, c_inb, c_nneg, i64_in]

end
end Go.Lift

/- The functions of package span in plain Lean: merging, and what leans on it. -/
namespace Go.Lift
open Go.RowKit Go.IntWalk
noncomputable section
set_option linter.unusedVariables false
set_option linter.unusedSimpArgs false
set_option maxRecDepth 10000

/-! ### The empty spans go -/
theorem mf1_eq {β : Type} (s : Sp) (k : Bool → Option β) : zq92 s k = k (decide (s.2 ≤ s.1)) := rfl

abbrev neS (l : List Sp) : List Sp := l.filter fun s => decide (s.1 < s.2)

theorem idx_loop {β : Type} (k1 : zqh7 β) (k2 : zqh8 β) (l : List Sp) (hl : l.length ≤ 100000) : ∀ (r : List Sp) (j N : Nat), l.drop j = r → r.length < N → (∀ s ∈ l.take j, s.1 < s.2) →
    ((∀ s ∈ l, s.1 < s.2) ∧ zqhi N k1 k2 l (l.length : Int) (j : Int) = k2 ()) ∨
    (∃ i : Nat, i < l.length ∧ (∀ s ∈ l.take i, s.1 < s.2) ∧ ¬ (l.getD i (0, 0)).1 < (l.getD i (0, 0)).2 ∧ zqhi N k1 k2 l (l.length : Int) (j : Int) = k1 (i : Int))
  | [], j, 0, _, h, _ => absurd h (Nat.not_lt_zero _)
  | _ :: _, j, 0, _, h, _ => absurd h (Nat.not_lt_zero _)
  | [], j, N + 1, hd, h, ht => by
    have : l.length ≤ j := by simpa using hd
    refine .inl ⟨fun s hs => ht s (by rw [List.take_of_length_le this]; exact hs), ?_⟩
    rw [zqhj]
    unfold zqhc
    exact c_neg (by omega)
  | s :: r, j, N + 1, hd, h, ht => by
    obtain ⟨hj, hg, hd'⟩ := drop_cons hd ((0 : Int), (0 : Int))
    simp only [List.length_cons] at h
    have ew : IntKind.i64.wrap ((j : Int) + 1) = ((j + 1 : Nat) : Int) := by rw [wr (by omega) (by omega)]; omega
    have hstep : zqhi (N + 1) k1 k2 l (l.length : Int) (j : Int) = cond (decide (s.2 ≤ s.1)) (k1 (j : Int)) (zqhi N k1 k2 l (l.length : Int) ((j + 1 : Nat) : Int)) := by
      rw [zqhj]
      unfold zqhc
      simp only [Int.toNat_natCast, hg, ew]
      refine (c_pos (by omega)).trans ?_
      refine (c_inb (by omega)).trans ?_
      exact mf1_eq _ _
    rw [hstep]
    by_cases hc : s.2 ≤ s.1
    · exact .inr ⟨j, hj, ht, by rw [hg]; omega, c_pos hc⟩
    · have ht' : ∀ t ∈ l.take (j + 1), t.1 < t.2 := by
        intro t hm
        rw [List.take_add_one] at hm
        have e : l[j]? = some s := by rw [← hg]; simp [List.getD, hj]
        rw [e] at hm
        rcases List.mem_append.1 hm with hm | hm
        · exact ht t hm
        · simp only [Option.toList, List.mem_singleton] at hm
          rw [hm]; omega
      rcases idx_loop k1 k2 l hl r (j + 1) N hd' (by omega) ht' with ⟨q1, q2⟩ | ⟨i, q1, q2, q3, q4⟩
      · exact .inl ⟨q1, (c_neg hc).trans q2⟩
      · exact .inr ⟨i, q1, q2, q3, (c_neg hc).trans q4⟩

theorem filter_all {l : List Sp} (h : ∀ s ∈ l, s.1 < s.2) : neS l = l := List.filter_eq_self.2 fun s hs => decide_eq_true (h s hs)

theorem neS_one (l : List Sp) (x : Sp) : neS (l ++ [x]) = if x.1 < x.2 then neS l ++ [x] else neS l := by
  unfold neS
  rw [List.filter_append]
  by_cases h : x.1 < x.2 <;> simp [h]

theorem idx_loop0 {β : Type} (k1 : zqh7 β) (k2 : zqh8 β) (l : List Sp) (hl : l.length ≤ 100000) :
    ((∀ s ∈ l, s.1 < s.2) ∧ zqhk k1 k2 l (l.length : Int) 0 = k2 ()) ∨
    (∃ i : Nat, i < l.length ∧ (∀ s ∈ l.take i, s.1 < s.2) ∧ ¬ (l.getD i (0, 0)).1 < (l.getD i (0, 0)).2 ∧ zqhk k1 k2 l (l.length : Int) 0 = k1 (i : Int)) := by
  have h := idx_loop k1 k2 l hl l 0 fuel rfl (lt_fuel (by omega)) (by simp)
  rw [Int.natCast_zero] at h
  exact h

theorem del_loop (l : List Sp) (hl : l.length ≤ 100000) : ∀ (r : List Sp) (i j N : Nat) (s : List Sp), l.drop j = r → r.length < N → s.length = l.length → i < j → j ≤ l.length → s.take i = neS (l.take j) → s.drop j = r →
    ∃ i' s', s'.length = l.length ∧ i' ≤ l.length ∧ s'.take i' = neS l ∧ ∀ {β : Type} (k1 : zqhx β), zqi7 N k1 (i : Int) (j : Int) s = k1 (i' : Int) s'
  | [], i, j, 0, _, _, h, _, _, _, _, _ => absurd h (Nat.not_lt_zero _)
  | _ :: _, i, j, 0, _, _, h, _, _, _, _, _ => absurd h (Nat.not_lt_zero _)
  | [], i, j, N + 1, s, hd, h, hs, hij, hjl, ht, hdr => by
    have : l.length ≤ j := by simpa using hd
    refine ⟨i, s, hs, by omega, by rw [ht, List.take_of_length_le this], fun k1 => ?_⟩
    rw [zqi8]
    unfold zqi1
    exact c_neg (by omega)
  | x :: r, i, j, N + 1, s, hd, h, hs, hij, hjl, ht, hdr => by
    obtain ⟨hj, hg, hd'⟩ := drop_cons hd ((0 : Int), (0 : Int))
    obtain ⟨hj2, hg2, hd2⟩ := drop_cons hdr ((0 : Int), (0 : Int))
    simp only [List.length_cons] at h
    have ew : IntKind.i64.wrap ((j : Int) + 1) = ((j + 1 : Nat) : Int) := by rw [wr (by omega) (by omega)]; omega
    have ewi : IntKind.i64.wrap ((i : Int) + 1) = ((i + 1 : Nat) : Int) := by rw [wr (by omega) (by omega)]; omega
    have et : l.take (j + 1) = l.take j ++ [x] := by
      rw [List.take_add_one]
      have e : l[j]? = some x := by rw [← hg]; simp [List.getD, hj]
      rw [e]; rfl
    have hstep : ∀ {β : Type} (k1 : zqhx β), zqi7 (N + 1) k1 (i : Int) (j : Int) s =
        cond (!decide (x.2 ≤ x.1)) (zqi7 N k1 ((i + 1 : Nat) : Int) ((j + 1 : Nat) : Int) (s.set i x)) (zqi7 N k1 (i : Int) ((j + 1 : Nat) : Int) s) := by
      intro β k1
      rw [zqi8]
      unfold zqi1
      simp only [Int.toNat_natCast, hg2, ew, ewi]
      refine (c_pos (by omega)).trans ?_
      refine (c_inb (by omega)).trans ?_
      refine (mf1_eq _ _).trans ?_
      by_cases hc : x.2 ≤ x.1
      · rw [decide_eq_true hc]; rfl
      · rw [decide_eq_false hc]
        exact c_inb (by omega)
    by_cases hc : x.2 ≤ x.1
    · obtain ⟨i', s', q1, q2, q3, q4⟩ := del_loop l hl r i (j + 1) N s hd' (by omega) hs (by omega) (by omega) (by
        rw [ht, et, neS_one, if_neg (by omega)]) hd2
      exact ⟨i', s', q1, q2, q3, fun k1 => (hstep k1).trans ((c_npos hc).trans (q4 k1))⟩
    · obtain ⟨i', s', q1, q2, q3, q4⟩ := del_loop l hl r (i + 1) (j + 1) N (s.set i x) hd' (by omega) (by simpa using hs) (by omega) (by omega) (by
        have hi : i < s.length := by omega
        rw [et, neS_one, if_pos (by omega), ← ht]
        have e : (s.set i x).take (i + 1) = s.take i ++ [x] := by
          rw [List.take_add_one, List.take_set, List.getElem?_set_self hi]
          rw [List.set_eq_of_length_le (by simp; omega)]
          rfl
        exact e) (by rw [List.drop_set_of_lt (by omega)]; exact hd2)
      exact ⟨i', s', q1, q2, q3, fun k1 => (hstep k1).trans ((c_nneg hc).trans (q4 k1))⟩

theorem del_out {β : Type} (k : List Sp → Option β) {i : Nat} {s : List Sp} (h : i ≤ s.length) :
    cond (decide (0 ≤ (i : Int)) && (decide ((i : Int) ≤ (s.length : Int)) && decide ((s.length : Int) ≤ (s.length : Int))))
      (let l : List Sp := s.take (Int.toNat (i : Int)) ++ (List.replicate (s.length - Int.toNat (i : Int)) ((0 : Int), (0 : Int)) ++ s.drop s.length);
        cond (decide (0 ≤ (i : Int)) && decide ((i : Int) ≤ (l.length : Int))) (let l2 : List Sp := l.take (Int.toNat (i : Int)); k l2) none) none = k (s.take i) := by
  have e : Int.toNat (i : Int) = i := Int.toNat_natCast i
  rw [e, decide_eq_true (by omega : (0 : Int) ≤ (i : Int)), decide_eq_true (by omega : (i : Int) ≤ (s.length : Int)), decide_eq_true (by omega : (s.length : Int) ≤ (s.length : Int))]
  refine c_t.trans ?_
  have hlen : (s.take i ++ (List.replicate (s.length - i) ((0 : Int), (0 : Int)) ++ s.drop s.length)).length = s.length := by simp; omega
  show cond (true && decide ((i : Int) ≤ ((s.take i ++ (List.replicate (s.length - i) ((0 : Int), (0 : Int)) ++ s.drop s.length)).length : Int))) (k ((s.take i ++ (List.replicate (s.length - i) ((0 : Int), (0 : Int)) ++ s.drop s.length)).take i)) none = _
  rw [hlen, decide_eq_true (by omega : (i : Int) ≤ (s.length : Int))]
  refine c_t.trans ?_
  have e3 : (s.take i ++ (List.replicate (s.length - i) ((0 : Int), (0 : Int)) ++ s.drop s.length)).take i = s.take i := by
    rw [List.take_append_of_le_length (by simp; omega), List.take_take, Nat.min_self]
  rw [e3]

theorem del_eq {l : List Sp} (hl : l.length ≤ 100000) {β : Type} (k : List Sp → Option β) : zqib l k = k (neS l) := by
  show zqi4 zqhm zqi9 l k = _
  unfold zqi4
  show zqhf zqhk l _ = _
  unfold zqhf
  rcases idx_loop0 _ _ l hl with ⟨q1, q2⟩ | ⟨i, q1, q2, q3, q4⟩
  · refine q2.trans ?_
    refine (c_pos rfl).trans ?_
    rw [filter_all q1]
  · refine q4.trans ?_
    refine (c_neg (by omega)).trans ?_
    have ewi : IntKind.i64.wrap ((i : Int) + 1) = ((i + 1 : Nat) : Int) := by rw [wr (by omega) (by omega)]; omega
    have hg : l[i]? = some (l.getD i (0, 0)) := by simp [List.getD, q1]
    obtain ⟨i', s', p1, p2, p3, p4⟩ := del_loop l hl (l.drop (i + 1)) i (i + 1) fuel l rfl (lt_fuel (by simp; omega)) rfl (by omega) (by omega) (by
        rw [List.take_add_one, hg]
        show _ = neS (l.take i ++ [l.getD i (0, 0)])
        rw [neS_one, if_neg q3, filter_all q2]) rfl
    rw [ewi]
    refine (p4 _).trans ?_
    rw [← p3]
    exact del_out k (by omega)

theorem del_run {l : List Sp} (hl : l.length ≤ 100000) : zqid l = true ∧ zqie l = neS l := by
  have h := del_eq hl (some : List Sp → Option (List Sp))
  unfold zqid zqie
  rw [h]
  exact ⟨rfl, rfl⟩

/-! ### Merging -/
theorem mp1 {β : Type} (k1 : zqiz β) (n t14 t15 : Int) (b : Bool) (out : List Sp) (s s2 : Int) (t13 : List Sp) : zqjg k1 n t14 t15 b out s s2 t13 = zqj7 k1 n t14 t15 b out s s2 t13 := rfl

theorem merge_loop {β : Type} (k1 : zqj3 β) (l : List Sp) (hl : l.length ≤ 100000) : ∀ (r : List Sp) (j N : Nat) (pre : List Sp) (c : Sp), l.drop j = r → r.length < N → pre.length < j →
    zqji N k1 (l.length : Int) (j : Int) (pre ++ [c]) l = k1 (pre ++ mergeS c r)
  | [], j, 0, _, _, _, h, _ => absurd h (Nat.not_lt_zero _)
  | _ :: _, j, 0, _, _, _, h, _ => absurd h (Nat.not_lt_zero _)
  | [], j, N + 1, pre, c, hd, h, hp => by
    have : l.length ≤ j := by simpa using hd
    rw [zqjj]
    unfold zqja
    exact c_neg (by omega)
  | s :: r, j, N + 1, pre, c, hd, h, hp => by
    obtain ⟨hj, hg, hd'⟩ := drop_cons hd ((0 : Int), (0 : Int))
    simp only [List.length_cons] at h
    have ew : IntKind.i64.wrap ((j : Int) + 1) = ((j + 1 : Nat) : Int) := by rw [wr (by omega) (by omega)]; omega
    have hlen : (pre ++ [c]).length = pre.length + 1 := by simp
    have e1 : IntKind.i64.wrap (((pre ++ [c]).length : Int) - 1) = (pre.length : Int) := by rw [wr (by omega) (by omega)]; omega
    have e2 : (pre ++ [c]).getD pre.length ((0 : Int), (0 : Int)) = c := by simp [List.getD]
    rw [zqjj]
    unfold zqja
    simp only [Int.toNat_natCast, hg, e1, e2, ew]
    refine (c_pos (by omega)).trans ?_
    refine (c_inb (by omega)).trans ?_
    refine (c_pos (by omega)).trans ?_
    refine (c_inb (by omega)).trans ?_
    by_cases hc : s.1 ≤ c.2
    · rw [decide_eq_true hc]
      refine (mp1 _ _ _ _ _ _ _ _ _).trans ?_
      unfold zqj7
      simp only [Int.toNat_natCast, e1, e2, ew]
      refine c_t.trans ?_
      refine (c_inb (by omega)).trans ?_
      refine (c_inb (by omega)).trans ?_
      have em : (if s.2 > c.2 then s.2 else c.2) = max c.2 s.2 := by split <;> omega
      have es : (pre ++ [c]).set pre.length (c.1, max c.2 s.2) = pre ++ [(c.1, max c.2 s.2)] := by
        simp [List.set_append]
      rw [em, es]
      have e3 : mergeS c (s :: r) = mergeS (c.1, max c.2 s.2) r := by
        show (if s.1 ≤ c.2 then mergeS (c.1, max c.2 s.2) r else c :: mergeS s r) = _
        rw [if_pos hc]
      rw [e3]
      exact merge_loop k1 l hl r (j + 1) N pre (c.1, max c.2 s.2) hd' (by omega) (by omega)
    · rw [decide_eq_false hc]
      refine (mp1 _ _ _ _ _ _ _ _ _).trans ?_
      unfold zqj7
      refine c_f.trans ?_
      refine (c_room (by simp; omega)).trans ?_
      simp only [ew]
      have e3 : mergeS c (s :: r) = c :: mergeS s r := by
        show (if s.1 ≤ c.2 then mergeS (c.1, max c.2 s.2) r else c :: mergeS s r) = _
        rw [if_neg hc]
      rw [e3]
      refine (merge_loop k1 l hl r (j + 1) N (pre ++ [c]) s hd' (by omega) (by simp; omega)).trans ?_
      simp

theorem merge_all {β : Type} (k1 : zqj3 β) (l : List Sp) (hl : l.length ≤ 100000) : zqjk k1 (l.length : Int) 0 [] l = k1 (mergeAll l) := by
  show zqji fuel k1 (l.length : Int) 0 [] l = _
  obtain ⟨N, hN⟩ : ∃ N, fuel = N + 1 := ⟨18446744073709551615, rfl⟩
  rw [hN, zqjj]
  unfold zqja
  cases l with
  | nil => exact c_neg (by simp)
  | cons s r =>
    simp only [List.length_cons] at hl
    have hg : (s :: r).getD (Int.toNat 0) ((0 : Int), (0 : Int)) = s := rfl
    simp only [hg]
    refine (c_pos (by simp only [List.length_cons]; omega)).trans ?_
    refine (c_inb (by simp only [List.length_cons]; omega)).trans ?_
    refine (c_neg (by simp)).trans ?_
    refine (mp1 _ _ _ _ _ _ _ _ _).trans ?_
    unfold zqj7
    refine c_f.trans ?_
    refine (c_room (by simp)).trans ?_
    have ew : IntKind.i64.wrap ((0 : Int) + 1) = ((1 : Nat) : Int) := by rw [wr (by omega) (by omega)]; rfl
    simp only [ew]
    have hN2 : (s :: r).length ≤ N := by
      have : fuel = 18446744073709551616 := rfl
      simp only [List.length_cons]; omega
    exact merge_loop k1 (s :: r) (by simp; omega) r 1 N [] s rfl (by simp only [List.length_cons] at hN2; omega) (by simp)

/-- What Merge makes of any spans that lie in a range. -/
theorem merge_eq {l : List Sp} (hl : l.length ≤ 50000) (hr : ∀ s ∈ l, s.1 < s.2 → 0 ≤ s.1 ∧ s.1 ≤ 4611686018427387904) :
    ∃ out, (NFa (-1) out ∧ (∀ x, hasS out x ↔ hasS l x)) ∧ ∀ {β : Type} (k : List Sp → Option β), zqjm l k = k out := by
  have hgood : ∀ s ∈ neS l, zqiq s = true := by
    intro s hs
    obtain ⟨h1, h2⟩ := List.mem_filter.1 hs
    obtain ⟨h3, h4⟩ := hr s h1 (of_decide_eq_true h2)
    show (decide (0 ≤ s.1) && decide (s.1 ≤ 4611686018427387904)) = true
    rw [decide_eq_true h3, decide_eq_true h4]; rfl
  obtain ⟨hp, hsd⟩ := sortRun_good (good := zqiq) (d0 := ((0, 0) : Int × Int)) (h0 := rfl) (cf := zqir) zqiu hgood
  have hlen : (zqis (neS l)).length ≤ l.length := by
    show (sortRun zqiq ((0, 0) : Int × Int) rfl zqir (neS l)).length ≤ _
    rw [hp.length_eq]
    exact List.length_filter_le _ _
  have hpw : (zqis (neS l)).Pairwise (fun s t => s.1 ≤ t.1) := by
    rw [List.pairwise_iff_getElem]
    intro i j hi hj hij
    have hj' : j < (neS l).length := by
      have : (zqis (neS l)).length = (neS l).length := hp.length_eq
      omega
    have h1 := hsd i j hij hj'
    have e : ∀ q, (hq : q < (zqis (neS l)).length) → (sortRun zqiq ((0, 0) : Int × Int) rfl zqir (neS l)).getD q ((0, 0) : Int × Int) = (zqis (neS l))[q] := by
      intro q hq
      have hq' : q < (sortRun zqiq ((0, 0) : Int × Int) rfl zqir (neS l)).length := hq
      simp [List.getD, hq']
      rfl
    rw [e i hi, e j hj] at h1
    have h2 : ¬ ((zqis (neS l))[j].1 - (zqis (neS l))[i].1 < 0) := h1
    omega
  obtain ⟨n1, n2⟩ := norm_ok (l := l) (m := zqis (neS l)) (a := -1) hp hpw (fun s hs hlt => by have := hr s hs hlt; omega)
  refine ⟨mergeAll (zqis (neS l)), ⟨n2, n1⟩, fun k => ?_⟩
  obtain ⟨d1, d2⟩ := del_run (l := l) (by omega)
  show zqjd zq8v zqjk l k = _
  unfold zqjd
  show cond (decide (l.length * 16 ≤ roomMax)) _ none = _
  refine (c_room (by omega)).trans ?_
  show cond (zqid l) _ none = _
  rw [d1]
  refine c_t.trans ?_
  simp only [d2]
  have t1 : ((neS l).all zqiq && decide ((neS l).length < 4611686018427387904)) = true := by
    have h1 : (neS l).length ≤ l.length := List.length_filter_le _ _
    rw [List.all_eq_true.2 hgood, decide_eq_true (show (neS l).length < 4611686018427387904 by omega)]; rfl
  rw [t1]
  refine c_t.trans ?_
  exact merge_all _ _ (by omega)
end
end Go.Lift

/- The functions of package span in plain Lean: sets and what is made of two of them. -/
namespace Go.Lift
open Go.RowKit Go.IntWalk
noncomputable section
set_option linter.unusedVariables false
set_option linter.unusedSimpArgs false
set_option maxRecDepth 10000

/-! ### Normal -/
def badB (s : Sp) : Bool := decide (s.1 < s.2) && (decide (s.1 < 0) || decide (8589934592 < s.2))
theorem badB_no {s : Sp} (h : badB s = false) : rangeS s := by
  intro hlt
  unfold badB at h
  rw [decide_eq_true hlt, Bool.true_and, Bool.or_eq_false_iff] at h
  have := of_decide_eq_false h.1
  have := of_decide_eq_false h.2
  omega
theorem norm_loop {β : Type} (k1 : zqk4 β) (k2 : zqk5 β) (l : List Sp) (hl : l.length ≤ 4096) : ∀ (r : List Sp) (j N : Nat), l.drop j = r → r.length < N →
    zqkf N k1 k2 l l (l.length : Int) (j : Int) = cond (r.any badB) (k1 1 []) (k2 l)
  | [], j, 0, _, h => absurd h (Nat.not_lt_zero _)
  | _ :: _, j, 0, _, h => absurd h (Nat.not_lt_zero _)
  | [], j, N + 1, hd, h => by
    have : l.length ≤ j := by simpa using hd
    rw [zqkg]
    unfold zqk9
    exact c_neg (by omega)
  | s :: r, j, N + 1, hd, h => by
    obtain ⟨hj, hg, hd'⟩ := drop_cons hd ((0 : Int), (0 : Int))
    simp only [List.length_cons] at h
    have ew : IntKind.i64.wrap ((j : Int) + 1) = ((j + 1 : Nat) : Int) := by rw [wr (by omega) (by omega)]; omega
    have ih := norm_loop k1 k2 l hl r (j + 1) N hd' (by omega)
    rw [zqkg]
    unfold zqk9
    simp only [Int.toNat_natCast, hg, ew]
    refine (c_pos (by omega)).trans ?_
    refine (c_inb (by omega)).trans ?_
    have e : (s :: r).any badB = (badB s || r.any badB) := rfl
    rw [e]
    unfold badB
    by_cases h1 : s.1 < s.2
    · refine (c_pos h1).trans ?_
      rw [decide_eq_true h1, Bool.true_and]
      by_cases h2 : s.1 < 0
      · refine (c_pos h2).trans ?_
        rw [decide_eq_true h2]; rfl
      · refine (c_neg h2).trans ?_
        rw [decide_eq_false h2, Bool.false_or]
        by_cases h3 : 8589934592 < s.2
        · refine (c_pos h3).trans ?_
          rw [decide_eq_true h3]; rfl
        · refine (c_neg h3).trans ?_
          rw [decide_eq_false h3, Bool.false_or]
          exact ih
    · refine (c_neg h1).trans ?_
      rw [decide_eq_false h1, Bool.false_and, Bool.false_or]
      exact ih

theorem normal_s {β : Type} (l : List Sp) (k : Int → List Sp → Option β) : zqkj l k = cond (decide (4096 < l.length)) (k 5 []) (cond (l.any badB) (k 1 []) (zqjm l (fun r => k 0 r))) := by
  show zqkc zqjm zqkh l k = _
  unfold zqkc
  by_cases h : 4096 < l.length
  · refine (c_pos (by omega)).trans ?_
    exact (c_pos h).symm
  · refine (c_neg (by omega)).trans ?_
    refine Eq.trans ?_ (c_neg h).symm
    have e := norm_loop (fun (t3 : Int) (t2 : List Sp) => k t3 t2) (fun l2 => zqjm l2 (fun r => k 0 r)) l (by omega) l 0 fuel rfl (lt_fuel (by omega))
    rw [Int.natCast_zero] at e
    exact e

theorem normal_ok {l : List Sp} (hl : l.length ≤ 4096) (hr : ∀ s ∈ l, badB s = false) :
    ∃ out, (NFa (-1) out ∧ (∀ x, hasS out x ↔ hasS l x)) ∧ ∀ {β : Type} (k : Int → List Sp → Option β), zqkj l k = k 0 out := by
  obtain ⟨out, h, hf⟩ := merge_eq (l := l) (by omega) (fun s hs hlt => by have := badB_no (hr s hs) hlt; omega)
  refine ⟨out, h, fun k => ?_⟩
  rw [normal_s, decide_eq_false (by omega)]
  refine c_f.trans ?_
  rw [List.any_eq_false.2 (fun s hs => by rw [hr s hs]; simp)]
  refine c_f.trans ?_
  exact hf _

/-! ### Two lists as one -/
theorem grow_eq {β : Type} {n : Int} (h0 : 0 ≤ n) (h1 : n ≤ 1000000) (k : List Sp → Option β) : zqea n k = k [] := by
  show zqe7 n k = _
  unfold zqe7
  refine (c_neg (by omega)).trans ?_
  have e0 : IntKind.i64.wrap ((0 : Int) - 0) = 0 := by rw [wr (by omega) (by omega)]; rfl
  have e1 : IntKind.i64.wrap (n - 0) = n := by rw [wr (by omega) (by omega)]; omega
  simp only [e0, e1]
  by_cases h : 0 < n
  · refine (c_pos h).trans ?_
    refine Eq.trans (c_t (b := none)) ?_
    have t1 : (decide (0 ≤ n) && decide (n.toNat * 16 ≤ roomMax)) = true := by
      rw [decide_eq_true h0, decide_eq_true (show n.toNat * 16 ≤ roomMax by simp only [roomMax]; omega)]; rfl
    rw [t1]
    refine c_t.trans ?_
    refine (show cond (decide (0 ≤ (0 : Int)) && decide ((0 : Int) ≤ ((List.replicate n.toNat ((0 : Int), (0 : Int))).length : Int))) (k ((List.replicate n.toNat ((0 : Int), (0 : Int))).take (Int.toNat 0))) none = _ from ?_)
    rw [decide_eq_true (by omega : (0 : Int) ≤ 0), decide_eq_true (by omega : (0 : Int) ≤ ((List.replicate n.toNat ((0 : Int), (0 : Int))).length : Int))]
    refine c_t.trans ?_
    rfl
  · exact c_neg h

theorem concat_eq {a b : List Sp} (ha : a.length ≤ 100000) (hb : b.length ≤ 100000) {β : Type} (k : List Sp → Option β) : zqgk [a, b] k = k (a ++ b) := by
  show zqg9 zqea zqge zqgi [a, b] k = _
  unfold zqg9
  obtain ⟨N, hN⟩ : ∃ N, fuel = N + 1 + 1 + 1 := ⟨18446744073709551613, rfl⟩
  have p1 : ∀ {β : Type} (k1 : zqfv β), zqge k1 [a, b] 0 [a, b] (([a, b] : List (List Sp)).length : Int) 0 = k1 [a, b] ((a.length : Int) + b.length) := by
    intro β k1
    show zqgc fuel k1 [a, b] 0 [a, b] 2 0 = _
    have w1 : IntKind.i64.wrap ((0 : Int) + 1) = 1 := by rw [wr (by omega) (by omega)]; rfl
    have w2 : IntKind.i64.wrap ((1 : Int) + 1) = 2 := by rw [wr (by omega) (by omega)]; rfl
    have g0 : ([a, b] : List (List Sp)).getD (Int.toNat 0) [] = a := rfl
    have g1 : ([a, b] : List (List Sp)).getD (Int.toNat 1) [] = b := rfl
    have wa : IntKind.i64.wrap ((0 : Int) + (a.length : Int)) = (a.length : Int) := by rw [wr (by omega) (by omega)]; omega
    have wb : IntKind.i64.wrap ((a.length : Int) + (b.length : Int)) = (a.length : Int) + b.length := by rw [wr (by omega) (by omega)]
    rw [hN, zqgd]
    unfold zqg3
    simp only [g0, w1, wa]
    refine (c_pos (by omega)).trans ?_
    refine (c_inb (by simp)).trans ?_
    refine (c_neg (by omega)).trans ?_
    rw [zqgd]
    unfold zqg3
    simp only [g1, w2, wb]
    refine (c_pos (by omega)).trans ?_
    refine (c_inb (by simp)).trans ?_
    refine (c_neg (by omega)).trans ?_
    rw [zqgd]
    unfold zqg3
    exact c_neg (by omega)
  have p2 : ∀ {β : Type} (k1 : zqfz β), zqgi k1 [a, b] (([a, b] : List (List Sp)).length : Int) 0 [] = k1 (a ++ b) := by
    intro β k1
    show zqgg fuel k1 [a, b] 2 0 [] = _
    have w1 : IntKind.i64.wrap ((0 : Int) + 1) = 1 := by rw [wr (by omega) (by omega)]; rfl
    have w2 : IntKind.i64.wrap ((1 : Int) + 1) = 2 := by rw [wr (by omega) (by omega)]; rfl
    have g0 : ([a, b] : List (List Sp)).getD (Int.toNat 0) [] = a := rfl
    have g1 : ([a, b] : List (List Sp)).getD (Int.toNat 1) [] = b := rfl
    rw [hN, zqgh]
    unfold zqg6
    simp only [g0, w1]
    refine (c_pos (by omega)).trans ?_
    refine (c_inb (by simp)).trans ?_
    refine (c_room (by simp; omega)).trans ?_
    rw [zqgh]
    unfold zqg6
    simp only [g1, w2]
    refine (c_pos (by omega)).trans ?_
    refine (c_inb (by simp)).trans ?_
    refine (c_room (by simp; omega)).trans ?_
    rw [zqgh]
    unfold zqg6
    exact c_neg (by omega)
  refine (p1 _).trans ?_
  refine (grow_eq (by omega) (by omega) _).trans ?_
  exact p2 _

/-! ### What is made of two sets -/
theorem union_ok {a b : List Sp} (ha : VS a) (hb : VS b) :
    ∃ out, (NFa (-1) out ∧ (∀ x, hasS out x ↔ hasS a x ∨ hasS b x)) ∧ ∀ {β : Type} (k : Int → List Sp → Option β), zqkq a b k = cond (decide (4096 < out.length)) (k 5 []) (k 0 out) := by
  have ra := ha.range
  have rb := hb.range
  have la := ha.len
  have lb := hb.len
  obtain ⟨out, ⟨h1, h2⟩, hf⟩ := merge_eq (l := a ++ b) (by simp; omega) (fun s hs hlt => by
    rcases List.mem_append.1 hs with q | q
    · have := ra s q; omega
    · have := rb s q; omega)
  refine ⟨out, ⟨h1, fun x => by rw [h2, hasS_append]⟩, fun k => ?_⟩
  show zqkn zqk0 a b k = _
  unfold zqkn
  show zqjx zqjt zq1e a b _ = _
  unfold zqjx
  refine (valid_eq a _).trans ?_
  rw [validB_iff.2 ha]
  refine c_f.trans ?_
  refine (valid_eq b _).trans ?_
  rw [validB_iff.2 hb]
  refine c_f.trans ?_
  show zqjq zqgk zqjm a b _ = _
  unfold zqjq
  refine (concat_eq (by omega) (by omega) _).trans ?_
  refine (hf _).trans ?_
  have : decide ((4096 : Int) < (out.length : Int)) = decide (4096 < out.length) := by
    by_cases h : 4096 < out.length
    · rw [decide_eq_true h, decide_eq_true (by omega)]
    · rw [decide_eq_false h, decide_eq_false (by omega)]
  rw [← this]

theorem meet_ok {a b : List Sp} (ha : VS a) (hb : VS b) :
    ∃ out, (NFa (-1) out ∧ (∀ x, hasS out x ↔ hasS a x ∧ hasS b x)) ∧ ∀ {β : Type} (k : Int → List Sp → Option β), zqez a b k = cond (decide (4096 < out.length)) (k 5 []) (k 0 out) := by
  have la := ha.len
  have lb := hb.len
  obtain ⟨h1, h2⟩ := commonS_ok (a.length + b.length) a b (-1) (-1) (Nat.le_refl _) ha.nf hb.nf
  refine ⟨commonS (a.length + b.length) a b, ⟨h2.mono (by omega), h1⟩, fun k => ?_⟩
  show zqew zqdw a b k = _
  unfold zqew
  show zqdt zq5t zq1e a b _ = _
  unfold zqdt
  refine (valid_eq a _).trans ?_
  rw [validB_iff.2 ha]
  refine c_f.trans ?_
  refine (valid_eq b _).trans ?_
  rw [validB_iff.2 hb]
  refine c_f.trans ?_
  refine (common_eq (by omega) (by omega) _).trans ?_
  generalize commonS (a.length + b.length) a b = out
  have : decide ((4096 : Int) < (out.length : Int)) = decide (4096 < out.length) := by
    by_cases h : 4096 < out.length
    · rw [decide_eq_true h, decide_eq_true (by omega)]
    · rw [decide_eq_false h, decide_eq_false (by omega)]
  rw [← this]

theorem minus_ok {a b : List Sp} (ha : VS a) (hb : VS b) :
    ∃ out, (NFa (-1) out ∧ (∀ x, hasS out x ↔ hasS a x ∧ ¬ hasS b x)) ∧ ∀ {β : Type} (k : Int → List Sp → Option β), zqf6 a b k = cond (decide (4096 < out.length)) (k 5 []) (k 0 out) := by
  have la := ha.len
  have lb := hb.len
  obtain ⟨h1, h2⟩ := withoutS_ok hb.nf a (-1) ha.nf
  refine ⟨withoutS a b, ⟨h2, h1⟩, fun k => ?_⟩
  show zqf3 zqe3 a b k = _
  unfold zqf3
  show zqe0 zq1e zq6x a b _ = _
  unfold zqe0
  refine (valid_eq a _).trans ?_
  rw [validB_iff.2 ha]
  refine c_f.trans ?_
  refine (valid_eq b _).trans ?_
  rw [validB_iff.2 hb]
  refine c_f.trans ?_
  refine (without_eq (by omega) (by omega) ha.nf (fun t ht => (hb.range t ht).2.1) _).trans ?_
  generalize withoutS a b = out
  have : decide ((4096 : Int) < (out.length : Int)) = decide (4096 < out.length) := by
    by_cases h : 4096 < out.length
    · rw [decide_eq_true h, decide_eq_true (by omega)]
    · rw [decide_eq_false h, decide_eq_false (by omega)]
  rw [← this]

theorem clip_ok {a : List Sp} (ha : VS a) {lo hi : Int} (h : lo < hi) :
    ∃ out, (NFa (-1) out ∧ (∀ x, hasS out x ↔ hasS a x ∧ (lo ≤ x ∧ x < hi))) ∧ ∀ {β : Type} (k : Int → List Sp → Option β), zqab a lo hi k = k 0 out := by
  have la := ha.len
  obtain ⟨h1, h2⟩ := commonS_ok (a.length + 1) a [(lo, hi)] (-1) (lo - 1) (Nat.le_refl _) ha.nf ⟨by simp only; omega, h, trivial⟩
  refine ⟨commonS (a.length + 1) a [(lo, hi)], ⟨h2.mono (by omega), fun x => ?_⟩, fun k => ?_⟩
  · rw [h1, hasS_cons]
    have : ¬ hasS [] x := hasS_nil
    simp only [this, or_false]
  · show zqa8 zq5t zq1e a lo hi k = _
    unfold zqa8
    refine (valid_eq a _).trans ?_
    rw [validB_iff.2 ha]
    refine c_f.trans ?_
    refine (c_neg (by omega)).trans ?_
    exact common_eq (by omega) (by simp) _

/-! ### Equal lists -/
theorem same_loop {β : Type} (k1 : zqg β) (k2 : zqh β) (l : List Sp) (hl : l.length ≤ 1000000000000) : ∀ (r : List Sp) (j N : Nat), l.drop j = r → r.length < N →
    zqr N k1 k2 l l (l.length : Int) (j : Int) = k2 ()
  | [], j, 0, _, h => absurd h (Nat.not_lt_zero _)
  | _ :: _, j, 0, _, h => absurd h (Nat.not_lt_zero _)
  | [], j, N + 1, hd, h => by
    have : l.length ≤ j := by simpa using hd
    rw [zqs]
    unfold zql
    exact c_neg (by omega)
  | s :: r, j, N + 1, hd, h => by
    obtain ⟨hj, hg, hd'⟩ := drop_cons hd ((0 : Int), (0 : Int))
    simp only [List.length_cons] at h
    have ew : IntKind.i64.wrap ((j : Int) + 1) = ((j + 1 : Nat) : Int) := by rw [wr (by omega) (by omega)]; omega
    rw [zqs]
    unfold zql
    simp only [Int.toNat_natCast, hg, ew]
    refine (c_pos (by omega)).trans ?_
    refine (c_inb (by omega)).trans ?_
    refine (c_inb (by omega)).trans ?_
    have hb : (!(decide True && (decide True && true))) = false := rfl
    rw [hb]
    refine c_f.trans ?_
    exact same_loop k1 k2 l hl r (j + 1) N hd' (by omega)

theorem same_eq {a b : List Sp} (hl : a.length ≤ 1000000000000) (h : a = b) {β : Type} (k : Bool → Option β) : zqv a b k = k true := by
  subst h
  show zqo zqt a a k = _
  unfold zqo
  refine (c_npos rfl).trans ?_
  have e := same_loop (fun b => k b) (fun _ => k true) a hl a 0 fuel rfl (lt_fuel (by omega))
  rw [Int.natCast_zero] at e
  exact e

/-! ### Sets of small numbers -/
structure S80 (l : List Sp) : Prop where
  nf : NFa (-1) l
  le : ∀ s ∈ l, s.2 ≤ 80
theorem nf_len {M : Int} : ∀ {l : List Sp} {a : Int}, NFa a l → (∀ s ∈ l, s.2 ≤ M) → a ≤ M → 2 * (l.length : Int) ≤ M - a
  | [], a, _, _, h => by simp; omega
  | s :: l, a, ⟨h1, h2, h3⟩, hm, h => by
    have := nf_len h3 (fun t ht => hm t (by simp [ht])) (hm s (by simp))
    simp only [List.length_cons]
    omega
theorem S80.len {l : List Sp} (h : S80 l) : l.length ≤ 40 := by
  have := nf_len h.nf h.le (by omega)
  omega
theorem S80.lt {l : List Sp} (h : S80 l) {x : Int} (hx : hasS l x) : 0 ≤ x ∧ x < 80 := by
  have := h.nf.lt hx
  obtain ⟨s, hs, h1, h2⟩ := hx
  have := h.le s hs
  omega
theorem S80.of {l : List Sp} (h : NFa (-1) l) (hx : ∀ x, hasS l x → x < 80) : S80 l := ⟨h, below_of_has h hx⟩

/-! ### A set made by the dice -/
theorem set_loop {d : Dice} : ∀ (i N : Nat) (d : Dice) (l : List Sp), i < N → DiceOk d → (∀ s ∈ l, 0 ≤ s.1 ∧ s.1 < s.2 ∧ s.2 ≤ 80) → l.length + i ≤ 100 →
    ∃ d' l', (DiceOk d' ∧ (∀ s ∈ l', 0 ≤ s.1 ∧ s.1 < s.2 ∧ s.2 ≤ 80) ∧ l'.length ≤ l.length + i) ∧ ∀ {β : Type} (k1 : zqee β), zqeo N k1 (i : Int) d.1 d.2 l = k1 d'.1 d'.2 l'
  | i, 0, _, _, h, _, _, _ => absurd h (Nat.not_lt_zero _)
  | 0, N + 1, d, l, h, hd, hl, hlen => by
    refine ⟨d, l, ⟨hd, hl, by omega⟩, fun k1 => ?_⟩
    rw [zqep]
    unfold zqei
    exact c_neg (by omega)
  | i + 1, N + 1, d, l, h, hd, hl, hlen => by
    obtain ⟨x, d1, x0, x1, hd1, f1⟩ := next_ok (n := 60) hd (by omega)
    obtain ⟨y, d2, y0, y1, hd2, f2⟩ := next_ok (n := 9) hd1 (by omega)
    have ew : IntKind.i64.wrap (((i + 1 : Nat) : Int) - 1) = (i : Int) := by rw [wr (by omega) (by omega)]; omega
    have e1 : IntKind.i64.wrap (x + y) = x + y := wr (by omega) (by omega)
    have e2 : IntKind.i64.wrap (x + y - 1) = x + y - 1 := wr (by omega) (by omega)
    have hsp : ∀ {β : Type} (k : Sp → Dice → Option β), zq4v d k = k (x, x + y - 1) d2 := by
      intro β k
      show zq4s zq34 d k = _
      unfold zq4s
      refine (f1 _).trans ?_
      refine (f2 _).trans ?_
      rw [e1, e2]
    by_cases hc : x < x + y - 1
    · obtain ⟨d', l', hq, hf⟩ := set_loop (d := d) i N d2 (l ++ [(x, x + y - 1)]) (by omega) hd2 (by
        intro s hs
        rcases List.mem_append.1 hs with q | q
        · exact hl s q
        · simp only [List.mem_singleton] at q
          rw [q]
          simp only
          omega) (by simp; omega)
      refine ⟨d', l', ⟨hq.1, hq.2.1, by have := hq.2.2; simp at this; omega⟩, fun k1 => ?_⟩
      rw [zqep]
      unfold zqei
      refine (c_pos (by omega)).trans ?_
      refine (hsp _).trans ?_
      refine (c_pos hc).trans ?_
      refine (c_room (by simp; omega)).trans ?_
      rw [ew]
      exact hf k1
    · obtain ⟨d', l', hq, hf⟩ := set_loop (d := d) i N d2 l (by omega) hd2 hl (by omega)
      refine ⟨d', l', ⟨hq.1, hq.2.1, by have := hq.2.2; omega⟩, fun k1 => ?_⟩
      rw [zqep]
      unfold zqei
      refine (c_pos (by omega)).trans ?_
      refine (hsp _).trans ?_
      refine (c_neg hc).trans ?_
      rw [ew]
      exact hf k1

theorem set_ok {d : Dice} (hd : DiceOk d) : ∃ s d', (S80 s ∧ DiceOk d') ∧ ∀ {β : Type} (k : Dice → List Sp → Option β), zqes d k = k d' s := by
  obtain ⟨n, d1, n0, n1, hd1, f1⟩ := next_ok (n := 7) hd (by omega)
  obtain ⟨d2, l, ⟨hd2, hl, hlen⟩, f2⟩ := set_loop (d := d) n.toNat fuel d1 [] (lt_fuel (by omega)) hd1 (by simp) (by simp; omega)
  have hn : ((n.toNat : Nat) : Int) = n := Int.toNat_of_nonneg n0
  rw [hn] at f2
  simp only [List.length_nil, Nat.zero_add] at hlen
  obtain ⟨out, ⟨h1, h2⟩, f3⟩ := ref_normal (l := l) (by omega) (fun s hs _ => by have := hl s hs; omega)
  refine ⟨out, d2, ⟨S80.of h1 fun x hx => ?_, hd2⟩, fun k => ?_⟩
  · obtain ⟨s, hs, _, h4⟩ := (h2 x).1 hx
    have := hl s hs
    omega
  · show zqel zq34 zqbw zqeq d k = _
    unfold zqel
    refine (f1 _).trans ?_
    refine (f2 _).trans ?_
    exact f3 _

/-! ### The example -/
theorem sane03 {β : Type} (k : Bool → Option β) : zqkx k = k true := by
  obtain ⟨n, ⟨n1, n2⟩, f1⟩ := normal_ok (l := [(5, 9), (1, 3), (3, 4), (7, 6)]) (by simp) (by
    intro s hs
    simp only [List.mem_cons, List.not_mem_nil, or_false] at hs
    rcases hs with rfl | rfl | rfl | rfl <;> rfl)
  have hn : n = [(1, 4), (5, 9)] := by
    refine n1.uniq (b := -1) ⟨by decide, by decide, by decide, by decide, trivial⟩ fun x => ?_
    rw [n2]
    simp only [hasS_cons, hasS_nil, or_false]
    omega
  have v1 : VS [(0, 10)] := ⟨by simp, ⟨by decide, by decide, trivial⟩, by simp⟩
  have v2 : VS [(2, 3), (5, 20)] := ⟨by simp, ⟨by decide, by decide, by decide, by decide, trivial⟩, by simp⟩
  obtain ⟨m, ⟨m1, m2⟩, f2⟩ := minus_ok v1 v2
  have hm : m = [(0, 2), (3, 5)] := by
    refine m1.uniq (b := -1) ⟨by decide, by decide, by decide, by decide, trivial⟩ fun x => ?_
    rw [m2]
    simp only [hasS_cons, hasS_nil, or_false]
    omega
  subst hn hm
  show zqku zqv zqa4 zqf6 zqkj k = _
  unfold zqku
  refine (f1 _).trans ?_
  refine (f2 _).trans ?_
  refine (c_neg (by simp)).trans ?_
  refine (c_pos rfl).trans ?_
  refine (c_pos rfl).trans ?_
  refine (same_eq (by simp) rfl _).trans ?_
  refine c_t.trans ?_
  refine (same_eq (by simp) rfl _).trans ?_
  refine c_t.trans ?_
  refine (gap_eq _ _ _).trans ?_
  rw [validB_iff.2 v1, if_pos rfl]
  rfl
end
end Go.Lift

/- The reference's functions on sets. -/
namespace Go.Lift
open Go.RowKit Go.IntWalk
noncomputable section
set_option linter.unusedVariables false
set_option linter.unusedSimpArgs false
set_option maxRecDepth 10000

section
variable {β : Type}

theorem rvalid_loop (l : List Sp) (hl : l.length ≤ 4096) (k1 : zq20 β) (k2 : zq21 β) : ∀ (r : List Sp) (j N : Nat) (p : Int), l.drop j = r → r.length < N → -1 ≤ p → (j = 0 → p = -1) → (0 < j → p = (l.getD (j - 1) ((0 : Int), (0 : Int))).2) →
    zq2b N k1 k2 l (j : Int) = cond (vB p r) (k2 ()) (k1 false)
  | [], j, 0, _, _, h, _, _, _ => absurd h (Nat.not_lt_zero _)
  | _ :: _, j, 0, _, _, h, _, _, _ => absurd h (Nat.not_lt_zero _)
  | [], j, N + 1, p, hd, h, _, _, _ => by
    have : l.length ≤ j := by simpa using hd
    rw [zq2c]
    unfold zq25
    exact c_neg (by omega)
  | s :: r, j, N + 1, p, hd, h, hp, hp0, hp1 => by
    obtain ⟨hj, hg, hd'⟩ := drop_cons hd ((0 : Int), (0 : Int))
    simp only [List.length_cons] at h
    have ew : IntKind.i64.wrap ((j : Int) + 1) = ((j + 1 : Nat) : Int) := by rw [wr (by omega) (by omega)]; omega
    rw [zq2c]
    unfold zq25
    simp only [Int.toNat_natCast, hg]
    refine (c_pos (by omega)).trans ?_
    refine (c_inb (by omega)).trans ?_
    unfold vB
    by_cases h1 : s.1 < 0
    · refine (c_pos h1).trans ?_
      rw [decide_eq_false (show ¬ p < s.1 by omega), Bool.false_and]
      rfl
    refine (c_neg h1).trans ?_
    refine (c_inb (by omega)).trans ?_
    refine (c_inb (by omega)).trans ?_
    by_cases h2 : s.2 ≤ s.1
    · refine (c_pos h2).trans ?_
      rw [decide_eq_false (show ¬ s.1 < s.2 by omega), Bool.false_and, Bool.and_false]
      rfl
    refine (c_neg h2).trans ?_
    refine (c_inb (by omega)).trans ?_
    by_cases h3 : 8589934592 < s.2
    · refine (c_pos h3).trans ?_
      rw [decide_eq_false (show ¬ s.2 ≤ 8589934592 by omega), Bool.false_and, Bool.and_false, Bool.and_false]
      rfl
    refine (c_neg h3).trans ?_
    rw [decide_eq_true (show s.1 < s.2 by omega), decide_eq_true (show s.2 ≤ 8589934592 by omega), Bool.true_and, Bool.true_and]
    have ih := rvalid_loop l hl k1 k2 r (j + 1) N s.2 hd' (by omega) (by omega) (by omega) (fun _ => by rw [Nat.add_sub_cancel, hg])
    by_cases hj0 : j = 0
    · have := hp0 hj0
      refine (c_neg (by omega)).trans ?_
      rw [decide_eq_true (show p < s.1 by omega), Bool.true_and, ew]
      exact ih
    · refine (c_pos (by omega)).trans ?_
      have e2 : IntKind.i64.wrap ((j : Int) - 1) = ((j - 1 : Nat) : Int) := by rw [wr (by omega) (by omega)]; omega
      rw [e2]
      refine (c_inb (by omega)).trans ?_
      refine (c_inb (by omega)).trans ?_
      simp only [Int.toNat_natCast]
      have hp2 := hp1 (by omega)
      by_cases h4 : s.1 ≤ p
      · refine (c_pos (by rw [← hp2]; exact h4)).trans ?_
        rw [decide_eq_false (show ¬ p < s.1 by omega), Bool.false_and]
        rfl
      · refine (c_neg (by rw [← hp2]; exact h4)).trans ?_
        rw [decide_eq_true (show p < s.1 by omega), Bool.true_and, ew]
        exact ih

theorem rvalid_eq (l : List Sp) (k : Bool → Option β) : zq2f l k = k (validB l) := by
  show zq28 zq2d l k = _
  unfold zq28 validB
  by_cases h : l.length ≤ 4096
  · refine (c_neg (by omega)).trans ?_
    rw [decide_eq_true h, Bool.true_and]
    refine (rvalid_loop l h _ _ l 0 fuel (-1) rfl (lt_fuel (by omega)) (by omega) (fun _ => rfl) (fun h => by omega)).trans ?_
    cases vB (-1) l <;> rfl
  · refine (c_pos (by omega)).trans ?_
    rw [decide_eq_false h, Bool.false_and]

/-! ### Length -/
theorem rlength_loop (k1 : zq2j β) (l : List Sp) (hv : validB l = true) (hl : l.length ≤ 4096) : ∀ (r : List Sp) (j N : Nat) (n c : Int), l.drop j = r → r.length < N → 0 ≤ n → NFa c r → -1 ≤ c → (∀ s ∈ r, s.2 ≤ 8589934592) → n ≤ 1 + c →
    zq2t N k1 l n (j : Int) = k1 (n + lengthS r)
  | [], j, 0, _, _, _, h, _, _, _, _, _ => absurd h (Nat.not_lt_zero _)
  | _ :: _, j, 0, _, _, _, h, _, _, _, _, _ => absurd h (Nat.not_lt_zero _)
  | [], j, N + 1, n, c, hd, h, _, _, _, _, _ => by
    have : l.length ≤ j := by simpa using hd
    rw [zq2u]
    unfold zq2n
    refine (c_neg (by omega)).trans ?_
    simp [lengthS]
  | s :: r, j, N + 1, n, c, hd, h, hn0, ⟨q1, q2, q3⟩, hc, hm, hn => by
    obtain ⟨hj, hg, hd'⟩ := drop_cons hd ((0 : Int), (0 : Int))
    simp only [List.length_cons] at h
    have ew : IntKind.i64.wrap ((j : Int) + 1) = ((j + 1 : Nat) : Int) := by rw [wr (by omega) (by omega)]; omega
    have hs := hm s (by simp)
    rw [zq2u]
    unfold zq2n
    simp only [Int.toNat_natCast, hg]
    refine (c_pos (by omega)).trans ?_
    refine (rvalid_eq _ _).trans ?_
    rw [hv]
    refine c_t.trans ?_
    refine (c_inb (by omega)).trans ?_
    refine (c_inb (by omega)).trans ?_
    rw [wr (x := s.2 - s.1) (by omega) (by omega), wr (x := n + (s.2 - s.1)) (by omega) (by omega), ew]
    refine (rlength_loop k1 l hv hl r (j + 1) N (n + (s.2 - s.1)) s.2 hd' (by omega) (by omega) q3 (by omega) (fun t ht => hm t (by simp [ht])) (by omega)).trans ?_
    rw [lengthS_cons]
    congr 1
    omega

theorem rlength_eq (l : List Sp) (k : Int → Option β) : zq2x l k = k (if validB l then lengthS l else 0) := by
  show zq2q zq2v l k = _
  unfold zq2q
  cases hv : validB l with
  | true =>
    have h := validB_iff.1 hv
    have hlen := h.len
    have e := rlength_loop (fun n => k n) l hv h.len l 0 fuel 0 (-1) rfl (lt_fuel (by omega)) (by omega) h.nf (by omega) h.le (by omega)
    rw [Int.natCast_zero, Int.zero_add] at e
    rw [if_pos rfl]
    exact e
  | false =>
    rw [if_neg (by simp)]
    obtain ⟨N, hN⟩ : ∃ N, fuel = N + 1 := ⟨18446744073709551615, rfl⟩
    show zq2t fuel (fun n => k n) l 0 0 = _
    rw [hN, zq2u]
    unfold zq2n
    by_cases h0 : (0 : Int) < (l.length : Int)
    · refine (c_pos h0).trans ?_
      refine (rvalid_eq _ _).trans ?_
      rw [hv]
      exact c_f
    · exact c_neg h0

/-! ### First, Gap -/
theorem rfirst_loop (x : Int) (k1 : zq38 β) (k2 : zq39 β) (l : List Sp) (hv : validB l = true) (hl : l.length ≤ 4096) : ∀ (r : List Sp) (j N : Nat), l.drop j = r → r.length < N →
    zq3j N k1 k2 l x (j : Int) = (match firstS x r with | some n => k1 n true | none => k2 ())
  | [], j, 0, _, h => absurd h (Nat.not_lt_zero _)
  | _ :: _, j, 0, _, h => absurd h (Nat.not_lt_zero _)
  | [], j, N + 1, hd, h => by
    have : l.length ≤ j := by simpa using hd
    rw [zq3k]
    unfold zq3d
    exact c_neg (by omega)
  | s :: r, j, N + 1, hd, h => by
    obtain ⟨hj, hg, hd'⟩ := drop_cons hd ((0 : Int), (0 : Int))
    simp only [List.length_cons] at h
    have ew : IntKind.i64.wrap ((j : Int) + 1) = ((j + 1 : Nat) : Int) := by rw [wr (by omega) (by omega)]; omega
    rw [zq3k]
    unfold zq3d
    simp only [Int.toNat_natCast, hg]
    refine (c_pos (by omega)).trans ?_
    refine (rvalid_eq _ _).trans ?_
    rw [hv]
    refine c_t.trans ?_
    refine (c_inb (by omega)).trans ?_
    unfold firstS
    by_cases hx : x < s.2
    · refine (c_pos hx).trans ?_
      refine (c_inb (by omega)).trans ?_
      rw [if_pos hx]
      have : (if x > s.1 then x else s.1) = max x s.1 := by split <;> omega
      rw [this]
    · refine (c_neg hx).trans ?_
      rw [if_neg hx, ew]
      exact rfirst_loop x k1 k2 l hv hl r (j + 1) N hd' (by omega)

theorem rfirst_eq (l : List Sp) (x : Int) (k : Int → Bool → Option β) : zq3n l x k = if validB l then (match firstS x l with | some n => k n true | none => k 0 false) else k 0 false := by
  show zq3g zq3l l x k = _
  unfold zq3g
  cases hv : validB l with
  | true =>
    have hlen := (validB_iff.1 hv).len
    have e := rfirst_loop x (fun n b => k n b) (fun _ => k 0 false) l hv hlen l 0 fuel rfl (lt_fuel (by omega))
    rw [Int.natCast_zero] at e
    rw [if_pos rfl]
    exact e
  | false =>
    rw [if_neg (by simp)]
    obtain ⟨N, hN⟩ : ∃ N, fuel = N + 1 := ⟨18446744073709551615, rfl⟩
    show zq3j fuel (fun n b => k n b) (fun _ => k 0 false) l x 0 = _
    rw [hN, zq3k]
    unfold zq3d
    by_cases h0 : (0 : Int) < (l.length : Int)
    · refine (c_pos h0).trans ?_
      refine (rvalid_eq _ _).trans ?_
      rw [hv]
      exact c_f
    · exact c_neg h0

theorem rgap_loop (x : Int) (k1 : zq3r β) (k2 : zq3s β) (l : List Sp) (hv : validB l = true) (hl : l.length ≤ 4096) (hk : ∀ y, k1 y = k2 y) : ∀ (r : List Sp) (j N : Nat), l.drop j = r → r.length < N →
    zq42 N k1 k2 l x (j : Int) = k1 (gapS x r)
  | [], j, 0, _, h => absurd h (Nat.not_lt_zero _)
  | _ :: _, j, 0, _, h => absurd h (Nat.not_lt_zero _)
  | [], j, N + 1, hd, h => by
    have : l.length ≤ j := by simpa using hd
    rw [zq43]
    unfold zq3w
    exact (c_neg (by omega)).trans (hk x).symm
  | s :: r, j, N + 1, hd, h => by
    obtain ⟨hj, hg, hd'⟩ := drop_cons hd ((0 : Int), (0 : Int))
    simp only [List.length_cons] at h
    have ew : IntKind.i64.wrap ((j : Int) + 1) = ((j + 1 : Nat) : Int) := by rw [wr (by omega) (by omega)]; omega
    rw [zq43]
    unfold zq3w
    simp only [Int.toNat_natCast, hg]
    refine (c_pos (by omega)).trans ?_
    refine (rvalid_eq _ _).trans ?_
    rw [hv]
    refine c_t.trans ?_
    refine (c_inb (by omega)).trans ?_
    unfold gapS
    rw [ew]
    have ih := rgap_loop x k1 k2 l hv hl hk r (j + 1) N hd' (by omega)
    by_cases h1 : s.1 ≤ x
    · refine (c_pos h1).trans ?_
      refine (c_inb (by omega)).trans ?_
      by_cases h2 : x < s.2
      · refine (c_pos h2).trans ?_
        refine (c_inb (by omega)).trans ?_
        rw [if_pos ⟨h1, h2⟩]
      · refine (c_neg h2).trans ?_
        rw [if_neg (fun q => h2 q.2)]
        exact ih
    · refine (c_neg h1).trans ?_
      rw [if_neg (fun q => h1 q.1)]
      exact ih

theorem rgap_eq (l : List Sp) (x : Int) (k : Int → Option β) : zq46 l x k = k (if validB l then gapS x l else x) := by
  show zq3z zq44 l x k = _
  unfold zq3z
  cases hv : validB l with
  | true =>
    have hlen := (validB_iff.1 hv).len
    have e := rgap_loop x (fun y => k y) (fun y => k y) l hv hlen (fun _ => rfl) l 0 fuel rfl (lt_fuel (by omega))
    rw [Int.natCast_zero] at e
    rw [if_pos rfl]
    exact e
  | false =>
    rw [if_neg (by simp)]
    obtain ⟨N, hN⟩ : ∃ N, fuel = N + 1 := ⟨18446744073709551615, rfl⟩
    show zq42 fuel (fun y => k y) (fun y => k y) l x 0 = _
    rw [hN, zq43]
    unfold zq3w
    by_cases h0 : (0 : Int) < (l.length : Int)
    · refine (c_pos h0).trans ?_
      refine (rvalid_eq _ _).trans ?_
      rw [hv]
      exact c_f
    · exact c_neg h0
end

/-! ### Has, by halves -/
theorem nf_mono {l : List Sp} {a : Int} (h : NFa a l) : ∀ i j, i < j → (hj : j < l.length) → (l.getD i ((0 : Int), (0 : Int))).2 < (l.getD j ((0 : Int), (0 : Int))).1 := by
  induction l generalizing a with
  | nil => intro i j _ hj; simp at hj
  | cons s l ih =>
    obtain ⟨h1, h2, h3⟩ := h
    intro i j hij hj
    obtain ⟨j, rfl⟩ : ∃ j', j = j' + 1 := ⟨j - 1, by omega⟩
    have hj' : j < l.length := by simpa using hj
    cases i with
    | zero =>
      have : l.getD j ((0 : Int), (0 : Int)) ∈ l := by simp [List.getD, hj']
      have := (h3.mem _ this).1
      simpa using this
    | succ i =>
      have := ih h3 i j (by omega) hj'
      simpa using this

theorem rhas_loop {l : List Sp} (hV : VS l) {x : Int} : ∀ (m N lo hi : Nat), hi - lo ≤ m → m < N → lo ≤ hi → hi ≤ l.length → (∀ i, i < lo → (l.getD i ((0 : Int), (0 : Int))).2 ≤ x) → (∀ i, hi ≤ i → i < l.length → x < (l.getD i ((0 : Int), (0 : Int))).2) →
    ∃ p : Nat, (p ≤ l.length ∧ (∀ i, i < p → (l.getD i ((0 : Int), (0 : Int))).2 ≤ x) ∧ (∀ i, p ≤ i → i < l.length → x < (l.getD i ((0 : Int), (0 : Int))).2)) ∧ ∀ {β : Type} (k1 : zq8d β), zq8n N k1 l x (lo : Int) (hi : Int) = k1 l x (p : Int)
  | m, 0, _, _, _, h, _, _, _, _ => absurd h (Nat.not_lt_zero _)
  | 0, N + 1, lo, hi, hm, h, hle, hh, h1, h2 => by
    refine ⟨lo, ⟨by omega, h1, fun i hi' => h2 i (by omega)⟩, fun k1 => ?_⟩
    rw [zq8o]
    unfold zq8h
    exact c_neg (by omega)
  | m + 1, N + 1, lo, hi, hm, h, hle, hh, h1, h2 => by
    have hlen := hV.len
    by_cases hlt : lo < hi
    · have e1 : IntKind.i64.wrap ((lo : Int) + (hi : Int)) = ((lo + hi : Nat) : Int) := by rw [wr (by omega) (by omega)]; omega
      have e2 : IntKind.i64.wrap (Int.tdiv ((lo + hi : Nat) : Int) 2) = (((lo + hi) / 2 : Nat) : Int) := by
        have : Int.tdiv ((lo + hi : Nat) : Int) 2 = (((lo + hi) / 2 : Nat) : Int) := rfl
        rw [this, wr (by omega) (by omega)]
      have hmid : (lo + hi) / 2 < hi ∧ lo ≤ (lo + hi) / 2 := by omega
      generalize hM : (lo + hi) / 2 = M at *
      have e3 : IntKind.i64.wrap ((M : Int) + 1) = ((M + 1 : Nat) : Int) := by rw [wr (by omega) (by omega)]; omega
      have hstep : ∀ {β : Type} (k1 : zq8d β), zq8n (N + 1) k1 l x (lo : Int) (hi : Int) = cond (decide ((l.getD M ((0 : Int), (0 : Int))).2 ≤ x)) (zq8n N k1 l x ((M + 1 : Nat) : Int) (hi : Int)) (zq8n N k1 l x (lo : Int) (M : Int)) := by
        intro β k1
        rw [zq8o]
        unfold zq8h
        simp only [e1, e2, e3, Int.toNat_natCast]
        refine (c_pos (by omega)).trans ?_
        refine (c_nneg (by omega)).trans ?_
        exact c_inb (by omega)
      by_cases hc : (l.getD M ((0 : Int), (0 : Int))).2 ≤ x
      · obtain ⟨p, hp, hf⟩ := rhas_loop hV (x := x) m N (M + 1) hi (by omega) (by omega) (by omega) hh (fun i hi' => by
          by_cases hiM : i = M
          · rw [hiM]; exact hc
          · have hlt2 := nf_mono hV.nf i M (by omega) (by omega)
            have hne := (hV.range (l.getD M ((0 : Int), (0 : Int))) (by simp [List.getD, show M < l.length by omega])).2.1
            omega) h2
        exact ⟨p, hp, fun k1 => (hstep k1).trans ((c_pos hc).trans (hf k1))⟩
      · obtain ⟨p, hp, hf⟩ := rhas_loop hV (x := x) m N lo M (by omega) (by omega) (by omega) (by omega) h1 (fun i hi' hil => by
          by_cases hiM : i = M
          · rw [hiM]; omega
          · have hlt2 := nf_mono hV.nf M i (by omega) hil
            have hne := (hV.range (l.getD i ((0 : Int), (0 : Int))) (by simp [List.getD, hil])).2.1
            omega)
        exact ⟨p, hp, fun k1 => (hstep k1).trans ((c_neg hc).trans (hf k1))⟩
    · refine ⟨lo, ⟨by omega, h1, fun i hi' => h2 i (by omega)⟩, fun k1 => ?_⟩
      rw [zq8o]
      unfold zq8h
      exact c_neg (by omega)

theorem rhas_eq {l : List Sp} (hV : VS l) (x : Int) {β : Type} (k : Bool → Option β) : zq8r l x k = k (hasB l x) := by
  have hlen := hV.len
  obtain ⟨p, ⟨p1, p2, p3⟩, hf⟩ := rhas_loop hV (x := x) l.length fuel 0 l.length (by omega) (lt_fuel (by omega)) (by omega) (Nat.le_refl _) (fun i hi => by omega) (fun i h1 h2 => by omega)
  rw [Int.natCast_zero] at hf
  show zq8k zq8p l x k = _
  unfold zq8k
  refine (hf _).trans ?_
  simp only [Int.toNat_natCast]
  by_cases hp : p < l.length
  · refine (c_pos (by omega)).trans ?_
    refine (c_inb (by omega)).trans ?_
    congr 1
    rw [Bool.eq_iff_iff, decide_eq_true_eq, hasB_iff]
    have hm : l.getD p ((0 : Int), (0 : Int)) ∈ l := by simp [List.getD, hp]
    have hx := p3 p (Nat.le_refl _) hp
    constructor
    · intro h
      exact ⟨_, hm, h, hx⟩
    · rintro ⟨s, hs, h1, h2⟩
      obtain ⟨i, hi, he⟩ := List.getElem_of_mem hs
      have hg : l.getD i ((0 : Int), (0 : Int)) = s := by simp [List.getD, hi, he]
      by_cases hip : i < p
      · have := p2 i hip
        rw [hg] at this
        omega
      · by_cases hie : i = p
        · rw [← hie, hg]; exact h1
        · have := nf_mono hV.nf p i (by omega) hi
          rw [hg] at this
          omega
  · refine (c_neg (by omega)).trans ?_
    congr 1
    symm
    cases hb : hasB l x with
    | false => rfl
    | true =>
      obtain ⟨s, hs, h1, h2⟩ := hasB_iff.1 hb
      obtain ⟨i, hi, he⟩ := List.getElem_of_mem hs
      have hg : l.getD i ((0 : Int), (0 : Int)) = s := by simp [List.getD, hi, he]
      have := p2 i (by omega)
      rw [hg] at this
      omega

theorem rHas_eq (l : List Sp) (x : Int) {β : Type} (k : Bool → Option β) : zqc3 l x k = k (validB l && hasB l x) := by
  show zqc0 zq2f zq8r l x k = _
  unfold zqc0
  refine (rvalid_eq _ _).trans ?_
  cases hv : validB l with
  | false => rfl
  | true =>
    refine c_t.trans ?_
    exact rhas_eq (validB_iff.1 hv) x _

/-! ### Clip -/
def clip1 (lo hi : Int) (s : Sp) : List Sp := if max s.1 lo < min s.2 hi then [(max s.1 lo, min s.2 hi)] else []
def clipS (lo hi : Int) (l : List Sp) : List Sp := l.flatMap (clip1 lo hi)
theorem clipS_ok {lo hi : Int} : ∀ {l : List Sp} {a : Int}, NFa a l → NFa a (clipS lo hi l) ∧ ∀ x, hasS (clipS lo hi l) x ↔ hasS l x ∧ (lo ≤ x ∧ x < hi)
  | [], a, _ => ⟨trivial, fun x => ⟨fun h => absurd h hasS_nil, fun h => absurd h.1 hasS_nil⟩⟩
  | s :: l, a, ⟨h1, h2, h3⟩ => by
    obtain ⟨i1, i2⟩ := clipS_ok (lo := lo) (hi := hi) h3
    have e : clipS lo hi (s :: l) = clip1 lo hi s ++ clipS lo hi l := rfl
    rw [e]
    unfold clip1
    by_cases hc : max s.1 lo < min s.2 hi
    · rw [if_pos hc]
      refine ⟨⟨by simp only; omega, hc, i1.mono (by simp only; omega)⟩, fun x => ?_⟩
      rw [List.singleton_append, hasS_cons, hasS_cons, i2]
      constructor
      · rintro (q | q)
        · exact ⟨.inl (by omega), by omega⟩
        · exact ⟨.inr q.1, q.2⟩
      · rintro ⟨q | q, r⟩
        · exact .inl (by simp only; omega)
        · exact .inr ⟨q, r⟩
    · rw [if_neg hc, List.nil_append]
      refine ⟨i1.mono (by omega), fun x => ?_⟩
      rw [hasS_cons, i2]
      constructor
      · exact fun q => ⟨.inr q.1, q.2⟩
      · rintro ⟨q | q, r⟩
        · omega
        · exact ⟨q, r⟩

theorem rclip_loop {β : Type} (k1 : zq4a β) (l : List Sp) (hl : l.length ≤ 4096) (lo hi : Int) : ∀ (r : List Sp) (j N : Nat) (out : List Sp), l.drop j = r → r.length < N → out.length + r.length ≤ 10000 →
    zq4k N k1 l lo hi (j : Int) out = k1 (out ++ clipS lo hi r)
  | [], j, 0, _, _, h, _ => absurd h (Nat.not_lt_zero _)
  | _ :: _, j, 0, _, _, h, _ => absurd h (Nat.not_lt_zero _)
  | [], j, N + 1, out, hd, h, _ => by
    have : l.length ≤ j := by simpa using hd
    rw [zq4l]
    unfold zq4e
    refine (c_neg (by omega)).trans ?_
    simp [clipS]
  | s :: r, j, N + 1, out, hd, h, ho => by
    obtain ⟨hj, hg, hd'⟩ := drop_cons hd ((0 : Int), (0 : Int))
    simp only [List.length_cons] at h ho
    have ew : IntKind.i64.wrap ((j : Int) + 1) = ((j + 1 : Nat) : Int) := by rw [wr (by omega) (by omega)]; omega
    have e1 : (if lo > s.1 then lo else s.1) = max s.1 lo := by split <;> omega
    have e2 : (if hi < s.2 then hi else s.2) = min s.2 hi := by split <;> omega
    have e : clipS lo hi (s :: r) = clip1 lo hi s ++ clipS lo hi r := rfl
    rw [zq4l]
    unfold zq4e
    simp only [Int.toNat_natCast, hg, e1, e2, ew]
    refine (c_pos (by omega)).trans ?_
    refine (c_inb (by omega)).trans ?_
    refine (c_inb (by omega)).trans ?_
    rw [e]
    unfold clip1
    by_cases hc : max s.1 lo < min s.2 hi
    · refine (c_pos hc).trans ?_
      refine (c_room (by simp; omega)).trans ?_
      rw [if_pos hc, ← List.append_assoc]
      exact rclip_loop k1 l hl lo hi r (j + 1) N _ hd' (by omega) (by simp; omega)
    · refine (c_neg hc).trans ?_
      rw [if_neg hc, List.nil_append]
      exact rclip_loop k1 l hl lo hi r (j + 1) N _ hd' (by omega) (by omega)

theorem rclip_eq (l : List Sp) (lo hi : Int) {β : Type} (k : Int → List Sp → Option β) : zq4o l lo hi k = if validB l then k 0 (clipS lo hi l) else k 8 [] := by
  show zq4h zq2f zq4m l lo hi k = _
  unfold zq4h
  refine (rvalid_eq _ _).trans ?_
  cases hv : validB l with
  | false => rfl
  | true =>
    have hlen := (validB_iff.1 hv).len
    have e := rclip_loop (fun out => k 0 out) l hlen lo hi l 0 fuel [] rfl (lt_fuel (by omega)) (by simp; omega)
    rw [Int.natCast_zero, List.nil_append] at e
    rw [if_pos rfl]
    refine c_f.trans ?_
    exact e

/-! ### The normal form, where a span is out of range -/
theorem coll_bad {β : Type} (k1 : zqaf β) (k2 : zqag β) (l : List Sp) (hl : l.length ≤ 4096) : ∀ (r : List Sp) (j N : Nat) (at_ : List Int) (op sh : List (Int × Int)), l.drop j = r → r.length < N → r.any badB = true → at_.length + 2 * r.length ≤ 10000 →
    zqbi N k1 k2 l (j : Int) at_ op sh = k1 1 []
  | [], j, _, _, _, _, _, _, hb, _ => by simp at hb
  | _ :: _, j, 0, _, _, _, _, h, _, _ => absurd h (Nat.not_lt_zero _)
  | s :: r, j, N + 1, at_, op, sh, hd, h, hb, ha => by
    obtain ⟨hj, hg, hd'⟩ := drop_cons hd ((0 : Int), (0 : Int))
    simp only [List.length_cons] at h ha
    have ew : IntKind.i64.wrap ((j : Int) + 1) = ((j + 1 : Nat) : Int) := by rw [wr (by omega) (by omega)]; omega
    have e : (s :: r).any badB = (badB s || r.any badB) := rfl
    rw [e] at hb
    rw [zqbj]
    unfold zqb0
    simp only [Int.toNat_natCast, hg, ew]
    refine (c_pos (by omega)).trans ?_
    refine (c_inb (by omega)).trans ?_
    by_cases h1 : s.1 < s.2
    · refine (c_neg (by omega)).trans ?_
      by_cases h2 : s.1 < 0
      · exact c_pos h2
      · refine (c_neg h2).trans ?_
        by_cases h3 : 8589934592 < s.2
        · exact c_pos h3
        · refine (c_neg h3).trans ?_
          refine (c_room (by simp; omega)).trans ?_
          have hb' : r.any badB = true := by
            have : badB s = false := by
              unfold badB
              rw [decide_eq_false h2, decide_eq_false h3]; simp
            rw [this, Bool.false_or] at hb
            exact hb
          exact coll_bad k1 k2 l hl r (j + 1) N _ _ _ hd' (by omega) hb' (by simp; omega)
    · refine (c_pos (by omega)).trans ?_
      have hb' : r.any badB = true := by
        have : badB s = false := by
          unfold badB
          rw [decide_eq_false h1]; rfl
        rw [this, Bool.false_or] at hb
        exact hb
      exact coll_bad k1 k2 l hl r (j + 1) N _ _ _ hd' (by omega) hb' (by omega)

/-- Both normal forms are one. -/
theorem normals (l : List Sp) (hl : l.length ≤ 4096) : ∃ e out, out.length ≤ 8589934594 ∧ (∀ {β : Type} (k : Int → List Sp → Option β), zqkj l k = k e out) ∧ ∀ {β : Type} (k : Int → List Sp → Option β), zqbw l k = k e out := by
  by_cases hb : l.any badB = true
  · refine ⟨1, [], by simp, fun k => ?_, fun k => ?_⟩
    · rw [normal_s, decide_eq_false (by omega), hb]; rfl
    · show zqbf zq89 zqbk zqbu l k = _
      unfold zqbf
      refine (c_neg (by omega)).trans ?_
      have e := coll_bad (fun t3 t2 => k t3 t2) (fun at_ open_ shut => zq89 at_ (fun r => zqbu (fun out => k 0 out) 0 0 r open_ shut [])) l hl l 0 fuel [] [] [] rfl (lt_fuel (by omega)) hb (by simp; omega)
      rw [Int.natCast_zero] at e
      exact e
  · have hn : ∀ s ∈ l, badB s = false := by
      intro s hs
      cases h : badB s with
      | false => rfl
      | true => exact absurd (List.any_eq_true.2 ⟨s, hs, h⟩) hb
    obtain ⟨o1, ⟨a1, a2⟩, f1⟩ := normal_ok hl hn
    obtain ⟨o2, ⟨b1, b2⟩, f2⟩ := ref_normal hl (fun s hs => badB_no (hn s hs))
    have he : o1 = o2 := a1.uniq b1 fun x => by rw [a2, b2]
    subst he
    have hle : ∀ s ∈ o1, s.2 ≤ 8589934592 := below_of_has a1 fun x hx => by
      obtain ⟨s, hs, h1, h2⟩ := (a2 x).1 hx
      have := badB_no (hn s hs) (by omega)
      omega
    have hlen := nf_len a1 hle (by omega)
    exact ⟨0, o1, by omega, f1, f2⟩
end
end Go.Lift

/- The reference's combinations of two sets. -/
namespace Go.Lift
open Go.RowKit Go.IntWalk
noncomputable section
set_option linter.unusedVariables false
set_option linter.unusedSimpArgs false
set_option maxRecDepth 10000

def wantB (kind : Int) (x y : Bool) : Bool := if kind = 1 then x || y else if kind = 2 then x && y else x && !y
abbrev endsS (l : List Sp) : List Int := l.flatMap fun s => [s.1, s.2]

theorem ends_len (l : List Sp) : (endsS l).length = 2 * l.length := by
  induction l with
  | nil => rfl
  | cons s l ih =>
    have : endsS (s :: l) = s.1 :: s.2 :: endsS l := rfl
    rw [this, List.length_cons, List.length_cons, List.length_cons, ih]
    omega

theorem comb_p1 {β : Type} (k1 : zqc7 β) (a b : List Sp) (ha : a.length ≤ 4096) (kind : Int) : ∀ (r : List Sp) (j N : Nat) (at_ : List Int), a.drop j = r → r.length < N → at_.length + 2 * r.length ≤ 100000 →
    zqd9 N k1 a b kind (j : Int) at_ = k1 a b kind (at_ ++ endsS r)
  | [], j, 0, _, _, h, _ => absurd h (Nat.not_lt_zero _)
  | _ :: _, j, 0, _, _, h, _ => absurd h (Nat.not_lt_zero _)
  | [], j, N + 1, at_, hd, h, _ => by
    have : a.length ≤ j := by simpa using hd
    rw [zqda]
    unfold zqcr
    refine (c_neg (by omega)).trans ?_
    simp [endsS]
  | s :: r, j, N + 1, at_, hd, h, ho => by
    obtain ⟨hj, hg, hd'⟩ := drop_cons hd ((0 : Int), (0 : Int))
    simp only [List.length_cons] at h ho
    have ew : IntKind.i64.wrap ((j : Int) + 1) = ((j + 1 : Nat) : Int) := by rw [wr (by omega) (by omega)]; omega
    rw [zqda]
    unfold zqcr
    simp only [Int.toNat_natCast, hg, ew]
    refine (c_pos (by omega)).trans ?_
    refine (c_inb (by omega)).trans ?_
    refine (c_inb (by omega)).trans ?_
    refine (c_room (by simp; omega)).trans ?_
    refine (comb_p1 k1 a b ha kind r (j + 1) N _ hd' (by omega) (by simp; omega)).trans ?_
    simp [endsS]

theorem comb_p2 {β : Type} (k1 : zqcb β) (a b : List Sp) (hb : b.length ≤ 4096) (kind : Int) : ∀ (r : List Sp) (j N : Nat) (at_ : List Int), b.drop j = r → r.length < N → at_.length + 2 * r.length ≤ 100000 →
    zqdd N k1 a b kind (j : Int) at_ = k1 a b kind (at_ ++ endsS r)
  | [], j, 0, _, _, h, _ => absurd h (Nat.not_lt_zero _)
  | _ :: _, j, 0, _, _, h, _ => absurd h (Nat.not_lt_zero _)
  | [], j, N + 1, at_, hd, h, _ => by
    have : b.length ≤ j := by simpa using hd
    rw [zqde]
    unfold zqcu
    refine (c_neg (by omega)).trans ?_
    simp [endsS]
  | s :: r, j, N + 1, at_, hd, h, ho => by
    obtain ⟨hj, hg, hd'⟩ := drop_cons hd ((0 : Int), (0 : Int))
    simp only [List.length_cons] at h ho
    have ew : IntKind.i64.wrap ((j : Int) + 1) = ((j + 1 : Nat) : Int) := by rw [wr (by omega) (by omega)]; omega
    rw [zqde]
    unfold zqcu
    simp only [Int.toNat_natCast, hg, ew]
    refine (c_pos (by omega)).trans ?_
    refine (c_inb (by omega)).trans ?_
    refine (c_inb (by omega)).trans ?_
    refine (c_room (by simp; omega)).trans ?_
    refine (comb_p2 k1 a b hb kind r (j + 1) N _ hd' (by omega) (by simp; omega)).trans ?_
    simp [endsS]

/-- What a part between two borders makes of the list. -/
def extS (p q : Int) (out : List Sp) : List Sp := if (out.getLastD (0, p - 1)).2 = p then out.dropLast ++ [((out.getLastD (0, p - 1)).1, q)] else out ++ [(p, q)]
theorem extS_len (p q : Int) (out : List Sp) : (extS p q out).length ≤ out.length + 1 := by
  unfold extS
  split <;> simp <;> omega

theorem comb_p3 {β : Type} (k1 : zqcf β) (a b : List Sp) (kind i n : Int) (t : Bool) (at_ : List Int) (out : List Sp) : zqdh k1 a b kind i n t at_ out = zqcx k1 a b kind i n t at_ out := rfl
theorem comb_p4 {β : Type} (k1 : zqcj β) (a b : List Sp) (kind : Int) {at_ : List Int} {i : Nat} (hi : i + 1 < at_.length) (hal : at_.length ≤ 100000) {out : List Sp} (ho : out.length ≤ 100000) :
    zqdj k1 a b kind (i : Int) at_ out = k1 a b kind (i : Int) at_ (extS (at_.getD i 0) (at_.getD (i + 1) 0) out) := by
  have ew : IntKind.i64.wrap ((i : Int) + 1) = ((i + 1 : Nat) : Int) := by rw [wr (by omega) (by omega)]; omega
  have happ : ∀ (n : Int), zqdh (fun a2 b2 kind2 i_2 at_2 out2 => k1 a2 b2 kind2 i_2 at_2 out2) a b kind (i : Int) n false at_ out = k1 a b kind (i : Int) at_ (out ++ [(at_.getD i 0, at_.getD (i + 1) 0)]) := by
    intro n
    rw [comb_p3]
    unfold zqcx
    simp only [ew, Int.toNat_natCast]
    refine c_f.trans ?_
    refine (c_inb (by omega)).trans ?_
    refine (c_inb (by omega)).trans ?_
    exact c_room (by simp; omega)
  show zqd0 zqdh k1 a b kind (i : Int) at_ out = _
  unfold zqd0 extS
  rcases List.eq_nil_or_concat out with rfl | ⟨L, y, rfl⟩
  · refine (c_neg (by simp)).trans ?_
    rw [if_neg (show ¬ (([] : List Sp).getLastD (0, at_.getD i 0 - 1)).2 = at_.getD i 0 by show ¬ (at_.getD i 0 - 1 = at_.getD i 0); omega)]
    exact happ _
  · rw [List.concat_eq_append] at *
    have hlen : (L ++ [y]).length = L.length + 1 := by simp
    have e1 : IntKind.i64.wrap (((L ++ [y]).length : Int) - 1) = (L.length : Int) := by rw [wr (by omega) (by omega)]; omega
    have e2 : (L ++ [y]).getD L.length ((0 : Int), (0 : Int)) = y := by simp [List.getD]
    have e3 : (L ++ [y]).getLastD (0, at_.getD i 0 - 1) = y := by simp
    have e4 : (L ++ [y]).dropLast = L := by simp
    simp only [e1, e3, e4, Int.toNat_natCast, e2]
    refine (c_pos (by omega)).trans ?_
    refine (c_inb (by omega)).trans ?_
    refine (c_inb (by omega)).trans ?_
    by_cases hc : y.2 = at_.getD i 0
    · rw [decide_eq_true hc, if_pos hc]
      rw [comb_p3]
      unfold zqcx
      simp only [e1, ew, Int.toNat_natCast, e2]
      refine c_t.trans ?_
      refine (c_inb (by omega)).trans ?_
      refine (c_inb (by omega)).trans ?_
      have e5 : (L ++ [y]).set L.length (y.1, at_.getD (i + 1) 0) = L ++ [(y.1, at_.getD (i + 1) 0)] := by simp [List.set_append]
      rw [e5]
    · rw [decide_eq_false hc, if_neg hc]
      exact happ _

theorem comb_step {c : zq8b} {p4 : zqck} {β : Type} (rec : List Sp → List Sp → Int → Int → List Int → List Sp → Option β) (k1 : zqcn β) (a b : List Sp) {kind : Int} (hk : kind = 1 ∨ kind = 2 ∨ kind = 3) {at_ : List Int} {i : Nat} (hi : i + 1 < at_.length) (hal : at_.length ≤ 100000) (out : List Sp)
    (x y : Bool) (hx : ∀ {β : Type} (k : Bool → Option β), c a (at_.getD i 0) k = k x) (hy : ∀ {β : Type} (k : Bool → Option β), c b (at_.getD i 0) k = k y) :
    zqd3 c p4 rec k1 a b kind (i : Int) at_ out = cond (wantB kind x y) (p4 (fun a2 b2 kind2 i_2 at_2 out2 => rec a2 b2 kind2 (IntKind.i64.wrap (i_2 + 1)) at_2 out2) a b kind (i : Int) at_ out) (rec a b kind ((i + 1 : Nat) : Int) at_ out) := by
  have ew : IntKind.i64.wrap ((i : Int) + 1) = ((i + 1 : Nat) : Int) := by rw [wr (by omega) (by omega)]; omega
  unfold zqd3
  simp only [ew, Int.toNat_natCast]
  refine (c_pos (by omega)).trans ?_
  refine (c_inb (by omega)).trans ?_
  refine (hx _).trans ?_
  refine (c_inb (by omega)).trans ?_
  refine (hy _).trans ?_
  rcases hk with rfl | rfl | rfl <;> cases x <;> cases y <;> rfl

/-! ### The borders -/
theorem ends_pts {l : List Sp} (h : ∀ s ∈ l, s.1 < s.2) : endsS l = ptsS l := by
  induction l with
  | nil => rfl
  | cons s l ih =>
    have e1 : endsS (s :: l) = [s.1, s.2] ++ endsS l := rfl
    have e2 : ptsS (s :: l) = (if s.1 < s.2 then [s.1, s.2] else []) ++ ptsS l := rfl
    rw [e1, e2, if_pos (h s (by simp)), ih fun t ht => h t (by simp [ht])]

/-- The set that is meant. -/
def wantS (kind : Int) (a b : List Sp) (x : Int) : Bool := wantB kind (hasB a x) (hasB b x)

def CombI (kind : Int) (a b : List Sp) (p : Int) (out : List Sp) : Prop := NFa (-1) out ∧ (∀ s ∈ out, s.2 ≤ p) ∧ ∀ x, x < p → (hasS out x ↔ wantS kind a b x = true)

theorem comb_inv {kind : Int} {a b : List Sp} {p q : Int} {out : List Sp} (h : CombI kind a b p out) (hpq : p < q) (h0 : 0 ≤ p) (hc : ∀ x, p ≤ x → x < q → wantS kind a b x = wantS kind a b p) :
    CombI kind a b q (if wantS kind a b p then extS p q out else out) := by
  obtain ⟨h1, h2, h3⟩ := h
  cases hw : wantS kind a b p with
  | false =>
    rw [if_neg (by simp)]
    refine ⟨h1, fun s hs => by have := h2 s hs; omega, fun x hx => ?_⟩
    by_cases hxp : x < p
    · exact h3 x hxp
    · rw [hc x (by omega) hx, hw]
      exact ⟨fun hh => absurd hh (hasS_ends h2 (by omega)), fun hh => by cases hh⟩
  | true =>
    rw [if_pos rfl]
    unfold extS
    rcases List.eq_nil_or_concat out with rfl | ⟨L, y, rfl⟩
    · rw [if_neg (show ¬ (([] : List Sp).getLastD (0, p - 1)).2 = p by show ¬ (p - 1 = p); omega)]
      refine ⟨⟨by simp only; omega, hpq, trivial⟩, by simp, fun x hx => ?_⟩
      rw [List.nil_append, hasS_cons]
      have hn : ¬ hasS [] x := hasS_nil
      by_cases hxp : x < p
      · have := h3 x hxp
        constructor
        · rintro (r | r)
          · simp only at r; omega
          · exact absurd r hn
        · intro r
          exact absurd (this.2 r) hn
      · rw [hc x (by omega) hx, hw]
        exact ⟨fun _ => rfl, fun _ => .inl ⟨by simp only; omega, hx⟩⟩
    · rw [List.concat_eq_append] at *
      have e3 : (L ++ [y]).getLastD (0, p - 1) = y := by simp
      have e4 : (L ++ [y]).dropLast = L := by simp
      rw [e3, e4]
      have hy := h2 y (by simp)
      have hym := h1.mem y (by simp)
      have hL : ∀ {a : Int} {M : List Sp} {z : Sp}, NFa a (M ++ [z]) → NFa a M ∧ (∀ s ∈ M, s.2 < z.1) ∧ a < z.1 := by
        intro a M z
        induction M generalizing a with
        | nil => rintro ⟨u, v, _⟩; exact ⟨trivial, by simp, u⟩
        | cons m M ih =>
          rintro ⟨u, v, w⟩
          obtain ⟨i1, i2, i3⟩ := ih w
          refine ⟨⟨u, v, i1⟩, fun s hs => ?_, by omega⟩
          rcases List.mem_cons.1 hs with rfl | hs
          · exact i3
          · exact i2 s hs
      obtain ⟨l1, l2, l3⟩ := hL h1
      have hsplit : ∀ x, hasS (L ++ [y]) x ↔ hasS L x ∨ (y.1 ≤ x ∧ x < y.2) := fun x => by
        rw [hasS_append, hasS_cons]
        have hn : ¬ hasS [] x := hasS_nil
        simp only [hn, or_false]
      by_cases hyp : y.2 = p
      · rw [if_pos hyp]
        have hsplit2 : ∀ x, hasS (L ++ [(y.1, q)]) x ↔ hasS L x ∨ (y.1 ≤ x ∧ x < q) := fun x => by
          rw [hasS_append, hasS_cons]
          have hn : ¬ hasS [] x := hasS_nil
          simp only [hn, or_false]
        have hLx : ∀ x, hasS L x → x < y.1 := fun x hx => by
          obtain ⟨s, hs, _, hlt⟩ := hx
          have := l2 s hs; omega
        refine ⟨NFa.append (b := y.1 - 1) l1 (fun x hx => by
            obtain ⟨s, hs, _, hlt⟩ := hx
            have := l2 s hs; omega) ⟨by simp only; omega, by simp only; omega, trivial⟩ (by omega), fun s hs => ?_, fun x hx => ?_⟩
        · rcases List.mem_append.1 hs with r | r
          · have := l2 s r; omega
          · simp only [List.mem_singleton] at r; rw [r]; exact Int.le_refl _
        · rw [hsplit2]
          by_cases hxp : x < p
          · rw [← h3 x hxp, hsplit]
            constructor
            · rintro (r | r)
              · exact .inl r
              · exact .inr ⟨r.1, by omega⟩
            · rintro (r | r)
              · exact .inl r
              · exact .inr ⟨r.1, by omega⟩
          · rw [hc x (by omega) hx, hw]
            exact ⟨fun _ => rfl, fun _ => .inr ⟨by omega, hx⟩⟩
      · rw [if_neg hyp]
        have hends : ∀ s ∈ L ++ [y], s.2 < p := fun s hs => by
          rcases List.mem_append.1 hs with r | r
          · have := l2 s r; omega
          · simp only [List.mem_singleton] at r; rw [r]; omega
        refine ⟨NFa.append (b := p - 1) h1 (fun x hx => by
            obtain ⟨s, hs, _, hlt⟩ := hx
            have := hends s hs; omega) ⟨by simp only; omega, hpq, trivial⟩ (by omega), fun s hs => ?_, fun x hx => ?_⟩
        · rcases List.mem_append.1 hs with r | r
          · have := h2 s r; omega
          · simp only [List.mem_singleton] at r; rw [r]; exact Int.le_refl _
        · rw [hasS_append, hasS_cons]
          have hn : ¬ hasS [] x := hasS_nil
          simp only [hn, or_false]
          by_cases hxp : x < p
          · rw [← h3 x hxp]
            constructor
            · rintro (r | r)
              · exact r
              · omega
            · exact .inl
          · rw [hc x (by omega) hx, hw]
            exact ⟨fun _ => rfl, fun _ => .inr ⟨by omega, hx⟩⟩

theorem has_const {l : List Sp} {at_ : List Int} (hpts : ∀ y ∈ ptsS l, y ∈ at_) {p q : Int} (hpq : p < q) (hb : ∀ y ∈ at_, y ≤ p ∨ q ≤ y) : ∀ x, p ≤ x → x < q → hasB l x = hasB l p := by
  intro x h1 h2
  have := (depth_step l hpq (fun y hy hc => by rcases hb y (hpts y hy) with r | r <;> omega)).2 x h1 h2
  rw [Bool.eq_iff_iff, hasB_iff, hasB_iff, ← (depth_pos l x).2, ← (depth_pos l p).2, this]

theorem comb_loop {kind : Int} (hk : kind = 1 ∨ kind = 2 ∨ kind = 3) {a b : List Sp} (ha : VS a) (hb : VS b) {at_ : List Int} (hal : at_.length ≤ 50000) (hasc : Asc at_) (h0 : ∀ y ∈ at_, 0 ≤ y) (hpa : ∀ y ∈ ptsS a, y ∈ at_) (hpb : ∀ y ∈ ptsS b, y ∈ at_)
    (hwz : ∀ x, wantS kind a b x = true → hasS a x ∨ hasS b x) : ∀ (r : List Int) (i N : Nat) (p : Int) (out : List Sp), at_.drop i = p :: r → r.length < N → CombI kind a b p out → out.length ≤ i →
    ∃ out', (NFa (-1) out' ∧ ∀ x, hasS out' x ↔ wantS kind a b x = true) ∧ ∀ {β : Type} (k1 : zqcn β), zqdl N k1 a b kind (i : Int) at_ out = k1 out'
  | _, _, 0, _, _, _, h, _, _ => absurd h (Nat.not_lt_zero _)
  | [], i, N + 1, p, out, hd, h, hI, ho => by
    obtain ⟨hj, hg, hd'⟩ := drop_cons hd (0 : Int)
    have hlen : at_.length ≤ i + 1 := by simpa using hd'
    have ew : IntKind.i64.wrap ((i : Int) + 1) = ((i + 1 : Nat) : Int) := by rw [wr (by omega) (by omega)]; omega
    have hmax : ∀ y ∈ at_, y ≤ p := by
      intro y hy
      have e : at_ = at_.take i ++ [p] := by
        have := (List.take_append_drop i at_).symm
        rw [hd] at this
        exact this
      rw [e] at hy hasc
      rcases List.mem_append.1 hy with r | r
      · have := (List.pairwise_append.1 hasc).2.2 y r p (by simp); omega
      · simp only [List.mem_singleton] at r; omega
    obtain ⟨i1, i2, i3⟩ := hI
    refine ⟨out, ⟨i1, fun x => ?_⟩, fun k1 => ?_⟩
    · by_cases hx : x < p
      · exact i3 x hx
      · refine ⟨fun r => absurd r (hasS_ends i2 (by omega)), fun r => ?_⟩
        rcases hwz x r with ⟨s, hs, u, v⟩ | ⟨s, hs, u, v⟩
        · have := hmax s.2 (hpa _ (mem_pts.2 ⟨s, hs, by omega, .inr rfl⟩)); omega
        · have := hmax s.2 (hpb _ (mem_pts.2 ⟨s, hs, by omega, .inr rfl⟩)); omega
    · rw [zqdm]
      unfold zqd3
      simp only [ew]
      exact c_neg (by omega)
  | q :: r, i, N + 1, p, out, hd, h, hI, ho => by
    obtain ⟨hj, hg, hd'⟩ := drop_cons hd (0 : Int)
    obtain ⟨hj2, hg2, hd2⟩ := drop_cons hd' (0 : Int)
    simp only [List.length_cons] at h
    have ew : IntKind.i64.wrap ((i : Int) + 1) = ((i + 1 : Nat) : Int) := by rw [wr (by omega) (by omega)]; omega
    have hs : Asc (p :: q :: r) := by
      have := hasc.sublist (List.drop_sublist i at_)
      rw [hd] at this
      exact this
    have hpq : p < q := (List.pairwise_cons.1 hs).1 q (by simp)
    have hbt : ∀ y ∈ at_, y ≤ p ∨ q ≤ y := by
      intro y hy
      have e := (List.take_append_drop i at_).symm
      rw [hd] at e
      rw [e] at hy hasc
      rcases List.mem_append.1 hy with u | u
      · have := (List.pairwise_append.1 hasc).2.2 y u p (by simp); omega
      · rcases List.mem_cons.1 u with rfl | u
        · omega
        · rcases List.mem_cons.1 u with rfl | u
          · omega
          · have := (List.pairwise_cons.1 (List.pairwise_cons.1 hs).2).1 y u; omega
    have hp0 : 0 ≤ p := h0 p (List.mem_of_mem_drop (by rw [hd]; simp))
    have hconst : ∀ x, p ≤ x → x < q → wantS kind a b x = wantS kind a b p := fun x u v => by
      unfold wantS
      rw [has_const hpa hpq hbt x u v, has_const hpb hpq hbt x u v]
    have hI' := comb_inv hI hpq hp0 hconst
    have hlen' : (if wantS kind a b p then extS p q out else out).length ≤ i + 1 := by
      split
      · have := extS_len p q out; omega
      · omega
    obtain ⟨out', hq, hf⟩ := comb_loop hk ha hb hal hasc h0 hpa hpb hwz r (i + 1) N q _ hd' (by omega) hI' hlen'
    refine ⟨out', hq, fun k1 => ?_⟩
    rw [zqdm]
    refine (comb_step (c := zq8r) (p4 := zqdj) _ k1 a b hk hj2 (by omega) out (hasB a p) (hasB b p) (fun k => by rw [hg]; exact rhas_eq ha p k) (fun k => by rw [hg]; exact rhas_eq hb p k)).trans ?_
    have hwe : wantB kind (hasB a p) (hasB b p) = wantS kind a b p := rfl
    rw [hwe]
    have hf := hf k1
    cases hw : wantS kind a b p with
    | true =>
      rw [hw, if_pos rfl] at hf
      refine c_t.trans ?_
      refine (comb_p4 _ a b kind hj2 (by omega) (by omega)).trans ?_
      rw [hg, hg2]
      show zqdl N k1 a b kind (IntKind.i64.wrap ((i : Int) + 1)) at_ (extS p q out) = _
      rw [ew]
      exact hf
    | false =>
      rw [hw, if_neg (by simp)] at hf
      refine c_f.trans ?_
      exact hf

theorem combine_ok {kind : Int} (hk : kind = 1 ∨ kind = 2 ∨ kind = 3) {a b : List Sp} (ha : VS a) (hb : VS b) :
    ∃ out, (NFa (-1) out ∧ ∀ x, hasS out x ↔ wantS kind a b x = true) ∧ ∀ {β : Type} (k : Int → List Sp → Option β), zqdp a b kind k = cond (decide (4096 < out.length)) (k 5 []) (k 0 out) := by
  have la := ha.len
  have lb := hb.len
  have ra := ha.range
  have rb := hb.range
  have hwz : ∀ x, wantS kind a b x = true → hasS a x ∨ hasS b x := by
    intro x h
    unfold wantS wantB at h
    cases h1 : hasB a x with
    | true => exact .inl (hasB_iff.1 h1)
    | false =>
      cases h2 : hasB b x with
      | true => exact .inr (hasB_iff.1 h2)
      | false =>
        rw [h1, h2] at h
        exfalso
        revert h
        split
        · simp
        · split <;> simp
  have hea : endsS a = ptsS a := ends_pts fun s hs => (ra s hs).2.1
  have heb : endsS b = ptsS b := ends_pts fun s hs => (rb s hs).2.1
  have hla := ends_len a
  have hlb := ends_len b
  obtain ⟨p, ⟨p1, p2, p3⟩, hs⟩ := srt (l := endsS a ++ endsS b) (by simp only [List.length_append]; omega)
  simp only [List.length_append] at p3
  have h0 : ∀ y ∈ p, 0 ≤ y := by
    intro y hy
    rcases List.mem_append.1 ((p2 y).1 hy) with q | q
    · rw [hea] at q
      obtain ⟨s, hs, _, h⟩ := mem_pts.1 q
      have := ra s hs; omega
    · rw [heb] at q
      obtain ⟨s, hs, _, h⟩ := mem_pts.1 q
      have := rb s hs; omega
  have hpa : ∀ y ∈ ptsS a, y ∈ p := fun y hy => (p2 y).2 (List.mem_append.2 (.inl (by rw [hea]; exact hy)))
  have hpb : ∀ y ∈ ptsS b, y ∈ p := fun y hy => (p2 y).2 (List.mem_append.2 (.inr (by rw [heb]; exact hy)))
  have main : ∃ out, (NFa (-1) out ∧ ∀ x, hasS out x ↔ wantS kind a b x = true) ∧ ∀ {β : Type} (k1 : zqcn β), zqdn k1 a b kind 0 p [] = k1 out := by
    cases hp : p with
    | nil =>
      rw [hp] at hpa hpb
      have hna : a = [] := by
        cases a with
        | nil => rfl
        | cons s l => exact absurd (hpa s.1 (mem_pts.2 ⟨s, by simp, (ra s (by simp)).2.1, .inl rfl⟩)) (by simp)
      have hnb : b = [] := by
        cases b with
        | nil => rfl
        | cons s l => exact absurd (hpb s.1 (mem_pts.2 ⟨s, by simp, (rb s (by simp)).2.1, .inl rfl⟩)) (by simp)
      refine ⟨[], ⟨trivial, fun x => ⟨fun h => absurd h hasS_nil, fun h => ?_⟩⟩, fun k1 => ?_⟩
      · rcases hwz x h with q | q
        · rw [hna] at q; exact absurd q hasS_nil
        · rw [hnb] at q; exact absurd q hasS_nil
      · obtain ⟨N, hN⟩ : ∃ N, fuel = N + 1 := ⟨18446744073709551615, rfl⟩
        show zqdl fuel k1 a b kind 0 [] [] = _
        rw [hN, zqdm]
        unfold zqd3
        have ew : IntKind.i64.wrap ((0 : Int) + 1) = 1 := by rw [wr (by omega) (by omega)]; rfl
        simp only [ew]
        exact c_neg (by simp)
    | cons c r =>
      have hmin : ∀ y ∈ p, c ≤ y := by
        intro y hy
        rw [hp] at hy p1
        rcases List.mem_cons.1 hy with rfl | hy
        · exact Int.le_refl _
        · have := (List.pairwise_cons.1 p1).1 y hy; omega
      have hstart : CombI kind a b c [] := by
        refine ⟨trivial, by simp, fun x hx => ⟨fun h => absurd h hasS_nil, fun h => ?_⟩⟩
        rcases hwz x h with ⟨s, hs, u, v⟩ | ⟨s, hs, u, v⟩
        · have := hmin s.1 (hpa _ (mem_pts.2 ⟨s, hs, by omega, .inl rfl⟩)); omega
        · have := hmin s.1 (hpb _ (mem_pts.2 ⟨s, hs, by omega, .inl rfl⟩)); omega
      have hrl : r.length < 18446744073709551616 := by rw [hp, List.length_cons] at p3; omega
      obtain ⟨out, hq, hf⟩ := comb_loop hk ha hb (at_ := p) (by omega) p1 h0 hpa hpb hwz r 0 fuel c [] (by rw [hp]; rfl) (lt_fuel hrl) hstart (by simp)
      rw [Int.natCast_zero, hp] at hf
      exact ⟨out, hq, hf⟩
  obtain ⟨out, hq, hf⟩ := main
  refine ⟨out, hq, fun k => ?_⟩
  show zqd6 zq89 zq2f zqdb zqdf zqdn a b kind k = _
  unfold zqd6
  refine (rvalid_eq _ _).trans ?_
  rw [validB_iff.2 ha]
  refine c_f.trans ?_
  refine (rvalid_eq _ _).trans ?_
  rw [validB_iff.2 hb]
  refine c_f.trans ?_
  have hdec : decide ((4096 : Int) < (out.length : Int)) = decide (4096 < out.length) := by
    by_cases h : 4096 < out.length
    · rw [decide_eq_true h, decide_eq_true (by omega)]
    · rw [decide_eq_false h, decide_eq_false (by omega)]
  have e1 := comb_p1 (fun a2 b2 kind2 at_ => zqdf (fun a3 b3 kind3 at_2 => zq89 at_2 (fun r => zqdn (fun out => cond (decide ((4096 : Int) < (out.length : Int))) (k 5 []) (k 0 out)) a3 b3 kind3 0 r [])) a2 b2 kind2 0 at_) a b (by omega) kind a 0 fuel [] rfl (lt_fuel (by omega)) (by simp; omega)
  rw [Int.natCast_zero] at e1
  refine e1.trans ?_
  have e2 := comb_p2 (fun a3 b3 kind3 at_2 => zq89 at_2 (fun r => zqdn (fun out => cond (decide ((4096 : Int) < (out.length : Int))) (k 5 []) (k 0 out)) a3 b3 kind3 0 r [])) a b (by omega) kind b 0 fuel ([] ++ endsS a) rfl (lt_fuel (by omega)) (by simp only [List.nil_append]; omega)
  rw [Int.natCast_zero] at e2
  refine e2.trans ?_
  rw [List.nil_append]
  refine (hs _).trans ?_
  refine (hf _).trans ?_
  rw [hdec]

theorem combine_bad {kind : Int} {a b : List Sp} (h : (validB a && validB b) = false) {β : Type} (k : Int → List Sp → Option β) : zqdp a b kind k = k 8 [] := by
  show zqd6 zq89 zq2f zqdb zqdf zqdn a b kind k = _
  unfold zqd6
  refine (rvalid_eq _ _).trans ?_
  cases h1 : validB a with
  | false => rfl
  | true =>
    rw [h1, Bool.true_and] at h
    refine c_f.trans ?_
    refine (rvalid_eq _ _).trans ?_
    rw [h]
    rfl
end
end Go.Lift

/- SpanExact in plain Lean. -/
namespace Go.Lift
open Go.RowKit Go.IntWalk
noncomputable section
set_option linter.unusedVariables false
set_option linter.unusedSimpArgs false
set_option maxRecDepth 10000

/-! ### Two functions, one answer -/
theorem firsts (l : List Sp) (x : Int) : ∃ n b, (∀ {β : Type} (k : Int → Bool → Option β), zq9l l x k = k n b) ∧ ∀ {β : Type} (k : Int → Bool → Option β), zq3n l x k = k n b := by
  cases hv : validB l with
  | false => exact ⟨0, false, fun k => by rw [first_eq, hv]; rfl, fun k => by rw [rfirst_eq, hv]; rfl⟩
  | true =>
    cases hf : firstS x l with
    | none => exact ⟨0, false, fun k => by rw [first_eq, hv, hf]; rfl, fun k => by rw [rfirst_eq, hv, hf]; rfl⟩
    | some n => exact ⟨n, true, fun k => by rw [first_eq, hv, hf]; rfl, fun k => by rw [rfirst_eq, hv, hf]; rfl⟩

theorem clipS_nil {lo hi : Int} (h : hi ≤ lo) (l : List Sp) : clipS lo hi l = [] := by
  induction l with
  | nil => rfl
  | cons s l ih =>
    have e : clipS lo hi (s :: l) = clip1 lo hi s ++ clipS lo hi l := rfl
    rw [e, ih]
    unfold clip1
    rw [if_neg (by omega)]
    rfl

theorem clips (l : List Sp) (lo hi : Int) : ∃ e out, out.length ≤ 4096 ∧ (∀ {β : Type} (k : Int → List Sp → Option β), zqab l lo hi k = k e out) ∧ ∀ {β : Type} (k : Int → List Sp → Option β), zq4o l lo hi k = k e out := by
  cases hv : validB l with
  | false =>
    refine ⟨8, [], by simp, fun k => ?_, fun k => by rw [rclip_eq, hv]; rfl⟩
    show zqa8 zq5t zq1e l lo hi k = _
    unfold zqa8
    refine (valid_eq l _).trans ?_
    rw [hv]
    rfl
  | true =>
    have hV := validB_iff.1 hv
    by_cases h : lo < hi
    · obtain ⟨out, ⟨h1, h2⟩, hf⟩ := clip_ok hV h
      obtain ⟨c1, c2⟩ := clipS_ok (lo := lo) (hi := hi) hV.nf
      have he : out = clipS lo hi l := h1.uniq c1 fun x => by rw [h2, c2]
      have hlen : (clipS lo hi l).length ≤ l.length := by
        have key : ∀ m : List Sp, (clipS lo hi m).length ≤ m.length := by
          intro m
          induction m with
          | nil => simp [clipS]
          | cons s m ih =>
            have e : clipS lo hi (s :: m) = clip1 lo hi s ++ clipS lo hi m := rfl
            rw [e, List.length_append, List.length_cons]
            have : (clip1 lo hi s).length ≤ 1 := by
              unfold clip1
              split <;> simp
            omega
        exact key l
      have := hV.len
      exact ⟨0, clipS lo hi l, by omega, fun k => by rw [← he]; exact hf k, fun k => by rw [rclip_eq, hv]; rfl⟩
    · refine ⟨0, [], by simp, fun k => ?_, fun k => by rw [rclip_eq, hv, clipS_nil (by omega)]; rfl⟩
      show zqa8 zq5t zq1e l lo hi k = _
      unfold zqa8
      refine (valid_eq l _).trans ?_
      rw [hv]
      refine c_f.trans ?_
      exact c_pos (by omega)

theorem two_bad_u {a b : List Sp} (h : (validB a && validB b) = false) {β : Type} (k : Int → List Sp → Option β) : zqkq a b k = k 8 [] := by
  show zqkn zqk0 a b k = _
  unfold zqkn
  show zqjx zqjt zq1e a b _ = _
  unfold zqjx
  refine (valid_eq a _).trans ?_
  cases h1 : validB a with
  | false => rfl
  | true =>
    rw [h1, Bool.true_and] at h
    refine c_f.trans ?_
    refine (valid_eq b _).trans ?_
    rw [h]
    rfl
theorem two_bad_m {a b : List Sp} (h : (validB a && validB b) = false) {β : Type} (k : Int → List Sp → Option β) : zqez a b k = k 8 [] := by
  show zqew zqdw a b k = _
  unfold zqew
  show zqdt zq5t zq1e a b _ = _
  unfold zqdt
  refine (valid_eq a _).trans ?_
  cases h1 : validB a with
  | false => rfl
  | true =>
    rw [h1, Bool.true_and] at h
    refine c_f.trans ?_
    refine (valid_eq b _).trans ?_
    rw [h]
    rfl
theorem two_bad_w {a b : List Sp} (h : (validB a && validB b) = false) {β : Type} (k : Int → List Sp → Option β) : zqf6 a b k = k 8 [] := by
  show zqf3 zqe3 a b k = _
  unfold zqf3
  show zqe0 zq1e zq6x a b _ = _
  unfold zqe0
  refine (valid_eq a _).trans ?_
  cases h1 : validB a with
  | false => rfl
  | true =>
    rw [h1, Bool.true_and] at h
    refine c_f.trans ?_
    refine (valid_eq b _).trans ?_
    rw [h]
    rfl

theorem lim {out : List Sp} : ∃ e o, o.length ≤ 4096 ∧ ∀ {β : Type} (k : Int → List Sp → Option β), cond (decide (4096 < out.length)) (k 5 []) (k 0 out) = k e o := by
  by_cases h : 4096 < out.length
  · exact ⟨5, [], by simp, fun k => c_pos h⟩
  · exact ⟨0, out, by omega, fun k => c_neg h⟩

theorem unions (a b : List Sp) : ∃ e out, out.length ≤ 4096 ∧ (∀ {β : Type} (k : Int → List Sp → Option β), zqkq a b k = k e out) ∧ ∀ {β : Type} (k : Int → List Sp → Option β), zqfd a b k = k e out := by
  have hr : ∀ {β : Type} (k : Int → List Sp → Option β), zqfd a b k = zqdp a b 1 k := fun _ => rfl
  cases hv : (validB a && validB b) with
  | false => exact ⟨8, [], by simp, fun k => two_bad_u hv k, fun k => (hr k).trans (combine_bad hv k)⟩
  | true =>
    rw [Bool.and_eq_true] at hv
    have ha := validB_iff.1 hv.1
    have hb := validB_iff.1 hv.2
    obtain ⟨o1, ⟨h1, h2⟩, f1⟩ := union_ok ha hb
    obtain ⟨o2, ⟨g1, g2⟩, f2⟩ := combine_ok (kind := 1) (.inl rfl) ha hb
    have he : o1 = o2 := h1.uniq g1 fun x => by
      rw [h2, g2, ← hasB_iff, ← hasB_iff, ← Bool.or_eq_true]; rfl
    subst he
    obtain ⟨e, o, hl, hf⟩ := lim (out := o1)
    exact ⟨e, o, hl, fun k => (f1 k).trans (hf k), fun k => (hr k).trans ((f2 k).trans (hf k))⟩
theorem meets (a b : List Sp) : ∃ e out, out.length ≤ 4096 ∧ (∀ {β : Type} (k : Int → List Sp → Option β), zqez a b k = k e out) ∧ ∀ {β : Type} (k : Int → List Sp → Option β), zqfk a b k = k e out := by
  have hr : ∀ {β : Type} (k : Int → List Sp → Option β), zqfk a b k = zqdp a b 2 k := fun _ => rfl
  cases hv : (validB a && validB b) with
  | false => exact ⟨8, [], by simp, fun k => two_bad_m hv k, fun k => (hr k).trans (combine_bad hv k)⟩
  | true =>
    rw [Bool.and_eq_true] at hv
    have ha := validB_iff.1 hv.1
    have hb := validB_iff.1 hv.2
    obtain ⟨o1, ⟨h1, h2⟩, f1⟩ := meet_ok ha hb
    obtain ⟨o2, ⟨g1, g2⟩, f2⟩ := combine_ok (kind := 2) (.inr (.inl rfl)) ha hb
    have he : o1 = o2 := h1.uniq g1 fun x => by
      rw [h2, g2, ← hasB_iff, ← hasB_iff, ← Bool.and_eq_true]; rfl
    subst he
    obtain ⟨e, o, hl, hf⟩ := lim (out := o1)
    exact ⟨e, o, hl, fun k => (f1 k).trans (hf k), fun k => (hr k).trans ((f2 k).trans (hf k))⟩
theorem minuses (a b : List Sp) : ∃ e out, out.length ≤ 4096 ∧ (∀ {β : Type} (k : Int → List Sp → Option β), zqf6 a b k = k e out) ∧ ∀ {β : Type} (k : Int → List Sp → Option β), zqfr a b k = k e out := by
  have hr : ∀ {β : Type} (k : Int → List Sp → Option β), zqfr a b k = zqdp a b 3 k := fun _ => rfl
  cases hv : (validB a && validB b) with
  | false => exact ⟨8, [], by simp, fun k => two_bad_w hv k, fun k => (hr k).trans (combine_bad hv k)⟩
  | true =>
    rw [Bool.and_eq_true] at hv
    have ha := validB_iff.1 hv.1
    have hb := validB_iff.1 hv.2
    obtain ⟨o1, ⟨h1, h2⟩, f1⟩ := minus_ok ha hb
    obtain ⟨o2, ⟨g1, g2⟩, f2⟩ := combine_ok (kind := 3) (.inr (.inr rfl)) ha hb
    have he : o1 = o2 := h1.uniq g1 fun x => by
      rw [h2, g2, ← hasB_iff, ← hasB_iff]
      show _ ↔ (hasB a x && !hasB b x) = true
      cases hasB a x <;> cases hasB b x <;> simp
    subst he
    obtain ⟨e, o, hl, hf⟩ := lim (out := o1)
    exact ⟨e, o, hl, fun k => (f1 k).trans (hf k), fun k => (hr k).trans ((f2 k).trans (hf k))⟩

/-! ### The loops -/
theorem exact_p1 {β : Type} (k1 : zql1 β) (k2 : zql2 β) (x lo hi : Int) (u1 u2 u3 u4 u5 u6 u7 u8 : List Sp) (t54 : Int) (n1 n2 n3 : Int) (d : List Int) (d2 : Int) (p q : List Sp) : ∀ (m N : Nat) (j : Int), m < N → j + m = 3 → 0 ≤ j →
    zqlk N k1 k2 x lo hi u1 u2 u3 u4 u5 u6 u7 u8 t54 n1 n2 n3 j d d2 p q = k2 x lo hi u1 u2 u3 u4 u5 u6 u7 u8 t54 d d2
  | m, 0, _, h, _, _ => absurd h (Nat.not_lt_zero _)
  | 0, N + 1, j, h, hj, h0 => by
    rw [zqll]
    unfold zqlb
    exact c_neg (by omega)
  | m + 1, N + 1, j, h, hj, h0 => by
    rw [zqll]
    unfold zqlb
    refine (c_pos (by omega)).trans ?_
    refine (c_inb (by simp; omega)).trans ?_
    show zq9l p (([n1, n2, n3] : List Int).getD (Int.toNat j) 0) _ = _
    generalize ([n1, n2, n3] : List Int).getD (Int.toNat j) 0 = n
    obtain ⟨f, b, f1, f2⟩ := firsts p n
    obtain ⟨e, out, hl, c1, c2⟩ := clips p n hi
    refine (f1 _).trans ?_
    refine (f2 _).trans ?_
    refine (c_npos rfl).trans ?_
    have hb : (!(b == b)) = false := by cases b <;> rfl
    rw [hb]
    refine c_f.trans ?_
    refine (has_eq _ _ _).trans ?_
    refine (rHas_eq _ _ _).trans ?_
    have hb2 : (!((validB p && hasB p n) == (validB p && hasB p n))) = false := by cases (validB p && hasB p n) <;> rfl
    rw [hb2]
    refine c_f.trans ?_
    refine (gap_eq _ _ _).trans ?_
    refine (rgap_eq _ _ _).trans ?_
    refine (c_npos rfl).trans ?_
    refine (c1 _).trans ?_
    refine (c2 _).trans ?_
    refine (same_eq (by omega) rfl _).trans ?_
    refine c_f.trans ?_
    refine (c_npos rfl).trans ?_
    rw [wr (x := j + 1) (by omega) (by omega)]
    exact exact_p1 k1 k2 x lo hi u1 u2 u3 u4 u5 u6 u7 u8 t54 n1 n2 n3 d d2 p q m N (j + 1) (by omega) (by omega) (by omega)

theorem exact_p2 {β : Type} (k1 : zql6 β) (k2 : zql7 β) (x lo hi : Int) {u1 u2 u3 u4 u5 u6 u7 u8 : List Sp} (hl : u1.length ≤ 4096 ∧ u3.length ≤ 4096 ∧ u5.length ≤ 4096 ∧ u7.length ≤ 4096) : ∀ (m N : Nat) (j : Int) (d : Dice), m < N → j + m = 4 → 0 ≤ j → DiceOk d →
    zqlo N k1 k2 x lo hi u1 u2 u3 u4 u5 u6 u7 u8 j d.1 d.2 = k2 ()
  | m, 0, _, _, h, _, _, _ => absurd h (Nat.not_lt_zero _)
  | 0, N + 1, j, d, h, hj, h0, hd => by
    rw [zqlp]
    unfold zqle
    exact c_neg (by omega)
  | m + 1, N + 1, j, d, h, hj, h0, hd => by
    rw [zqlp]
    unfold zqle
    refine (c_pos (by omega)).trans ?_
    refine (c_inb (by simp; omega)).trans ?_
    have hle : (([(u1, u2), (u3, u4), (u5, u6), (u7, u8)] : List (List Sp × List Sp)).getD (Int.toNat j) (([] : List Sp), ([] : List Sp))).1.length ≤ 4096 := by
      have : j = 0 ∨ j = 1 ∨ j = 2 ∨ j = 3 := by omega
      rcases this with rfl | rfl | rfl | rfl
      · exact hl.1
      · exact hl.2.1
      · exact hl.2.2.1
      · exact hl.2.2.2
    show zqkj (([(u1, u2), (u3, u4), (u5, u6), (u7, u8)] : List (List Sp × List Sp)).getD (Int.toNat j) (([] : List Sp), ([] : List Sp))).1 _ = _
    generalize ([(u1, u2), (u3, u4), (u5, u6), (u7, u8)] : List (List Sp × List Sp)).getD (Int.toNat j) (([] : List Sp), ([] : List Sp)) = pq at hle
    obtain ⟨p, q⟩ := pq
    have hle : p.length ≤ 4096 := hle
    obtain ⟨e1, o1, l1, a1, b1⟩ := normals p hle
    obtain ⟨e2, o2, l2, a2, b2⟩ := unions p q
    obtain ⟨e3, o3, l3, a3, b3⟩ := meets p q
    obtain ⟨e4, o4, l4, a4, b4⟩ := minuses p q
    obtain ⟨y, d', y0, y1, hd', fy⟩ := next_ok (n := 70) hd (by omega)
    refine (a1 _).trans ?_
    refine (b1 _).trans ?_
    refine (same_eq (by omega) rfl _).trans ?_
    refine c_f.trans ?_
    refine (c_npos rfl).trans ?_
    refine (valid_eq _ _).trans ?_
    refine (rvalid_eq _ _).trans ?_
    have hb : (!(validB p == validB p)) = false := by cases validB p <;> rfl
    refine (show cond (!(validB p == validB p)) _ _ = _ from ?_)
    rw [hb]
    refine c_f.trans ?_
    refine (length_eq _ _).trans ?_
    refine (rlength_eq _ _).trans ?_
    refine (c_npos rfl).trans ?_
    refine (a2 _).trans ?_
    refine (b2 _).trans ?_
    refine (same_eq (by omega) rfl _).trans ?_
    refine c_f.trans ?_
    refine (c_npos rfl).trans ?_
    refine (a3 _).trans ?_
    refine (b3 _).trans ?_
    refine (same_eq (by omega) rfl _).trans ?_
    refine c_f.trans ?_
    refine (c_npos rfl).trans ?_
    refine (a4 _).trans ?_
    refine (b4 _).trans ?_
    refine (same_eq (by omega) rfl _).trans ?_
    refine c_f.trans ?_
    refine (c_npos rfl).trans ?_
    refine (fy _).trans ?_
    refine (exact_p1 _ _ x lo hi u1 u2 u3 u4 u5 u6 u7 u8 j x y lo d'.1 d'.2 p q 3 fuel 0 (lt_fuel (by omega)) (by omega) (by omega)).trans ?_
    rw [wr (x := j + 1) (by omega) (by omega)]
    exact exact_p2 k1 k2 x lo hi hl m N (j + 1) d' (by omega) (by omega) (by omega) hd'

theorem spanExact (raw : List Sp) (t : List Int) (x lo hi : Int) {β : Type} (k : Bool → Option β) : zqls raw t x lo hi k = k true := by
  show zqlh zqkx zqes zq5 zqc zqlq raw t x lo hi k = _
  unfold zqlh
  by_cases hr : 300 < (raw.length : Int)
  · refine (c_pos hr).trans ?_
    exact sane03 _
  refine (c_neg hr).trans ?_
  refine (light_eq _ _).trans ?_
  by_cases hl : (t.length : Int) ≤ 500
  · refine (c_npos hl).trans ?_
    refine (roll_eq _ _).trans ?_
    obtain ⟨a, d1, ⟨ha, hd1⟩, f1⟩ := set_ok (roll_ok hl)
    obtain ⟨b, d2, ⟨hb, hd2⟩, f2⟩ := set_ok hd1
    have la := ha.len
    refine (f1 _).trans ?_
    refine (f2 _).trans ?_
    refine (exact_p2 _ _ x lo hi (by omega) 4 fuel 0 d2 (lt_fuel (by omega)) (by omega) (by omega) hd2).trans ?_
    exact sane03 _
  · refine (c_nneg hl).trans ?_
    exact sane03 _
end
end Go.Lift

