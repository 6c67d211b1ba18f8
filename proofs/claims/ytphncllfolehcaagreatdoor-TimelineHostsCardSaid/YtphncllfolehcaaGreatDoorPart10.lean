/- The theory of the closure, 2: the rounds. -/
import Derived.KernelRfl
import Derived.Test.YtphncllfolehcaaGreatDoorPart9
namespace Go.Lift
open Go.RowKit Go.IntWalk
noncomputable section
set_option linter.unusedVariables false
set_option linter.unusedSimpArgs false
set_option maxRecDepth 10000

/-- The matrix at the beginning. -/
structure Inv0 (n : Nat) (m : Mat) : Prop where
  sq : Sq n m
  lo : ∀ i j, i < n → j < n → -17179869184 ≤ at2 m i j
  row : ∀ j, j < n → at2 m 0 j ≤ 17179869184
  neg : ∀ i, i < n → at2 m i 0 ≤ 0
  diag : ∀ i, i < n → at2 m i i ≤ 0

/-- The matrix behind k rounds. -/
structure Inv (n k : Nat) (W m : Mat) : Prop where
  sq : Sq n m
  hi : ∀ i j, i < n → j < n → at2 m i j ≤ 34359738368
  diag : ∀ i, i < n → at2 m i i ≤ 0
  le : Le n m W
  tri : ∀ a, a < k → a < n → ∀ i j, i < n → j < n → at2 m i j ≤ at2 m i a + at2 m a j
  dl : ∀ i j, i < n → j < n → at2 m i j = at2 W i j ∨ ∃ b, b < k ∧ b < n ∧ at2 m i b + at2 W b j ≤ at2 m i j
  dr : ∀ i j, i < n → j < n → at2 m i j = at2 W i j ∨ ∃ b, b < k ∧ b < n ∧ at2 W i b + at2 m b j ≤ at2 m i j

/-- Numbers whose differences are within a matrix. -/
def SolM (n : Nat) (m : Mat) (x : Nat → Int) : Prop := ∀ i j, i < n → j < n → x j - x i ≤ at2 m i j

theorem Inv0.rh {n : Nat} {m : Mat} (h : Inv0 n m) (hn : 0 < n) (z : at2 m 0 0 = 0) : RH n 0 m :=
  ⟨h.sq, z, fun j hj => by have := h.lo 0 j hn hj; have := h.row j hj; omega, fun i hi => by have := h.lo i 0 hi hn; have := h.neg i hi; omega⟩

theorem Inv0.step {n : Nat} {m : Mat} (h : Inv0 n m) (hn : 0 < n) (z : at2 m 0 0 = 0) : Inv n 1 m (roundW n 0 m) := by
  have e := roundW_at (h.rh hn z) hn
  refine ⟨h.sq.roundW _, fun i j hi hj => ?_, fun i hi => ?_, fun i j hi hj => ?_, fun a ha ha' i j hi hj => ?_, fun i j hi hj => ?_, fun i j hi hj => ?_⟩
  · rw [e i j hi hj]
    have := h.neg i hi; have := h.row j hj
    omega
  · rw [e i i hi hi]
    have := h.diag i hi
    omega
  · rw [e i j hi hj]
    omega
  · obtain rfl : a = 0 := by omega
    rw [e i j hi hj, e i 0 hi hn, e 0 j hn hj]
    omega
  · by_cases hc : at2 m i j ≤ at2 m i 0 + at2 m 0 j
    · left; rw [e i j hi hj]; omega
    · right
      refine ⟨0, by omega, hn, ?_⟩
      rw [e i j hi hj, e i 0 hi hn]
      omega
  · by_cases hc : at2 m i j ≤ at2 m i 0 + at2 m 0 j
    · left; rw [e i j hi hj]; omega
    · right
      refine ⟨0, by omega, hn, ?_⟩
      rw [e i j hi hj, e 0 j hn hj]
      omega

/-- No entry is far below 0, if the diagonal is not. -/
theorem Inv.lo {n k : Nat} {W m : Mat} (h : Inv n k W m) (hk : 1 ≤ k) (w : Inv0 n W) (hn : 0 < n) (z : ∀ i, i < n → 0 ≤ at2 m i i) {i j : Nat} (hi : i < n) (hj : j < n) : -51539607552 ≤ at2 m i j := by
  have row0 : ∀ j, j < n → 0 ≤ at2 m 0 j ∧ at2 m 0 j ≤ 17179869184 := fun j hj => by
    have h1 := h.tri 0 (by omega) hn j j hj hj
    have := z j hj
    have := h.le j 0 hj hn
    have := w.neg j hj
    have := h.le 0 j hn hj
    have := w.row j hj
    omega
  have done : ∀ c b, c < k → c < n → b < n → -17179869184 ≤ at2 m c b := fun c b hc hcn hb => by
    have h1 := h.tri c hc hcn 0 b hn hb
    have := row0 b hb
    have := row0 c hcn
    omega
  have half : ∀ i b, i < n → b < n → -34359738368 ≤ at2 m i b := fun i b hi hb => by
    rcases h.dr i b hi hb with h1 | ⟨c, hc, hcn, h1⟩
    · have := w.lo i b hi hb
      omega
    · have := w.lo i c hi hcn
      have := done c b hc hcn hb
      omega
  have := half i j hi hj
  omega

theorem Inv.rh {n k : Nat} {W m : Mat} (h : Inv n k W m) (hk1 : 1 ≤ k) (hk : k < n) (w : Inv0 n W) (z : ∀ i, i < n → 0 ≤ at2 m i i) : RH n k m :=
  ⟨h.sq, by have := z k hk; have := h.diag k hk; omega,
    fun j hj => by have := h.lo hk1 w (by omega) z hk hj; have := h.hi k j hk hj; omega, fun i hi => by have := h.lo hk1 w (by omega) z hi hk; have := h.hi i k hi hk; omega⟩

theorem Inv.step {n k : Nat} {W m : Mat} (h : Inv n k W m) (hk : k < n) (r : RH n k m) : Inv n (k + 1) W (roundW n k m) := by
  have e := roundW_at r hk
  have z := r.zero
  refine ⟨h.sq.roundW _, fun i j hi hj => ?_, fun i hi => ?_, fun i j hi hj => ?_, fun a ha ha' i j hi hj => ?_, fun i j hi hj => ?_, fun i j hi hj => ?_⟩
  · rw [e i j hi hj]
    have := h.hi i j hi hj
    omega
  · rw [e i i hi hi]
    have := h.diag i hi
    omega
  · rw [e i j hi hj]
    have := h.le i j hi hj
    omega
  · rw [e i j hi hj, e i a hi ha', e a j ha' hj]
    by_cases q : a = k
    · subst q
      omega
    · have t := h.tri a (by omega) ha'
      have t1 := t i j hi hj
      have t2 := t k j hk hj
      have t3 := t i k hi hk
      have t4 := t k k hk hk
      omega
  · by_cases hc : at2 m i j ≤ at2 m i k + at2 m k j
    · rcases h.dl i j hi hj with h1 | ⟨b, hb, hbn, h1⟩
      · left; rw [e i j hi hj]; omega
      · right
        refine ⟨b, by omega, hbn, ?_⟩
        rw [e i j hi hj, e i b hi hbn]
        omega
    · right
      rcases h.dl k j hk hj with h1 | ⟨b, hb, hbn, h1⟩
      · refine ⟨k, by omega, hk, ?_⟩
        rw [e i j hi hj, e i k hi hk]
        omega
      · refine ⟨b, by omega, hbn, ?_⟩
        rw [e i j hi hj, e i b hi hbn]
        omega
  · by_cases hc : at2 m i j ≤ at2 m i k + at2 m k j
    · rcases h.dr i j hi hj with h1 | ⟨b, hb, hbn, h1⟩
      · left; rw [e i j hi hj]; omega
      · right
        refine ⟨b, by omega, hbn, ?_⟩
        rw [e i j hi hj, e b j hbn hj]
        omega
    · right
      rcases h.dr i k hi hk with h1 | ⟨b, hb, hbn, h1⟩
      · refine ⟨k, by omega, hk, ?_⟩
        rw [e i j hi hj, e k j hk hj]
        omega
      · refine ⟨b, by omega, hbn, ?_⟩
        rw [e i j hi hj, e b j hbn hj]
        omega

theorem SolM.step {n k : Nat} {m : Mat} {x : Nat → Int} (s : SolM n m x) (h : RH n k m) (hk : k < n) : SolM n (roundW n k m) x := by
  intro i j hi hj
  rw [roundW_at h hk i j hi hj]
  have := s i j hi hj; have := s i k hi hk; have := s k j hk hj
  omega

theorem rounds_final {n : Nat} {W : Mat} (w : Inv0 n W) : ∀ (c k : Nat) (m m' : Mat), k + c = n → 1 ≤ k → Inv n k W m → roundsW n c k m = some m' → (∀ i, i < n → 0 ≤ at2 m' i i) → Inv n n W m' ∧ ∀ x, SolM n m x → SolM n m' x
  | 0, k, m, m', h, _, hi, e, _ => by
    cases e
    obtain rfl : k = n := by omega
    exact ⟨hi, fun x s => s⟩
  | c + 1, k, m, m', h, h1, hi, e, z => by
    have hk : k < n := by omega
    have zz : ∀ i, i < n → 0 ≤ at2 m i i := fun i hi' => by
      have := rounds_le (c + 1) k m m' hi.sq e i i hi' hi'
      have := z i hi'
      omega
    have r := hi.rh h1 hk w zz
    unfold roundsW at e
    split at e
    · cases e
    · have := rounds_final w c (k + 1) _ m' (by omega) (by omega) (hi.step hk r) e z
      exact ⟨this.1, fun x s => this.2 x (s.step r hk)⟩

theorem SolM.diag {n : Nat} {m : Mat} {x : Nat → Int} (s : SolM n m x) {i : Nat} (hi : i < n) : 0 ≤ at2 m i i := by
  have := s i i hi hi
  omega

theorem rounds_exist {n : Nat} {W : Mat} (w : Inv0 n W) {x : Nat → Int} : ∀ (c k : Nat) (m : Mat), k + c = n → 1 ≤ k → Inv n k W m → SolM n m x → ∃ m', roundsW n c k m = some m' ∧ SolM n m' x
  | 0, k, m, h, _, hi, s => ⟨m, rfl, s⟩
  | c + 1, k, m, h, h1, hi, s => by
    have hk : k < n := by omega
    have r := hi.rh h1 hk w (fun i hi => s.diag hi)
    have s' := s.step r hk
    unfold roundsW
    rw [if_neg (by have := s'.diag hk; omega)]
    exact rounds_exist w c (k + 1) _ (by omega) (by omega) (hi.step hk r) s'

/-- All that is known of a closed matrix. -/
structure ClosedM (n : Nat) (W m : Mat) : Prop where
  inv : Inv n n W m
  start : Inv0 n W
  zero : ∀ i, i < n → at2 m i i = 0
  le : Le n m W
  sol : ∀ x, SolM n W x → SolM n m x

theorem closed_final {n : Nat} (h1 : 1 ≤ n) {W m : Mat} (h : Inv0 n W) (e : roundsW n n 0 W = some m) (z : ∀ i, i < n → 0 ≤ at2 m i i) : ClosedM n W m := by
  have le := rounds_le n 0 W m h.sq e
  have zz : at2 W 0 0 = 0 := by
    have := le 0 0 h1 h1
    have := z 0 h1
    have := h.diag 0 h1
    omega
  obtain ⟨c, rfl⟩ : ∃ c, n = c + 1 := ⟨n - 1, by omega⟩
  unfold roundsW at e
  split at e
  · cases e
  · have := rounds_final h c 1 _ m (by omega) (by omega) (h.step h1 zz) e z
    refine ⟨this.1, h, fun i hi => ?_, le, fun x s => this.2 x (s.step (h.rh h1 zz) h1)⟩
    have := this.1.diag i hi
    have := z i hi
    omega

theorem closed_exist {n : Nat} (h1 : 1 ≤ n) {W : Mat} (h : Inv0 n W) {x : Nat → Int} (s : SolM n W x) : ∃ m, roundsW n n 0 W = some m ∧ ClosedM n W m := by
  have zz : at2 W 0 0 = 0 := by
    have := s.diag h1
    have := h.diag 0 h1
    omega
  have s' := s.step (h.rh h1 zz) h1
  obtain ⟨c, rfl⟩ : ∃ c, n = c + 1 := ⟨n - 1, by omega⟩
  obtain ⟨m', e, s''⟩ := rounds_exist h c 1 _ (by omega) (by omega) (h.step h1 zz) s'
  have e' : roundsW (c + 1) (c + 1) 0 W = some m' := by
    unfold roundsW
    rw [if_neg (by have := s'.diag h1; omega)]
    exact e
  exact ⟨m', e', closed_final h1 h e' (fun i hi => s''.diag hi)⟩

theorem ClosedM.tri {n : Nat} {W m : Mat} (h : ClosedM n W m) {i a j : Nat} (hi : i < n) (ha : a < n) (hj : j < n) : at2 m i j ≤ at2 m i a + at2 m a j := h.inv.tri a ha ha i j hi hj
theorem ClosedM.lo {n : Nat} {W m : Mat} (h : ClosedM n W m) (h1 : 1 ≤ n) {i j : Nat} (hi : i < n) (hj : j < n) : -51539607552 ≤ at2 m i j :=
  h.inv.lo h1 h.start h1 (fun i hi => by have := h.zero i hi; omega) hi hj

/-- Each row is a solution. -/
theorem ClosedM.row {n : Nat} {W m : Mat} (h : ClosedM n W m) {r : Nat} (hr : r < n) : SolM n W (fun j => at2 m r j) := by
  intro i j hi hj
  have := h.tri hr hi hj
  have := h.le i j hi hj
  show at2 m r j - at2 m r i ≤ at2 W i j
  omega
end
end Go.Lift

/- The theory of the closure, 3: constraints. -/
namespace Go.Lift
open Go.RowKit Go.IntWalk
noncomputable section
set_option linter.unusedVariables false
set_option linter.unusedSimpArgs false
set_option maxRecDepth 10000

/-- Numbers that fulfil all constraints. -/
def Sol (l : List Diff) (x : Nat → Int) : Prop := ∀ d ∈ l, x d.2.1.toNat - x d.1.toNat ≤ d.2.2

theorem put_at {n : Nat} {m : Mat} (h : Sq n m) {d : Diff} (hd : diffOk n d = true) (a b : Nat) :
    at2 (putW m d) a b = if a = d.1.toNat ∧ b = d.2.1.toNat then min (at2 m a b) d.2.2 else at2 m a b := by
  have hd := of_decide_eq_true hd
  unfold putW
  rw [at_setAt h (by omega) (by omega)]
  split
  · rename_i e
    rw [e.1, e.2]
    split <;> omega
  · rfl

theorem big_at {n : Nat} {i j : Nat} (hi : i < n) (hj : j < n) : at2 (bigM n) i j = 1099511627776 := by
  unfold at2 bigM
  simp [List.getD, hi, hj]

/-- The direct bounds: what is under all of them. -/
theorem direct_glb {n : Nat} : ∀ (l : List Diff), l.all (diffOk n) = true → ∀ (m : Mat), Sq n m → ∀ i j (v : Int), v ≤ at2 (l.foldl putW m) i j ↔ v ≤ at2 m i j ∧ ∀ d ∈ l, d.1.toNat = i → d.2.1.toNat = j → v ≤ d.2.2
  | [], _, m, hm, i, j, v => by simp
  | d :: l, ho, m, hm, i, j, v => by
    rw [List.all_cons, Bool.and_eq_true] at ho
    simp only [List.foldl_cons]
    rw [direct_glb l ho.2 _ (hm.putW d) i j v, put_at hm ho.1]
    simp only [List.mem_cons, forall_eq_or_imp]
    by_cases e : i = d.1.toNat ∧ j = d.2.1.toNat
    · rw [if_pos e]
      constructor
      · intro h
        refine ⟨by omega, fun _ _ => by omega, h.2⟩
      · intro h
        have := h.2.1 e.1.symm e.2.symm
        exact ⟨by omega, h.2.2⟩
    · rw [if_neg e]
      constructor
      · intro h
        exact ⟨h.1, fun a b => absurd ⟨a.symm, b.symm⟩ e, h.2⟩
      · intro h
        exact ⟨h.1, h.2.2⟩

theorem diag_at {n : Nat} {m : Mat} (hm : Sq n m) {i j : Nat} (hi : i < n) (hj : j < n) : at2 (diagW n m) i j = if i = j then min (at2 m i j) 0 else at2 m i j := by
  have key : ∀ c, c ≤ n → Sq n ((List.range c).foldl (fun m i => setAt m i i (if 0 < at2 m i i then 0 else at2 m i i)) m) ∧ ∀ a b, a < n → b < n →
      at2 ((List.range c).foldl (fun m i => setAt m i i (if 0 < at2 m i i then 0 else at2 m i i)) m) a b = if a = b ∧ a < c then min (at2 m a b) 0 else at2 m a b := by
    intro c
    induction c with
    | zero =>
      intro _
      refine ⟨hm, fun a b _ _ => ?_⟩
      rw [if_neg (by omega)]
      rfl
    | succ c ih =>
      intro hc
      obtain ⟨s1, s2⟩ := ih (by omega)
      rw [range_fold]
      refine ⟨s1.setAt _ _ _, fun a b ha hb => ?_⟩
      rw [at_setAt s1 (by omega) (by omega), s2 c c (by omega) (by omega), s2 a b ha hb, if_neg (show ¬ (c = c ∧ c < c) by omega)]
      by_cases e : a = c ∧ b = c
      · rw [if_pos e, if_pos (show a = b ∧ a < c + 1 by omega), e.1, e.2]
        split <;> omega
      · rw [if_neg e]
        by_cases e2 : a = b ∧ a < c
        · rw [if_pos e2, if_pos (show a = b ∧ a < c + 1 by omega)]
        · rw [if_neg e2, if_neg (show ¬ (a = b ∧ a < c + 1) by omega)]
  refine ((key n (Nat.le_refl n)).2 i j hi hj).trans ?_
  by_cases e : i = j
  · rw [if_pos ⟨e, hi⟩, if_pos e]
  · rw [if_neg (fun h => e h.1), if_neg e]

/-- The matrix at the beginning. -/
def startW (n : Nat) (l : List Diff) : Mat := diagW n (directW n l)

theorem start_glb {n : Nat} {l : List Diff} (ho : l.all (diffOk n) = true) {i j : Nat} (hi : i < n) (hj : j < n) (v : Int) :
    v ≤ at2 (startW n l) i j ↔ v ≤ 1099511627776 ∧ (∀ d ∈ l, d.1.toNat = i → d.2.1.toNat = j → v ≤ d.2.2) ∧ (i = j → v ≤ 0) := by
  unfold startW
  rw [diag_at (directW_sq n l) hi hj]
  have g := direct_glb l ho (bigM n) (bigM_sq n) i j v
  rw [big_at hi hj] at g
  by_cases e : i = j
  · rw [if_pos e]
    constructor
    · intro h
      have := g.1 (by unfold directW at h; omega)
      exact ⟨this.1, this.2, fun _ => by omega⟩
    · intro h
      have := g.2 ⟨h.1, h.2.1⟩
      have := h.2.2 e
      unfold directW
      omega
  · rw [if_neg e]
    constructor
    · intro h
      have := g.1 h
      exact ⟨this.1, this.2, fun h => absurd h e⟩
    · intro h
      exact g.2 ⟨h.1, h.2.1⟩

theorem start_le {n : Nat} {l : List Diff} (ho : l.all (diffOk n) = true) {d : Diff} (hd : d ∈ l) : at2 (startW n l) d.1.toNat d.2.1.toNat ≤ d.2.2 := by
  have h := of_decide_eq_true (List.all_eq_true.1 ho d hd)
  exact ((start_glb ho (by omega) (by omega) _).1 (Int.le_refl _)).2.1 d hd rfl rfl

/-- Every variable has both bounds against the variable 0. -/
structure Conn (n : Nat) (l : List Diff) : Prop where
  pos : 1 ≤ n
  small : n ≤ 41
  valid : validD n l = true
  up : ∀ i, 1 ≤ i → i < n → ∃ d ∈ l, d.1.toNat = 0 ∧ d.2.1.toNat = i
  down : ∀ i, 1 ≤ i → i < n → ∃ d ∈ l, d.1.toNat = i ∧ d.2.1.toNat = 0 ∧ d.2.2 ≤ 0

theorem Conn.all {n : Nat} {l : List Diff} (h : Conn n l) : l.all (diffOk n) = true := by
  have := h.valid
  unfold validD at this
  rw [Bool.and_eq_true] at this
  exact this.2

theorem Conn.inv {n : Nat} {l : List Diff} (h : Conn n l) : Inv0 n (startW n l) := by
  have ho := h.all
  refine ⟨(directW_sq n l).diagW, fun i j hi hj => ?_, fun j hj => ?_, fun i hi => ?_, fun i hi => ?_⟩
  · rw [start_glb ho hi hj]
    refine ⟨by omega, fun d hd _ _ => ?_, by omega⟩
    have := of_decide_eq_true (List.all_eq_true.1 ho d hd)
    omega
  · by_cases e : j = 0
    · subst e
      have := ((start_glb ho h.pos h.pos _).1 (Int.le_refl _)).2.2 rfl
      omega
    · obtain ⟨d, hd, e1, e2⟩ := h.up j (by omega) hj
      have := start_le ho hd
      have := of_decide_eq_true (List.all_eq_true.1 ho d hd)
      rw [e1, e2] at *
      omega
  · by_cases e : i = 0
    · subst e
      have := ((start_glb ho h.pos h.pos _).1 (Int.le_refl _)).2.2 rfl
      omega
    · obtain ⟨d, hd, e1, e2, e3⟩ := h.down i (by omega) hi
      have h1 := start_le ho hd
      rw [e1, e2] at h1
      omega
  · exact ((start_glb ho hi hi _).1 (Int.le_refl _)).2.2 rfl

/-- Solutions of the constraints, as far as numbers below BIG go. -/
theorem sol_iff {n : Nat} {l : List Diff} (ho : l.all (diffOk n) = true) (x : Nat → Int) (hx : ∀ i j, i < n → j < n → x j - x i ≤ 1099511627776) : SolM n (startW n l) x ↔ Sol l x := by
  constructor
  · intro h d hd
    have hh := of_decide_eq_true (List.all_eq_true.1 ho d hd)
    have := h d.1.toNat d.2.1.toNat (by omega) (by omega)
    have := start_le ho hd
    omega
  · intro h i j hi hj
    rw [start_glb ho hi hj]
    refine ⟨hx i j hi hj, fun d hd e1 e2 => ?_, fun e => by subst e; omega⟩
    have := h d hd
    rw [e1, e2] at this
    exact this

/-- All that is known of what Close returns. -/
structure CloseOk (n : Nat) (l : List Diff) (m : Mat) : Prop where
  sq : Sq n m
  lo : ∀ i j, i < n → j < n → -4398046511104 ≤ at2 m i j
  hi : ∀ i j, i < n → j < n → at2 m i j ≤ 34359738368
  zero : ∀ i, i < n → at2 m i i = 0
  tri : ∀ i a j, i < n → a < n → j < n → at2 m i j ≤ at2 m i a + at2 m a j
  /-- no solution goes beyond -/
  sol : ∀ x, Sol l x → ∀ i j, i < n → j < n → x j - x i ≤ at2 m i j
  /-- each row is a solution -/
  row : ∀ r, r < n → Sol l (fun j => at2 m r j)

/-- A solution is bounded. -/
theorem Conn.bounded {n : Nat} {l : List Diff} (h : Conn n l) {x : Nat → Int} (s : Sol l x) : ∀ i j, i < n → j < n → x j - x i ≤ 1099511627776 := by
  have ho := h.all
  intro i j hi hj
  have a : x j - x 0 ≤ 17179869184 := by
    by_cases e : j = 0
    · subst e; omega
    · obtain ⟨d, hd, e1, e2⟩ := h.up j (by omega) hj
      have := s d hd
      have := of_decide_eq_true (List.all_eq_true.1 ho d hd)
      rw [e1, e2] at *
      omega
  have b : x 0 - x i ≤ 17179869184 := by
    by_cases e : i = 0
    · subst e; omega
    · obtain ⟨d, hd, e1, e2, e3⟩ := h.down i (by omega) hi
      have := s d hd
      rw [e1, e2] at this
      omega
  omega

theorem ClosedM.ok {n : Nat} {l : List Diff} (h : Conn n l) {m : Mat} (c : ClosedM n (startW n l) m) : CloseOk n l m := by
  have ho := h.all
  have hs := h.small
  refine ⟨c.inv.sq, fun i j hi hj => ?_, c.inv.hi, c.zero, fun i a j hi ha hj => c.tri hi ha hj, fun x s i j hi hj => ?_, fun r hr => ?_⟩
  · have := c.lo h.pos hi hj
    omega
  · exact c.sol x ((sol_iff ho x (h.bounded s)).2 s) i j hi hj
  · intro d hd
    have hh := of_decide_eq_true (List.all_eq_true.1 ho d hd)
    have := c.row hr d.1.toNat d.2.1.toNat (by omega) (by omega)
    have := start_le ho hd
    omega

theorem diagOk_iff {n : Nat} {m : Mat} : diagOk n m = true ↔ ∀ i, i < n → 0 ≤ at2 m i i := by
  unfold diagOk
  rw [List.all_eq_true]
  constructor
  · intro h i hi
    have := of_decide_eq_true (h i (by simpa using hi))
    omega
  · intro h i hi
    have := h i (by simpa using hi)
    exact decide_eq_true (by omega)

/-- If Close returns a matrix, all is known of it. -/
theorem close_ok {n : Nat} {l : List Diff} (h : Conn n l) {m : Mat} (e : closeW n l = some m) : CloseOk n l m := by
  unfold closeW at e
  rw [if_pos h.valid] at e
  cases hr : roundsW n n 0 (diagW n (directW n l)) with
  | none => rw [hr] at e; cases e
  | some m' =>
    rw [hr] at e
    simp only [] at e
    by_cases hd : diagOk n m' = true
    · rw [if_pos hd] at e
      cases e
      exact (closed_final h.pos h.inv hr (diagOk_iff.1 hd)).ok h
    · rw [if_neg hd] at e; cases e

/-- If there is a solution, Close returns a matrix. -/
theorem close_some {n : Nat} {l : List Diff} (h : Conn n l) {x : Nat → Int} (s : Sol l x) : ∃ m, closeW n l = some m ∧ CloseOk n l m := by
  obtain ⟨m, hr, c⟩ := closed_exist h.pos h.inv ((sol_iff h.all x (h.bounded s)).2 s)
  refine ⟨m, ?_, c.ok h⟩
  unfold closeW
  rw [if_pos h.valid]
  have hr' : roundsW n n 0 (diagW n (directW n l)) = some m := hr
  rw [hr']
  simp only []
  rw [if_pos (diagOk_iff.2 (fun i hi => by have := c.zero i hi; omega))]
end
end Go.Lift

/- The constraints of a record, and what their solutions are. -/
namespace Go.Lift
open Go.RowKit Go.IntWalk
noncomputable section
set_option linter.unusedVariables false
set_option linter.unusedSimpArgs false
set_option maxRecDepth 10000

theorem foldl_flat {α γ : Type} (f : α → List γ) : ∀ (l : List α) (s : List γ), l.foldl (fun s x => s ++ f x) s = s ++ l.flatMap f
  | [], s => by simp
  | x :: l, s => by
    simp only [List.foldl_cons, List.flatMap_cons]
    rw [foldl_flat f l, List.append_assoc]

/-- A loop with a test at each element: out, or on. -/
theorem fold_check {β α σ : Type} (I : Nat → σ → Prop) (F : Nat → Int → σ → Option β) (p : α → Bool) (g : σ → α → σ) (E : Option β) (K : σ → Option β) (d : α) (xs : List α) (s : σ) (n : Nat) (hn : xs.length < n) (h0 : I 0 s)
    (hI : ∀ (i : Nat) s, i < xs.length → I i s → p (xs.getD i d) = true → I (i + 1) (g s (xs.getD i d)))
    (h1 : ∀ (m i : Nat) s, i < xs.length → I i s → F (m + 1) (i : Int) s = cond (p (xs.getD i d)) (F m ((i : Int) + 1) (g s (xs.getD i d))) E)
    (h2 : ∀ (m : Nat) s, I xs.length s → F (m + 1) (xs.length : Int) s = K s) : F n 0 s = cond (xs.all p) (K (xs.foldl g s)) E := by
  have key : ∀ (r : List α) (j fuel : Nat) (s : σ), xs.drop j = r → j + r.length = xs.length → r.length < fuel → I j s → F fuel (j : Int) s = cond (r.all p) (K (r.foldl g s)) E := by
    intro r
    induction r with
    | nil =>
      intro j fuel s hd hj hf hs
      obtain ⟨m, rfl⟩ : ∃ m, fuel = m + 1 := ⟨fuel - 1, by omega⟩
      simp only [List.length_nil, Nat.add_zero] at hj
      subst hj
      exact h2 m s hs
    | cons x r ih =>
      intro j fuel s hd hj hf hs
      obtain ⟨m, rfl⟩ : ∃ m, fuel = m + 1 := ⟨fuel - 1, by omega⟩
      simp only [List.length_cons] at hj hf
      have h3 : j < xs.length := by omega
      have hx : xs.getD j d = x := by
        rw [List.drop_eq_getElem_cons h3] at hd
        injection hd with hd1 hd2
        simp [List.getD, h3, hd1]
      have hr : xs.drop (j + 1) = r := by
        rw [List.drop_eq_getElem_cons h3] at hd
        injection hd with hd1 hd2
      rw [h1 m j s h3 hs, hx]
      have := hI j s h3 hs
      rw [hx] at this
      simp only [List.all_cons, List.foldl_cons]
      cases hp : p x with
      | true => simpa using ih (j + 1) m (g s x) hr (by omega) (by omega) (this hp)
      | false => rfl
  exact key xs 0 n s rfl (by simp) hn h0

/-- The same over the numbers below n. -/
theorem range_check {β σ : Type} (n : Nat) (I : Nat → σ → Prop) (F : Nat → Int → σ → Option β) (p : Nat → Bool) (g : σ → Nat → σ) (E : Option β) (K : σ → Option β) (s : σ) (N : Nat) (hn : n < N) (h0 : I 0 s)
    (hI : ∀ (i : Nat) s, i < n → I i s → p i = true → I (i + 1) (g s i))
    (h1 : ∀ (m i : Nat) s, i < n → I i s → F (m + 1) (i : Int) s = cond (p i) (F m ((i : Int) + 1) (g s i)) E)
    (h2 : ∀ (m : Nat) s, I n s → F (m + 1) (n : Int) s = K s) : F N 0 s = cond ((List.range n).all p) (K ((List.range n).foldl g s)) E := by
  have hl : (List.range n).length = n := List.length_range
  refine fold_check I F p g E K 0 (List.range n) s N (by omega) h0 (fun i s hi hs => ?_) (fun m i s hi hs => ?_) (fun m s hs => ?_)
  · rw [range_getD (by omega)]
    exact hI i s (by omega) hs
  · rw [range_getD (by omega)]
    exact h1 m i s (by omega) hs
  · rw [hl] at hs ⊢
    exact h2 m s hs

theorem range_fold' {β σ : Type} (n : Nat) (I : Nat → σ → Prop) (F : Nat → Int → σ → Option β) (g : σ → Nat → σ) (K : σ → Option β) (s : σ) (N : Nat) (hn : n < N) (h0 : I 0 s)
    (hI : ∀ (i : Nat) s, i < n → I i s → I (i + 1) (g s i))
    (h1 : ∀ (m i : Nat) s, i < n → I i s → F (m + 1) (i : Int) s = F m ((i : Int) + 1) (g s i))
    (h2 : ∀ (m : Nat) s, I n s → F (m + 1) (n : Int) s = K s) : F N 0 s = K ((List.range n).foldl g s) := by
  have h := range_check n I F (fun _ => true) g none K s N hn h0 (fun i s hi hs _ => hI i s hi hs) h1 h2
  rw [h]
  have : (List.range n).all (fun _ => true) = true := by simp
  rw [this]
  rfl

def evAt (r : Rec) (i : Nat) : Event := r.2.2.1.getD i (0, 0, [])
def whenAt (r : Rec) (i : Nat) : (Int × Int) × Bool := when? r (evAt r i).1 (evAt r i).2.1
def driftAt (r : Rec) (h : Int) : Int := (r.1.getD h.toNat ([], 0)).2
def evD (r : Rec) (i : Nat) : List Diff := [(0, ((i : Int) + 1, (whenAt r i).1.2)), ((i : Int) + 1, (0, -(whenAt r i).1.1))]
def pairD (r : Rec) (i j : Nat) : List Diff :=
  if (evAt r j).2.1 < (evAt r i).2.1 then
    [((j : Int) + 1, ((i : Int) + 1, (elapsed (driftAt r (evAt r j).1) ((evAt r i).2.1 - (evAt r j).2.1)).2)), ((i : Int) + 1, ((j : Int) + 1, -(elapsed (driftAt r (evAt r j).1) ((evAt r i).2.1 - (evAt r j).2.1)).1))]
  else
    [((i : Int) + 1, ((j : Int) + 1, (elapsed (driftAt r (evAt r i).1) ((evAt r j).2.1 - (evAt r i).2.1)).2)), ((j : Int) + 1, ((i : Int) + 1, -(elapsed (driftAt r (evAt r i).1) ((evAt r j).2.1 - (evAt r i).2.1)).1))]
def pairIf (r : Rec) (i j : Nat) : List Diff := if (evAt r j).1 = (evAt r i).1 then pairD r i j else []
def pairsI (r : Rec) (n i : Nat) : List Diff := ((List.range n).filter fun j => decide (i < j)).flatMap (pairIf r i)
def linkD (l : Link) : Diff := (l.2.1 + 1, (l.1 + 1, -l.2.2))
def nE (r : Rec) : Nat := r.2.2.1.length
def whensOk (r : Rec) : Bool := (List.range (nE r)).all fun i => (whenAt r i).2
def consL (r : Rec) : List Diff := (List.range (nE r)).flatMap (evD r) ++ (List.range (nE r)).flatMap (pairsI r (nE r)) ++ r.2.2.2.map linkD
/-- The constraints of a record. -/
def consW (r : Rec) : Option (List Diff) := if valid r && whensOk r then some (consL r) else none

/-- Times that fit a record. -/
structure SolR (r : Rec) (x : Nat → Int) : Prop where
  ev : ∀ i, i < nE r → x (i + 1) - x 0 ≤ (whenAt r i).1.2 ∧ x 0 - x (i + 1) ≤ -(whenAt r i).1.1
  pair : ∀ i j, i < nE r → j < nE r → i ≠ j → (evAt r i).1 = (evAt r j).1 → (evAt r i).2.1 ≤ (evAt r j).2.1 →
    (elapsed (driftAt r (evAt r i).1) ((evAt r j).2.1 - (evAt r i).2.1)).1 ≤ x (j + 1) - x (i + 1) ∧ x (j + 1) - x (i + 1) ≤ (elapsed (driftAt r (evAt r i).1) ((evAt r j).2.1 - (evAt r i).2.1)).2
  link : ∀ l ∈ r.2.2.2, l.2.2 ≤ x (l.2.1.toNat + 1) - x (l.1.toNat + 1)

theorem valid_parts {r : Rec} (h : valid r = true) : (∀ h ∈ r.1, 0 ≤ h.2 ∧ h.2 ≤ 500000) ∧ (∀ s ∈ r.2.1, 0 ≤ s.1 ∧ s.1 < r.1.length ∧ okSync s = true) ∧
    (∀ e ∈ r.2.2.1, 0 ≤ e.1 ∧ e.1 < r.1.length ∧ 0 ≤ e.2.1 ∧ e.2.1 ≤ 8589934592) ∧
    (∀ l ∈ r.2.2.2, 0 ≤ l.1 ∧ l.1 < nE r ∧ 0 ≤ l.2.1 ∧ l.2.1 < nE r ∧ l.1 ≠ l.2.1 ∧ 0 ≤ l.2.2 ∧ l.2.2 ≤ 8589934592) := by
  unfold valid at h
  simp only [Bool.and_eq_true, List.all_eq_true] at h
  obtain ⟨_, h1, h2, h3, h4⟩ := h
  refine ⟨fun x hx => ?_, fun x hx => ?_, fun x hx => ?_, fun x hx => ?_⟩
  · exact inN_iff.1 (h1 x hx)
  · have := h2 x hx
    simp only [vSync, Bool.and_eq_true, inN_iff] at this
    exact ⟨by omega, by omega, this.2⟩
  · have := h3 x hx
    simp only [vEvent, Bool.and_eq_true, inN_iff] at this
    omega
  · have := h4 x hx
    simp only [vLink, Bool.and_eq_true, inN_iff, Bool.not_eq_true', decide_eq_false_iff_not] at this
    unfold nE
    omega

theorem valid_ev {r : Rec} (h : valid r = true) {i : Nat} (hi : i < nE r) : 0 ≤ (evAt r i).1 ∧ (evAt r i).1 < r.1.length ∧ 0 ≤ (evAt r i).2.1 ∧ (evAt r i).2.1 ≤ 8589934592 :=
  (valid_parts h).2.2.1 _ (getD_mem hi)

theorem elapsed_zero (d : Int) : elapsed d 0 = (0, 0) := by
  unfold elapsed
  by_cases h : inN d 0 500000 = true
  · have := inN_iff.1 h
    rw [h, inN_mk (by omega)]
    simp only [Bool.and_self, cond_true]
    rw [Int.zero_mul, Int.zero_ediv]
    congr 1
    exact Int.ediv_eq_zero_of_lt (by omega) (by omega)
  · rw [Bool.eq_false_iff.2 h]
    rfl

theorem mem_pairs {r : Rec} {n : Nat} {d : Diff} : d ∈ (List.range n).flatMap (pairsI r n) ↔ ∃ i j, i < j ∧ j < n ∧ (evAt r j).1 = (evAt r i).1 ∧ d ∈ pairD r i j := by
  simp only [List.mem_flatMap, pairsI, List.mem_filter, List.mem_range, decide_eq_true_eq, pairIf]
  constructor
  · rintro ⟨i, hi, j, ⟨hj, hij⟩, hd⟩
    split at hd
    · rename_i e
      exact ⟨i, j, hij, hj, e, hd⟩
    · cases hd
  · rintro ⟨i, j, hij, hj, e, hd⟩
    exact ⟨i, by omega, j, ⟨hj, hij⟩, by rw [if_pos e]; exact hd⟩

theorem mem_cons {r : Rec} {d : Diff} : d ∈ consL r ↔ (∃ i, i < nE r ∧ d ∈ evD r i) ∨ (∃ i j, i < j ∧ j < nE r ∧ (evAt r j).1 = (evAt r i).1 ∧ d ∈ pairD r i j) ∨ ∃ l ∈ r.2.2.2, d = linkD l := by
  unfold consL
  rw [List.mem_append, List.mem_append, mem_pairs, or_assoc]
  simp only [List.mem_flatMap, List.mem_range, List.mem_map, eq_comm]

theorem pairD_sol {r : Rec} {i j : Nat} {x : Nat → Int} : (∀ d ∈ pairD r i j, x d.2.1.toNat - x d.1.toNat ≤ d.2.2) ↔
    (if (evAt r j).2.1 < (evAt r i).2.1 then
      (elapsed (driftAt r (evAt r j).1) ((evAt r i).2.1 - (evAt r j).2.1)).1 ≤ x (i + 1) - x (j + 1) ∧ x (i + 1) - x (j + 1) ≤ (elapsed (driftAt r (evAt r j).1) ((evAt r i).2.1 - (evAt r j).2.1)).2
    else (elapsed (driftAt r (evAt r i).1) ((evAt r j).2.1 - (evAt r i).2.1)).1 ≤ x (j + 1) - x (i + 1) ∧ x (j + 1) - x (i + 1) ≤ (elapsed (driftAt r (evAt r i).1) ((evAt r j).2.1 - (evAt r i).2.1)).2) := by
  have ei : ((i : Int) + 1).toNat = i + 1 := by omega
  have ej : ((j : Int) + 1).toNat = j + 1 := by omega
  unfold pairD
  split
  · simp only [List.mem_cons, List.not_mem_nil, or_false, forall_eq_or_imp, forall_eq, ei, ej]
    omega
  · simp only [List.mem_cons, List.not_mem_nil, or_false, forall_eq_or_imp, forall_eq, ei, ej]
    omega

theorem sol_cons {r : Rec} (hv : valid r = true) (x : Nat → Int) : Sol (consL r) x ↔ SolR r x := by
  have hp := valid_parts hv
  constructor
  · intro h
    refine ⟨fun i hi => ?_, fun i j hi hj hij hh hc => ?_, fun l hl => ?_⟩
    · have h1 := h (0, ((i : Int) + 1, (whenAt r i).1.2)) (mem_cons.2 (.inl ⟨i, hi, by simp [evD]⟩))
      have h2 := h ((i : Int) + 1, (0, -(whenAt r i).1.1)) (mem_cons.2 (.inl ⟨i, hi, by simp [evD]⟩))
      have e : ((i : Int) + 1).toNat = i + 1 := by omega
      simp only [e, Int.toNat_zero] at h1 h2
      exact ⟨h1, h2⟩
    · rcases Nat.lt_or_gt_of_ne hij with hl | hl
      · have := pairD_sol.1 (fun d hd => h d (mem_cons.2 (.inr (.inl ⟨i, j, hl, hj, hh.symm, hd⟩))))
        rw [if_neg (by omega)] at this
        exact this
      · have := pairD_sol.1 (fun d hd => h d (mem_cons.2 (.inr (.inl ⟨j, i, hl, hi, hh, hd⟩))))
        by_cases e : (evAt r i).2.1 = (evAt r j).2.1
        · rw [if_neg (by omega), e, Int.sub_self, elapsed_zero] at this
          rw [e, Int.sub_self, elapsed_zero]
          simp only at this ⊢
          omega
        · rw [if_pos (by omega)] at this
          exact this
    · have h1 := h (linkD l) (mem_cons.2 (.inr (.inr ⟨l, hl, rfl⟩)))
      have := hp.2.2.2 l hl
      have e1 : (l.1 + 1).toNat = l.1.toNat + 1 := by omega
      have e2 : (l.2.1 + 1).toNat = l.2.1.toNat + 1 := by omega
      simp only [linkD, e1, e2] at h1
      omega
  · intro h d hd
    rcases mem_cons.1 hd with ⟨i, hi, hd⟩ | ⟨i, j, hij, hj, hh, hd⟩ | ⟨l, hl, rfl⟩
    · have := h.ev i hi
      have e : ((i : Int) + 1).toNat = i + 1 := by omega
      simp only [evD, List.mem_cons, List.not_mem_nil, or_false] at hd
      rcases hd with rfl | rfl
      · simp only [e, Int.toNat_zero]
        exact this.1
      · simp only [e, Int.toNat_zero]
        exact this.2
    · refine pairD_sol.2 ?_ d hd
      split
      · rename_i hc
        exact h.pair j i hj (by omega) (by omega) hh (by omega)
      · rename_i hc
        exact h.pair i j (by omega) hj (by omega) hh.symm (by omega)
    · have := h.link l hl
      have hb := hp.2.2.2 l hl
      have e1 : (l.1 + 1).toNat = l.1.toNat + 1 := by omega
      have e2 : (l.2.1 + 1).toNat = l.2.1.toNat + 1 := by omega
      simp only [linkD, e1, e2]
      omega

theorem flat_len {α γ : Type} (f : α → List γ) (c : Nat) : ∀ l : List α, (∀ x ∈ l, (f x).length ≤ c) → (l.flatMap f).length ≤ l.length * c
  | [], _ => by simp
  | x :: l, h => by
    have h1 := h x (by simp)
    have h2 := flat_len f c l (fun y hy => h y (by simp [hy]))
    simp only [List.flatMap_cons, List.length_append, List.length_cons, Nat.succ_mul]
    omega

theorem cons_len {r : Rec} (hv : valid r = true) : (consL r).length ≤ 4000 := by
  have hb := valid_bd hv
  have h1 := flat_len (evD r) 2 (List.range (nE r)) (fun i _ => by simp [evD])
  have h2 : ∀ i ∈ List.range (nE r), (pairsI r (nE r) i).length ≤ 80 := fun i _ => by
    have h3 := flat_len (pairIf r i) 2 ((List.range (nE r)).filter fun j => decide (i < j)) (fun j _ => by
      unfold pairIf pairD
      split
      · split <;> simp
      · simp)
    have h4 := List.length_filter_le (fun j => decide (i < j)) (List.range (nE r))
    rw [List.length_range] at h4
    unfold pairsI nE at *
    omega
  have h3 := flat_len (pairsI r (nE r)) 80 _ h2
  unfold consL
  rw [List.length_append, List.length_append, List.length_map]
  rw [List.length_range] at h1 h3
  unfold nE at *
  omega

/-- The ranges of the readings. -/
theorem whenAt_bd {r : Rec} {i : Nat} (h : (whenAt r i).2 = true) : 0 ≤ (whenAt r i).1.1 ∧ (whenAt r i).1.1 ≤ (whenAt r i).1.2 ∧ (whenAt r i).1.2 ≤ 8589934592 := by
  unfold whenAt Go.Lift.when? at h ⊢
  cases hc : (valid r && (inN (evAt r i).1 0 ((r.1.length : Int) - 1) && inN (evAt r i).2.1 0 8589934592)) with
  | false => rw [hc] at h; cases h
  | true =>
    rw [hc] at h
    simp only [cond_true, Bool.not_eq_true', decide_eq_false_iff_not] at h ⊢
    rw [whenR_eq] at h ⊢
    have := @foldl_meet_bd (froms r.1 (evAt r i).1 (evAt r i).2.1 r.2.1) (0, 8589934592)
    simp only at this
    omega

theorem whensOk_iff {r : Rec} : whensOk r = true ↔ ∀ i, i < nE r → (whenAt r i).2 = true := by
  unfold whensOk
  rw [List.all_eq_true]
  simp only [List.mem_range]

theorem consL_ok {r : Rec} (hv : valid r = true) (hw : whensOk r = true) : (consL r).all (diffOk (nE r + 1)) = true := by
  rw [List.all_eq_true]
  intro d hd
  have hp := valid_parts hv
  unfold diffOk
  apply decide_eq_true
  rcases mem_cons.1 hd with ⟨i, hi, hd⟩ | ⟨i, j, hij, hj, hh, hd⟩ | ⟨l, hl, rfl⟩
  · have := whenAt_bd (whensOk_iff.1 hw i hi)
    simp only [evD, List.mem_cons, List.not_mem_nil, or_false] at hd
    rcases hd with rfl | rfl <;> simp only <;> omega
  · unfold pairD at hd
    split at hd <;> simp only [List.mem_cons, List.not_mem_nil, or_false] at hd
    · have := @elapsed_bd (driftAt r (evAt r j).1) ((evAt r i).2.1 - (evAt r j).2.1)
      rcases hd with rfl | rfl <;> simp only <;> omega
    · have := @elapsed_bd (driftAt r (evAt r i).1) ((evAt r j).2.1 - (evAt r i).2.1)
      rcases hd with rfl | rfl <;> simp only <;> omega
  · have := hp.2.2.2 l hl
    simp only [linkD]
    omega

theorem consL_valid {r : Rec} (hv : valid r = true) (hw : whensOk r = true) : validD (nE r + 1) (consL r) = true := by
  unfold validD
  rw [decide_eq_true (cons_len hv), consL_ok hv hw]
  rfl

/-- Every variable is bound both ways. -/
theorem cons_conn {r : Rec} (hv : valid r = true) (hw : whensOk r = true) : Conn (nE r + 1) (consL r) := by
  have hn : nE r ≤ 40 := (valid_bd hv).2.2.1
  refine ⟨by omega, by omega, consL_valid hv hw, fun i h1 h2 => ?_, fun i h1 h2 => ?_⟩
  · refine ⟨(0, (((i - 1 : Nat) : Int) + 1, (whenAt r (i - 1)).1.2)), mem_cons.2 (.inl ⟨i - 1, by omega, by simp [evD]⟩), rfl, ?_⟩
    simp only
    omega
  · refine ⟨(((i - 1 : Nat) : Int) + 1, (0, -(whenAt r (i - 1)).1.1)), mem_cons.2 (.inl ⟨i - 1, by omega, by simp [evD]⟩), ?_, rfl, ?_⟩
    · simp only
      omega
    · have := whenAt_bd (whensOk_iff.1 hw (i - 1) (by omega))
      simp only
      omega

/-- The matrix of a record. -/
def closedW (r : Rec) : Option Mat := match consW r with | some l => closeW (nE r + 1) l | none => none

theorem CloseOk.le_iff {n : Nat} {l : List Diff} {m : Mat} (h : CloseOk n l m) {i j : Nat} (hi : i < n) (hj : j < n) (c : Int) : at2 m i j ≤ c ↔ ∀ x, Sol l x → x j - x i ≤ c := by
  constructor
  · intro hc x s
    exact Int.le_trans (h.sol x s i j hi hj) hc
  · intro hx
    have := hx _ (h.row i hi)
    have := h.zero i hi
    omega

/-- What is known of a record that has a matrix. -/
structure ClosedR (r : Rec) (m : Mat) : Prop where
  valid : valid r = true
  whens : whensOk r = true
  eq : closedW r = some m
  ok : CloseOk (nE r + 1) (consL r) m

theorem closed_some' {r : Rec} (hv : Go.Lift.valid r = true) (hw : whensOk r = true) {x : Nat → Int} (s : SolR r x) : ∃ m, ClosedR r m := by
  obtain ⟨m, e, h⟩ := close_some (cons_conn hv hw) ((sol_cons hv x).2 s)
  refine ⟨m, hv, hw, ?_, h⟩
  unfold closedW consW
  rw [hv, hw]
  exact e

theorem closed_some {r : Rec} (hv : Go.Lift.valid r = true) (hw : whensOk r = true) (hn : nE r ≤ 7) {x : Nat → Int} (s : SolR r x) : ∃ m, ClosedR r m := closed_some' hv hw s

theorem closed_ok' {r : Rec} {m : Mat} (e : closedW r = some m) : ClosedR r m := by
  unfold closedW consW at e
  by_cases h : (Go.Lift.valid r && whensOk r) = true
  · have e0 := e
    rw [if_pos h] at e
    rw [Bool.and_eq_true] at h
    refine ⟨h.1, h.2, ?_, close_ok (cons_conn h.1 h.2) e⟩
    unfold closedW consW
    exact e0
  · rw [if_neg h] at e
    cases e

theorem ClosedR.le_iff {r : Rec} {m : Mat} (h : ClosedR r m) {i j : Nat} (hi : i < nE r + 1) (hj : j < nE r + 1) (c : Int) : at2 m i j ≤ c ↔ ∀ x, SolR r x → x j - x i ≤ c := by
  rw [h.ok.le_iff hi hj]
  exact ⟨fun g x s => g x ((sol_cons h.valid x).2 s), fun g x s => g x ((sol_cons h.valid x).1 s)⟩

theorem ClosedR.row {r : Rec} {m : Mat} (h : ClosedR r m) {i : Nat} (hi : i < nE r + 1) : SolR r (fun j => at2 m i j) := (sol_cons h.valid _).1 (h.ok.row i hi)

theorem ClosedR.sol {r : Rec} {m : Mat} (h : ClosedR r m) {x : Nat → Int} (s : SolR r x) {i j : Nat} (hi : i < nE r + 1) (hj : j < nE r + 1) : x j - x i ≤ at2 m i j :=
  (h.le_iff hi hj _).1 (Int.le_refl _) x s

end
end Go.Lift

/- The functions of the package order in plain Lean. -/
namespace Go.Lift
open Go.RowKit Go.IntWalk
noncomputable section
set_option linter.unusedVariables false
set_option linter.unusedSimpArgs false
set_option maxRecDepth 10000

section
variable {β : Type}
/-- One event is before another one for certain. -/
def bef (m : Mat) (a b : Nat) : Bool := decide (at2 m (b + 1) (a + 1) ≤ -1)
def opn (m : Mat) (a b : Nat) : Bool := !bef m a b && !bef m b a
def cmpN (m : Mat) (a b : Nat) : Int := if bef m a b then -1 else if bef m b a then 1 else 0
def rangeN (m : Mat) (i : Nat) : Int × Int := (-at2 m (i + 1) 0, at2 m 0 (i + 1))
structure MatB (n : Nat) (m : Mat) : Prop where
  sq : Sq (n + 1) m
  small : n ≤ 100
  bd : ∀ i j, i < n + 1 → j < n + 1 → -9223372036854775807 ≤ at2 m i j ∧ at2 m i j ≤ 9223372036854775807

end
end
end Go.Lift

/- Records of the dice and their order; the example of the chapter. -/
namespace Go.Lift
open Go.RowKit Go.IntWalk
noncomputable section
set_option linter.unusedVariables false
set_option linter.unusedSimpArgs false
set_option maxRecDepth 10000

/-- A loop that only looks and always goes on. -/
theorem pass_loop {β : Type} (n : Nat) (F : Nat → Int → Option β) (K : Option β) (N : Nat) (hn : n < N)
    (h1 : ∀ (m i : Nat), i < n → F (m + 1) (i : Int) = F m ((i : Int) + 1))
    (h2 : ∀ (m : Nat), F (m + 1) (n : Int) = K) : F N 0 = K :=
  range_fold' (σ := Unit) n (fun _ _ => True) (fun m i _ => F m i) (fun s _ => s) (fun _ => K) () N hn trivial (fun _ _ _ _ => trivial) (fun m i _ hi _ => h1 m i hi) (fun m _ _ => h2 m)

/-- The true times as a solution. -/
def xOf (times : List Int) (j : Nat) : Int := if j = 0 then 0 else times.getD (j - 1) 0
theorem xOf_zero (times : List Int) : xOf times 0 = 0 := rfl
theorem xOf_succ (times : List Int) (j : Nat) : xOf times (j + 1) = times.getD j 0 := by unfold xOf; rw [if_neg (by omega)]; rfl

section
variable {n : Int} {r : Rec} {ahead times : List Int}
theorem RecOk.nE_le (h : RecOk n r ahead times) : (nE r : Int) ≤ n := h.fewE
theorem RecOk.evOk (h : RecOk n r ahead times) {i : Nat} (hi : i < nE r) : EventOk r.1.length ahead (evAt r i) (times.getD i 0) := h.events i hi

theorem RecOk.whenAt (h : RecOk n r ahead times) (hn : n ≤ 40) {i : Nat} (hi : i < nE r) : (whenAt r i).2 = true ∧ (whenAt r i).1.1 ≤ times.getD i 0 ∧ times.getD i 0 ≤ (whenAt r i).1.2 := by
  obtain ⟨a1, a2, a3, a4, a5⟩ := h.evOk hi
  have hb := ahead_bd h.hosts (evAt r i).1.toNat
  have e := h.when? hn (host := (evAt r i).1) (c := (evAt r i).2.1) ⟨a1, a2⟩ (by omega)
  have t := h.when_true (host := (evAt r i).1) (c := (evAt r i).2.1) ⟨a1, a2⟩ (by omega)
  unfold Go.Lift.whenAt
  rw [e]
  refine ⟨rfl, ?_, ?_⟩ <;> simp only <;> omega

theorem RecOk.whens (h : RecOk n r ahead times) (hn : n ≤ 40) : whensOk r = true := whensOk_iff.2 fun i hi => (h.whenAt hn hi).1

theorem RecOk.solR (h : RecOk n r ahead times) (hn : n ≤ 40) : SolR r (xOf times) := by
  refine ⟨fun i hi => ?_, fun i j hi hj hij hh hc => ?_, fun l hl => ?_⟩
  · have := h.whenAt hn hi
    rw [xOf_succ, xOf_zero]
    omega
  · obtain ⟨a1, a2, a3, a4, a5⟩ := h.evOk hi
    obtain ⟨b1, b2, b3, b4, b5⟩ := h.evOk hj
    rw [xOf_succ, xOf_succ]
    rw [← hh] at b5
    have hd : 0 ≤ driftAt r (evAt r i).1 ∧ driftAt r (evAt r i).1 ≤ 500000 := h.drift_ok _
    have := elapsed_le hd (d := (evAt r j).2.1 - (evAt r i).2.1) (by omega)
    omega
  · have := h.links l hl
    unfold LinkOk at this
    rw [xOf_succ, xOf_succ]
    omega

theorem RecOk.closed (h : RecOk n r ahead times) (hn : n ≤ 7) : ∃ m, ClosedR r m := by
  have := h.nE_le
  exact closed_some (h.valid (by omega)) (h.whens (by omega)) (by omega) (h.solR (by omega))
end

section
variable {β : Type}
theorem c_nt {a b : Option β} : cond (!true) a b = b := rfl
theorem c_nf {a b : Option β} : cond (!false) a b = a := rfl

/-- The loops of Open. -/
def openL (n : Nat) (m : Mat) (a : Nat) : List (Int × Int) := ((List.range' (a + 1) (n - (a + 1))).filter fun b => opn m a b).map fun (b : Nat) => ((a : Int), (b : Int))

def openW (n : Nat) (m : Mat) : List (Int × Int) := (List.range n).flatMap (openL n m)

theorem openL_len (n : Nat) (m : Mat) (a : Nat) : (openL n m a).length ≤ n := by
  unfold openL
  rw [List.length_map]
  have := List.length_filter_le (fun b => opn m a b) (List.range' (a + 1) (n - (a + 1)))
  rw [List.length_range'] at this
  omega

end

section
variable {β : Type}
end
end
end Go.Lift

/- The reference of the chapter 38 in plain Lean. -/
namespace Go.Lift
open Go.RowKit Go.IntWalk
noncomputable section
set_option linter.unusedVariables false
set_option linter.unusedSimpArgs false

section
variable {β : Type}
theorem ref25_In_eq (n lo hi : Int) (k : Bool → Option β) : zq1l n lo hi k = k (inN n lo hi) := by
  simp only [zq1l, zq1i, inN, c_kb]
theorem ref38_Valid_p1_eq (k1 : zq4n β) (k2 : zq4o β) (r : List Host) (hr : r.length ≤ 1000000) (r2 : List Sync) (r3 : List Event) (r4 : List Link) :
    zq5o k1 k2 0 r r2 r3 r4 = cond (r.all vHost) (k2 r r2 r3 r4) (k1 false) := by
  refine check_loop (fun m i => zq5m m k1 k2 i r r2 r3 r4) vHost _ _ ([], 0) r fuel (lt_fuel (by omega)) (fun m i hi => ?_) (fun m => ?_)
  · simp (disch := omega) only [zq5n, zq57, ref25_In_eq, c_pos, c_inb, c_not, i64_in, Int.toNat_natCast, vHost]
  · simp (disch := omega) only [zq5n, zq57, c_neg]

theorem vSync_ref (n : Nat) (e : Sync) : vSync n e = (inN e.1 0 ((n : Int) - 1) && (inN e.2.1 0 8589934592 && (inN e.2.2.1 0 e.2.2.2 && !decide ((8589934592 : Int) < e.2.2.2)))) := by
  rw [Bool.eq_iff_iff]
  simp [vSync, okSync, inN]
  omega

theorem ref38_Valid_p2_eq (k1 : zq4s β) (k2 : zq4t β) (r : List Host) (hr : r.length ≤ 1000000) (r2 : List Sync) (hr2 : r2.length ≤ 1000000) (r3 : List Event) (r4 : List Link) :
    zq5s k1 k2 0 r r2 r3 r4 = cond (r2.all (vSync r.length)) (k2 r r2 r3 r4) (k1 false) := by
  refine check_loop (fun m i => zq5q m k1 k2 i r r2 r3 r4) (vSync r.length) _ _ (0, 0, 0, 0) r2 fuel (lt_fuel (by omega)) (fun m i hi => ?_) (fun m => ?_)
  · simp (disch := omega) only [zq5r, zq5a, ref25_In_eq, c_pos, c_inb, c_not, i64_in, Int.toNat_natCast, vSync_ref, c_andn, c_and]
  · simp (disch := omega) only [zq5r, zq5a, c_neg]

theorem ref38_Valid_p3_eq (k1 : zq4x β) (k2 : zq4y β) (r : List Host) (hr : r.length ≤ 1000000) (r2 : List Sync) (r3 : List Event) (hr3 : r3.length ≤ 1000000) (r4 : List Link) :
    zq5w k1 k2 0 r r2 r3 r4 = cond (r3.all (vEvent r.length)) (k2 r r2 r3 r4) (k1 false) := by
  refine check_loop (fun m i => zq5u m k1 k2 i r r2 r3 r4) (vEvent r.length) _ _ (0, 0, []) r3 fuel (lt_fuel (by omega)) (fun m i hi => ?_) (fun m => ?_)
  · simp (disch := omega) only [zq5v, zq5d, ref25_In_eq, c_pos, c_inb, c_not, i64_in, Int.toNat_natCast, vEvent, c_and]
  · simp (disch := omega) only [zq5v, zq5d, c_neg]

theorem ref38_Valid_p4_eq (k1 : zq52 β) (k2 : zq53 β) (r : List Host) (r2 : List Sync) (r3 : List Event) (hr3 : r3.length ≤ 1000000) (r4 : List Link) (hr4 : r4.length ≤ 1000000) :
    zq60 k1 k2 0 r r2 r3 r4 = cond (r4.all (vLink r3.length)) (k2 ()) (k1 false) := by
  refine check_loop (fun m i => zq5y m k1 k2 i r r2 r3 r4) (vLink r3.length) _ _ (0, 0, 0) r4 fuel (lt_fuel (by omega)) (fun m i hi => ?_) (fun m => ?_)
  · simp (disch := omega) only [zq5z, zq5g, ref25_In_eq, c_pos, c_inb, c_not, i64_in, Int.toNat_natCast, vLink, c_nand, c_and, Bool.not_not]
  · simp (disch := omega) only [zq5z, zq5g, c_neg]

theorem ref38_Valid_eq (r : Rec) (k : Bool → Option β) : zq62 r k = k (valid r) := by
  simp only [zq62, zq5j]
  by_cases h1 : (8 : Int) < r.1.length
  · simp [valid, small, h1]
  by_cases h2 : (64 : Int) < r.2.1.length
  · simp [valid, small, h1, h2]
  by_cases h3 : (40 : Int) < r.2.2.1.length
  · simp [valid, small, h1, h2, h3]
  by_cases h4 : (64 : Int) < r.2.2.2.length
  · simp [valid, small, h1, h2, h3, h4]
  rw [decide_eq_false h1, decide_eq_false h2, decide_eq_false h3, decide_eq_false h4]
  simp only [c_f]
  rw [ref38_Valid_p1_eq _ _ _ (by omega), ref38_Valid_p2_eq _ _ _ (by omega) _ (by omega), ref38_Valid_p3_eq _ _ _ (by omega) _ _ (by omega), ref38_Valid_p4_eq _ _ _ _ _ (by omega) _ (by omega)]
  simp only [c_kb, c_k, valid, small, decide_eq_false h1, decide_eq_false h2, decide_eq_false h3, decide_eq_false h4, Bool.not_false, Bool.true_and]
  apply k_eq
  cases r.1.all vHost <;> cases r.2.1.all (vSync r.1.length) <;> cases r.2.2.1.all (vEvent r.1.length) <;> cases r.2.2.2.all (vLink r.2.2.1.length) <;> rfl

theorem ref38_Elapsed_eq (drift d : Int) (k : Int → Int → Option β) : zq69 drift d k = k (elapsed drift d).1 (elapsed drift d).2 := by
  simp only [zq69, zq66, ref25_In_eq, elapsed]
  cases h1 : inN drift 0 500000 with
  | false => rfl
  | true =>
    cases h2 : inN d 0 8589934592 with
    | false => rfl
    | true =>
      have h1 := inN_iff.1 h1
      have h2 := inN_iff.1 h2
      simp (disch := omega) only [Bool.not_true, c_f, Bool.and_true, cond_true, i64_in, i64_quo, c_nneg]
      congr 2
      omega

theorem ref38_From_eq (h : Host) (s : Sync) (c : Int) (k : Int × Int → Option β) : zq83 h s c k = k (fromS h s c) := by
  rw [← clock_From_eq h s c k]
  simp only [zqk8, zqk5, clock_in_eq, clock_compared_eq, clock_instant_eq, clock_Elapsed_eq, zq83, zq80, ref25_In_eq, ref38_Elapsed_eq]
  have : okSync s = (inN s.2.1 0 8589934592 && (inN s.2.2.1 0 s.2.2.2 && !decide ((8589934592 : Int) < s.2.2.2))) := by
    rw [Bool.eq_iff_iff]; simp [okSync, inN]; omega
  rw [this]
  cases inN h.2 0 500000 <;> cases inN s.2.1 0 8589934592 <;> cases inN s.2.2.1 0 s.2.2.2 <;> cases decide ((8589934592 : Int) < s.2.2.2) <;> rfl

theorem ref38_Meet_eq (a b : Int × Int) (k : Int × Int → Option β) : zq7w a b k = k (meet2 a b) := by simp only [zq7w, zq7t, meet2]
theorem ref38_Empty_eq (a : Int × Int) (k : Bool → Option β) : zq8a a k = k (decide (a.2 < a.1)) := by simp only [zq8a, zq87]

theorem ref38_When_p1_eq (k1 : zqfs β) (host c : Int) (r : List Host) (hh : 0 ≤ host ∧ host < r.length) (r2 : List Sync) (hx : r2.length ≤ 1000000) (r3 : List Event) (r4 : List Link) (a b : Int) (o : Int × Int) :
    zqg4 k1 host c 0 r r2 r3 r4 a b o.1 o.2 = k1 a b (r2.foldl (fun out s => cond (decide (s.1 = host)) (meet2 out (fromS (r.getD host.toNat ([], 0)) s c)) out) o).1 (r2.foldl (fun out s => cond (decide (s.1 = host)) (meet2 out (fromS (r.getD host.toNat ([], 0)) s c)) out) o).2 := by
  refine fold_loop (σ := Int × Int) (fun m i o => zqg2 m k1 host c i r r2 r3 r4 a b o.1 o.2) (fun out s => cond (decide (s.1 = host)) (meet2 out (fromS (r.getD host.toNat ([], 0)) s c)) out) (fun o => k1 a b o.1 o.2) (0, 0, 0, 0) r2 o fuel (lt_fuel (by omega)) (fun m i s hi => ?_) (fun m s => ?_)
  · simp (disch := omega) only [zqg3, zqfw, ref38_From_eq, ref38_Meet_eq, c_pos, c_inb, i64_in, Int.toNat_natCast]
    cases decide ((r2.getD i (0, 0, 0, 0)).1 = host) <;> rfl
  · simp (disch := omega) only [zqg3, zqfw, c_neg]

theorem ref38_When_eq (r : Rec) (host c : Int) (k : Int × Int → Bool → Option β) : zqg6 r host c k = k (when? r host c).1 (when? r host c).2 := by
  simp only [zqg6, zqfz, ref38_Valid_eq, ref25_In_eq, ref38_Empty_eq, when?]
  cases h1 : valid r with
  | false => rfl
  | true =>
    have hb := valid_bd h1
    simp (disch := omega) only [i64_in, Bool.not_true, c_f, Bool.true_and]
    cases h2 : inN host 0 ((r.1.length : Int) - 1) with
    | false => rfl
    | true =>
      cases h3 : inN c 0 8589934592 with
      | false => rfl
      | true =>
        have h2 := inN_iff.1 h2
        simp only [Bool.not_true, c_f, Bool.and_true, cond_true]
        rw [ref38_When_p1_eq _ host c r.1 (by omega) r.2.1 (by omega) r.2.2.1 r.2.2.2 0 0 (0, 8589934592)]
        rfl

end
end
end Go.Lift

/- The reference of the chapter 39 in plain Lean. -/
namespace Go.Lift
open Go.RowKit Go.IntWalk
noncomputable section
set_option linter.unusedVariables false
set_option linter.unusedSimpArgs false
set_option maxRecDepth 10000

/-! ### The rounds, with a look at the whole diagonal behind each -/
def refRounds (n : Nat) : Nat → Nat → Mat → Option Mat
  | 0, _, m => some m
  | c + 1, k, m => if diagOk n (roundW n k m) then refRounds n c (k + 1) (roundW n k m) else none

theorem refRounds_eq {n : Nat} : ∀ (c k : Nat) (m : Mat), Sq n m → k + (c + 1) = n → refRounds n (c + 1) k m = (match roundsW n (c + 1) k m with | some m' => if diagOk n m' then some m' else none | none => none) := by
  intro c
  induction c with
  | zero =>
    intro k m hm hk
    have h1 := hm.roundW k
    unfold refRounds roundsW
    cases hd : diagOk n (roundW n k m) with
    | true =>
      have := diagOk_iff.1 hd k (by omega)
      rw [if_neg (show ¬ at2 (roundW n k m) k k < 0 by omega)]
      simp [refRounds, roundsW, hd]
    | false =>
      simp only [Bool.false_eq_true, if_false]
      by_cases hk0 : at2 (roundW n k m) k k < 0
      · rw [if_pos hk0]
      · rw [if_neg hk0]
        simp [roundsW, hd]
  | succ c ih =>
    intro k m hm hk
    have h1 := hm.roundW k
    have e : roundsW n (c + 1 + 1) k m = if at2 (roundW n k m) k k < 0 then none else roundsW n (c + 1) (k + 1) (roundW n k m) := rfl
    have e' : refRounds n (c + 1 + 1) k m = if diagOk n (roundW n k m) then refRounds n (c + 1) (k + 1) (roundW n k m) else none := rfl
    rw [e, e']
    cases hd : diagOk n (roundW n k m) with
    | true =>
      have := diagOk_iff.1 hd k (by omega)
      rw [if_neg (show ¬ at2 (roundW n k m) k k < 0 by omega), if_pos rfl]
      exact ih (k + 1) _ h1 (by omega)
    | false =>
      rw [if_neg (by simp)]
      split
      · rename_i m' heq
        split at heq
        · cases heq
        · have hle := rounds_le (c + 1) (k + 1) _ m' h1 heq
          have hd' : diagOk n m' = false := by
            cases hx : diagOk n m' with
            | false => rfl
            | true =>
              have : diagOk n (roundW n k m) = true := diagOk_iff.2 (fun i hi => by
                have := diagOk_iff.1 hx i hi
                have := hle i i hi hi
                omega)
              rw [hd] at this
              cases this
          rw [hd']
          rfl
      · rfl

/-! ### The beginning -/
def initM (n : Nat) : Mat := (List.range n).map fun i => (List.replicate n BIG).set i 0
theorem initM_sq (n : Nat) : Sq n (initM n) := by
  refine ⟨by simp [initM], fun i hi => ?_⟩
  simp [initM, List.getD, hi]
theorem initM_at {n i j : Nat} (hi : i < n) (hj : j < n) : at2 (initM n) i j = if i = j then 0 else 1099511627776 := by
  unfold at2 initM
  have : ((List.range n).map fun i => (List.replicate n BIG).set i 0).getD i [] = (List.replicate n BIG).set i 0 := by simp [List.getD, hi]
  rw [this]
  by_cases h : i = j
  · rw [if_pos h, ← h, getD_set_eq (by simp; exact hi)]
  · rw [if_neg h, getD_set_ne h]
    simp [List.getD, hj]

def noSelf (l : List Diff) : Prop := ∀ d ∈ l, d.1.toNat ≠ d.2.1.toNat

theorem fold_put_sq {n : Nat} (l : List Diff) {m : Mat} (hm : Sq n m) : Sq n (l.foldl putW m) := fold_inv (Sq n) _ (fun m d h => h.putW d) _ _ hm

theorem start_init {n : Nat} {l : List Diff} (ho : l.all (diffOk n) = true) (hs : noSelf l) : l.foldl putW (initM n) = startW n l := by
  refine mat_ext (fold_put_sq l (initM_sq n)) (directW_sq n l).diagW (fun i j hi hj => ?_)
  have g1 := direct_glb l ho (initM n) (initM_sq n) i j
  have g2 := start_glb ho hi hj
  have key : ∀ v, v ≤ at2 (l.foldl putW (initM n)) i j ↔ v ≤ at2 (startW n l) i j := by
    intro v
    rw [g1 v, g2 v, initM_at hi hj]
    by_cases h : i = j
    · rw [if_pos h]
      constructor
      · intro hv
        exact ⟨by omega, hv.2, fun _ => hv.1⟩
      · intro hv
        exact ⟨hv.2.2 h, hv.2.1⟩
    · rw [if_neg h]
      constructor
      · intro hv
        exact ⟨hv.1, hv.2, fun e => absurd e h⟩
      · intro hv
        exact ⟨hv.1, hv.2.1⟩
  exact Int.le_antisymm ((key _).1 (Int.le_refl _)) ((key _).2 (Int.le_refl _))

/-- No entry is beyond BIG. -/
def Cap (n : Nat) (m : Mat) : Prop := ∀ i j, i < n → j < n → at2 m i j ≤ 1099511627776
theorem Cap.le {n : Nat} {m m' : Mat} (h : Cap n m) (hl : Le n m' m) : Cap n m' := fun i j hi hj => Int.le_trans (hl i j hi hj) (h i j hi hj)
theorem Cap.relax {n : Nat} {m : Mat} (h : Cap n m) (hm : Sq n m) {k i j : Nat} (hi : i < n) (hj : j < n) : Cap n (relaxW k i j m) := h.le (relax_le hm hi hj)
theorem start_cap {n : Nat} {l : List Diff} (ho : l.all (diffOk n) = true) : Cap n (startW n l) := fun i j hi hj => ((start_glb ho hi hj _).1 (Int.le_refl _)).1

section
variable {β : Type}
theorem ref39_Valid_eq {n : Nat} (h1 : 1 ≤ n) (hn : n ≤ 41) {l : List Diff} (k : Bool → Option β) : zq6s (n : Int) l k = k (validD n l) := by
  unfold zq6s zq6l
  refine (ref25_In_eq _ _ _ _).trans ?_
  rw [inN_mk (by omega)]
  refine c_nt.trans ?_
  unfold validD
  by_cases hl : l.length ≤ 4000
  · refine (c_neg (by omega)).trans ?_
    rw [decide_eq_true hl, Bool.true_and]
    unfold zq6q
    refine (check_loop (fun f j => zq6o f (fun t => k t) (fun _ => k true) (n : Int) l j) (diffOk n) (k false) (k true) ((0 : Int), ((0 : Int), (0 : Int))) l fuel (lt_fuel (by omega)) (fun f j hj => ?_) (fun f => ?_)).trans ?_
    · have e1 : IntKind.i64.wrap ((j : Int) + 1) = j + 1 := i64_in _ (by omega)
      have e2 : IntKind.i64.wrap ((n : Int) - 1) = n - 1 := i64_in _ (by omega)
      rw [zq6p]
      unfold zq6i
      simp only [Int.toNat_natCast, e1, e2]
      refine (c_pos (by omega)).trans ?_
      refine (c_inb (by omega)).trans ?_
      generalize l.getD j ((0 : Int), ((0 : Int), (0 : Int))) = d
      refine (ref25_In_eq _ _ _ _).trans ?_
      unfold diffOk
      by_cases a1 : 0 ≤ d.1 ∧ d.1 ≤ (n : Int) - 1
      · rw [inN_mk a1]
        refine c_nt.trans ?_
        refine (c_inb (by omega)).trans ?_
        refine (ref25_In_eq _ _ _ _).trans ?_
        by_cases a2 : 0 ≤ d.2.1 ∧ d.2.1 ≤ (n : Int) - 1
        · rw [inN_mk a2]
          refine c_nt.trans ?_
          refine (c_inb (by omega)).trans ?_
          refine (ref25_In_eq _ _ _ _).trans ?_
          by_cases a3 : -17179869184 ≤ d.2.2 ∧ d.2.2 ≤ 17179869184
          · rw [inN_mk a3, decide_eq_true (show (0 ≤ d.1 ∧ d.1 < (n : Int) ∧ 0 ≤ d.2.1 ∧ d.2.1 < (n : Int) ∧ -17179869184 ≤ d.2.2 ∧ d.2.2 ≤ 17179869184) by omega)]
            rfl
          · have : inN d.2.2 (-17179869184) 17179869184 = false := Bool.eq_false_iff.2 (fun h => a3 (inN_iff.1 h))
            rw [this, decide_eq_false (show ¬ (0 ≤ d.1 ∧ d.1 < (n : Int) ∧ 0 ≤ d.2.1 ∧ d.2.1 < (n : Int) ∧ -17179869184 ≤ d.2.2 ∧ d.2.2 ≤ 17179869184) by omega)]
            rfl
        · have : inN d.2.1 0 ((n : Int) - 1) = false := Bool.eq_false_iff.2 (fun h => a2 (inN_iff.1 h))
          rw [this, decide_eq_false (show ¬ (0 ≤ d.1 ∧ d.1 < (n : Int) ∧ 0 ≤ d.2.1 ∧ d.2.1 < (n : Int) ∧ -17179869184 ≤ d.2.2 ∧ d.2.2 ≤ 17179869184) by omega)]
          rfl
      · have : inN d.1 0 ((n : Int) - 1) = false := Bool.eq_false_iff.2 (fun h => a1 (inN_iff.1 h))
        rw [this, decide_eq_false (show ¬ (0 ≤ d.1 ∧ d.1 < (n : Int) ∧ 0 ≤ d.2.1 ∧ d.2.1 < (n : Int) ∧ -17179869184 ≤ d.2.2 ∧ d.2.2 ≤ 17179869184) by omega)]
        rfl
    · rw [zq6p]
      unfold zq6i
      exact c_neg (by omega)
    · cases l.all (diffOk n) <;> rfl
  · refine (c_pos (by omega)).trans ?_
    rw [decide_eq_false hl]
    rfl

theorem rclose_p1 {n : Nat} (hn : n ≤ 100) (k1 : zqcx β) (l : List Diff) (i : Int) (d : Mat) :
    zqep k1 (n : Int) l i 0 d [] = k1 (n : Int) l i d (List.replicate n BIG) := by
  have key := range_fold' n (fun i (s : List Int) => s.length = i) (fun f j s => zqen f k1 (n : Int) l i j d s) (fun s _ => s ++ [BIG]) (fun s => k1 (n : Int) l i d s) [] fuel (lt_fuel (by omega)) rfl
    (fun i s hi hs => by simp [hs])
    (fun f j s hj hs => by
      have e1 : IntKind.i64.wrap ((j : Int) + 1) = j + 1 := i64_in _ (by omega)
      rw [zqeo]
      unfold zqdw
      simp only [e1]
      refine (c_pos (by omega)).trans ?_
      exact c_room (by simp only [List.length_cons, List.length_nil]; omega))
    (fun f s hs => by
      rw [zqeo]
      unfold zqdw
      exact c_neg (by omega))
  unfold zqep
  rw [key]
  congr 1
  have : ∀ c, (List.range c).foldl (fun (s : List Int) _ => s ++ [BIG]) [] = List.replicate c BIG := by
    intro c
    induction c with
    | zero => rfl
    | succ c ih => rw [range_fold, ih, List.replicate_succ']
  exact this n

theorem rclose_p2 {n : Nat} (hn : n ≤ 100) (k1 : zqd1 β) (l : List Diff) :
    zqet k1 (n : Int) l 0 [] = k1 (n : Int) l (initM n) := by
  have key := range_fold' n (fun i (s : Mat) => s.length = i) (fun f j s => zqer f k1 (n : Int) l j s) (fun s i => s ++ [(List.replicate n BIG).set i 0]) (fun s => k1 (n : Int) l s) [] fuel (lt_fuel (by omega)) rfl
    (fun i s hi hs => by simp [hs])
    (fun f j s hj hs => by
      have e1 : IntKind.i64.wrap ((j : Int) + 1) = j + 1 := i64_in _ (by omega)
      rw [zqes]
      unfold zqdz
      refine (c_pos (by omega)).trans ?_
      refine (rclose_p1 hn _ _ _ _).trans ?_
      simp only [Int.toNat_natCast, e1]
      refine (c_inb (by simp; omega)).trans ?_
      exact c_room (by simp only [List.length_cons, List.length_nil]; omega))
    (fun f s hs => by
      rw [zqes]
      unfold zqdz
      exact c_neg (by omega))
  unfold zqet
  rw [key]
  congr 1
  have : ∀ (l : List Nat) (s : Mat), l.foldl (fun (s : Mat) i => s ++ [(List.replicate n BIG).set i 0]) s = s ++ l.map fun i => (List.replicate n BIG).set i 0 := by
    intro l
    induction l with
    | nil => intro s; simp
    | cons x l ih => intro s; simp only [List.foldl_cons, List.map_cons]; rw [ih, List.append_assoc]; rfl
  rw [this]
  rfl

theorem rclose_p3 {n : Nat} (hn : n ≤ 100) (k1 : zqd5 β) (k2 : zqd6 β) {l : List Diff} (hl : l.length ≤ 4000) (ho : l.all (diffOk n) = true) (hs : noSelf l) {m : Mat} (hm : Sq n m) :
    zqex k1 k2 (n : Int) l 0 m = k2 (n : Int) (l.foldl putW m) := by
  have key := fold_loopI (fun _ (m : Mat) => Sq n m) (fun f j m => zqev f k1 k2 (n : Int) l j m) putW (fun m => k2 (n : Int) m) ((0 : Int), ((0 : Int), (0 : Int))) l m fuel (lt_fuel (by omega)) hm
    (fun j m hj hm => hm.putW _)
    (fun f j m hj hm => by
      have e1 : IntKind.i64.wrap ((j : Int) + 1) = j + 1 := i64_in _ (by omega)
      have hmem := getD_mem (d := ((0 : Int), ((0 : Int), (0 : Int)))) hj
      have hd := of_decide_eq_true (List.all_eq_true.1 ho _ hmem)
      have hns := hs _ hmem
      have l0 := hm.len
      have l1 := hm.row (l.getD j ((0 : Int), ((0 : Int), (0 : Int)))).1.toNat (by omega)
      rw [zqew]
      unfold zqe2
      simp only [Int.toNat_natCast, e1]
      refine (c_pos (by omega)).trans ?_
      refine (c_inb (by omega)).trans ?_
      refine (c_inb (by omega)).trans ?_
      refine (c_inb (by omega)).trans ?_
      refine (c_inb (by omega)).trans ?_
      refine (c_inb (by omega)).trans ?_
      refine (c_inb (by omega)).trans ?_
      refine (c_inb (by omega)).trans ?_
      refine (c_inb (by omega)).trans ?_
      refine (c_inb (by omega)).trans ?_
      refine (c_inb (by omega)).trans ?_
      refine (c_inb (by omega)).trans ?_
      refine (c_neg (by omega)).trans ?_
      rfl)
    (fun f m hm => by
      rw [zqew]
      unfold zqe2
      exact c_neg (by omega))
  unfold zqex
  exact key

theorem rclose_p5 {n : Nat} (hn : n ≤ 100) {k i : Nat} (hk : k < n) (hi : i < n) {m : Mat} (hm : Sq n m) (hc : Cap n m) (k1 : zqde β) :
    zqf3 k1 (n : Int) (k : Int) (i : Int) 0 m = k1 (n : Int) (k : Int) (i : Int) (rowW n k i m) := by
  have key := range_fold' n (fun _ (m : Mat) => Sq n m ∧ Cap n m) (fun f j m => zqf1 f k1 (n : Int) (k : Int) (i : Int) j m) (fun m j => relaxW k i j m) (fun m => k1 (n : Int) (k : Int) (i : Int) m) m fuel (lt_fuel (by omega)) ⟨hm, hc⟩
    (fun j m hj hm => ⟨hm.1.relaxW _ _ _, hm.2.relax hm.1 hi hj⟩)
    (fun f j m hj hm => by
      have e1 : IntKind.i64.wrap ((j : Int) + 1) = j + 1 := i64_in _ (by omega)
      have l0 := hm.1.len
      have l1 := hm.1.row i hi
      have l2 := hm.1.row k hk
      have c1 := hm.2 i k hi hk
      have c2 := hm.2 k j hk hj
      rw [zqf2]
      unfold zqe8
      simp only [Int.toNat_natCast]
      refine (c_pos (by omega)).trans ?_
      refine (c_inb (by omega)).trans ?_
      refine (c_inb (by omega)).trans ?_
      have hq : ∀ (t : Bool), (zqez (fun (n2 : Int) (k_2 : Int) (i_2 : Int) (j2 : Int) (d2 : Mat) => zqf1 f k1 n2 k_2 i_2 (IntKind.i64.wrap (j2 + (1 : Int))) d2) (n : Int) (k : Int) (i : Int) (j : Int) t m : Option β) =
          zqf1 f k1 (n : Int) (k : Int) (i : Int) ((j : Int) + 1) (if t then setAt m i j (if IntKind.i64.wrap (at2 m i k + at2 m k j) < at2 m i j then IntKind.i64.wrap (at2 m i k + at2 m k j) else at2 m i j) else m) := fun t => by
        unfold zqez zqe6 zqe5
        cases t with
        | false =>
          simp only [cond_false, e1]
          rfl
        | true =>
          simp only [cond_true, Int.toNat_natCast, e1]
          refine (c_inb (by omega)).trans ?_
          refine (c_inb (by omega)).trans ?_
          refine (c_inb (by omega)).trans ?_
          refine (c_inb (by omega)).trans ?_
          refine (c_inb (by omega)).trans ?_
          refine (c_inb (by omega)).trans ?_
          refine (c_inb (by omega)).trans ?_
          refine (c_inb (by omega)).trans ?_
          rfl
      by_cases h1 : at2 m i k = BIG
      · refine (c_neg (p := (m.getD i []).getD k 0 < (1099511627776 : Int)) (show ¬ at2 m i k < 1099511627776 by rw [h1]; decide)).trans ?_
        refine (hq false).trans ?_
        have : relaxW k i j m = m := by unfold relaxW; rw [if_pos (.inl h1)]
        rw [this]
        rfl
      · have h1' : at2 m i k < 1099511627776 := by
          have : at2 m i k ≠ 1099511627776 := h1
          omega
        refine (c_pos (p := (m.getD i []).getD k 0 < (1099511627776 : Int)) h1').trans ?_
        refine (c_inb (by omega)).trans ?_
        refine (c_inb (by omega)).trans ?_
        refine (hq _).trans ?_
        by_cases h2 : at2 m k j = BIG
        · have : relaxW k i j m = m := by unfold relaxW; rw [if_pos (.inr h2)]
          rw [this, decide_eq_false (show ¬ (m.getD k []).getD j 0 < (1099511627776 : Int) from by
            have h3 : (m.getD k []).getD j 0 = 1099511627776 := h2
            omega)]
          rfl
        · have h2' : at2 m k j < 1099511627776 := by
            have : at2 m k j ≠ 1099511627776 := h2
            omega
          have : relaxW k i j m = setAt m i j (if IntKind.i64.wrap (at2 m i k + at2 m k j) < at2 m i j then IntKind.i64.wrap (at2 m i k + at2 m k j) else at2 m i j) := by unfold relaxW; rw [if_neg (fun h => h.elim h1 h2)]
          rw [this, decide_eq_true (show (m.getD k []).getD j 0 < (1099511627776 : Int) from h2')]
          rfl)
    (fun f m hm => by
      rw [zqf2]
      unfold zqe8
      exact c_neg (by omega))
  unfold zqf3
  exact key

theorem cap_rowW {n k i : Nat} {m : Mat} (hm : Sq n m) (hc : Cap n m) (hi : i < n) : Cap n (rowW n k i m) := by
  unfold rowW
  have key : ∀ (l : List Nat) (m : Mat), (∀ j ∈ l, j < n) → Sq n m → Cap n m → Cap n (l.foldl (fun m j => relaxW k i j m) m) := by
    intro l
    induction l with
    | nil => intro m _ _ hc; exact hc
    | cons x l ih => intro m hl hm hc; exact ih _ (fun j hj => hl j (by simp [hj])) (hm.relaxW _ _ _) (hc.relax hm hi (hl x (by simp)))
  exact key _ _ (fun j hj => List.mem_range.1 hj) hm hc

theorem rclose_p6 {n : Nat} (hn : n ≤ 100) {k : Nat} (hk : k < n) {m : Mat} (hm : Sq n m) (hc : Cap n m) (k1 : zqdi β) :
    zqf7 k1 (n : Int) (k : Int) 0 m = k1 (n : Int) (k : Int) (roundW n k m) := by
  have key := range_fold' n (fun _ (m : Mat) => Sq n m ∧ Cap n m) (fun f j m => zqf5 f k1 (n : Int) (k : Int) j m) (fun m i => rowW n k i m) (fun m => k1 (n : Int) (k : Int) m) m fuel (lt_fuel (by omega)) ⟨hm, hc⟩
    (fun j m hj hm => ⟨hm.1.rowW _ _, cap_rowW hm.1 hm.2 hj⟩)
    (fun f j m hj hm => by
      have e1 : IntKind.i64.wrap ((j : Int) + 1) = j + 1 := i64_in _ (by omega)
      rw [zqf6]
      unfold zqeb
      refine (c_pos (by omega)).trans ?_
      refine (rclose_p5 hn hk hj hm.1 hm.2 _).trans ?_
      simp only [e1])
    (fun f m hm => by
      rw [zqf6]
      unfold zqeb
      exact c_neg (by omega))
  unfold zqf7
  exact key

theorem cap_roundW {n k : Nat} {m : Mat} (hm : Sq n m) (hc : Cap n m) : Cap n (roundW n k m) := by
  unfold roundW
  have key : ∀ (l : List Nat) (m : Mat), (∀ j ∈ l, j < n) → Sq n m → Cap n m → Cap n (l.foldl (fun m i => rowW n k i m) m) := by
    intro l
    induction l with
    | nil => intro m _ _ hc; exact hc
    | cons x l ih => intro m hl hm hc; exact ih _ (fun j hj => hl j (by simp [hj])) (hm.rowW _ _) (cap_rowW hm hc (hl x (by simp)))
  exact key _ _ (fun j hj => List.mem_range.1 hj) hm hc

theorem rclose_p7 {n : Nat} (hn : n ≤ 100) (k1 : zqdm β) (k2 : zqdn β) (k : Int) {m : Mat} (hm : Sq n m) :
    zqfb k1 k2 (n : Int) k 0 m = cond (diagOk n m) (k2 (n : Int) k m) (k1 false []) := by
  have key := range_check (σ := Unit) n (fun _ _ => True) (fun f j _ => zqf9 f k1 k2 (n : Int) k j m) (fun i => decide (¬ at2 m i i < 0)) (fun s _ => s) (k1 false []) (fun _ => k2 (n : Int) k m) () fuel (lt_fuel (by omega)) trivial (fun _ _ _ _ _ => trivial)
    (fun f j _ hj _ => by
      have e1 : IntKind.i64.wrap ((j : Int) + 1) = j + 1 := i64_in _ (by omega)
      have l0 := hm.len
      have l1 := hm.row j hj
      rw [zqfa]
      unfold zqee
      simp only [Int.toNat_natCast, e1]
      refine (c_pos (by omega)).trans ?_
      refine (c_inb (by omega)).trans ?_
      refine (c_inb (by omega)).trans ?_
      by_cases h2 : at2 m j j < 0
      · refine (c_pos h2).trans ?_
        simp [h2]
      · refine (c_neg h2).trans ?_
        simp [h2])
    (fun f _ _ => by
      rw [zqfa]
      unfold zqee
      exact c_neg (by omega))
  unfold zqfb
  exact key

theorem rclose_p8 {n : Nat} (hn : n ≤ 100) (k1 : zqdr β) (k2 : zqds β) : ∀ (c k f : Nat) (m : Mat), k + c = n → c < f → Sq n m → Cap n m →
    zqfd f k1 k2 (n : Int) (k : Int) m = (match refRounds n c k m with | some m' => k2 m' | none => k1 false [])
  | 0, k, f + 1, m, h, hf, hm, hc => by
    rw [zqfe]
    unfold zqeh
    exact c_neg (by omega)
  | c + 1, k, f + 1, m, h, hf, hm, hc => by
    have hk : k < n := by omega
    have e1 : IntKind.i64.wrap ((k : Int) + 1) = ((k + 1 : Nat) : Int) := i64_in _ (by omega)
    rw [zqfe]
    unfold zqeh
    refine (c_pos (by omega)).trans ?_
    refine (rclose_p6 hn hk hm hc _).trans ?_
    refine (rclose_p7 hn _ _ _ (hm.roundW k)).trans ?_
    unfold refRounds
    cases hd : diagOk n (roundW n k m) with
    | false => rfl
    | true =>
      simp only [if_true, e1]
      refine c_t.trans ?_
      exact rclose_p8 hn k1 k2 c (k + 1) f _ (by omega) (by omega) (hm.roundW k) (cap_roundW hm hc)
  | _, _, 0, _, _, hf, _, _ => absurd hf (by omega)

theorem ref39_Close_eq {n : Nat} (h1 : 1 ≤ n) (hn : n ≤ 41) {l : List Diff} (hs : noSelf l) (k : Mat → Bool → Option β) : zqfh (n : Int) l k = (match closeW n l with | some m => k m true | none => k [] false) := by
  unfold zqfh zqek
  refine (ref39_Valid_eq h1 hn _).trans ?_
  unfold closeW
  by_cases hv : validD n l = true
  · rw [hv]
    have hv' := hv
    unfold validD at hv'
    rw [Bool.and_eq_true] at hv'
    refine c_nt.trans ?_
    rw [if_pos rfl]
    refine (rclose_p2 (by omega) _ _).trans ?_
    refine (rclose_p3 (by omega) _ _ (of_decide_eq_true hv'.1) hv'.2 hs (initM_sq n)).trans ?_
    rw [start_init hv'.2 hs]
    unfold zqff
    refine (rclose_p8 (by omega) _ _ n 0 fuel _ (by omega) (lt_fuel (by omega)) (directW_sq n l).diagW (start_cap hv'.2)).trans ?_
    obtain ⟨c, rfl⟩ : ∃ c, n = c + 1 := ⟨n - 1, by omega⟩
    have e := refRounds_eq c 0 _ (directW_sq (c + 1) l).diagW (by omega)
    revert e
    generalize refRounds (c + 1) (c + 1) 0 (diagW (c + 1) (directW (c + 1) l)) = R
    intro e
    subst e
    cases roundsW (c + 1) (c + 1) 0 (diagW (c + 1) (directW (c + 1) l)) with
    | none => exact rfl
    | some m => exact rfl
  · rw [Bool.eq_false_iff.2 hv]
    refine c_nf.trans ?_
    rw [if_neg (by simp)]
end
end
end Go.Lift

/- What is certain, and what the true times are. -/
namespace Go.Lift
open Go.RowKit Go.IntWalk
noncomputable section
set_option linter.unusedVariables false
set_option linter.unusedSimpArgs false
set_option maxRecDepth 10000

/-- A loop whose state is known at each round. -/
theorem range_state {β σ : Type} (n : Nat) (S : Nat → σ) (F : Nat → Int → σ → Option β) (K : Option β) (N : Nat) (hn : n < N)
    (h1 : ∀ (m i : Nat), i < n → F (m + 1) (i : Int) (S i) = F m ((i : Int) + 1) (S (i + 1)))
    (h2 : ∀ (m : Nat), F (m + 1) (n : Int) (S n) = K) : F N 0 (S 0) = K :=
  pass_loop n (fun m i => F m i (S i.toNat)) K N hn (fun m i hi => by
    have e : ((i : Int) + 1).toNat = i + 1 := by omega
    simp only [Int.toNat_natCast, e]
    exact h1 m i hi) (fun m => by simp only [Int.toNat_natCast]; exact h2 m)

section
variable {β : Type} {n : Int} {r : Rec} {ahead times : List Int}

theorem ClosedR.bef {r : Rec} {m : Mat} (hm : ClosedR r m) {a b : Nat} (ha : a < nE r) (hb : b < nE r) : bef m a b = true ↔ ∀ x, SolR r x → x (a + 1) < x (b + 1) := by
  unfold Go.Lift.bef
  rw [decide_eq_true_iff, hm.le_iff (i := b + 1) (j := a + 1) (by omega) (by omega)]
  constructor
  · intro h x s
    have := h x s
    omega
  · intro h x s
    have := h x s
    omega

theorem ClosedR.range {r : Rec} {m : Mat} (hm : ClosedR r m) {x : Nat → Int} (s : SolR r x) (h0 : x 0 = 0) {i : Nat} (hi : i < nE r) : (rangeN m i).1 ≤ x (i + 1) ∧ x (i + 1) ≤ (rangeN m i).2 := by
  have h1 := hm.sol s (i := i + 1) (j := 0) (by omega) (by omega)
  have h2 := hm.sol s (i := 0) (j := i + 1) (by omega) (by omega)
  unfold rangeN
  simp only
  omega

/-- Readings of one clock that are two seconds apart. -/
theorem ClosedR.far {m : Mat} (hm : ClosedR r m) {i k : Nat} (hi : i < nE r) (hk : k < nE r) (hh : (evAt r i).1 = (evAt r k).1) (hc : (evAt r i).2.1 + 2 ≤ (evAt r k).2.1) : Go.Lift.bef m i k = true := by
  rw [hm.bef hi hk]
  intro x s
  have h1 := (s.pair i k hi hk (by intro h; subst h; omega) hh (by omega)).1
  have e1 := valid_ev hm.valid hi
  have e2 := valid_ev hm.valid hk
  have hd : 0 ≤ driftAt r (evAt r i).1 ∧ driftAt r (evAt r i).1 ≤ 500000 := by
    have := (valid_parts hm.valid).1 _ (getD_mem (l := r.1) (i := (evAt r i).1.toNat) (d := ([], 0)) (by omega))
    exact this
  have h2 : 1 ≤ (elapsed (driftAt r (evAt r i).1) ((evAt r k).2.1 - (evAt r i).2.1)).1 := by
    unfold elapsed
    rw [inN_mk hd, inN_mk (by omega)]
    simp only [Bool.and_self, cond_true]
    rw [Int.le_ediv_iff_mul_le (by omega)]
    omega
  omega

end
end
end Go.Lift

/- Records that are changed in their links. -/
namespace Go.Lift
open Go.RowKit Go.IntWalk
noncomputable section
set_option linter.unusedVariables false
set_option linter.unusedSimpArgs false
set_option maxRecDepth 10000

theorem valid_mk {r : Rec} (h0 : r.1.length ≤ 8) (h1 : r.2.1.length ≤ 64) (h2 : r.2.2.1.length ≤ 40) (h3 : r.2.2.2.length ≤ 64) (h4 : ∀ h ∈ r.1, 0 ≤ h.2 ∧ h.2 ≤ 500000)
    (h5 : ∀ s ∈ r.2.1, 0 ≤ s.1 ∧ s.1 < r.1.length ∧ okSync s = true) (h6 : ∀ e ∈ r.2.2.1, 0 ≤ e.1 ∧ e.1 < r.1.length ∧ 0 ≤ e.2.1 ∧ e.2.1 ≤ 8589934592)
    (h7 : ∀ l ∈ r.2.2.2, 0 ≤ l.1 ∧ l.1 < nE r ∧ 0 ≤ l.2.1 ∧ l.2.1 < nE r ∧ l.1 ≠ l.2.1 ∧ 0 ≤ l.2.2 ∧ l.2.2 ≤ 8589934592) : valid r = true := by
  unfold valid small
  simp only [Bool.and_eq_true, List.all_eq_true, Bool.not_eq_true', decide_eq_false_iff_not]
  refine ⟨⟨by omega, by omega, by omega, by omega⟩, fun x hx => inN_mk (h4 x hx), fun x hx => ?_, fun x hx => ?_, fun x hx => ?_⟩
  · have := h5 x hx
    simp only [vSync, Bool.and_eq_true, inN_iff]
    exact ⟨by omega, this.2.2⟩
  · have := h6 x hx
    simp only [vEvent, Bool.and_eq_true, inN_iff]
    omega
  · have := h7 x hx
    unfold nE at this
    simp only [vLink, Bool.and_eq_true, inN_iff, Bool.not_eq_true', decide_eq_false_iff_not]
    omega

theorem mem_openW {n : Nat} {m : Mat} {p : Int × Int} : p ∈ openW n m ↔ ∃ a b : Nat, a < b ∧ b < n ∧ opn m a b = true ∧ p = ((a : Int), (b : Int)) := by
  unfold openW openL
  simp only [List.mem_flatMap, List.mem_range, List.mem_map, List.mem_filter, List.mem_range'_1]
  constructor
  · rintro ⟨a, ha, b, ⟨hb, ho⟩, rfl⟩
    exact ⟨a, b, by omega, by omega, ho, rfl⟩
  · rintro ⟨a, b, h1, h2, ho, rfl⟩
    exact ⟨a, by omega, b, ⟨by omega, ho⟩, rfl⟩

theorem openW_len (n : Nat) (m : Mat) : (openW n m).length ≤ n * n := by
  have h := flat_len (openL n m) n (List.range n) (fun a _ => openL_len n m a)
  rw [List.length_range] at h
  exact h
end
end Go.Lift

/- Loops with an invariant; any comparison of any record. -/
namespace Go.Lift
open Go.RowKit Go.IntWalk
noncomputable section
set_option linter.unusedVariables false
set_option linter.unusedSimpArgs false
set_option maxRecDepth 10000

theorem whenAt_eq {r : Rec} (hv : valid r = true) {i : Nat} (hi : i < nE r) : whenAt r i = (whenR r (evAt r i).1 (evAt r i).2.1, !decide ((whenR r (evAt r i).1 (evAt r i).2.1).2 < (whenR r (evAt r i).1 (evAt r i).2.1).1)) := by
  have := valid_ev hv hi
  unfold whenAt Go.Lift.when?
  rw [hv, inN_mk (by omega), inN_mk (by omega)]
  rfl

section
variable {β : Type}
end
end
end Go.Lift

/- The reference of the chapter 40 in plain Lean. -/
namespace Go.Lift
open Go.RowKit Go.IntWalk
noncomputable section
set_option linter.unusedVariables false
set_option linter.unusedSimpArgs false
set_option maxRecDepth 10000

theorem pairsI_range' {r : Rec} {i : Nat} (hi : i < nE r) : pairsI r (nE r) i = (List.range' (i + 1) (nE r - (i + 1))).flatMap (pairIf r i) := by
  unfold pairsI
  have e : ∀ n, i < n → (List.range n).filter (fun j => decide (i < j)) = List.range' (i + 1) (n - (i + 1)) := by
    intro n
    induction n with
    | zero => intro h; omega
    | succ n ihn =>
      intro h
      rw [List.range_succ, List.filter_append]
      by_cases hin : i < n
      · rw [ihn hin]
        have : n + 1 - (i + 1) = (n - (i + 1)) + 1 := by omega
        rw [this, List.range'_concat]
        simp only [List.filter_cons, List.filter_nil, decide_eq_true hin, if_true]
        congr 2
        omega
      · have hin' : n = i := by omega
        subst hin'
        have : (List.range n).filter (fun j => decide (n < j)) = [] := by
          rw [List.filter_eq_nil_iff]
          intro a ha
          simp only [List.mem_range] at ha
          simp only [decide_eq_true_eq]
          omega
        rw [this]
        simp
  rw [e _ hi]

section
variable {β : Type}
theorem rcons_p1 (k1 : zqi0 β) (k2 : zqi1 β) {r : Rec} (hv : valid r = true) :
    zqj5 k1 k2 0 r.1 r.2.1 r.2.2.1 r.2.2.2 [] = cond (whensOk r) (k2 r.1 r.2.1 r.2.2.1 r.2.2.2 ((List.range (nE r)).flatMap (evD r))) (k1 false []) := by
  have hb := valid_bd hv
  have key := range_check (nE r) (fun i (s : List Diff) => s.length ≤ 2 * i) (fun f j s => zqj3 f k1 k2 j r.1 r.2.1 r.2.2.1 r.2.2.2 s) (fun i => (whenAt r i).2)
    (fun s i => s ++ evD r i) (k1 false []) (fun s => k2 r.1 r.2.1 r.2.2.1 r.2.2.2 s) [] fuel (lt_fuel (by unfold nE; omega)) (by simp)
    (fun i s hi hs _ => by simp only [List.length_append, evD, List.length_cons, List.length_nil]; omega)
    (fun f i s hi hs => by
      unfold nE at hi
      have e1 : IntKind.i64.wrap ((i : Int) + 1) = i + 1 := i64_in _ (by omega)
      rw [zqj4]
      unfold zqil
      refine (c_pos (by omega)).trans ?_
      refine (c_inb (by omega)).trans ?_
      refine (c_inb (by omega)).trans ?_
      simp only [Int.toNat_natCast, e1]
      refine (ref38_When_eq _ _ _ _).trans ?_
      have hw : when? (r.1, r.2.1, r.2.2.1, r.2.2.2) (r.2.2.1.getD i (0, 0, [])).1 (r.2.2.1.getD i (0, 0, [])).2.1 = whenAt r i := rfl
      rw [hw]
      cases hk : (whenAt r i).2 with
      | false => rfl
      | true =>
        have hbd := whenAt_bd hk
        have e2 : IntKind.i64.wrap (0 - (whenAt r i).1.1) = -(whenAt r i).1.1 := (i64_in _ (by omega)).trans (by omega)
        simp only [Bool.not_true, cond_false, cond_true, e2]
        refine (c_room (by simp only [List.length_cons, List.length_nil]; omega)).trans ?_
        rfl)
    (fun f s hs => by
      rw [zqj4]
      unfold zqil
      exact c_neg (by unfold nE; omega))
  unfold zqj5
  rw [key, foldl_flat]
  rfl

theorem rcons_p2 (k1 : zqi5 β) {r : Rec} {x d a b : Int} (hx : 0 ≤ x ∧ x < r.1.length) (i j : Int) (out : List Diff) (ho : out.length ≤ 100000) (x2 : Int) (x3 : List UInt8) :
    zqj7 k1 i j a b d r.1 r.2.1 r.2.2.1 r.2.2.2 out x x2 x3 = k1 i j r.1 r.2.1 r.2.2.1 r.2.2.2 (out ++ [(a, (b, (elapsed (driftAt r x) d).2)), (b, (a, -(elapsed (driftAt r x) d).1))]) := by
  unfold zqj7 zqip zqio
  refine (c_inb hx).trans ?_
  refine (ref38_Elapsed_eq _ _ _).trans ?_
  have := @elapsed_bd (driftAt r x) d
  have e4 : IntKind.i64.wrap (0 - (elapsed (driftAt r x) d).1) = -(elapsed (driftAt r x) d).1 := (i64_in _ (by omega)).trans (by omega)
  unfold driftAt at e4 ⊢
  simp only [e4]
  exact c_room (by simp only [List.length_cons, List.length_nil]; omega)

theorem rcons_p3 (k1 : zqi9 β) {r : Rec} (hv : valid r = true) {i : Nat} (hi : i < nE r) (out : List Diff) (ho : out.length ≤ 4000) :
    zqjb k1 (i : Int) ((i : Int) + 1) r.1 r.2.1 r.2.2.1 r.2.2.2 out = k1 (i : Int) r.1 r.2.1 r.2.2.1 r.2.2.2 (out ++ pairsI r (nE r) i) := by
  have hb := valid_bd hv
  have key : ∀ (c j f : Nat) (s : List Diff), j + c = nE r → i < j → c < f → s.length + 2 * c ≤ 100000 →
      zqj9 f k1 (i : Int) (j : Int) r.1 r.2.1 r.2.2.1 r.2.2.2 s = k1 (i : Int) r.1 r.2.1 r.2.2.1 r.2.2.2 (s ++ (List.range' j c).flatMap (pairIf r i)) := by
    intro c
    induction c with
    | zero =>
      intro j f s hj hij hf hs
      obtain ⟨f, rfl⟩ : ∃ m, f = m + 1 := ⟨f - 1, by omega⟩
      rw [zqja]
      unfold zqir
      unfold nE at hj
      refine (c_neg (by omega)).trans ?_
      simp
    | succ c ih =>
      intro j f s hj hij hf hs
      obtain ⟨f, rfl⟩ : ∃ m, f = m + 1 := ⟨f - 1, by omega⟩
      have hj' : j < nE r := by omega
      have hin : (i : Int) < (r.2.2.1.length : Int) := by unfold nE at hi; omega
      have hjn : (j : Int) < (r.2.2.1.length : Int) := by unfold nE at hj'; omega
      have e0 : IntKind.i64.wrap ((i : Int) + 1) = (i : Int) + 1 := i64_in _ (by unfold nE at hi; omega)
      have e1 : IntKind.i64.wrap ((j : Int) + 1) = (j : Int) + 1 := i64_in _ (by unfold nE at hj'; omega)
      have e1' : ((j + 1 : Nat) : Int) = (j : Int) + 1 := by omega
      have b1 := valid_ev hv hi
      have b2 := valid_ev hv hj'
      rw [zqja]
      unfold zqir
      refine (c_pos hjn).trans ?_
      refine (c_inb (by omega)).trans ?_
      refine (c_inb (by omega)).trans ?_
      unfold evAt at b1 b2
      have e2 : IntKind.i64.wrap ((r.2.2.1.getD j ((0 : Int), ((0 : Int), ([] : List UInt8)))).2.1 - (r.2.2.1.getD i ((0 : Int), ((0 : Int), ([] : List UInt8)))).2.1) = (r.2.2.1.getD j ((0 : Int), ((0 : Int), ([] : List UInt8)))).2.1 - (r.2.2.1.getD i ((0 : Int), ((0 : Int), ([] : List UInt8)))).2.1 := i64_in _ (by omega)
      have e3 : IntKind.i64.wrap (0 - ((r.2.2.1.getD j ((0 : Int), ((0 : Int), ([] : List UInt8)))).2.1 - (r.2.2.1.getD i ((0 : Int), ((0 : Int), ([] : List UInt8)))).2.1)) = (r.2.2.1.getD i ((0 : Int), ((0 : Int), ([] : List UInt8)))).2.1 - (r.2.2.1.getD j ((0 : Int), ((0 : Int), ([] : List UInt8)))).2.1 := (i64_in _ (by omega)).trans (by omega)
      simp only [Int.toNat_natCast, e0, e1, e2, e3]
      rw [List.range'_succ, List.flatMap_cons]
      have hpi : pairIf r i j = if (evAt r j).1 = (evAt r i).1 then pairD r i j else [] := rfl
      have hp : (pairD r i j).length = 2 := by unfold pairD; split <;> rfl
      rw [hpi]
      by_cases hh : (r.2.2.1.getD i ((0 : Int), ((0 : Int), ([] : List UInt8)))).1 = (r.2.2.1.getD j ((0 : Int), ((0 : Int), ([] : List UInt8)))).1
      · refine (c_npos hh).trans ?_
        rw [if_pos (show (evAt r j).1 = (evAt r i).1 from hh.symm)]
        have fin : zqj9 f k1 (i : Int) ((j : Int) + 1) r.1 r.2.1 r.2.2.1 r.2.2.2 (s ++ pairD r i j) = k1 (i : Int) r.1 r.2.1 r.2.2.1 r.2.2.2 (s ++ (pairD r i j ++ (List.range' (j + 1) c).flatMap (pairIf r i))) := by
          rw [← e1', ih (j + 1) f _ (by omega) (by omega) (by omega) (by rw [List.length_append]; omega), List.append_assoc]
        by_cases hc : (r.2.2.1.getD j ((0 : Int), ((0 : Int), ([] : List UInt8)))).2.1 < (r.2.2.1.getD i ((0 : Int), ((0 : Int), ([] : List UInt8)))).2.1
        · refine (c_pos (by omega)).trans ?_
          refine (rcons_p2 _ (by omega) _ _ s (by omega) _ _).trans ?_
          rw [← fin]
          simp only [e1]
          unfold pairD evAt
          rw [if_pos hc, hh]
        · refine (c_neg (by omega)).trans ?_
          refine (rcons_p2 _ (by omega) _ _ s (by omega) _ _).trans ?_
          rw [← fin]
          simp only [e1]
          unfold pairD evAt
          rw [if_neg hc]
      · refine (c_nneg hh).trans ?_
        rw [if_neg (show ¬ (evAt r j).1 = (evAt r i).1 from fun e => hh e.symm), List.nil_append, ← e1']
        exact ih (j + 1) f _ (by omega) (by omega) (by omega) (by omega)
  unfold zqjb
  have h1 := key (nE r - (i + 1)) (i + 1) fuel out (by omega) (by omega) (lt_fuel (by unfold nE at *; omega)) (by unfold nE at *; omega)
  rw [show ((i : Int) + 1) = ((i + 1 : Nat) : Int) by omega, h1]
  rw [pairsI_range' hi]

theorem rcons_p4 (k1 : zqid β) {r : Rec} (hv : valid r = true) (out : List Diff) (ho : out.length ≤ 80) :
    zqjf k1 0 r.1 r.2.1 r.2.2.1 r.2.2.2 out = k1 r.1 r.2.1 r.2.2.1 r.2.2.2 (out ++ (List.range (nE r)).flatMap (pairsI r (nE r))) := by
  have hb := valid_bd hv
  have h2 : ∀ i, (pairsI r (nE r) i).length ≤ 80 := fun i => by
    have h3 := flat_len (pairIf r i) 2 ((List.range (nE r)).filter fun j => decide (i < j)) (fun j _ => by
      unfold pairIf pairD
      split
      · split <;> simp
      · simp)
    have h4 := List.length_filter_le (fun j => decide (i < j)) (List.range (nE r))
    rw [List.length_range] at h4
    unfold pairsI nE at *
    omega
  have key := range_fold' (nE r) (fun i (s : List Diff) => s.length ≤ 80 + 80 * i) (fun f j s => zqjd f k1 j r.1 r.2.1 r.2.2.1 r.2.2.2 s)
    (fun s i => s ++ pairsI r (nE r) i) (fun s => k1 r.1 r.2.1 r.2.2.1 r.2.2.2 s) out fuel (lt_fuel (by unfold nE; omega)) (by omega)
    (fun i s hi hs => by have := h2 i; rw [List.length_append]; omega)
    (fun f i s hi hs => by
      have hi' := hi
      unfold nE at hi'
      have e1 : IntKind.i64.wrap ((i : Int) + 1) = i + 1 := i64_in _ (by omega)
      rw [zqje]
      unfold zqiu
      simp only [e1]
      refine (c_pos (by omega)).trans ?_
      refine (rcons_p3 _ hv hi s (by omega)).trans ?_
      simp only [e1])
    (fun f s hs => by
      rw [zqje]
      unfold zqiu
      exact c_neg (by unfold nE; omega))
  unfold zqjf
  rw [key, foldl_flat]

theorem rcons_p5 (k1 : zqih β) {r : Rec} (hv : valid r = true) (out : List Diff) (ho : out.length ≤ 10000) :
    zqjj k1 0 r.1 r.2.1 r.2.2.1 r.2.2.2 out = k1 (out ++ r.2.2.2.map linkD) := by
  have hb := valid_bd hv
  have hp := valid_parts hv
  have key := fold_loopI (fun i (s : List Diff) => s.length ≤ 10000 + i) (fun f j s => zqjh f k1 j r.1 r.2.1 r.2.2.1 r.2.2.2 s)
    (fun s x => s ++ [linkD x]) (fun s => k1 s) ((0 : Int), ((0 : Int), (0 : Int))) r.2.2.2 out fuel (lt_fuel (by omega)) (by omega)
    (fun i s hi hs => by simp only [List.length_append, List.length_cons, List.length_nil]; omega)
    (fun f i s hi hs => by
      have e1 : IntKind.i64.wrap ((i : Int) + 1) = i + 1 := i64_in _ (by omega)
      have hx := hp.2.2.2 _ (getD_mem (d := ((0 : Int), ((0 : Int), (0 : Int)))) hi)
      unfold nE at hx
      have e2 : IntKind.i64.wrap ((r.2.2.2.getD i (0, 0, 0)).2.1 + 1) = (r.2.2.2.getD i (0, 0, 0)).2.1 + 1 := i64_in _ (by omega)
      have e3 : IntKind.i64.wrap ((r.2.2.2.getD i (0, 0, 0)).1 + 1) = (r.2.2.2.getD i (0, 0, 0)).1 + 1 := i64_in _ (by omega)
      have e4 : IntKind.i64.wrap (0 - (r.2.2.2.getD i (0, 0, 0)).2.2) = -(r.2.2.2.getD i (0, 0, 0)).2.2 := (i64_in _ (by omega)).trans (by omega)
      rw [zqji]
      unfold zqix
      refine (c_pos (by omega)).trans ?_
      refine (c_inb (by omega)).trans ?_
      refine (c_inb (by omega)).trans ?_
      refine (c_inb (by omega)).trans ?_
      simp only [Int.toNat_natCast, e1, e2, e3, e4]
      refine (c_room (by simp only [List.length_cons, List.length_nil]; omega)).trans ?_
      rfl)
    (fun f s hs => by
      rw [zqji]
      unfold zqix
      exact c_neg (by omega))
  unfold zqjj
  rw [key]
  have : ∀ (l : List Link) (s : List Diff), l.foldl (fun s x => s ++ [linkD x]) s = s ++ l.map linkD := by
    intro l
    induction l with
    | nil => intro s; simp
    | cons x l ih => intro s; simp only [List.foldl_cons, List.map_cons]; rw [ih, List.append_assoc]; rfl
  rw [this]

theorem rConstraints_eq (r : Rec) (k : Bool → List Diff → Option β) : zqjl r k = (match consW r with | some l => k true l | none => k false []) := by
  unfold zqjl zqj0
  refine (ref38_Valid_eq _ _).trans ?_
  unfold consW
  cases hv : valid r with
  | false => rfl
  | true =>
    have hb := valid_bd hv
    refine c_nt.trans ?_
    rw [Bool.true_and]
    refine (rcons_p1 _ _ hv).trans ?_
    cases hw : whensOk r with
    | false => rfl
    | true =>
      refine c_t.trans ?_
      rw [if_pos rfl]
      have h1 := flat_len (evD r) 2 (List.range (nE r)) (fun i _ => by simp [evD])
      rw [List.length_range] at h1
      have h2 := cons_len hv
      unfold consL at h2 ⊢
      rw [List.length_append, List.length_map] at h2
      refine (rcons_p4 _ hv _ (by unfold nE at *; omega)).trans ?_
      exact rcons_p5 _ hv _ (by omega)

theorem cons_noSelf {r : Rec} (hv : valid r = true) : noSelf (consL r) := by
  intro d hd
  have hp := valid_parts hv
  rcases mem_cons.1 hd with ⟨i, hi, hd⟩ | ⟨i, j, hij, hj, hh, hd⟩ | ⟨l, hl, rfl⟩
  · simp only [evD, List.mem_cons, List.not_mem_nil, or_false] at hd
    rcases hd with rfl | rfl <;> simp only <;> omega
  · unfold pairD at hd
    split at hd <;> simp only [List.mem_cons, List.not_mem_nil, or_false] at hd <;> rcases hd with rfl | rfl <;> simp only <;> omega
  · have := hp.2.2.2 l hl
    simp only [linkD]
    omega

theorem rclosed_eq (r : Rec) (k : Mat → Bool → Option β) : zqlh r k = (match closedW r with | some m => k m true | none => k [] false) := by
  unfold zqlh zqle
  refine (rConstraints_eq _ _).trans ?_
  unfold closedW
  cases hc : consW r with
  | none => rfl
  | some l =>
    simp only [Bool.not_true, cond_false]
    have hc' := hc
    unfold consW at hc'
    by_cases hh : (valid r && whensOk r) = true
    · rw [if_pos hh] at hc'
      rw [Bool.and_eq_true] at hh
      cases hc'
      have := valid_bd hh.1
      have e1 : IntKind.i64.wrap ((r.2.2.1.length : Int) + 1) = ((nE r + 1 : Nat) : Int) := i64_in _ (by omega)
      rw [e1]
      exact ref39_Close_eq (by omega) (by unfold nE; omega) (cons_noSelf hh.1) _
    · rw [if_neg hh] at hc'
      cases hc'

/-- All that the functions of the order need of the matrix. -/
theorem closed_matB {r : Rec} {m : Mat} (e : closedW r = some m) : MatB (nE r) m := by
  have h := closed_ok' e
  have hn : nE r ≤ 40 := (valid_bd h.valid).2.2.1
  exact ⟨h.ok.sq, by omega, fun i j hi hj => by have := h.ok.lo i j hi hj; have := h.ok.hi i j hi hj; omega⟩

theorem rConsistent_eq (r : Rec) (k : Bool → Option β) : zqmp r k = k (closedW r).isSome := by
  unfold zqmp zqmm
  refine (rclosed_eq _ _).trans ?_
  cases closedW r <;> rfl

theorem rcompare_eq {n : Nat} {m : Mat} (h : MatB n m) {a b : Nat} (ha : a < n) (hb : b < n) (k : Int → Option β) : zq1s m (a : Int) (b : Int) k = k (cmpN m a b) := by
  have hs := h.small
  have e1 : IntKind.i64.wrap ((a : Int) + 1) = ((a + 1 : Nat) : Int) := i64_in _ (by omega)
  have e2 : IntKind.i64.wrap ((b : Int) + 1) = ((b + 1 : Nat) : Int) := i64_in _ (by omega)
  have l0 := h.sq.len
  have l1 := h.sq.row (b + 1) (by omega)
  have l2 := h.sq.row (a + 1) (by omega)
  unfold zq1s zq1p
  simp only [e1, e2, Int.toNat_natCast]
  refine (c_inb (by omega)).trans ?_
  refine (c_inb (by omega)).trans ?_
  unfold cmpN bef
  by_cases h1 : at2 m (b + 1) (a + 1) ≤ -1
  · refine (c_pos (p := (m.getD (b + 1) []).getD (a + 1) 0 ≤ -1) h1).trans ?_
    rw [decide_eq_true h1]
    rfl
  · refine (c_neg (p := (m.getD (b + 1) []).getD (a + 1) 0 ≤ -1) h1).trans ?_
    refine (c_inb (by omega)).trans ?_
    refine (c_inb (by omega)).trans ?_
    rw [decide_eq_false h1]
    by_cases h2 : at2 m (a + 1) (b + 1) ≤ -1
    · refine (c_pos (p := (m.getD (a + 1) []).getD (b + 1) 0 ≤ -1) h2).trans ?_
      rw [decide_eq_true h2]
      rfl
    · refine (c_neg (p := (m.getD (a + 1) []).getD (b + 1) 0 ≤ -1) h2).trans ?_
      rw [decide_eq_false h2]
      rfl

end
end
end Go.Lift

/- The reference of the chapter 40 in plain Lean: lists, orders, times. -/
namespace Go.Lift
open Go.RowKit Go.IntWalk
noncomputable section
set_option linter.unusedVariables false
set_option linter.unusedSimpArgs false
set_option maxRecDepth 10000

section
variable {β : Type}
/-! ### Open -/
def openG (r : Rec) : List (Int × Int) := match closedW r with | some m => openW (nE r) m | none => []
theorem ropen_p1 {n : Nat} {m : Mat} (h : MatB n m) (k1 : zqmt β) {a : Nat} (ha : a < n) (r : List Host) (r2 : List Sync) (r3 : List Event) (r4 : List Link) (hr : r3.length = n) (out : List (Int × Int)) (ho : out.length ≤ 100000) :
    zqnc k1 m true (a : Int) ((a : Int) + 1) r r2 r3 r4 out = k1 m true (a : Int) r r2 r3 r4 (out ++ openL n m a) := by
  have hs := h.small
  have key : ∀ (c b f : Nat) (s : List (Int × Int)), b + c = n → c < f → s.length + c ≤ 100100 →
      zqna f k1 m true (a : Int) (b : Int) r r2 r3 r4 s = k1 m true (a : Int) r r2 r3 r4 (s ++ ((List.range' b c).filter fun b => opn m a b).map fun (b : Nat) => ((a : Int), (b : Int))) := by
    intro c
    induction c with
    | zero =>
      intro b f s hb hf hs'
      obtain ⟨f, rfl⟩ : ∃ m, f = m + 1 := ⟨f - 1, by omega⟩
      rw [zqnb]
      unfold zqn1
      refine (c_neg (by omega)).trans ?_
      simp
    | succ c ih =>
      intro b f s hb hf hs'
      obtain ⟨f, rfl⟩ : ∃ m, f = m + 1 := ⟨f - 1, by omega⟩
      have e1 : IntKind.i64.wrap ((b : Int) + 1) = ((b + 1 : Nat) : Int) := i64_in _ (by omega)
      rw [zqnb]
      unfold zqn1
      refine (c_pos (by omega)).trans ?_
      simp only [e1]
      refine (rcompare_eq h ha (by omega) _).trans ?_
      rw [List.range'_succ, List.filter_cons]
      have hz : decide (cmpN m a b = 0) = opn m a b := by
        unfold cmpN opn
        cases bef m a b <;> cases bef m b a <;> simp
      rw [hz]
      cases ho : opn m a b with
      | true =>
        simp only [cond_true, if_true, List.map_cons]
        refine (c_room (by simp only [List.length_cons, List.length_nil]; omega)).trans ?_
        refine (ih (b + 1) f _ (by omega) (by omega) (by simp only [List.length_append, List.length_cons, List.length_nil]; omega)).trans ?_
        rw [List.append_assoc]
        rfl
      | false => exact ih (b + 1) f _ (by omega) (by omega) (by omega)
  unfold zqnc
  have := key (n - (a + 1)) (a + 1) fuel out (by omega) (lt_fuel (by omega)) (by omega)
  rw [show ((a : Int) + 1) = ((a + 1 : Nat) : Int) by omega, this]
  rfl

theorem rOpen_gen (r : Rec) (k : List (Int × Int) → Option β) : zqni r k = k (openG r) := by
  unfold zqni zqn7
  refine (rclosed_eq _ _).trans ?_
  unfold openG
  cases he : closedW r with
  | none =>
    simp only []
    unfold zqng
    rw [show fuel = (fuel - 1) + 1 by decide, zqnf]
    rfl
  | some m =>
    have h := closed_matB he
    have hs := h.small
    simp only []
    have key := range_fold' (nE r) (fun i (s : List (Int × Int)) => s.length ≤ 100 * i) (fun f j s => zqne f (fun out => k out) m true j r.1 r.2.1 r.2.2.1 r.2.2.2 s)
      (fun s i => s ++ openL (nE r) m i) (fun s => k s) [] fuel (lt_fuel (by omega)) (by simp)
      (fun i s hi hs => by have := openL_len (nE r) m i; rw [List.length_append]; omega)
      (fun f i s hi hs' => by
        have hi' := hi
        unfold nE at hi'
        have e1 : IntKind.i64.wrap ((i : Int) + 1) = i + 1 := i64_in _ (by omega)
        rw [zqnf]
        unfold zqn4
        refine c_t.trans ?_
        refine (c_pos (by omega)).trans ?_
        simp only [e1]
        refine (ropen_p1 h _ hi _ _ _ _ rfl s (by omega)).trans ?_
        simp only [e1])
      (fun f s hs => by
        rw [zqnf]
        unfold zqn4
        refine c_t.trans ?_
        exact c_neg (by unfold nE; omega))
    unfold zqng
    rw [key, foldl_flat]
    rfl

/-! ### Sort -/
/-! ### Allows -/
/-! ### Fits -/
end
end
end Go.Lift

/- The example of chapter 41. -/
namespace Go.Lift
noncomputable section
set_option maxRecDepth 100000
theorem sane41 {β : Type} (k : Bool → Option β) : zqyj k = k true := by kernel_rfl
end
end Go.Lift

/- Merging records (chapter 41): what the code makes of it, and what the times that fit are. -/
namespace Go.Lift
open Go.RowKit Go.IntWalk
noncomputable section
set_option linter.unusedVariables false
set_option linter.unusedSimpArgs false
set_option maxRecDepth 10000

section
variable {β : Type}
theorem clone_h (l : List Host) (hl : l.length ≤ 100000) (k : List Host → Option β) : zq47 l k = k l := by
  unfold zq47 cloneF
  exact c_room (by omega)
theorem clone_s (l : List Sync) (hl : l.length ≤ 100000) (k : List Sync → Option β) : zq4b l k = k l := by
  unfold zq4b cloneF
  exact c_room (by omega)
theorem clone_e (l : List Event) (hl : l.length ≤ 100000) (k : List Event → Option β) : zq4f l k = k l := by
  unfold zq4f cloneF
  exact c_room (by omega)
theorem clone_l (l : List Link) (hl : l.length ≤ 100000) (k : List Link → Option β) : zq4j l k = k l := by
  unfold zq4j cloneF
  exact c_room (by omega)
theorem copied_eq {r : Rec} (hv : valid r = true) (k : List Host → List Sync → List Event → List Link → Option β) : zqcf r k = k r.1 r.2.1 r.2.2.1 r.2.2.2 := by
  have hb := valid_bd hv
  unfold zqcf zqcc
  refine (clone_h _ (by omega) _).trans ?_
  refine (clone_s _ (by omega) _).trans ?_
  refine (clone_e _ (by omega) _).trans ?_
  exact clone_l _ (by omega) _

end

/-! ### The merged record's parts -/
section
variable {a b : Rec}
theorem SolR.congr {r : Rec} (hv : valid r = true) {x y : Nat → Int} (h : SolR r x) (e : ∀ j, j ≤ nE r → y j = x j) : SolR r y := by
  refine ⟨fun i hi => ?_, fun i j hi hj hij hh hc => ?_, fun l hl => ?_⟩
  · rw [e (i + 1) (by omega), e 0 (by omega)]; exact h.ev i hi
  · rw [e (i + 1) (by omega), e (j + 1) (by omega)]; exact h.pair i j hi hj hij hh hc
  · have := (valid_parts hv).2.2.2 l hl
    rw [e (l.1.toNat + 1) (by omega), e (l.2.1.toNat + 1) (by omega)]; exact h.link l hl
end
end
end Go.Lift

/- One host's share of a record (chapter 41): what the code makes of it, and what the times that fit are. -/
namespace Go.Lift
open Go.RowKit Go.IntWalk
noncomputable section
set_option linter.unusedVariables false
set_option linter.unusedSimpArgs false
set_option maxRecDepth 10000

theorem mHas_put' (l : List (Int × Int)) (k v j : Int) : mHas (.int .i64) (mPut (.int .i64) l k v) j = (decide (k = j) || mHas (.int .i64) l j) := by
  induction l with
  | nil => simp [mPut, mHas, keyEq]
  | cons y ys ih =>
    by_cases h : y.1 = k
    · subst h
      by_cases hj : y.1 = j <;> simp [mPut, mHas, keyEq, hj]
    · by_cases hj : y.1 = j
      · have : ¬ k = j := fun e => h (hj.trans e.symm)
        subst hj
        simp [mPut, mHas, keyEq, h]
      · simp [mPut, mHas, keyEq, h, hj, ih]
theorem mGet_put' (l : List (Int × Int)) (k v j z : Int) : mGet (.int .i64) (mPut (.int .i64) l k v) j z = if k = j then v else mGet (.int .i64) l j z := by
  induction l with
  | nil => by_cases hj : k = j <;> simp [mPut, mGet, keyEq, hj]
  | cons y ys ih =>
    by_cases h : y.1 = k
    · subst h
      by_cases hj : y.1 = j <;> simp [mPut, mGet, keyEq, hj]
    · by_cases hj : y.1 = j
      · have : ¬ k = j := fun e => h (hj.trans e.symm)
        subst hj
        simp [mPut, mGet, keyEq, h, this]
      · simp [mPut, mGet, keyEq, h, hj, ih]

/-- Whether event i stands on host h. -/
def onH (r : Rec) (h : Int) (i : Nat) : Bool := decide ((evAt r i).1 = h)
/-- The events of host h among the first i. -/
def selI (r : Rec) (h : Int) (i : Nat) : List Nat := (List.range i).filter (onH r h)
def posI (r : Rec) (h : Int) (i : Nat) : Nat := (selI r h i).length
def evsI (r : Rec) (h : Int) (i : Nat) : List Event := (selI r h i).map (evAt r)
def nowM (r : Rec) (h : Int) : Nat → List (Int × Int)
  | 0 => []
  | i + 1 => if onH r h i then mPut (.int .i64) (nowM r h i) (i : Int) (posI r h i : Int) else nowM r h i
def lkOn (r : Rec) (h : Int) (l : Link) : Bool := onH r h l.1.toNat && onH r h l.2.1.toNat
def lkMv (r : Rec) (h : Int) (l : Link) : Link := ((posI r h l.1.toNat : Int), ((posI r h l.2.1.toNat : Int), l.2.2))
def lksI (r : Rec) (h : Int) (i : Nat) : List Link := ((r.2.2.2.take i).filter (lkOn r h)).map (lkMv r h)
/-- One host's share of a record. -/
def onlyR (r : Rec) (h : Int) : Rec := (r.1, (r.2.1, (evsI r h (nE r), lksI r h r.2.2.2.length)))

theorem selI_succ (r : Rec) (h : Int) (i : Nat) : selI r h (i + 1) = selI r h i ++ (if onH r h i then [i] else []) := by
  unfold selI
  rw [List.range_succ, List.filter_append]
  congr 1
  cases e : onH r h i <;> simp [e]
theorem posI_le (r : Rec) (h : Int) (i : Nat) : posI r h i ≤ i := by
  unfold posI selI
  have := List.length_filter_le (onH r h) (List.range i)
  rwa [List.length_range] at this
theorem evsI_len (r : Rec) (h : Int) (i : Nat) : (evsI r h i).length = posI r h i := by simp [evsI, posI]
theorem evsI_succ (r : Rec) (h : Int) (i : Nat) : evsI r h (i + 1) = evsI r h i ++ (if onH r h i then [evAt r i] else []) := by
  unfold evsI
  rw [selI_succ, List.map_append]
  cases onH r h i <;> rfl
theorem nE_only (r : Rec) (h : Int) : nE (onlyR r h) = posI r h (nE r) := evsI_len _ _ _

theorem now_has (r : Rec) (h : Int) : ∀ (n : Nat) (j : Int), mHas (.int .i64) (nowM r h n) j = (decide (0 ≤ j) && decide (j < n) && onH r h j.toNat)
  | 0, j => by
    show false = _
    by_cases hj : 0 ≤ j
    · rw [decide_eq_false (show ¬ j < ((0 : Nat) : Int) by omega)]; simp
    · rw [decide_eq_false hj]; rfl
  | n + 1, j => by
    unfold nowM
    by_cases e : onH r h n = true
    · rw [if_pos e, mHas_put', now_has r h n j]
      by_cases hj : (n : Int) = j
      · subst hj
        simp [e]
        omega
      · rw [decide_eq_false hj, Bool.false_or]
        by_cases h1 : j < (n : Int)
        · rw [decide_eq_true h1, decide_eq_true (show j < ((n + 1 : Nat) : Int) by omega)]
        · rw [decide_eq_false h1, decide_eq_false (show ¬ j < ((n + 1 : Nat) : Int) by omega)]
    · rw [if_neg e, now_has r h n j]
      by_cases hj : (n : Int) = j
      · subst hj
        have e : onH r h n = false := by simpa using e
        simp [e]
      · by_cases h1 : j < (n : Int)
        · rw [decide_eq_true h1, decide_eq_true (show j < ((n + 1 : Nat) : Int) by omega)]
        · rw [decide_eq_false h1, decide_eq_false (show ¬ j < ((n + 1 : Nat) : Int) by omega)]
theorem now_get (r : Rec) (h : Int) : ∀ (n j : Nat), j < n → onH r h j = true → mGet (.int .i64) (nowM r h n) (j : Int) 0 = (posI r h j : Int)
  | 0, j, hj, _ => absurd hj (by omega)
  | n + 1, j, hj, e => by
    unfold nowM
    by_cases hjn : j = n
    · subst hjn
      rw [if_pos e, mGet_put', if_pos rfl]
    · have ih := now_get r h n j (by omega) e
      by_cases e2 : onH r h n = true
      · rw [if_pos e2, mGet_put', if_neg (by omega), ih]
      · rw [if_neg e2, ih]

theorem lksI_succ {r : Rec} (h : Int) {i : Nat} (hi : i < r.2.2.2.length) : lksI r h (i + 1) = lksI r h i ++ (if lkOn r h (r.2.2.2.getD i (0, 0, 0)) then [lkMv r h (r.2.2.2.getD i (0, 0, 0))] else []) := by
  unfold lksI
  rw [List.take_add_one, List.getElem?_eq_getElem hi, List.filter_append, List.map_append]
  congr 1
  simp only [Option.toList_some, List.getD, List.getElem?_eq_getElem hi, Option.getD_some]
  cases e : lkOn r h r.2.2.2[i] <;> simp [e]

section
variable {β : Type}
theorem only_p1 {r : Rec} (hv : valid r = true) (h : Int) (k1 : zqkc β) (b4 b8 : List Host) (b5 b9 : List Sync) (b6 : List Event) (b7 b11 : List Link) :
    zql2 k1 h r.2.2.1 (r.2.2.1.length : Int) 0 r.1 r.2.1 r.2.2.1 r.2.2.2 [] b4 b5 b6 b7 b8 b9 [] b11 =
      k1 r.1 r.2.1 r.2.2.1 r.2.2.2 (nowM r h (nE r)) b4 b5 b6 b7 b8 b9 (evsI r h (nE r)) b11 := by
  have hb := valid_bd hv
  unfold zql2
  have key := range_state r.2.2.1.length (fun i => (nowM r h i, evsI r h i)) (fun f i s => zql0 f k1 h r.2.2.1 (r.2.2.1.length : Int) i r.1 r.2.1 r.2.2.1 r.2.2.2 s.1 b4 b5 b6 b7 b8 b9 s.2 b11)
    (k1 r.1 r.2.1 r.2.2.1 r.2.2.2 (nowM r h (nE r)) b4 b5 b6 b7 b8 b9 (evsI r h (nE r)) b11) fuel (lt_fuel (by omega))
    (fun f i hi => by
      rw [zql1]
      unfold zqko
      refine (c_pos (by omega)).trans ?_
      refine (c_inb (by omega)).trans ?_
      dsimp only
      rw [Int.toNat_natCast, i64_in ((i : Int) + 1) (by omega)]
      have hl := evsI_len r h i
      have hp := posI_le r h i
      show cond (onH r h i) _ _ = _
      rw [evsI_succ]
      cases e : onH r h i with
      | true =>
        refine c_t.trans ?_
        refine (c_room (by simp only [List.length_cons, List.length_nil]; omega)).trans ?_
        rw [hl]
        have e2 : nowM r h (i + 1) = mPut (.int .i64) (nowM r h i) (i : Int) (posI r h i : Int) := by
          show (if onH r h i then _ else _) = _
          rw [e]
          rfl
        rw [e2]
        rfl
      | false =>
        refine c_f.trans ?_
        have e2 : nowM r h (i + 1) = nowM r h i := by
          show (if onH r h i then _ else _) = _
          rw [e]
          rfl
        rw [e2]
        show _ = zql0 f k1 h r.2.2.1 (r.2.2.1.length : Int) ((i + 1 : Nat) : Int) r.1 r.2.1 r.2.2.1 r.2.2.2 (nowM r h i) b4 b5 b6 b7 b8 b9 (evsI r h i ++ []) b11
        rw [List.append_nil]
        rfl)
    (fun f => by
      rw [zql1]
      unfold zqko
      exact c_neg (by omega))
  exact key

theorem only_p3 {r : Rec} (hv : valid r = true) (h : Int) (k1 : zqkk β) (b3 b7 : List Host) (b4 b8 : List Sync) (b5 b9 : List Event) (b6 : List Link) :
    zql8 k1 r.2.2.2 (r.2.2.2.length : Int) 0 (nowM r h (nE r)) b3 b4 b5 b6 b7 b8 b9 [] =
      k1 b3 b4 b5 b6 b7 b8 b9 (lksI r h r.2.2.2.length) := by
  have hb := valid_bd hv
  unfold zql8
  have key := range_state r.2.2.2.length (fun i => lksI r h i) (fun f i s => zql6 f k1 r.2.2.2 (r.2.2.2.length : Int) i (nowM r h (nE r)) b3 b4 b5 b6 b7 b8 b9 s)
    (k1 b3 b4 b5 b6 b7 b8 b9 (lksI r h r.2.2.2.length)) fuel (lt_fuel (by omega))
    (fun f i hi => by
      have hk := (valid_parts hv).2.2.2 _ (getD_mem (d := ((0 : Int), ((0 : Int), (0 : Int)))) hi)
      rw [zql7]
      unfold zqku
      refine (c_pos (by omega)).trans ?_
      refine (c_inb (by omega)).trans ?_
      dsimp only
      have hw : IntKind.i64.wrap ((i : Int) + 1) = (i : Int) + 1 := i64_in _ (by omega)
      rw [Int.toNat_natCast, lksI_succ h hi]
      have hll : (lksI r h i).length ≤ i := by
        unfold lksI
        rw [List.length_map]
        refine Nat.le_trans (List.length_filter_le _ _) ?_
        rw [List.length_take]
        omega
      generalize r.2.2.2.getD i ((0 : Int), ((0 : Int), (0 : Int))) = l at hk ⊢
      have h1 : mHas (.int .i64) (nowM r h (nE r)) l.1 = onH r h l.1.toNat := by
        rw [now_has, decide_eq_true hk.1, decide_eq_true hk.2.1]; rfl
      have h2 : mHas (.int .i64) (nowM r h (nE r)) l.2.1 = onH r h l.2.1.toNat := by
        rw [now_has, decide_eq_true hk.2.2.1, decide_eq_true hk.2.2.2.1]; rfl
      rw [h1, h2]
      unfold lkOn
      unfold zql4 zqks zqkr
      cases e1 : onH r h l.1.toNat with
      | false =>
        refine c_f.trans ?_
        refine c_f.trans ?_
        show zql6 f k1 r.2.2.2 (r.2.2.2.length : Int) (IntKind.i64.wrap ((i : Int) + 1)) (nowM r h (nE r)) b3 b4 b5 b6 b7 b8 b9 (lksI r h i) = zql6 f k1 r.2.2.2 (r.2.2.2.length : Int) ((i : Int) + 1) (nowM r h (nE r)) b3 b4 b5 b6 b7 b8 b9 (lksI r h i ++ [])
        rw [List.append_nil, hw]
      | true =>
        refine c_t.trans ?_
        cases e2 : onH r h l.2.1.toNat with
        | false =>
          refine c_f.trans ?_
          show zql6 f k1 r.2.2.2 (r.2.2.2.length : Int) (IntKind.i64.wrap ((i : Int) + 1)) (nowM r h (nE r)) b3 b4 b5 b6 b7 b8 b9 (lksI r h i) = zql6 f k1 r.2.2.2 (r.2.2.2.length : Int) ((i : Int) + 1) (nowM r h (nE r)) b3 b4 b5 b6 b7 b8 b9 (lksI r h i ++ [])
          rw [List.append_nil, hw]
        | true =>
          refine c_t.trans ?_
          refine (c_room (by simp only [List.length_cons, List.length_nil]; omega)).trans ?_
          have g1 := now_get r h (nE r) l.1.toNat (by omega) e1
          have g2 := now_get r h (nE r) l.2.1.toNat (by omega) e2
          rw [show ((l.1.toNat : Nat) : Int) = l.1 by omega] at g1
          rw [show ((l.2.1.toNat : Nat) : Int) = l.2.1 by omega] at g2
          rw [g1, g2]
          show zql6 f k1 r.2.2.2 (r.2.2.2.length : Int) (IntKind.i64.wrap ((i : Int) + 1)) (nowM r h (nE r)) b3 b4 b5 b6 b7 b8 b9 (lksI r h i ++ [lkMv r h l]) = zql6 f k1 r.2.2.2 (r.2.2.2.length : Int) ((i : Int) + 1) (nowM r h (nE r)) b3 b4 b5 b6 b7 b8 b9 (lksI r h i ++ [lkMv r h l])
          rw [hw])
    (fun f => by
      rw [zql7]
      unfold zqku
      exact c_neg (by omega))
  exact key

theorem tin_eq (n lo hi : Int) (k : Bool → Option β) : zq1z n lo hi k = k (decide (lo ≤ n) && decide (n ≤ hi)) := by
  unfold zq1z zq1w
  by_cases h : lo ≤ n
  · rw [decide_eq_true h]; rfl
  · rw [decide_eq_false h]; rfl

theorem timeline_Only_eq {r : Rec} (hv : valid r = true) {h : Int} (h0 : 0 ≤ h ∧ h < r.1.length) (k : Rec → Int → Option β) : zqla r h k = k (onlyR r h) 0 := by
  have hb := valid_bd hv
  unfold zqla zqkx
  refine (clock_Valid_eq r _).trans ?_
  rw [hv]
  refine c_f.trans ?_
  rw [i64_in ((r.1.length : Int) - 1) (by omega)]
  refine (tin_eq _ _ _ _).trans ?_
  rw [decide_eq_true (show 0 ≤ h by omega), decide_eq_true (show h ≤ (r.1.length : Int) - 1 by omega)]
  refine c_f.trans ?_
  refine (copied_eq hv _).trans ?_
  refine (only_p1 hv h _ _ _ _ _ _ _ _).trans ?_
  exact only_p3 hv h _ _ _ _ _ _ _ _
end
end
end Go.Lift

/- TimelineHosts: each host's share of a record stands by itself, and its clock orders it but for one second. -/
namespace Go.Lift
open Go.RowKit Go.IntWalk
noncomputable section
set_option linter.unusedVariables false
set_option linter.unusedSimpArgs false
set_option maxRecDepth 10000

section
variable {r : Rec} {h : Int}
theorem sel_split (r : Rec) (h : Int) {j : Nat} (hj : onH r h j = true) : ∀ n, j < n → ∃ rest, selI r h n = selI r h j ++ j :: rest
  | 0, hn => absurd hn (by omega)
  | n + 1, hn => by
    rw [selI_succ]
    by_cases e : j = n
    · subst e
      rw [hj]
      exact ⟨[], rfl⟩
    · obtain ⟨rest, e2⟩ := sel_split r h hj n (by omega)
      exact ⟨rest ++ (if onH r h n then [n] else []), by rw [e2, List.append_assoc]; rfl⟩
theorem sel_at {n j : Nat} (hn : j < n) (hj : onH r h j = true) : (selI r h n).getD (posI r h j) 0 = j ∧ posI r h j < posI r h n := by
  obtain ⟨rest, e⟩ := sel_split r h hj n hn
  unfold posI
  rw [e]
  refine ⟨?_, by simp⟩
  simp [List.getD]
theorem sel_in {n p : Nat} (hp : p < posI r h n) : (selI r h n).getD p 0 < n ∧ onH r h ((selI r h n).getD p 0) = true := by
  have hm : (selI r h n).getD p 0 ∈ selI r h n := getD_mem hp
  unfold selI at hm
  rw [List.mem_filter, List.mem_range] at hm
  exact hm
theorem sel_inj {n p q : Nat} (hp : p < posI r h n) (hq : q < posI r h n) (e : (selI r h n).getD p 0 = (selI r h n).getD q 0) : p = q := by
  have nd : (selI r h n).Pairwise (· < ·) := List.pairwise_lt_range.filter _
  rw [List.pairwise_iff_getElem] at nd
  unfold posI at hp hq
  rw [List.getD_eq_getElem?_getD, List.getD_eq_getElem?_getD, List.getElem?_eq_getElem hp, List.getElem?_eq_getElem hq, Option.getD_some, Option.getD_some] at e
  rcases Nat.lt_trichotomy p q with g | g | g
  · have := nd p q hp hq g; omega
  · exact g
  · have := nd q p hq hp g; omega

theorem evAt_only {p : Nat} (hp : p < posI r h (nE r)) : evAt (onlyR r h) p = evAt r ((selI r h (nE r)).getD p 0) := by
  unfold posI at hp
  show (evsI r h (nE r)).getD p _ = _
  unfold evsI
  rw [List.getD_eq_getElem?_getD, List.getD_eq_getElem?_getD, List.getElem?_map, List.getElem?_eq_getElem hp]
  rfl
theorem lks_mem {l : Link} (hl : l ∈ lksI r h r.2.2.2.length) : ∃ z ∈ r.2.2.2, onH r h z.1.toNat = true ∧ onH r h z.2.1.toNat = true ∧ l = lkMv r h z := by
  unfold lksI at hl
  rw [List.take_length, List.mem_map] at hl
  obtain ⟨z, hz, rfl⟩ := hl
  rw [List.mem_filter] at hz
  have h2 := hz.2
  unfold lkOn at h2
  rw [Bool.and_eq_true] at h2
  exact ⟨z, hz.1, h2.1, h2.2, rfl⟩
theorem lks_len (r : Rec) (h : Int) (i : Nat) : (lksI r h i).length ≤ r.2.2.2.length := by
  unfold lksI
  rw [List.length_map]
  refine Nat.le_trans (List.length_filter_le _ _) ?_
  rw [List.length_take]
  omega

theorem only_valid (hv : valid r = true) : valid (onlyR r h) = true := by
  have hb := valid_bd hv
  obtain ⟨a1, a2, a3, a4⟩ := valid_parts hv
  have hE : nE r = r.2.2.1.length := rfl
  have hp := posI_le r h (nE r)
  have hl := lks_len r h r.2.2.2.length
  refine valid_mk hb.1 hb.2.1 (by show (evsI r h (nE r)).length ≤ 40; rw [evsI_len]; omega) (by show (lksI r h r.2.2.2.length).length ≤ 64; omega) a1 a2 (fun x hx => ?_) (fun x hx => ?_)
  · obtain ⟨i, hi, rfl⟩ := List.mem_map.1 hx
    have hi : i ∈ selI r h (nE r) := hi
    unfold selI at hi
    rw [List.mem_filter, List.mem_range] at hi
    exact a3 _ (getD_mem hi.1)
  · obtain ⟨z, hz, h1, h2, rfl⟩ := lks_mem hx
    have hk := a4 z hz
    have s1 := sel_at (r := r) (h := h) (n := nE r) (j := z.1.toNat) (by omega) h1
    have s2 := sel_at (r := r) (h := h) (n := nE r) (j := z.2.1.toNat) (by omega) h2
    rw [nE_only]
    show 0 ≤ ((posI r h z.1.toNat : Nat) : Int) ∧ ((posI r h z.1.toNat : Nat) : Int) < _ ∧ 0 ≤ ((posI r h z.2.1.toNat : Nat) : Int) ∧ ((posI r h z.2.1.toNat : Nat) : Int) < _ ∧ ((posI r h z.1.toNat : Nat) : Int) ≠ ((posI r h z.2.1.toNat : Nat) : Int) ∧ 0 ≤ z.2.2 ∧ z.2.2 ≤ 8589934592
    refine ⟨by omega, by omega, by omega, by omega, fun e => ?_, hk.2.2.2.2.2⟩
    have e' : posI r h z.1.toNat = posI r h z.2.1.toNat := by omega
    have e1 := s1.1
    rw [e', s2.1] at e1
    omega

theorem whenAt_only (hv : valid r = true) {p : Nat} (hp : p < posI r h (nE r)) : whenAt (onlyR r h) p = whenAt r ((selI r h (nE r)).getD p 0) := by
  rw [whenAt_eq (only_valid hv) (by rw [nE_only]; exact hp), whenAt_eq hv (sel_in hp).1, evAt_only hp]
  rfl
theorem only_whens (hv : valid r = true) (hw : whensOk r = true) : whensOk (onlyR r h) = true := by
  rw [whensOk_iff] at hw ⊢
  intro p hp
  rw [nE_only] at hp
  rw [whenAt_only hv hp]
  exact hw _ (sel_in hp).1

def onX (r : Rec) (h : Int) (y : Nat → Int) (j : Nat) : Int := if j = 0 then y 0 else y ((selI r h (nE r)).getD (j - 1) 0 + 1)
theorem onX_zero (y : Nat → Int) : onX r h y 0 = y 0 := rfl
theorem onX_succ (y : Nat → Int) (j : Nat) : onX r h y (j + 1) = y ((selI r h (nE r)).getD j 0 + 1) := by unfold onX; rw [if_neg (by omega)]; rfl
theorem sol_only (hv : valid r = true) {y : Nat → Int} (s : SolR r y) : SolR (onlyR r h) (onX r h y) := by
  refine ⟨fun p hp => ?_, fun p q hp hq hpq hh hc => ?_, fun l hl => ?_⟩
  · rw [nE_only] at hp
    rw [onX_succ, onX_zero, whenAt_only hv hp]
    exact s.ev _ (sel_in hp).1
  · rw [nE_only] at hp hq
    rw [evAt_only hp, evAt_only hq] at hh hc
    rw [onX_succ, onX_succ, evAt_only hp, evAt_only hq]
    exact s.pair _ _ (sel_in hp).1 (sel_in hq).1 (fun e => hpq (sel_inj hp hq e)) hh hc
  · obtain ⟨z, hz, h1, h2, rfl⟩ := lks_mem hl
    have hk := (valid_parts hv).2.2.2 z hz
    have s1 := sel_at (r := r) (h := h) (n := nE r) (j := z.1.toNat) (by omega) h1
    have s2 := sel_at (r := r) (h := h) (n := nE r) (j := z.2.1.toNat) (by omega) h2
    have e1 : (lkMv r h z).1.toNat = posI r h z.1.toNat := by show ((posI r h z.1.toNat : Nat) : Int).toNat = _; omega
    have e2 : (lkMv r h z).2.1.toNat = posI r h z.2.1.toNat := by show ((posI r h z.2.1.toNat : Nat) : Int).toNat = _; omega
    rw [e1, e2, onX_succ, onX_succ, s1.1, s2.1]
    exact s.link z hz
theorem only_closed {m : Mat} (hm : ClosedR r m) : ∃ m', ClosedR (onlyR r h) m' :=
  closed_some' (only_valid hm.valid) (only_whens hm.valid hm.whens) (sol_only hm.valid (hm.row (i := 0) (by omega)))

/-! ### Counting -/
theorem two_counts {α : Type} (p q s : α → Bool) (l : List α) (hs : ∀ x ∈ l, s x = (p x || q x)) (hd : ∀ x ∈ l, (p x && q x) = false) : (l.filter s).length = (l.filter p).length + (l.filter q).length := by
  induction l with
  | nil => rfl
  | cons x l ih =>
    have ih := ih (fun y hy => hs y (List.mem_cons_of_mem _ hy)) (fun y hy => hd y (List.mem_cons_of_mem _ hy))
    have h1 := hs x (List.mem_cons_self ..)
    have h2 := hd x (List.mem_cons_self ..)
    simp only [List.filter_cons, h1]
    cases hp : p x <;> cases hq : q x <;> simp_all <;> omega

def nSum (r : Rec) : Nat → Nat
  | 0 => 0
  | k + 1 => nSum r k + posI r (k : Int) (nE r)
def lSum (r : Rec) : Nat → Nat
  | 0 => 0
  | k + 1 => lSum r k + (lksI r (k : Int) r.2.2.2.length).length
theorem nSum_eq (hv : valid r = true) : ∀ k, nSum r k = ((List.range (nE r)).filter fun i => decide ((evAt r i).1 < (k : Int))).length
  | 0 => by
    symm
    show _ = 0
    rw [List.length_eq_zero_iff, List.filter_eq_nil_iff]
    intro i hi
    have := valid_ev hv (List.mem_range.1 hi)
    simp
    omega
  | k + 1 => by
    show nSum r k + posI r (k : Int) (nE r) = _
    rw [nSum_eq hv k]
    refine (two_counts (fun i => decide ((evAt r i).1 < (k : Int))) (onH r (k : Int)) _ _ (fun i hi => ?_) (fun i hi => ?_)).symm
    · unfold onH
      rw [← Bool.decide_or]
      exact decide_eq_decide.2 ⟨fun h => by omega, fun h => by omega⟩
    · unfold onH
      rw [← Bool.decide_and]
      exact decide_eq_false (by omega)
theorem nSum_all (hv : valid r = true) : nSum r r.1.length = nE r := by
  rw [nSum_eq hv]
  have : ((List.range (nE r)).filter fun i => decide ((evAt r i).1 < (r.1.length : Int))) = List.range (nE r) := by
    rw [List.filter_eq_self]
    intro i hi
    have := valid_ev hv (List.mem_range.1 hi)
    exact decide_eq_true this.2.1
  rw [this, List.length_range]
theorem nSum_le (hv : valid r = true) (k : Nat) : nSum r k ≤ nE r := by
  rw [nSum_eq hv]
  refine Nat.le_trans (List.length_filter_le _ _) ?_
  rw [List.length_range]
  exact Nat.le_refl _
def inOne (r : Rec) (k : Nat) (l : Link) : Bool := decide ((evAt r l.1.toNat).1 = (evAt r l.2.1.toNat).1) && decide ((evAt r l.1.toNat).1 < (k : Int))
theorem lSum_eq (hv : valid r = true) : ∀ k, lSum r k = (r.2.2.2.filter (inOne r k)).length
  | 0 => by
    symm
    show _ = 0
    rw [List.length_eq_zero_iff, List.filter_eq_nil_iff]
    intro l hl
    have hk := (valid_parts hv).2.2.2 l hl
    have := valid_ev hv (i := l.1.toNat) (by omega)
    unfold inOne
    simp
    omega
  | k + 1 => by
    show lSum r k + (lksI r (k : Int) r.2.2.2.length).length = _
    rw [lSum_eq hv k]
    unfold lksI
    rw [List.length_map, List.take_length]
    refine (two_counts (inOne r k) (lkOn r (k : Int)) _ _ (fun l hl => ?_) (fun l hl => ?_)).symm
    · unfold inOne lkOn onH
      rw [← Bool.decide_and, ← Bool.decide_and, ← Bool.decide_and, ← Bool.decide_or]
      exact decide_eq_decide.2 ⟨fun h => by omega, fun h => by omega⟩
    · unfold inOne lkOn onH
      rw [← Bool.decide_and, ← Bool.decide_and, ← Bool.decide_and]
      exact decide_eq_false (by omega)
theorem lSum_le (hv : valid r = true) (k : Nat) : lSum r k ≤ r.2.2.2.length := by
  rw [lSum_eq hv]
  exact List.length_filter_le _ _
end

section
variable {β : Type} {r : Rec} {h : Int}
theorem open_near {m : Mat} (hm : ClosedR (onlyR r h) m) {a b : Nat} (ha : a < nE (onlyR r h)) (hb : b < nE (onlyR r h)) (ho : opn m a b = true) :
    ¬ (1 < (evAt (onlyR r h) a).2.1 - (evAt (onlyR r h) b).2.1) ∧ ¬ ((evAt (onlyR r h) a).2.1 - (evAt (onlyR r h) b).2.1 < -1) := by
  have hh : (evAt (onlyR r h) a).1 = (evAt (onlyR r h) b).1 := by
    have ha' := ha
    have hb' := hb
    rw [nE_only] at ha' hb'
    rw [evAt_only ha', evAt_only hb']
    have e1 := (sel_in ha').2
    have e2 := (sel_in hb').2
    unfold onH at e1 e2
    rw [decide_eq_true_eq] at e1 e2
    rw [e1, e2]
  unfold opn at ho
  rw [Bool.and_eq_true, Bool.not_eq_true', Bool.not_eq_true'] at ho
  refine ⟨fun hc => ?_, fun hc => ?_⟩
  · have := hm.far hb ha hh.symm (by omega)
    rw [this] at ho
    exact absurd ho.2 (by decide)
  · have := hm.far ha hb hh (by omega)
    rw [this] at ho
    exact absurd ho.1 (by decide)

theorem hosts_p1 (hv : valid r = true) {m : Mat} (hm : ClosedR (onlyR r h) m) (k1 : zqyn β) (k2 : zqyo β) (n links t29 t30 : Int) :
    zqzg k1 k2 n links h t29 t30 ((openW (nE (onlyR r h)) m).length : Int) 0 r.1 r.2.1 r.2.2.1 r.2.2.2 (onlyR r h).1 (onlyR r h).2.1 (onlyR r h).2.2.1 (onlyR r h).2.2.2 (openW (nE (onlyR r h)) m) =
      k2 n links h t29 t30 r.1 r.2.1 r.2.2.1 r.2.2.2 (onlyR r h).1 (onlyR r h).2.1 (onlyR r h).2.2.1 (onlyR r h).2.2.2 := by
  have hb := valid_bd hv
  have hp := posI_le r h (nE r)
  have hE : nE (onlyR r h) = (onlyR r h).2.2.1.length := rfl
  have hE0 : nE r = r.2.2.1.length := rfl
  have hEp := nE_only r h
  have hlen := openW_len (nE (onlyR r h)) m
  have hlen2 : (openW (nE (onlyR r h)) m).length ≤ 1600 := by
    refine Nat.le_trans hlen ?_
    exact Nat.mul_le_mul (show nE (onlyR r h) ≤ 40 by omega) (show nE (onlyR r h) ≤ 40 by omega)
  unfold zqzg
  exact pass_loop (openW (nE (onlyR r h)) m).length (fun f i => zqze f k1 k2 n links h t29 t30 ((openW (nE (onlyR r h)) m).length : Int) i r.1 r.2.1 r.2.2.1 r.2.2.2 (onlyR r h).1 (onlyR r h).2.1 (onlyR r h).2.2.1 (onlyR r h).2.2.2 (openW (nE (onlyR r h)) m)) _ fuel (lt_fuel (by omega))
    (fun f i hi => by
      obtain ⟨a, b, hab, hbn, ho, e⟩ := mem_openW.1 (getD_mem (d := ((0 : Int), (0 : Int))) hi)
      have hn := open_near hm (a := a) (b := b) (by omega) hbn ho
      have ea := valid_ev hm.valid (i := a) (by omega)
      have eb := valid_ev hm.valid (i := b) (by omega)
      rw [zqzf]
      unfold zqz2
      refine (c_pos (by omega)).trans ?_
      refine (c_inb (by omega)).trans ?_
      rw [Int.toNat_natCast, e]
      refine (c_inb (by omega)).trans ?_
      refine (c_inb (by omega)).trans ?_
      dsimp only
      rw [Int.toNat_natCast, Int.toNat_natCast]
      have w : IntKind.i64.wrap ((evAt (onlyR r h) a).2.1 - (evAt (onlyR r h) b).2.1) = (evAt (onlyR r h) a).2.1 - (evAt (onlyR r h) b).2.1 := i64_in _ (by omega)
      show cond (decide ((1 : Int) < IntKind.i64.wrap ((evAt (onlyR r h) a).2.1 - (evAt (onlyR r h) b).2.1))) _ (cond (decide (IntKind.i64.wrap ((evAt (onlyR r h) a).2.1 - (evAt (onlyR r h) b).2.1) < (-1 : Int))) _ _) = _
      rw [w]
      refine (c_neg hn.1).trans ?_
      refine (c_neg hn.2).trans ?_
      rw [i64_in ((i : Int) + 1) (by omega)])
    (fun f => by
      rw [zqzf]
      unfold zqz2
      exact c_neg (by omega))

theorem hosts_p2 (hv : valid r = true) (k1 : zqys β) (k2 : zqyt β) (n links t29 t30 : Int) :
    zqzk k1 k2 n links h t29 t30 (onlyR r h).2.2.1 ((onlyR r h).2.2.1.length : Int) 0 r.1 r.2.1 r.2.2.1 r.2.2.2 (onlyR r h).1 (onlyR r h).2.1 (onlyR r h).2.2.1 (onlyR r h).2.2.2 =
      k2 n links t29 t30 r.1 r.2.1 r.2.2.1 r.2.2.2 (onlyR r h).1 (onlyR r h).2.1 (onlyR r h).2.2.1 (onlyR r h).2.2.2 := by
  have hb := valid_bd hv
  have hp := posI_le r h (nE r)
  have hE : nE (onlyR r h) = (onlyR r h).2.2.1.length := rfl
  have hE0 : nE r = r.2.2.1.length := rfl
  have hEp := nE_only r h
  unfold zqzk
  exact pass_loop (onlyR r h).2.2.1.length (fun f i => zqzi f k1 k2 n links h t29 t30 (onlyR r h).2.2.1 ((onlyR r h).2.2.1.length : Int) i r.1 r.2.1 r.2.2.1 r.2.2.2 (onlyR r h).1 (onlyR r h).2.1 (onlyR r h).2.2.1 (onlyR r h).2.2.2) _ fuel (lt_fuel (by omega))
    (fun f i hi => by
      have hi' : i < posI r h (nE r) := by omega
      have e1 := (sel_in hi').2
      unfold onH at e1
      rw [decide_eq_true_eq, ← evAt_only hi'] at e1
      rw [zqzj]
      unfold zqz5
      refine (c_pos (by omega)).trans ?_
      refine (c_inb (by omega)).trans ?_
      dsimp only
      rw [Int.toNat_natCast, i64_in ((i : Int) + 1) (by omega)]
      exact c_npos e1)
    (fun f => by
      rw [zqzj]
      unfold zqz5
      exact c_neg (by omega))

theorem hosts_p3 {m : Mat} (hm : ClosedR r m) (k1 : zqyx β) (k2 : zqyy β) :
    zqzo k1 k2 0 0 (r.1.length : Int) 0 r.1 r.2.1 r.2.2.1 r.2.2.2 = k2 (nE r : Int) (lSum r r.1.length : Int) r.1 r.2.1 r.2.2.1 r.2.2.2 := by
  have hv := hm.valid
  have hb := valid_bd hv
  have hE0 : nE r = r.2.2.1.length := rfl
  unfold zqzo
  have key := range_state r.1.length (fun i => (nSum r i, lSum r i)) (fun f i s => zqzm f k1 k2 (s.1 : Int) (s.2 : Int) (r.1.length : Int) i r.1 r.2.1 r.2.2.1 r.2.2.2)
    (k2 (nE r : Int) (lSum r r.1.length : Int) r.1 r.2.1 r.2.2.1 r.2.2.2) fuel (lt_fuel (by omega))
    (fun f i hi => by
      obtain ⟨m', hm'⟩ := only_closed (h := (i : Int)) hm
      rw [zqzn]
      unfold zqz8
      refine (c_pos (by omega)).trans ?_
      refine (timeline_Only_eq (r := (r.1, (r.2.1, (r.2.2.1, r.2.2.2)))) hv (h := (i : Int)) (by show 0 ≤ (i : Int) ∧ (i : Int) < r.1.length; omega) _).trans ?_
      refine (c_npos rfl).trans ?_
      refine (rConsistent_eq (onlyR r (i : Int)) _).trans ?_
      rw [hm'.eq]
      refine c_f.trans ?_
      refine (rOpen_gen (onlyR r (i : Int)) _).trans ?_
      unfold openG
      rw [hm'.eq]
      refine (hosts_p1 hv hm' _ _ _ _ _ _).trans ?_
      refine (hosts_p2 hv _ _ _ _ _ _).trans ?_
      have q1 : ((onlyR r (i : Int)).2.2.1.length) = posI r (i : Int) (nE r) := evsI_len _ _ _
      have q2 : (onlyR r (i : Int)).2.2.2 = lksI r (i : Int) r.2.2.2.length := rfl
      dsimp only
      have n1 := nSum_le hv i
      have n2 := nSum_le hv (i + 1)
      have n3 := lSum_le hv i
      have n4 := lSum_le hv (i + 1)
      have d1 : nSum r (i + 1) = nSum r i + posI r (i : Int) (nE r) := rfl
      have d2 : lSum r (i + 1) = lSum r i + (lksI r (i : Int) r.2.2.2.length).length := rfl
      rw [q1, q2, i64_in ((i : Int) + 1) (by omega), i64_in ((nSum r i : Int) + (posI r (i : Int) (nE r) : Int)) (by omega), i64_in ((lSum r i : Int) + ((lksI r (i : Int) r.2.2.2.length).length : Int)) (by omega)]
      rw [show ((nSum r i : Int) + (posI r (i : Int) (nE r) : Int)) = ((nSum r (i + 1) : Nat) : Int) by omega, show ((lSum r i : Int) + ((lksI r (i : Int) r.2.2.2.length).length : Int)) = ((lSum r (i + 1) : Nat) : Int) by omega])
    (fun f => by
      rw [zqzn]
      unfold zqz8
      refine (c_neg (by omega)).trans ?_
      rw [nSum_all hv])
  exact key

theorem timelineHosts (t : List Int) (k : Bool → Option β) : zqzq t k = k true := by
  unfold zqzq zqzb
  refine (light_eq t _).trans ?_
  by_cases hl : (t.length : Int) ≤ 500
  · rw [decide_eq_true hl]
    refine c_f.trans ?_
    refine (roll_eq t _).trans ?_
    obtain ⟨r, d1, one, ah1, ra, hd1, fa⟩ := record_ok 7 (by omega) (roll_ok hl)
    obtain ⟨m, hm⟩ := ra.closed (by omega)
    refine (fa _).trans ?_
    refine (hosts_p3 hm _ _).trans ?_
    refine (c_pos rfl).trans ?_
    refine (c_pos (by have := lSum_le hm.valid r.1.length; omega)).trans ?_
    exact sane41 _
  · rw [decide_eq_false hl]
    refine c_t.trans ?_
    exact sane41 _
end
end
end Go.Lift

