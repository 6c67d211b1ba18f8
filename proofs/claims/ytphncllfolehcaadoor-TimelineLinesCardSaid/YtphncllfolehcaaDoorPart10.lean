/- order.Sort in plain Lean. -/
import Derived.Test.YtphncllfolehcaaDoorPart9
namespace Go.Lift
open Go.RowKit Go.IntWalk
noncomputable section
set_option linter.unusedVariables false
set_option linter.unusedSimpArgs false
set_option maxRecDepth 10000

/-- A loop that keeps an invariant; the next state may hang on what follows. -/
theorem range_exm {β σ : Type} (n : Nat) (I : Nat → σ → Prop) (F : Nat → Int → σ → Option β) (K : σ → Option β) (s : σ) (N : Nat) (hn : n < N) (h0 : I 0 s)
    (h1 : ∀ (m i : Nat) s, i < n → I i s → ∃ s', I (i + 1) s' ∧ F (m + 1) (i : Int) s = F m ((i : Int) + 1) s')
    (h2 : ∀ (m : Nat) s, I n s → F (m + 1) (n : Int) s = K s) : ∃ s', I n s' ∧ F N 0 s = K s' := by
  have key : ∀ (c i N : Nat) (s : σ), i + c = n → c < N → I i s → ∃ s', I n s' ∧ F N (i : Int) s = K s' := by
    intro c
    induction c with
    | zero =>
      intro i N s hi hN hs
      obtain ⟨N, rfl⟩ : ∃ m, N = m + 1 := ⟨N - 1, by omega⟩
      obtain rfl : i = n := by omega
      exact ⟨s, hs, h2 N s hs⟩
    | succ c ih =>
      intro i N s hi hN hs
      obtain ⟨N, rfl⟩ : ∃ m, N = m + 1 := ⟨N - 1, by omega⟩
      obtain ⟨s', hs', e⟩ := h1 N i s (by omega) hs
      obtain ⟨s'', h3, h4⟩ := ih (i + 1) N s' (by omega) (by omega) hs'
      exact ⟨s'', h3, e.trans h4⟩
  exact key n 0 N s (by omega) hn h0

theorem mGet_mPut {δ : Type} (l : List (Int × δ)) (a b : Int) (v z : δ) : mGet (.int .i64) (mPut (.int .i64) l a v) b z = if a = b then v else mGet (.int .i64) l b z := by
  induction l with
  | nil =>
    simp only [mPut, mGet, keyEq]
    by_cases h : a = b <;> simp [h]
  | cons y l ih =>
    simp only [mPut]
    by_cases h : y.1 = a
    · simp only [keyEq, decide_eq_true h, cond_true, mGet]
      by_cases hb : a = b
      · simp [hb]
      · have : ¬ y.1 = b := by rw [h]; exact hb
        simp [hb, this]
    · simp only [keyEq, decide_eq_false h, cond_false, mGet]
      rw [ih]
      by_cases hb : y.1 = b
      · have : ¬ a = b := by intro h2; exact h (hb.trans h2.symm)
        simp [hb, this]
      · simp [hb]

/-- An event that nothing unplaced was before. -/
def freeN (n : Nat) (m : Mat) (out : List Int) (i : Nat) : Bool := !decide ((i : Int) ∈ out) && (List.range n).all fun k => decide ((k : Int) ∈ out) || !bef m k i
def earlyN (m : Mat) (a b : Nat) : Bool := decide ((rangeN m a).1 < (rangeN m b).1) || (decide ((rangeN m a).1 = (rangeN m b).1) && decide ((rangeN m a).2 < (rangeN m b).2))
def pickN (n : Nat) (m : Mat) (out : List Int) (next : Int) (i : Nat) : Int := if freeN n m out i && (decide (next < 0) || earlyN m i next.toNat) then (i : Int) else next
def nextN (n : Nat) (m : Mat) (out : List Int) : Int := (List.range n).foldl (pickN n m out) (-1)
def sortN (n : Nat) (m : Mat) : Nat → List Int → List Int
  | 0, out => out
  | c + 1, out => sortN n m c (out ++ [nextN n m out])

section
variable {β : Type} {n : Nat} {m : Mat}

theorem earlier_eq (h : MatB n m) {a b : Nat} (ha : a < n) (hb : b < n) (k : Bool → Option β) : zq8d m (a : Int) (b : Int) k = k (earlyN m a b) := by
  unfold zq8d zq8a
  refine (mwhen_eq h ha _).trans ?_
  refine (mwhen_eq h hb _).trans ?_
  unfold earlyN
  by_cases h1 : (rangeN m a).1 < (rangeN m b).1
  · refine (c_pos h1).trans ?_
    rw [decide_eq_true h1]
    rfl
  · refine (c_neg h1).trans ?_
    rw [decide_eq_false h1]
    by_cases h2 : (rangeN m a).1 = (rangeN m b).1
    · refine (c_pos h2).trans ?_
      rw [decide_eq_true h2]
      rfl
    · refine (c_neg h2).trans ?_
      rw [decide_eq_false h2]
      rfl

theorem sort_p1 (h : MatB n m) {placed : List (Int × Bool)} {out : List Int} (hp : ∀ i : Int, mGet (.int .i64) placed i false = decide (i ∈ out)) (k1 : zqht β) (next : Int) {i : Nat} (hi : i < n) (b : Bool) (t22 t23 t27 t28 : Int) (r : List Host) (r2 : List Sync) (r3 : List Event) (r4 : List Link) :
    zqij k1 m next (i : Int) b t22 t23 t27 t28 (n : Int) 0 r r2 r3 r4 placed out = k1 m next (i : Int) (b && (List.range n).all fun k => decide ((k : Int) ∈ out) || !bef m k i) t22 t23 t27 t28 r r2 r3 r4 placed out := by
  have hs := h.small
  have key := range_fold' n (fun _ _ => True) (fun f j (s : Bool) => zqih f k1 m next (i : Int) s t22 t23 t27 t28 (n : Int) j r r2 r3 r4 placed out)
    (fun s k => s && (decide ((k : Int) ∈ out) || !bef m k i)) (fun s => k1 m next (i : Int) s t22 t23 t27 t28 r r2 r3 r4 placed out) b fuel (lt_fuel (by omega)) trivial (fun _ _ _ _ => trivial)
    (fun f j s hj _ => by
      have e1 : IntKind.i64.wrap ((j : Int) + 1) = j + 1 := i64_in _ (by omega)
      rw [zqii]
      unfold zqi5
      simp only [e1]
      refine (c_pos (by omega)).trans ?_
      cases s with
      | false => rfl
      | true =>
        refine c_t.trans ?_
        have hg := hp (j : Int)
        rw [hg]
        by_cases hm : (j : Int) ∈ out
        · refine (c_pos hm).trans ?_
          rw [decide_eq_true hm]
          rfl
        · refine (c_neg hm).trans ?_
          refine (before_eq h hj hi _).trans ?_
          rw [decide_eq_false hm]
          rfl)
    (fun f s _ => by
      rw [zqii]
      unfold zqi5
      exact c_neg (by omega))
  unfold zqij
  rw [key]
  congr 1
  have : ∀ (l : List Nat) (p : Nat → Bool) (b : Bool), l.foldl (fun s k => s && p k) b = (b && l.all p) := by
    intro l p
    induction l with
    | nil => intro b; simp
    | cons x l ih => intro b; simp only [List.foldl_cons, List.all_cons]; rw [ih, Bool.and_assoc]
  exact this _ _ _

/-- Either nothing is picked yet, or something free. -/
def Picked (n : Nat) (m : Mat) (out : List Int) (next : Int) : Prop := next = -1 ∨ (0 ≤ next ∧ next < n ∧ freeN n m out next.toNat = true)

theorem pick_ok {out : List Int} {next : Int} (hp : Picked n m out next) {i : Nat} (hi : i < n) : Picked n m out (pickN n m out next i) := by
  unfold pickN
  split
  · rename_i h
    rw [Bool.and_eq_true] at h
    exact .inr ⟨by omega, by omega, by rw [Int.toNat_natCast]; exact h.1⟩
  · exact hp

theorem sort_p2 (h : MatB n m) {placed : List (Int × Bool)} {out : List Int} (hp : ∀ i : Int, mGet (.int .i64) placed i false = decide (i ∈ out)) (k1 : zqhx β) (t22 t23 : Int) (r : List Host) (r2 : List Sync) (r3 : List Event) (hr : r3.length = n) (r4 : List Link) :
    zqin k1 m (-1) t22 t23 (n : Int) 0 r r2 r3 r4 placed out = k1 m (nextN n m out) t22 t23 r r2 r3 r4 placed out := by
  have hs := h.small
  have key := range_fold' n (fun _ s => Picked n m out s) (fun f j (s : Int) => zqil f k1 m s t22 t23 (n : Int) j r r2 r3 r4 placed out)
    (pickN n m out) (fun s => k1 m s t22 t23 r r2 r3 r4 placed out) (-1) fuel (lt_fuel (by omega)) (.inl rfl) (fun i s hi hs => pick_ok hs hi)
    (fun f j s hj hs' => by
      have e1 : IntKind.i64.wrap ((j : Int) + 1) = j + 1 := i64_in _ (by omega)
      rw [zqim]
      unfold zqi8
      refine (c_pos (by omega)).trans ?_
      have hg := hp (j : Int)
      rw [hg, hr]
      refine (sort_p1 h hp _ _ hj _ _ _ _ _ _ _ _ _).trans ?_
      have hf : (!decide ((j : Int) ∈ out) && (List.range n).all fun k => decide ((k : Int) ∈ out) || !bef m k j) = freeN n m out j := rfl
      rw [hf]
      unfold pickN
      simp only [e1]
      cases freeN n m out j with
      | false => rfl
      | true =>
        refine c_t.trans ?_
        by_cases hn : s < 0
        · refine (c_pos hn).trans ?_
          rw [decide_eq_true hn]
          rfl
        · refine (c_neg hn).trans ?_
          rw [decide_eq_false hn]
          have hb : s = ((s.toNat : Nat) : Int) := by omega
          have hlt : s.toNat < n := by
            rcases hs' with h0 | h0
            · omega
            · omega
          have he := earlier_eq (β := β) h hj hlt
          rw [← hb] at he
          refine (he _).trans ?_
          cases earlyN m j s.toNat <;> rfl)
    (fun f s _ => by
      rw [zqim]
      unfold zqi8
      exact c_neg (by omega))
  unfold zqin
  rw [key]
  rfl

theorem sort_p3 (h : MatB n m) (k1 : zqi1 β) (r : List Host) (r2 : List Sync) (r3 : List Event) (hr : r3.length = n) (r4 : List Link) : ∀ (c i f : Nat) (placed : List (Int × Bool)) (out : List Int), i + c = n → c < f → out.length + c ≤ 1000 →
    (∀ i : Int, mGet (.int .i64) placed i false = decide (i ∈ out)) → zqip f k1 m (n : Int) (i : Int) r r2 r3 r4 placed out = k1 (sortN n m c out)
  | 0, i, f + 1, placed, out, hi, hf, ho, hp => by
    rw [zqiq]
    unfold zqib
    exact c_neg (by omega)
  | c + 1, i, f + 1, placed, out, hi, hf, ho, hp => by
    have hs := h.small
    have e1 : IntKind.i64.wrap ((i : Int) + 1) = ((i + 1 : Nat) : Int) := i64_in _ (by omega)
    rw [zqiq]
    unfold zqib
    refine (c_pos (by omega)).trans ?_
    rw [hr]
    refine (sort_p2 h hp _ _ _ _ _ _ hr _).trans ?_
    refine (c_room (by simp only [List.length_cons, List.length_nil]; omega)).trans ?_
    simp only [e1]
    refine sort_p3 h k1 r r2 r3 hr r4 c (i + 1) f _ _ (by omega) (by omega) (by simp only [List.length_append, List.length_cons, List.length_nil]; omega) (fun j => ?_)
    rw [mGet_mPut, hp]
    by_cases hj : nextN n m out = j
    · rw [if_pos hj]
      simp [hj]
    · have hj' : ¬ j = nextN n m out := fun h => hj h.symm
      rw [if_neg hj]
      simp [hj']
  | _, _, 0, _, _, _, hf, _, _ => absurd hf (by omega)

theorem Sort_eq {r : Rec} (he : closedW r = some m) (h : MatB (nE r) m) (k : Bool → List Int → Option β) : zqit r k = k true (sortN (nE r) m (nE r) []) := by
  have hs := h.small
  unfold zqit zqie
  refine (closed_eq hs _).trans ?_
  rw [he]
  simp only [Bool.not_true, cond_false]
  unfold zqir
  exact sort_p3 h _ _ _ _ rfl _ (nE r) 0 fuel [] [] (by omega) (lt_fuel (by omega)) (by simp; omega) (fun i => by simp [mGet])
end

/-! ### What is allowed -/
theorem allows_iff {n : Nat} {m : Mat} {l : List Int} : allowsW n m l = true ↔ l.length = n ∧ (∀ i, i < n → 0 ≤ l.getD i 0 ∧ l.getD i 0 < n) ∧
    ∀ k i, k < i → i < n → l.getD i 0 ≠ l.getD k 0 ∧ bef m (l.getD i 0).toNat (l.getD k 0).toNat = false := by
  unfold allowsW
  rw [Bool.and_eq_true, decide_eq_true_iff, List.all_eq_true]
  simp only [List.mem_range]
  have hg : ∀ (i k : Nat), k < i → i < n → l.length = n → (l.take i).getD k 0 = l.getD k 0 := by
    intro i k h1 h2 h3
    simp [List.getD, h1]
  constructor
  · rintro ⟨h0, h⟩
    refine ⟨h0, fun i hi => ?_, fun k i hk hi => ?_⟩
    · have := h i hi
      unfold placeOk at this
      rw [Bool.and_eq_true, Bool.and_eq_true] at this
      have := inN_iff.1 this.1.1
      omega
    · have := h i hi
      unfold placeOk at this
      rw [Bool.and_eq_true, Bool.and_eq_true] at this
      obtain ⟨⟨_, h1⟩, h2⟩ := this
      have hm : l.getD k 0 ∈ l.take i := by
        rw [← hg i k hk hi h0]
        exact getD_mem (by rw [List.length_take]; omega)
      rw [Bool.not_eq_true', List.any_eq_false] at h1 h2
      have a1 := h1 _ hm
      have a2 := h2 _ hm
      simp only [decide_eq_true_eq] at a1
      exact ⟨a1, by simpa using a2⟩
  · rintro ⟨h0, h1, h2⟩
    refine ⟨h0, fun i hi => ?_⟩
    have ex : ∀ y ∈ l.take i, ∃ k, k < i ∧ y = l.getD k 0 := by
      intro y hy
      obtain ⟨k, hk, rfl⟩ := List.getElem_of_mem hy
      have hk' : k < i := by rw [List.length_take] at hk; omega
      refine ⟨k, hk', ?_⟩
      rw [← hg i k hk' hi h0]
      simp only [List.getD, List.getElem?_eq_getElem hk, Option.getD_some]
    unfold placeOk
    rw [Bool.and_eq_true, Bool.and_eq_true, Bool.not_eq_true', Bool.not_eq_true', List.any_eq_false, List.any_eq_false]
    have := h1 i hi
    refine ⟨⟨inN_mk (by omega), fun y hy => ?_⟩, fun y hy => ?_⟩
    · obtain ⟨k, hk, rfl⟩ := ex y hy
      simp only [decide_eq_true_eq]
      exact (h2 k i hk hi).1
    · obtain ⟨k, hk, rfl⟩ := ex y hy
      rw [(h2 k i hk hi).2]
      simp

theorem length_le_of_subset : ∀ (l l' : List Int), l.Nodup → (∀ x ∈ l, x ∈ l') → l.length ≤ l'.length
  | [], _, _, _ => by simp
  | x :: l, l', hn, h => by
    rw [List.nodup_cons] at hn
    have hx := h x (by simp)
    have h1 := length_le_of_subset l (l'.erase x) hn.2 (fun y hy => by
      have hne : y ≠ x := fun e => hn.1 (e ▸ hy)
      exact (List.mem_erase_of_ne hne).2 (h y (by simp [hy])))
    rw [List.length_erase_of_mem hx] at h1
    have : 0 < l'.length := List.length_pos_of_mem hx
    simp only [List.length_cons]
    omega

/-- A number that is not in a short list. -/
theorem exists_out {n : Nat} {out : List Int} (h : out.length < n) : ∃ i : Nat, i < n ∧ (i : Int) ∉ out := by
  refine Classical.byContradiction fun hc => ?_
  have h1 := length_le_of_subset ((List.range n).map fun (i : Nat) => (i : Int)) out ?_ (fun x hx => ?_)
  · simp at h1
    omega
  · exact List.pairwise_map.2 (List.nodup_range.imp (fun h e => h (by omega)))
  · simp only [List.mem_map, List.mem_range] at hx
    obtain ⟨i, hi, rfl⟩ := hx
    exact Classical.byContradiction fun hx => hc ⟨i, hi, hx⟩

/-- The first of the unplaced by some numbers. -/
theorem exists_min {n : Nat} {out : List Int} (x : Nat → Int) (h : out.length < n) : ∃ i : Nat, i < n ∧ (i : Int) ∉ out ∧ ∀ k : Nat, k < n → (k : Int) ∉ out → x i ≤ x k := by
  have key : ∀ c, (∃ i : Nat, i < c ∧ (i : Int) ∉ out) → ∃ i : Nat, i < c ∧ (i : Int) ∉ out ∧ ∀ k : Nat, k < c → (k : Int) ∉ out → x i ≤ x k := by
    intro c
    induction c with
    | zero => rintro ⟨i, hi, _⟩; omega
    | succ c ih =>
      rintro ⟨i, hi, ho⟩
      by_cases hc : ∃ i : Nat, i < c ∧ (i : Int) ∉ out
      · obtain ⟨j, h1, h2, h3⟩ := ih hc
        by_cases hcc : (c : Int) ∈ out
        · refine ⟨j, by omega, h2, fun k hk hko => ?_⟩
          by_cases e : k = c
          · subst e; exact absurd hcc hko
          · exact h3 k (by omega) hko
        · by_cases hx : x j ≤ x c
          · refine ⟨j, by omega, h2, fun k hk hko => ?_⟩
            by_cases e : k = c
            · subst e; exact hx
            · exact h3 k (by omega) hko
          · refine ⟨c, by omega, hcc, fun k hk hko => ?_⟩
            by_cases e : k = c
            · subst e; omega
            · have := h3 k (by omega) hko; omega
      · have e : i = c := by
          refine Classical.byContradiction fun hne => hc ⟨i, by omega, ho⟩
        subst e
        refine ⟨i, by omega, ho, fun k hk hko => ?_⟩
        by_cases e : k = i
        · subst e; omega
        · exact absurd ⟨k, by omega, hko⟩ hc
  exact key n (exists_out h)

theorem fold_picked {n : Nat} {m : Mat} {out : List Int} : ∀ (l : List Nat) (s : Int), (∀ i ∈ l, i < n) → Picked n m out s → Picked n m out (l.foldl (pickN n m out) s) ∧ ((0 ≤ s ∨ ∃ i ∈ l, freeN n m out i = true) → 0 ≤ l.foldl (pickN n m out) s)
  | [], s, _, hs => ⟨hs, fun h => by
    rcases h with h | ⟨i, hi, _⟩
    · exact h
    · cases hi⟩
  | x :: l, s, hl, hs => by
    have hx : x < n := hl x (by simp)
    have ih := fold_picked l (pickN n m out s x) (fun i hi => hl i (by simp [hi])) (pick_ok hs hx)
    refine ⟨ih.1, fun h => ih.2 ?_⟩
    by_cases hp : 0 ≤ pickN n m out s x
    · exact .inl hp
    · have hneg : s < 0 := by
        unfold pickN at hp
        split at hp <;> omega
      have hfx : freeN n m out x = false := by
        cases hf : freeN n m out x with
        | false => rfl
        | true =>
          unfold pickN at hp
          rw [hf, decide_eq_true hneg] at hp
          simp at hp
      rcases h with h | ⟨i, hi, hf⟩
      · omega
      · rcases List.mem_cons.1 hi with rfl | hi
        · rw [hfx] at hf; cases hf
        · exact .inr ⟨i, hi, hf⟩

/-- What Sort has placed. -/
structure Placed (n : Nat) (m : Mat) (out : List Int) : Prop where
  range : ∀ i, i < out.length → 0 ≤ out.getD i 0 ∧ out.getD i 0 < n
  pairs : ∀ k i, k < i → i < out.length → out.getD i 0 ≠ out.getD k 0 ∧ bef m (out.getD i 0).toNat (out.getD k 0).toNat = false
  rest : ∀ y ∈ out, ∀ k : Nat, k < n → (k : Int) ∉ out → bef m k y.toNat = false

theorem ClosedR.next {r : Rec} {m : Mat} (hm : ClosedR r m) {out : List Int} (hl : out.length < nE r) : 0 ≤ nextN (nE r) m out ∧ nextN (nE r) m out < nE r ∧ freeN (nE r) m out (nextN (nE r) m out).toNat = true := by
  obtain ⟨i, hi, ho, hmin⟩ := exists_min (fun i => at2 m 0 (i + 1)) hl
  have hf : freeN (nE r) m out i = true := by
    unfold freeN
    rw [decide_eq_false ho, Bool.not_false, Bool.true_and, List.all_eq_true]
    intro k hk
    have hk := List.mem_range.1 hk
    by_cases hko : (k : Int) ∈ out
    · rw [decide_eq_true hko]; rfl
    · cases hb : Go.Lift.bef m k i with
      | false => simp
      | true =>
        have h1 := (hm.bef hk hi).1 hb _ (hm.row (i := 0) (by omega))
        have h2 := hmin k hk hko
        omega
  have h := fold_picked (m := m) (out := out) (List.range (nE r)) (-1) (fun i hi => List.mem_range.1 hi) (.inl rfl)
  have h0 := h.2 (.inr ⟨i, List.mem_range.2 hi, hf⟩)
  unfold nextN
  rcases h.1 with h1 | ⟨h1, h2, h3⟩
  · rw [h1] at h0; omega
  · exact ⟨h1, h2, h3⟩

theorem getD_snoc {l : List Int} {x : Int} {i : Nat} : (l ++ [x]).getD i 0 = if i < l.length then l.getD i 0 else if i = l.length then x else 0 := by
  by_cases h : i < l.length
  · rw [if_pos h, getD_append h]
  · rw [if_neg h]
    by_cases e : i = l.length
    · rw [if_pos e, e, getD_last]
    · rw [if_neg e]
      simp [List.getD, List.getElem?_append, h, show ¬ i - l.length = 0 by omega]

theorem Placed.snoc {n : Nat} {m : Mat} {out : List Int} (h : Placed n m out) {x : Int} (h0 : 0 ≤ x ∧ x < n) (hf : freeN n m out x.toNat = true) : Placed n m (out ++ [x]) := by
  unfold freeN at hf
  rw [Bool.and_eq_true, Bool.not_eq_true', decide_eq_false_iff_not, List.all_eq_true] at hf
  obtain ⟨hx, hf⟩ := hf
  have ex : ((x.toNat : Nat) : Int) = x := by omega
  rw [ex] at hx
  have hlen : (out ++ [x]).length = out.length + 1 := by simp
  refine ⟨fun i hi => ?_, fun k i hk hi => ?_, fun y hy k hk hko => ?_⟩
  · rw [getD_snoc]
    split
    · exact h.range i (by assumption)
    · rw [if_pos (by omega)]
      exact h0
  · rw [getD_snoc, getD_snoc, if_pos (show k < out.length by omega)]
    by_cases hi' : i < out.length
    · rw [if_pos hi']
      exact h.pairs k i hk hi'
    · rw [if_neg hi', if_pos (show i = out.length by omega)]
      have hm : out.getD k 0 ∈ out := getD_mem (by omega)
      refine ⟨fun e => hx (e ▸ hm), ?_⟩
      exact h.rest _ hm x.toNat (by omega) (by rw [ex]; exact hx)
  · rw [List.mem_append, not_or] at hko
    rcases List.mem_append.1 hy with hy | hy
    · exact h.rest y hy k hk hko.1
    · simp only [List.mem_cons, List.not_mem_nil, or_false] at hy
      subst hy
      have := hf k (List.mem_range.2 hk)
      rw [decide_eq_false hko.1, Bool.false_or, Bool.not_eq_true'] at this
      exact this

theorem ClosedR.sorted {r : Rec} {m : Mat} (hm : ClosedR r m) : ∀ (c : Nat) (out : List Int), out.length + c = nE r → Placed (nE r) m out → (sortN (nE r) m c out).length = nE r ∧ Placed (nE r) m (sortN (nE r) m c out)
  | 0, out, hl, hp => ⟨by show out.length = _; omega, hp⟩
  | c + 1, out, hl, hp => by
    obtain ⟨h1, h2, h3⟩ := hm.next (out := out) (by omega)
    exact hm.sorted c _ (by simp only [List.length_append, List.length_cons, List.length_nil]; omega) (hp.snoc ⟨h1, h2⟩ h3)

theorem ClosedR.sort_allowed {r : Rec} {m : Mat} (hm : ClosedR r m) : allowsW (nE r) m (sortN (nE r) m (nE r) []) = true := by
  obtain ⟨h1, h2⟩ := hm.sorted (nE r) [] (by simp) ⟨by simp, by simp, by simp⟩
  rw [allows_iff]
  exact ⟨h1, fun i hi => h2.range i (by omega), fun k i hk hi => h2.pairs k i hk (by omega)⟩
end
end Go.Lift

/- The reference of the chapter 40 in plain Lean. -/
namespace Go.Lift
open Go.RowKit Go.IntWalk
noncomputable section
set_option linter.unusedVariables false
set_option linter.unusedSimpArgs false
set_option maxRecDepth 10000

theorem pairsI_range' {r : Rec} {i : Nat} (hi : i < nE r) : pairsI r (nE r) i = (List.range' (i + 1) (nE r - (i + 1))).flatMap (pairIf r i) := by
  unfold pairsI
  have e : ∀ n, i < n → (List.range n).filter (fun j => decide (i < j)) = List.range' (i + 1) (n - (i + 1)) := by
    intro n
    induction n with
    | zero => intro h; omega
    | succ n ihn =>
      intro h
      rw [List.range_succ, List.filter_append]
      by_cases hin : i < n
      · rw [ihn hin]
        have : n + 1 - (i + 1) = (n - (i + 1)) + 1 := by omega
        rw [this, List.range'_concat]
        simp only [List.filter_cons, List.filter_nil, decide_eq_true hin, if_true]
        congr 2
        omega
      · have hin' : n = i := by omega
        subst hin'
        have : (List.range n).filter (fun j => decide (n < j)) = [] := by
          rw [List.filter_eq_nil_iff]
          intro a ha
          simp only [List.mem_range] at ha
          simp only [decide_eq_true_eq]
          omega
        rw [this]
        simp
  rw [e _ hi]

section
variable {β : Type}
theorem cons_noSelf {r : Rec} (hv : valid r = true) : noSelf (consL r) := by
  intro d hd
  have hp := valid_parts hv
  rcases mem_cons.1 hd with ⟨i, hi, hd⟩ | ⟨i, j, hij, hj, hh, hd⟩ | ⟨l, hl, rfl⟩
  · simp only [evD, List.mem_cons, List.not_mem_nil, or_false] at hd
    rcases hd with rfl | rfl <;> simp only <;> omega
  · unfold pairD at hd
    split at hd <;> simp only [List.mem_cons, List.not_mem_nil, or_false] at hd <;> rcases hd with rfl | rfl <;> simp only <;> omega
  · have := hp.2.2.2 l hl
    simp only [linkD]
    omega

/-- All that the functions of the order need of the matrix. -/
theorem closed_matB {r : Rec} {m : Mat} (e : closedW r = some m) : MatB (nE r) m := by
  have h := closed_ok' e
  have hn : nE r ≤ 40 := (valid_bd h.valid).2.2.1
  exact ⟨h.ok.sq, by omega, fun i j hi hj => by have := h.ok.lo i j hi hj; have := h.ok.hi i j hi hj; omega⟩

theorem closedR_small {r : Rec} {m : Mat} (e : closedW r = some m) : nE r ≤ 40 := (valid_bd (closed_ok' e).valid).2.2.1

/-- Compare and Gap at any two numbers. -/
def cmpG (r : Rec) (a b : Int) : Int × Bool := match closedW r with
  | some m => if inN a 0 ((nE r : Int) - 1) && inN b 0 ((nE r : Int) - 1) then (cmpN m a.toNat b.toNat, true) else (0, false)
  | none => (0, false)
def gapG (r : Rec) (a b : Int) : (Int × Int) × Bool := match closedW r with
  | some m => if inN a 0 ((nE r : Int) - 1) && inN b 0 ((nE r : Int) - 1) then (gapN m a.toNat b.toNat, true) else ((0, 0), false)
  | none => ((0, 0), false)

end
end
end Go.Lift

/- The reference of the chapter 40 in plain Lean: lists, orders, times. -/
namespace Go.Lift
open Go.RowKit Go.IntWalk
noncomputable section
set_option linter.unusedVariables false
set_option linter.unusedSimpArgs false
set_option maxRecDepth 10000

section
variable {β : Type}
/-! ### Open -/
def openG (r : Rec) : List (Int × Int) := match closedW r with | some m => openW (nE r) m | none => []
theorem Open_gen (r : Rec) (hE : nE r ≤ 100) (k : List (Int × Int) → Option β) : zqhp r k = k (openG r) := by
  unfold openG
  cases he : closedW r with
  | none => exact Open_none he hE k
  | some m => exact Open_eq he (closed_matB he) k

theorem cmp_zero {n : Nat} {m : Mat} (h : ∀ a b, a < n → b < n → bef m a b = true → bef m b a = false) {a b : Nat} (ha : a < n) (hb : b < n) : decide (cmpN m a b = 0) = opn m a b := by
  unfold cmpN opn
  cases bef m a b <;> cases bef m b a <;> simp

/-! ### Sort -/
def sortG (r : Rec) : Bool × List Int := match closedW r with | some m => (true, sortN (nE r) m (nE r) []) | none => (false, [])
theorem Sort_gen (r : Rec) (hE : nE r ≤ 100) (k : Bool → List Int → Option β) : zqit r k = k (sortG r).1 (sortG r).2 := by
  unfold sortG
  cases he : closedW r with
  | none =>
    unfold zqit zqie
    refine (closed_eq hE _).trans ?_
    rw [he]
    rfl
  | some m => exact Sort_eq he (closed_matB he) k

theorem wrapneg {n : Nat} {m : Mat} (h : MatB n m) {i : Nat} (hi : i < n) : IntKind.i64.wrap (0 - at2 m (i + 1) 0) = (rangeN m i).1 := by
  have := h.bd (i + 1) 0 (by omega) (by omega)
  unfold rangeN
  exact (i64_in _ (by omega)).trans (by simp only; omega)

/-! ### Allows -/
def allowsG (r : Rec) (l : List Int) : Bool := match closedW r with | some m => allowsW (nE r) m l | none => false
theorem Allows_gen (r : Rec) (hE : nE r ≤ 100) (l : List Int) (k : Bool → Option β) : zqld r l k = k (allowsG r l) := by
  unfold allowsG
  cases he : closedW r with
  | none =>
    unfold zqld zql6
    refine (closed_eq hE _).trans ?_
    rw [he]
    rfl
  | some m => exact Allows_eq he (closed_matB he) l k

/-! ### Fits -/
end
end
end Go.Lift

/- The functions of the chapter 40 at any record. -/
namespace Go.Lift
open Go.RowKit Go.IntWalk
noncomputable section
set_option linter.unusedVariables false
set_option linter.unusedSimpArgs false
set_option maxRecDepth 10000

theorem closedW_inv {r : Rec} (hv : ¬ valid r = true) : closedW r = none := by
  unfold closedW consW
  rw [Bool.eq_false_iff.2 hv]
  rfl
theorem small_of {r : Rec} (hv : valid r = true) : nE r ≤ 100 := by
  have := (valid_bd hv).2.2.1
  unfold nE
  omega

section
variable {β : Type}
theorem constraints_inv {r : Rec} (hv : ¬ valid r = true) (k : Bool → List Diff → Option β) : zqds r k = k false [] := by
  refine (Constraints_eq _ _).trans ?_
  unfold consW
  rw [Bool.eq_false_iff.2 hv]
  rfl
theorem closed_inv {r : Rec} (hv : ¬ valid r = true) (k : Mat → Bool → Option β) : zqge r k = k [] false := by
  unfold zqge zqgb
  refine (constraints_inv hv _).trans ?_
  exact c_nf
def whenG (r : Rec) : Bool × List (Int × Int) := match closedW r with | some m => (true, whensN (nE r) m) | none => (false, [])
theorem When_g (r : Rec) (k : Bool → List (Int × Int) → Option β) : zqgw r k = k (whenG r).1 (whenG r).2 := by
  by_cases hv : valid r = true
  · refine (When_eq (small_of hv) (fun m he => closed_matB he) k).trans ?_
    unfold whenG
    cases closedW r <;> rfl
  · unfold whenG
    rw [closedW_inv hv]
    unfold zqgw zqgp
    refine (closed_inv hv _).trans ?_
    exact c_nf
theorem Sort_g (r : Rec) (k : Bool → List Int → Option β) : zqit r k = k (sortG r).1 (sortG r).2 := by
  by_cases hv : valid r = true
  · exact Sort_gen r (small_of hv) k
  · unfold sortG
    rw [closedW_inv hv]
    unfold zqit zqie
    refine (closed_inv hv _).trans ?_
    exact c_nf
theorem Allows_g (r : Rec) (l : List Int) (k : Bool → Option β) : zqld r l k = k (allowsG r l) := by
  by_cases hv : valid r = true
  · exact Allows_gen r (small_of hv) l k
  · unfold allowsG
    rw [closedW_inv hv]
    unfold zqld zql6
    refine (closed_inv hv _).trans ?_
    exact c_nf
theorem Open_g (r : Rec) (hE : nE r ≤ 9223372036854775807) (k : List (Int × Int) → Option β) : zqhp r k = k (openG r) := by
  by_cases hv : valid r = true
  · exact Open_gen r (small_of hv) k
  · unfold openG
    rw [closedW_inv hv]
    unfold zqhp zqhe
    refine (closed_inv hv _).trans ?_
    have key := pass_loop (nE r) (fun f j => zqhl f (fun out => k out) [] false (r.2.2.1.length : Int) j r.1 r.2.1 r.2.2.1 r.2.2.2 []) (k []) fuel (Nat.lt_of_le_of_lt hE (by decide))
      (fun f i hi => by
        have hi' := hi
        unfold nE at hi'
        have e1 : IntKind.i64.wrap ((i : Int) + 1) = i + 1 := i64_in _ (by unfold nE at hE; omega)
        rw [zqhm]
        unfold zqhb
        refine (c_pos (by omega)).trans ?_
        simp only [e1]
        have : zqhj (fun (m2 : Mat) ok2 t152 t162 r_5 r_6 r_7 r_8 out2 => zqhl f (fun out => k out) m2 ok2 t152 (IntKind.i64.wrap (t162 + 1)) r_5 r_6 r_7 r_8 out2) ([] : Mat) false (i : Int) ((i : Int) + 1) (r.2.2.1.length : Int) (i : Int) r.1 r.2.1 r.2.2.1 r.2.2.2 [] =
            zqhl f (fun out => k out) [] false (r.2.2.1.length : Int) (IntKind.i64.wrap ((i : Int) + 1)) r.1 r.2.1 r.2.2.1 r.2.2.2 [] := by
          unfold zqhj
          rw [show fuel = (fuel - 1) + 1 by decide, zqhi]
          unfold zqh8
          cases decide ((i : Int) + 1 < (r.2.2.1.length : Int)) <;> rfl
        refine this.trans ?_
        rw [e1])
      (fun f => by
        rw [zqhm]
        unfold zqhb
        exact c_neg (by unfold nE; omega))
    unfold zqhn
    exact key

/-! ### Lists that are equal -/
theorem c_same2 (a : Int × Int) {x y : Option β} : cond (!(decide (a.1 = a.1) && (decide (a.2 = a.2) && true))) x y = y := by
  rw [decide_eq_true rfl, decide_eq_true rfl]
  rfl
theorem c_same3 (a : Int × Int × Int) {x y : Option β} : cond (!(decide (a.1 = a.1) && (decide (a.2.1 = a.2.1) && (decide (a.2.2 = a.2.2) && true)))) x y = y := by
  rw [decide_eq_true rfl, decide_eq_true rfl, decide_eq_true rfl]
  rfl
end
end
end Go.Lift

/- The rows of records (chapter 41): what the code makes of them. -/
namespace Go.Lift
open Go.RowKit Go.IntWalk
noncomputable section
set_option linter.unusedVariables false
set_option linter.unusedSimpArgs false
set_option maxRecDepth 10000

abbrev TRow := Int × ((Int × Int) × List Int)
abbrev tr0 : TRow := (0, ((0, 0), []))

/-! ### A map with pairs as keys -/
theorem mGet_putP (l : List ((Int × Int) × Bool)) (k : Int × Int) (v : Bool) (j : Int × Int) (z : Bool) :
    mGet (.prod (.int .i64) (.int .i64)) (mPut (.prod (.int .i64) (.int .i64)) l k v) j z = if k = j then v else mGet (.prod (.int .i64) (.int .i64)) l j z := by
  have hk : ∀ x y : Int × Int, keyEq (.prod (.int .i64) (.int .i64)) x y = decide (x = y) := by
    intro x y
    simp only [keyEq]
    by_cases h : x = y
    · subst h; simp
    · rw [decide_eq_false h]
      by_cases h1 : x.1 = y.1
      · have h2 : x.2 ≠ y.2 := fun h2 => h (Prod.ext h1 h2)
        simp [h1, h2]
      · simp [h1]
  induction l with
  | nil => by_cases hj : k = j <;> simp [mPut, mGet, hk, hj]
  | cons y l ih =>
    by_cases h : y.1 = k
    · subst h
      by_cases hj : y.1 = j <;> simp [mPut, mGet, hk, hj]
    · by_cases hj : y.1 = j
      · have : k ≠ j := fun e => h (hj.trans e.symm)
        subst hj
        simp [mPut, mGet, hk, h, this]
      · simp [mPut, mGet, hk, h, hj, ih]

def putAll (ps : List (Int × Int)) (s : List ((Int × Int) × Bool)) : List ((Int × Int) × Bool) := ps.foldl (fun s p => mPut (.prod (.int .i64) (.int .i64)) s (p.1, p.2) true) s
theorem get_putAll : ∀ (ps : List (Int × Int)) (s : List ((Int × Int) × Bool)) (j : Int × Int), mGet (.prod (.int .i64) (.int .i64)) (putAll ps s) j false = (decide (j ∈ ps) || mGet (.prod (.int .i64) (.int .i64)) s j false)
  | [], s, j => by simp [putAll]
  | p :: ps, s, j => by
    have h := get_putAll ps (mPut (.prod (.int .i64) (.int .i64)) s (p.1, p.2) true) j
    have e : putAll (p :: ps) s = putAll ps (mPut (.prod (.int .i64) (.int .i64)) s (p.1, p.2) true) := rfl
    rw [e, h, mGet_putP]
    by_cases hj : (p.1, p.2) = j
    · subst hj; simp
    · have : j ≠ p := fun e => hj e.symm
      rw [if_neg hj]
      simp [this]

def mmP (x y : Int) : Int × Int := (if y < x then y else x, if y > x then y else x)
def openOf (ps : List (Int × Int)) (x : Int) (l : List Int) : List Int := l.filter fun y => decide (mmP x y ∈ ps)
def trowOf (ws ps : List (Int × Int)) (l : List Int) (i : Nat) : TRow := (l.getD i 0, (ws.getD (l.getD i 0).toNat (0, 0), sortInts (openOf ps (l.getD i 0) (l.take i))))
def rowsW (ws ps : List (Int × Int)) (l : List Int) : List TRow := (List.range l.length).map (trowOf ws ps l)

theorem rowsW_len (ws ps : List (Int × Int)) (l : List Int) : (rowsW ws ps l).length = l.length := by simp [rowsW]
theorem rowsW_get {ws ps : List (Int × Int)} {l : List Int} {i : Nat} (hi : i < l.length) (d : TRow) : (rowsW ws ps l).getD i d = trowOf ws ps l i := by simp [rowsW, List.getD, hi]
theorem rowsW_events (ws ps : List (Int × Int)) (l : List Int) : (rowsW ws ps l).map (·.1) = l := by
  apply List.ext_getElem
  · simp [rowsW]
  · intro i h1 h2
    simp [rowsW, trowOf, List.getD, h2]

section
variable {β : Type}
theorem openG_len' (r : Rec) : (openG r).length ≤ 1600 := by
  unfold openG
  cases e : closedW r with
  | none => simp
  | some m =>
    have h1 := openW_len (nE r) m
    have h2 := closedR_small e
    have h3 : nE r * nE r ≤ 40 * 40 := Nat.mul_le_mul h2 h2
    show (openW (nE r) m).length ≤ 1600
    omega

theorem rows_p1 (k1 : zqix β) (l : List Int) (ws : List (Int × Int)) (ps : List (Int × Int)) (hp : ps.length ≤ 100000) : zqjn k1 l (ps.length : Int) 0 ws [] ps = k1 l ws (putAll ps []) := by
  unfold zqjn
  exact fold_loop (fun f i s => zqjl f k1 l (ps.length : Int) i ws s ps) (fun s p => mPut (.prod (.int .i64) (.int .i64)) s (p.1, p.2) true) (fun s => k1 l ws s) ((0 : Int), (0 : Int)) ps [] fuel (lt_fuel (by omega))
    (fun m i s hi => by
      rw [zqjm]
      unfold zqj9
      refine (c_pos (by omega)).trans ?_
      refine (c_inb (by omega)).trans ?_
      rw [i64_in ((i : Int) + 1) (by omega)]
      rfl)
    (fun m s => by
      rw [zqjm]
      unfold zqj9
      exact c_neg (by omega))

theorem foldl_filter {α : Type} (p : α → Bool) : ∀ (l s : List α), l.foldl (fun s x => if p x then s ++ [x] else s) s = s ++ l.filter p
  | [], s => by simp
  | x :: l, s => by
    rw [List.foldl_cons, foldl_filter p l]
    cases h : p x with
    | true => simp [List.filter_cons, h]
    | false => simp [List.filter_cons, h]

theorem rows_p2 (k1 : zqj1 β) (l : List Int) (x : Int) (t32 : List Int) (t33 t34 : Int) (pre : List Int) (hpre : pre.length ≤ 100000) (ws : List (Int × Int)) (ps : List (Int × Int)) (out : List TRow) (a b c : Int) :
    zqjr k1 l x t32 t33 t34 pre (pre.length : Int) 0 ws (putAll ps []) out a b c [] = k1 l t32 t33 t34 ws (putAll ps []) out a b c (openOf ps x pre) := by
  have htest : ∀ e : Int, mGet (.prod (.int .i64) (.int .i64)) (putAll ps []) ((if e < x then e else x), (if e > x then e else x)) false = decide (mmP x e ∈ ps) := fun e => by
    rw [get_putAll]
    show (decide (mmP x e ∈ ps) || false) = _
    rw [Bool.or_false]
  unfold zqjr
  have key := fold_loopI (fun i (s : List Int) => s.length ≤ i) (fun f i s => zqjp f k1 l x t32 t33 t34 pre (pre.length : Int) i ws (putAll ps []) out a b c s)
    (fun s y => if decide (mmP x y ∈ ps) then s ++ [y] else s) (fun s => k1 l t32 t33 t34 ws (putAll ps []) out a b c s) (0 : Int) pre [] fuel (lt_fuel (by omega)) (by simp)
    (fun i s hi hs => by
      split
      · simp only [List.length_append, List.length_cons, List.length_nil]; omega
      · omega)
    (fun m i s hi hs => by
      rw [zqjq]
      unfold zqjc
      refine (c_pos (by omega)).trans ?_
      refine (c_inb (by omega)).trans ?_
      dsimp only
      rw [htest, i64_in ((i : Int) + 1) (by omega), Int.toNat_natCast]
      cases hb : decide (mmP x (pre.getD i 0) ∈ ps) with
      | true =>
        refine c_t.trans ?_
        refine (c_room (by simp only [List.length_cons, List.length_nil]; omega)).trans ?_
        rfl
      | false =>
        refine c_f.trans ?_
        rfl)
    (fun m s hs => by
      rw [zqjq]
      unfold zqjc
      exact c_neg (by omega))
  refine key.trans ?_
  rw [foldl_filter]
  rfl

theorem timeline_rows_eq {r : Rec} {l : List Int} (hE : nE r ≤ 9223372036854775807) (hl : l.length ≤ 1000) (hw : ∀ e ∈ l, 0 ≤ e ∧ e < ((whenG r).2.length : Int)) (k : List TRow → Option β) :
    zqjx r l k = k (rowsW (whenG r).2 (openG r) l) := by
  unfold zqjx zqji
  refine (When_g r _).trans ?_
  refine (Open_g r hE _).trans ?_
  have hp := openG_len' r
  refine (rows_p1 _ l _ _ (by omega)).trans ?_
  generalize (whenG r).2 = ws at hw
  generalize openG r = ps at hp
  show zqjv _ l l (l.length : Int) 0 ws (putAll ps []) [] = _
  unfold zqjv
  have hS : ∀ i, i < l.length → (List.range (i + 1)).map (trowOf ws ps l) = (List.range i).map (trowOf ws ps l) ++ [trowOf ws ps l i] := fun i hi => by rw [List.range_succ, List.map_append]; rfl
  refine (range_state l.length (fun i => (List.range i).map (trowOf ws ps l)) (fun f i s => zqjt f (fun out => k out) l l (l.length : Int) i ws (putAll ps []) s) (k (rowsW ws ps l)) fuel (lt_fuel (by omega))
    (fun m i hi => ?_) (fun m => ?_))
  · have he := hw _ (getD_mem (d := 0) hi)
    rw [zqju]
    unfold zqjf
    refine (c_pos (by omega)).trans ?_
    refine (c_inb (by omega)).trans ?_
    dsimp only
    rw [Int.toNat_natCast]
    refine (c_inb he).trans ?_
    refine (c_p3 (by decide) (by omega) (by omega)).trans ?_
    have e1 : List.drop (Int.toNat 0) (List.take i l) = List.take i l := rfl
    rw [e1]
    refine (rows_p2 _ l _ l _ _ (l.take i) (by rw [List.length_take]; omega) ws ps _ _ _ _).trans ?_
    have hf : (openOf ps (l.getD i 0) (l.take i)).length ≤ 1000 := by
      have := List.length_filter_le (fun y => decide (mmP (l.getD i 0) y ∈ ps)) (l.take i)
      rw [List.length_take] at this
      unfold openOf
      omega
    refine (c_pos (by omega)).trans ?_
    rw [i64_in ((i : Int) + 1) (by omega)]
    refine (c_room (by simp only [List.length_map, List.length_range, List.length_cons, List.length_nil]; omega)).trans ?_
    rw [hS i hi]
    rfl
  · rw [zqju]
    unfold zqjf
    refine (c_neg (by omega)).trans ?_
    rfl

theorem whenG_len' {r : Rec} {m : Mat} (he : closedW r = some m) : (whenG r).2 = whensN (nE r) m := by unfold whenG; rw [he]
theorem whensN_len (n : Nat) (m : Mat) : (whensN n m).length = n := by simp [whensN]
theorem openG_some {r : Rec} {m : Mat} (he : closedW r = some m) : openG r = openW (nE r) m := by unfold openG; rw [he]

/-- The rows of a record that stands. -/
theorem timeline_Rows_eq {r : Rec} {m : Mat} (hm : ClosedR r m) (hn : nE r ≤ 40) (k : Bool → List TRow → Option β) :
    zqk4 r k = k true (rowsW (whensN (nE r) m) (openW (nE r) m) (sortN (nE r) m (nE r) [])) := by
  obtain ⟨h1, h2⟩ := hm.sorted (nE r) [] (by simp) ⟨by simp, by simp, by simp⟩
  have es : sortG r = (true, sortN (nE r) m (nE r) []) := by unfold sortG; rw [hm.eq]
  unfold zqk4 zqk1
  refine (Sort_g r _).trans ?_
  rw [es]
  refine c_f.trans ?_
  refine (timeline_rows_eq (by omega) (by show (sortN (nE r) m (nE r) []).length ≤ 1000; omega) (fun e he => ?_) _).trans ?_
  · rw [whenG_len' hm.eq, whensN_len]
    obtain ⟨i, hi, rfl⟩ := List.getElem_of_mem he
    have := h2.range i (by exact hi)
    rwa [show (sortN (nE r) m (nE r) []).getD i 0 = (sortN (nE r) m (nE r) [])[i] by simp [List.getD, hi]] at this
  · rw [whenG_len' hm.eq, openG_some hm.eq]

theorem equal_self (l : List Int) (hl : l.length ≤ 100000) (k : Bool → Option β) : zq2q l l k = k true := by
  unfold zq2q zq2j
  refine (c_npos rfl).trans ?_
  unfold zq2o
  exact pass_loop l.length (fun f i => zq2m f (fun t4 => k t4) (fun _ => k true) l l (l.length : Int) i) (k true) fuel (lt_fuel (by omega))
    (fun m i hi => by
      rw [zq2n]
      unfold zq2g
      refine (c_pos (by omega)).trans ?_
      refine (c_inb (by omega)).trans ?_
      refine (c_inb (by omega)).trans ?_
      refine (c_npos rfl).trans ?_
      rw [i64_in ((i : Int) + 1) (by omega)])
    (fun m => by
      rw [zq2n]
      unfold zq2g
      exact c_neg (by omega))

theorem check_f1_self (x : TRow) (hx : x.2.2.length ≤ 100000) (k : Bool → Option β) : zq8k x x k = k true := by
  unfold zq8k zq8h
  refine (c_pos rfl).trans ?_
  have e : (decide (x.2.1.1 = x.2.1.1) && (decide (x.2.1.2 = x.2.1.2) && true)) = true := by simp
  rw [e]
  refine c_t.trans ?_
  exact equal_self _ hx _

theorem rows_self (l : List TRow) (hl : l.length ≤ 100000) (ho : ∀ x ∈ l, x.2.2.length ≤ 100000) (k : Bool → Option β) : zqlw l l k = k true := by
  unfold zqlw zqlp
  refine (c_npos rfl).trans ?_
  unfold zqlu
  exact pass_loop l.length (fun f i => zqls f (fun t6 => k t6) (fun _ => k true) l l (l.length : Int) i) (k true) fuel (lt_fuel (by omega))
    (fun m i hi => by
      rw [zqlt]
      unfold zqlm
      refine (c_pos (by omega)).trans ?_
      refine (c_inb (by omega)).trans ?_
      refine (c_inb (by omega)).trans ?_
      refine (check_f1_self _ (ho _ (getD_mem (by rw [Int.toNat_natCast]; exact hi))) _).trans ?_
      refine c_f.trans ?_
      rw [i64_in ((i : Int) + 1) (by omega)])
    (fun m => by
      rw [zqlt]
      unfold zqlm
      exact c_neg (by omega))

theorem sortInts_length (l : List Int) : (sortInts l).length = l.length := by unfold sortInts; exact List.length_mergeSort l

theorem openOf_len (ps : List (Int × Int)) (x : Int) (l : List Int) : (openOf ps x l).length ≤ l.length := List.length_filter_le _ _

/-- Rows of a record that stands pass the check. -/
theorem timeline_Check_eq {r : Rec} {m : Mat} (hm : ClosedR r m) (hn : nE r ≤ 40) {s : List Int} (hs : allowsW (nE r) m s = true) (k : Bool → Option β) :
    zqme r (rowsW (whensN (nE r) m) (openW (nE r) m) s) k = k true := by
  have hal := allows_iff.1 hs
  have hlen : s.length = nE r := hal.1
  generalize hR : rowsW (whensN (nE r) m) (openW (nE r) m) s = R
  have hRl : R.length = s.length := by rw [← hR, rowsW_len]
  have hev : R.map (·.1) = s := by rw [← hR]; exact rowsW_events _ _ _
  have p1 : ∀ (k1 : zqm0 β), zqmc k1 R R (R.length : Int) 0 r.1 r.2.1 r.2.2.1 r.2.2.2 [] = k1 R r.1 r.2.1 r.2.2.1 r.2.2.2 s := by
    intro k1
    unfold zqmc
    have key := fold_loopI (fun i (z : List Int) => z.length = i) (fun f i z => zqma f k1 R R (R.length : Int) i r.1 r.2.1 r.2.2.1 r.2.2.2 z) (fun z x => z ++ [x.1]) (fun z => k1 R r.1 r.2.1 r.2.2.1 r.2.2.2 z) tr0 R [] fuel (lt_fuel (by omega)) rfl
      (fun i z hi hz => by simp only [List.length_append, List.length_cons, List.length_nil]; omega)
      (fun m i z hi hz => by
        rw [zqmb]
        unfold zqm4
        refine (c_pos (by omega)).trans ?_
        refine (c_inb (by omega)).trans ?_
        refine (c_room (by simp only [List.length_cons, List.length_nil]; omega)).trans ?_
        rw [i64_in ((i : Int) + 1) (by omega)]
        rfl)
      (fun m z hz => by
        rw [zqmb]
        unfold zqm4
        exact c_neg (by omega))
    refine key.trans ?_
    have e : ∀ (l : List TRow) (z : List Int), l.foldl (fun z x => z ++ [x.1]) z = z ++ l.map (·.1) := by
      intro l
      induction l with
      | nil => intro z; simp
      | cons x l ih => intro z; rw [List.foldl_cons, ih]; simp
    rw [e, List.nil_append, hev]
  have eA : allowsG r s = true := by unfold allowsG; rw [hm.eq]; exact hs
  unfold zqme zqm7
  refine (p1 _).trans ?_
  refine (Allows_g (r.1, r.2.1, r.2.2.1, r.2.2.2) s _).trans ?_
  have eA' : allowsG (r.1, r.2.1, r.2.2.1, r.2.2.2) s = true := eA
  rw [eA']
  refine c_t.trans ?_
  refine (timeline_rows_eq (r := (r.1, r.2.1, r.2.2.1, r.2.2.2)) (by show nE r ≤ _; omega) (by omega) (fun e he => ?_) _).trans ?_
  · show 0 ≤ e ∧ e < ((whenG r).2.length : Int)
    rw [whenG_len' hm.eq, whensN_len]
    obtain ⟨i, hi, rfl⟩ := List.getElem_of_mem he
    have := hal.2.1 i (by omega)
    rwa [show s.getD i 0 = s[i] by simp [List.getD, hi]] at this
  · show zqlw R (rowsW (whenG r).2 (openG r) s) _ = _
    rw [whenG_len' hm.eq, openG_some hm.eq, hR]
    refine rows_self R (by omega) (fun x hx => ?_) _
    rw [← hR] at hx
    obtain ⟨i, hi, rfl⟩ := List.mem_map.1 hx
    have h1 := openOf_len (openW (nE r) m) (s.getD i 0) (s.take i)
    rw [List.length_take] at h1
    show (sortInts _).length ≤ 100000
    rw [sortInts_length]
    omega
end
end
end Go.Lift

/- Texts of numbers in plain Lean: digits, what they spell, how they are read. -/
namespace Go.Lift
open Go.RowKit Go.IntWalk
noncomputable section
set_option linter.unusedVariables false
set_option linter.unusedSimpArgs false
set_option maxRecDepth 10000

def IsDig (c : UInt8) : Prop := 48 ≤ c.toNat ∧ c.toNat ≤ 57
def valF (a : Nat) (l : List UInt8) : Nat := l.foldl (fun a c => a * 10 + (c.toNat - 48)) a

theorem valF_ge : ∀ (l : List UInt8) (a : Nat), a ≤ valF a l
  | [], a => Nat.le_refl _
  | c :: r, a => by
    have := valF_ge r (a * 10 + (c.toNat - 48))
    show a ≤ valF (a * 10 + (c.toNat - 48)) r
    omega

theorem dig_toNat {m : Nat} (h : m < 10) : (UInt8.ofNat (48 + m)).toNat = 48 + m := by
  rw [UInt8.toNat_ofNat']
  omega

theorem dec_dig : ∀ (u : Nat), (∀ c ∈ Lib.decDigits u, IsDig c) ∧ valF 0 (Lib.decDigits u) = u ∧ Lib.decDigits u ≠ [] := by
  intro u
  induction u using Nat.strongRecOn with
  | _ u ih =>
    rw [Lib.decDigits]
    split
    · rename_i h
      refine ⟨fun c hc => ?_, ?_, by simp⟩
      · simp only [List.mem_singleton] at hc
        subst hc
        unfold IsDig
        rw [dig_toNat h]
        omega
      · show 0 * 10 + ((UInt8.ofNat (48 + u)).toNat - 48) = u
        rw [dig_toNat h]
        omega
    · rename_i h
      obtain ⟨h1, h2, h3⟩ := ih (u / 10) (by omega)
      refine ⟨fun c hc => ?_, ?_, by simp⟩
      · rcases List.mem_append.1 hc with hc | hc
        · exact h1 c hc
        · simp only [List.mem_singleton] at hc
          subst hc
          unfold IsDig
          rw [dig_toNat (by omega)]
          omega
      · unfold valF at h2 ⊢
        rw [List.foldl_append, h2]
        show u / 10 * 10 + ((UInt8.ofNat (48 + u % 10)).toNat - 48) = u
        rw [dig_toNat (by omega)]
        omega

theorem parseUint_ok : ∀ (l : List UInt8) (a : Nat), (∀ c ∈ l, IsDig c) → valF a l ≤ 4611686018427387904 → Lib.parseUint10 a l = .ok (valF a l)
  | [], a, _, _ => rfl
  | c :: r, a, hd, hv => by
    have hc := hd c (by simp)
    unfold IsDig at hc
    have hv' : valF (a * 10 + (c.toNat - 48)) r ≤ 4611686018427387904 := hv
    have := valF_ge r (a * 10 + (c.toNat - 48))
    unfold Lib.parseUint10
    rw [if_pos hc, if_neg (by omega), if_neg (by omega), parseUint_ok r _ (fun c h => hd c (by simp [h])) hv']
    rfl

theorem atoi_itoa {n : Int} (h : -4611686018427387904 ≤ n ∧ n ≤ 4611686018427387904) : atoiV (Lib.itoa n) = (n, true) := by
  have key : Lib.atoiAll (Lib.itoa n) = .ok n := by
    unfold Lib.itoa
    split
    · rename_i hn
      obtain ⟨h1, h2, h3⟩ := dec_dig n.natAbs
      unfold Lib.atoiAll
      simp only
      have e : (45 : UInt8).toNat = 45 := rfl
      rw [if_pos (.inr e)]
      have hm : Lib.parseMag (Lib.decDigits n.natAbs) = .ok n.natAbs := by
        unfold Lib.parseMag
        rw [if_neg h3, parseUint_ok _ 0 h1 (by rw [h2]; omega), h2]
      rw [hm]
      simp only [e, not_true_eq_false, false_and, if_false, true_and, if_true]
      rw [if_neg (by omega)]
      congr 1
      omega
    · rename_i hn
      obtain ⟨h1, h2, h3⟩ := dec_dig n.toNat
      have hm : Lib.parseMag (Lib.decDigits n.toNat) = .ok n.toNat := by
        unfold Lib.parseMag
        rw [if_neg h3, parseUint_ok _ 0 h1 (by rw [h2]; omega), h2]
      cases hl : Lib.decDigits n.toNat with
      | nil => exact absurd hl h3
      | cons c r =>
        have hc := h1 c (by rw [hl]; simp)
        unfold IsDig at hc
        unfold Lib.atoiAll
        simp only
        rw [if_neg (by omega), ← hl, hm]
        have hneg : ¬ (c.toNat = 45) := by omega
        simp only [hneg, not_false_eq_true, true_and, false_and, if_false]
        rw [if_neg (by omega)]
        congr 1
        omega
  unfold atoiV
  rw [key]

end
end Go.Lift

/- The text of a record's rows (chapter 41): one line for each row, with open at its end exactly if the row names an open event. -/
namespace Go.Lift
open Go.RowKit Go.IntWalk
noncomputable section
set_option linter.unusedVariables false
set_option linter.unusedSimpArgs false
set_option maxRecDepth 10000

/-- The texts of the dice's events. -/
def TextsOk (l : List Event) : Prop := ∀ e ∈ l, e.2.2 = [117, 112] ∨ e.2.2 = [100, 111, 119, 110] ∨ e.2.2 = [115, 108, 111, 119]

theorem record_p3L (N : Int) (hN : 0 ≤ N ∧ N ≤ 1000) {d : Dice} (hd : DiceOk d) {hosts : List Host} {ahead : List Int} (hh : HostsOk hosts ahead) (h1 : 1 ≤ hosts.length) (syncs : List Sync) :
    ∃ q : Dice × List Int × List Event, (DiceOk q.1 ∧ (q.2.2.length : Int) = N ∧ q.2.1.length = q.2.2.length ∧ (∀ i, i < q.2.2.length → EventOk hosts.length ahead (q.2.2.getD i (0, 0, [])) (q.2.1.getD i 0)) ∧ TextsOk q.2.2) ∧
      ∀ {β : Type} (k : zq6u β), zq7y k N d.1 d.2 ahead [] [] [] [] [] hosts syncs [] [] = k q.1.1 q.1.2 q.2.1 [] [] [] [] hosts syncs q.2.2 [] := by
  have hl := hh.len
  have hm := hh.most
  refine while_loop (σ := Int × Dice × List Int × List Event) (ρ := Dice × List Int × List Event) (Kt := zq6u)
    (fun k m s => zq7w m k s.1 s.2.1.1 s.2.1.2 ahead s.2.2.1 [] [] [] [] hosts syncs s.2.2.2 []) (fun k q => k q.1.1 q.1.2 q.2.1 [] [] [] [] hosts syncs q.2.2 [])
    (fun s => 0 ≤ s.1 ∧ s.1 + s.2.2.2.length = N ∧ s.2.2.1.length = s.2.2.2.length ∧ DiceOk s.2.1 ∧ (∀ i, i < s.2.2.2.length → EventOk hosts.length ahead (s.2.2.2.getD i (0, 0, [])) (s.2.2.1.getD i 0)) ∧ TextsOk s.2.2.2) (fun s => s.1.toNat) _ ?_ fuel (N, d, [], []) ⟨by omega, by simp, rfl, hd, by simp, fun e h => absurd h List.not_mem_nil⟩ (lt_fuel (by show N.toNat < _; omega))
  rintro ⟨i, d, times, evs⟩ ⟨h0, h1', hlen, h2, h3, h4⟩
  simp only at h0 h1' hlen h2 h3 h4
  by_cases hi : 0 < i
  · left
    obtain ⟨x, d1, hx0, hx1, hd1, f1⟩ := next_ok (n := (hosts.length : Int)) h2 (by omega)
    obtain ⟨y, d2, hy0, hy1, hd2, f2⟩ := next_ok (n := 300) hd1 (by omega)
    obtain ⟨z, d3, hz0, hz1, hd3, f3⟩ := next_ok (n := 3) hd2 (by omega)
    have ha := ahead_bd hh x.toNat
    refine ⟨(i - 1, d3, times ++ [864000 + y], evs ++ [(x, 864000 + y + ahead.getD x.toNat 0, List.getD [[117, 112], [100, 111, 119, 110], [115, 108, 111, 119]] z.toNat [])]), ⟨by simp only; omega, by simp; omega, by simp [hlen], hd3, ?_, ?_⟩, by simp only; omega, fun k m => ?_⟩
    · intro j hj
      simp only [List.length_append, List.length_singleton] at hj
      by_cases hj' : j < evs.length
      · rw [getD_append hj', getD_append (by omega)]
        exact h3 j hj'
      · obtain rfl : j = evs.length := by omega
        simp only
        rw [getD_last]
        rw [← hlen, getD_last]
        exact ⟨hx0, hx1, by omega, by omega, rfl⟩
    · intro e he
      simp only [List.mem_append, List.mem_singleton] at he
      rcases he with he | rfl
      · exact h4 e he
      · have : z = 0 ∨ z = 1 ∨ z = 2 := by omega
        rcases this with rfl | rfl | rfl
        · exact Or.inl rfl
        · exact Or.inr (Or.inl rfl)
        · exact Or.inr (Or.inr rfl)
    · simp (disch := omega) only [zq7x, zq7c, pair_eta, c_pos, c_inb, c_room, f1, f2, f3, i64_in, List.length_cons, List.length_nil, Int.toNat_natCast]
  · right
    exact ⟨(d, times, evs), ⟨h2, by simp only; omega, hlen, h3, h4⟩, fun k m => by simp (disch := omega) only [zq7x, zq7c, c_neg]⟩

theorem record_okL (n : Int) (hn : 0 ≤ n ∧ n ≤ 900) {d : Dice} (hd : DiceOk d) :
    ∃ r d' times ahead, RecOk n r ahead times ∧ TextsOk r.2.2.1 ∧ DiceOk d' ∧ ∀ {β : Type} (k : Dice → List Host → List Sync → List Event → List Link → List Int → Option β), zq86 n d k = k d' r.1 r.2.1 r.2.2.1 r.2.2.2 times := by
  obtain ⟨x, d1, hx0, hx1, hd1, f1⟩ := next_ok (n := 3) hd (by omega)
  obtain ⟨⟨d2, ahead, hosts⟩, ⟨hd2, hh, hN⟩, f2⟩ := record_p1 n (1 + x) (by omega) hd1
  simp only at hd2 hh hN f2
  obtain ⟨y, d3, hy0, hy1, hd3, f3⟩ := next_ok (n := 5) hd2 (by omega)
  obtain ⟨⟨d4, syncs⟩, ⟨hd4, hs, hsy⟩, f4⟩ := record_p2 n y (by omega) hd3 hh (by omega)
  simp only at hd4 hs hsy f4
  obtain ⟨z, d5, hz0, hz1, hd5, f5⟩ := next_ok (n := n + 1) hd4 (by omega)
  obtain ⟨⟨d6, times, evs⟩, ⟨hd6, he, hte, hev, htx⟩, f6⟩ := record_p3L z (by omega) hd5 hh (by omega) syncs
  simp only at hd6 he hte hev htx f6
  obtain ⟨u, d7, hu0, hu1, hd7, f7⟩ := next_ok (n := 4) hd6 (by omega)
  obtain ⟨⟨d8, links⟩, ⟨hd8, hl, hli⟩, f8⟩ := record_p5 u (by omega) hd7 hosts syncs evs (times := times) (by omega) (fun i hi => ⟨(hev i (by omega)).2.2.1, (hev i (by omega)).2.2.2.1⟩)
  simp only at hd8 hl hli f8
  refine ⟨(hosts, syncs, evs, links), d8, times, ahead, ⟨hh, by simp only; omega, by simp only; omega, hsy, hte, by simp only; omega, hev, by simp only; omega, hli⟩, htx, hd8, fun k => ?_⟩
  simp (disch := omega) only [zq86, zq7l, f1, f2, f3, f4, f5, f6, f7, f8, i64_in, pair_eta]

/-- All hosts get one name. -/
def hN (h : Host) : Host := ([104], h.2)
def renI (l : List Host) (i : Nat) : List Host := (l.take i).map hN ++ l.drop i
theorem renI_len (l : List Host) (i : Nat) : (renI l i).length = l.length := by simp only [renI, List.length_append, List.length_map, List.length_take, List.length_drop]; omega
theorem renI_get {l : List Host} {i : Nat} (hi : i < l.length) (d : Host) : (renI l i).getD i d = l.getD i d := by
  unfold renI
  have h1 : ((l.take i).map hN).length = i := by simp; omega
  have h2 : ((l.take i).map hN ++ l.drop i)[i]? = l[i]? := by
    rw [List.getElem?_append_right (by omega), h1, Nat.sub_self, List.getElem?_drop, Nat.add_zero]
  rw [List.getD, List.getD, h2]
theorem renI_set {l : List Host} {i : Nat} (hi : i < l.length) (d : Host) : (renI l i).set i (([104] : List UInt8), ((renI l i).getD i d).2) = renI l (i + 1) := by
  rw [renI_get hi]
  unfold renI
  have h1 : ((l.take i).map hN).length = i := by simp; omega
  have h2 : l.drop i = l.getD i d :: l.drop (i + 1) := by
    rw [List.drop_eq_getElem_cons hi]
    simp [List.getD, hi]
  have h3 : l.take (i + 1) = l.take i ++ [l.getD i d] := by
    rw [List.take_add_one, List.getElem?_eq_getElem hi]
    simp [List.getD, hi]
  rw [h2, List.set_append_right _ _ (by omega), h1, Nat.sub_self, List.set_cons_zero, h3, List.map_append, List.append_assoc]
  rfl

section
variable {β : Type}
theorem lines_p1 {l : List Host} (hl : l.length ≤ 1000) (k1 : zqnh β) {b c e} :
    zqo9 k1 (l.length : Int) 0 l b c e = k1 (l.map hN) b c e := by
  unfold zqo9
  have h := range_state l.length (renI l) (fun m i s => zqo7 m k1 (l.length : Int) i s b c e) (k1 (l.map hN) b c e) fuel (lt_fuel (by omega))
    (fun m i hi => by
      have e1 := renI_len l i
      rw [zqo8]
      unfold zqnv
      refine (c_pos (by omega)).trans ?_
      refine (c_inb (by omega)).trans ?_
      rw [Int.toNat_natCast, i64_in ((i : Int) + 1) (by omega), renI_set hi])
    (fun m => by
      rw [zqo8]
      unfold zqnv
      refine (c_neg (by omega)).trans ?_
      unfold renI
      rw [List.take_length, List.drop_length, List.append_nil])
  have e0 : renI l 0 = l := by simp [renI]
  rw [e0] at h
  exact h
end

theorem RecOk.rename {n : Int} {r : Rec} {ahead times : List Int} (h : RecOk n r ahead times) : RecOk n (r.1.map hN, r.2.1, r.2.2.1, r.2.2.2) ahead times := by
  obtain ⟨h1, h2, h3, h4, h5, h6, h7, h8, h9⟩ := h
  have hlen : (r.1.map hN).length = r.1.length := List.length_map _
  refine ⟨⟨h1.len.trans hlen.symm, by show (r.1.map hN).length ≤ 3; rw [hlen]; exact h1.most, fun x hx => ?_, h1.off⟩, by show 1 ≤ (r.1.map hN).length; rw [hlen]; exact h2, h3, fun s hs => ?_, h5, h6, fun i hi => ?_, h8, h9⟩
  · obtain ⟨y, hy, rfl⟩ := List.mem_map.1 hx
    exact h1.drift y hy
  · show SyncOk (r.1.map hN).length ahead s
    rw [hlen]; exact h4 s hs
  · show EventOk (r.1.map hN).length ahead _ _
    rw [hlen]; exact h7 i hi

/-! ### A row's line -/
def tailX (x : TRow) : List UInt8 := if 0 < x.2.2.length then [32, 111, 112, 101, 110] else []
def rangeX (x : TRow) : List UInt8 := Lib.itoa x.2.1.1 ++ (if x.2.1.2 = x.2.1.1 then [] else [46, 46] ++ Lib.itoa x.2.1.2)
def lineX (ev : List Event) (x : TRow) : List UInt8 := (rangeX x ++ (([32] ++ [104]) ++ [32] ++ (ev.getD x.1.toNat (0, (0, []))).2.2)) ++ tailX x
def textX (ev : List Event) (l : List TRow) : List UInt8 := l.flatMap fun x => lineX ev x ++ [10]
theorem textX_app (ev : List Event) (a b : List TRow) : textX ev (a ++ b) = textX ev a ++ textX ev b := List.flatMap_append

theorem dec20 {u : Nat} (h : u < 10000000000000000000) : (Lib.decDigits u).length ≤ 20 := by
  have key : ∀ (n u : Nat), u < 10 ^ (n + 1) → (Lib.decDigits u).length ≤ n + 1 := by
    intro n
    induction n with
    | zero =>
      intro u hu
      rw [Lib.decDigits, dif_pos (by simpa using hu)]
      simp
    | succ n ih =>
      intro u hu
      rw [Lib.decDigits]
      split
      · simp
      · rw [List.length_append, List.length_singleton]
        have := ih (u / 10) (by rw [Nat.pow_succ] at hu; omega)
        omega
  exact key 19 u (by omega)
theorem itoa_len {n : Int} (h : -9223372036854775807 ≤ n ∧ n ≤ 9223372036854775807) : (Lib.itoa n).length ≤ 21 := by
  unfold Lib.itoa
  split
  · have := dec20 (u := n.natAbs) (by omega)
    simp only [List.length_cons]
    omega
  · have := dec20 (u := n.toNat) (by omega)
    omega
theorem itoa_no10 (n : Int) : ∀ c ∈ Lib.itoa n, c ≠ 10 := by
  have hd : ∀ {c : UInt8} {u : Nat}, c ∈ Lib.decDigits u → c ≠ 10 := fun {c u} hc e => by
    have := (dec_dig u).1 c hc
    unfold IsDig at this
    rw [e] at this
    exact absurd this.1 (by decide)
  intro c hc
  unfold Lib.itoa at hc
  split at hc
  · rcases List.mem_cons.1 hc with rfl | hc
    · decide
    · exact hd hc
  · exact hd hc
theorem itoa_eq {β : Type} {n : Int} (h : -9223372036854775807 ≤ n ∧ n ≤ 9223372036854775807) (k : List UInt8 → Option β) : zq1o n k = k (Lib.itoa n) := by
  unfold zq1o itoaF
  rw [decide_eq_true (show -9223372036854775808 ≤ n by omega), decide_eq_true (show n ≤ 9223372036854775807 by omega)]
  rfl
theorem itoa_some (n : Int) : 1 ≤ (Lib.itoa n).length := by
  have key : ∀ u, 1 ≤ (Lib.decDigits u).length := fun u => by
    have := (dec_dig u).2.2
    cases h : Lib.decDigits u with
    | nil => exact absurd h this
    | cons => simp
  unfold Lib.itoa
  split
  · simp
  · exact key _

theorem text_len {ev : List Event} (h : TextsOk ev) {i : Nat} (hi : i < ev.length) : (ev.getD i (0, (0, []))).2.2.length ≤ 4 := by
  rcases h _ (getD_mem (d := (0, (0, []))) hi) with e | e | e <;> rw [e] <;> simp
def RowW (ne : Nat) (x : TRow) : Prop := 0 ≤ x.1 ∧ x.1 < ne ∧ (-9223372036854775807 ≤ x.2.1.1 ∧ x.2.1.1 ≤ 9223372036854775807) ∧ (-9223372036854775807 ≤ x.2.1.2 ∧ x.2.1.2 ≤ 9223372036854775807)
theorem lineX_len {ev : List Event} (h : TextsOk ev) {x : TRow} (hx : RowW ev.length x) : (lineX ev x).length ≤ 60 := by
  obtain ⟨h0, h1, h2, h3⟩ := hx
  have a := itoa_len h2
  have b := itoa_len h3
  have c := text_len h (i := x.1.toNat) (by omega)
  unfold lineX rangeX tailX
  simp only [List.length_append, List.length_cons, List.length_nil]
  split <;> split <;> simp only [List.length_append, List.length_cons, List.length_nil] <;> omega
theorem textX_len {ev : List Event} (h : TextsOk ev) : ∀ {l : List TRow}, (∀ x ∈ l, RowW ev.length x) → (textX ev l).length ≤ 61 * l.length
  | [], _ => by simp [textX]
  | x :: l, hx => by
    have h1 := lineX_len h (hx x (by simp))
    have h2 := textX_len h (l := l) fun y hy => hx y (by simp [hy])
    have e : textX ev (x :: l) = (lineX ev x ++ [10]) ++ textX ev l := rfl
    rw [e]
    simp only [List.length_append, List.length_cons, List.length_nil]
    omega
theorem bI_app (a b : List UInt8) : bytesI (a ++ b) = bytesI a ++ bytesI b := by simp [bytesI]
theorem bI_len (a : List UInt8) : (bytesI a).length = a.length := by simp [bytesI]
theorem bI_ok (a : List UInt8) : bytesOk (bytesI a) = true := by
  unfold bytesOk bytesI
  rw [List.all_eq_true]
  intro n hn
  obtain ⟨c, _, rfl⟩ := List.mem_map.1 hn
  have := c.toNat_lt
  simp
  omega

section
variable {β : Type}
theorem printed_eq {s : List UInt8} {least : Int} (hl : s.length ≤ 1000) (h : ∀ c ∈ s, least ≤ (c.toNat : Int) ∧ (c.toNat : Int) ≤ 126) (h0 : s ≠ []) (k : Bool → Option β) : zq1e s least k = k true := by
  unfold zq1e zq17
  unfold zq1c
  exact pass_loop s.length (fun m i => zq1a m (fun t4 => k t4) (fun s2 => let t : Bool := (!decide (s2 = ([] : List UInt8))); k t) s least (s.length : Int) i) (k true) fuel (lt_fuel (by omega))
    (fun m i hi => by
      have hc := h _ (getD_mem (d := (0 : UInt8)) hi)
      rw [zq1b]
      unfold zq14
      refine (c_pos (by omega)).trans ?_
      refine (c_inb (by omega)).trans ?_
      rw [Int.toNat_natCast]
      refine (c_neg (by omega)).trans ?_
      refine (c_inb (by omega)).trans ?_
      refine (c_neg (by omega)).trans ?_
      rw [i64_in ((i : Int) + 1) (by omega)])
    (fun m => by
      rw [zq1b]
      unfold zq14
      refine (c_neg (by omega)).trans ?_
      show k (!decide (s = [])) = k true
      rw [decide_eq_false h0]
      rfl)

theorem text_p1 {ev : List Event} {hosts : List Host} {x : TRow} {T : List UInt8} (hT : T.length ≤ 10000) {e : Int} (he : 0 ≤ e ∧ e < hosts.length) (hname : (hosts.getD e.toNat (([] : List UInt8), (0 : Int))).1 = [104]) {tx : List UInt8} (htx : tx.length ≤ 4)
    (k1 : zqmi β) {t14 t15 t16 r2 r3 r4 a b c e2} :
    zqn0 k1 t14 t15 t16 hosts r2 r3 r4 a b c x.2.2 e e2 tx (bytesI T) = k1 t14 t15 t16 hosts r2 r3 r4 (bytesI (T ++ (((([32] ++ [104]) ++ [32] ++ tx)) ++ tailX x) ++ [10])) := by
  unfold zqn0 zqms zqmr
  refine (c_inb he).trans ?_
  dsimp only
  rw [hname]
  refine (c_pos (by decide)).trans ?_
  refine (c_pos (by decide)).trans ?_
  refine (c_pos (by simp only [List.length_append, List.length_cons, List.length_nil]; omega)).trans ?_
  refine (c_pos (by rw [bI_len]; simp only [List.length_append, List.length_cons, List.length_nil]; omega)).trans ?_
  unfold tailX
  by_cases ho : 0 < x.2.2.length
  · rw [if_pos ho]
    refine (c_pos (by omega)).trans ?_
    refine (c_pos (by rw [List.length_append, bI_len, bI_len]; simp only [List.length_append, List.length_cons, List.length_nil]; omega)).trans ?_
    refine (c_pos (by simp only [List.length_append, bI_len, List.length_cons, List.length_nil]; omega)).trans ?_
    rw [← bI_app, ← bI_app, ← bI_app]
    simp only [List.append_assoc]
  · rw [if_neg ho]
    refine (c_neg (by omega)).trans ?_
    refine (c_pos (by simp only [List.length_append, bI_len, List.length_cons, List.length_nil]; omega)).trans ?_
    rw [← bI_app, ← bI_app]
    simp only [List.append_assoc, List.nil_append]

theorem timeline_Text_eq {r : Rec} {R : List TRow} (hR : R.length ≤ 100) (hrow : ∀ x ∈ R, RowW r.2.2.1.length x) (hev : ∀ e ∈ r.2.2.1, 0 ≤ e.1 ∧ e.1 < r.1.length) (htx : TextsOk r.2.2.1) (hh : ∀ h ∈ r.1, h.1 = [104])
    (hck : ∀ k : Bool → Option β, zqme r R k = k true) (k : List UInt8 → Int → Option β) : zqn6 r R k = k (textX r.2.2.1 R) 0 := by
  unfold zqn6 zqmx
  refine (hck _).trans ?_
  refine c_f.trans ?_
  have hlen := textX_len htx hrow
  unfold zqn4
  have h := range_state R.length (fun i => bytesI (textX r.2.2.1 (R.take i))) (fun m i s => zqn2 m (fun t4 t5 => k t4 t5) (fun b1_ => cond (decide ((65536 : Int) < (List.length b1_ : Int))) (k ([] : List UInt8) (5 : Int)) (cond (bytesOk b1_) (k (strOf b1_) (0 : Int)) none)) R (R.length : Int) i r.1 r.2.1 r.2.2.1 r.2.2.2 s) (k (textX r.2.2.1 R) 0) fuel (lt_fuel (by omega))
    (fun m i hi => by
      have hx := hrow _ (getD_mem (d := tr0) hi)
      obtain ⟨x0, x1, x2, x3⟩ := hx
      have hTl : (textX r.2.2.1 (R.take i)).length ≤ 6100 := by
        have := textX_len htx (l := R.take i) fun x hx => hrow x (List.mem_of_mem_take hx)
        rw [List.length_take] at this
        omega
      have he := hev _ (getD_mem (d := ((0 : Int), ((0 : Int), ([] : List UInt8)))) (show (R.getD i tr0).1.toNat < r.2.2.1.length by omega))
      have htl := text_len htx (i := (R.getD i tr0).1.toNat) (by omega)
      have htt := htx _ (getD_mem (d := ((0 : Int), ((0 : Int), ([] : List UInt8)))) (show (R.getD i tr0).1.toNat < r.2.2.1.length by omega))
      have hnm := hh _ (getD_mem (d := (([] : List UInt8), (0 : Int))) (show (r.2.2.1.getD (R.getD i tr0).1.toNat ((0 : Int), ((0 : Int), ([] : List UInt8)))).1.toNat < r.1.length by omega))
      have hS : textX r.2.2.1 (R.take (i + 1)) = textX r.2.2.1 (R.take i) ++ (lineX r.2.2.1 (R.getD i tr0) ++ [10]) := by
        have e : R.take (i + 1) = R.take i ++ [R.getD i tr0] := by
          rw [List.take_add_one, List.getElem?_eq_getElem hi]
          simp [List.getD, hi]
        rw [e, textX_app]
        simp [textX]
      have a1 := itoa_len x2
      have a2 := itoa_len x3
      rw [zqn3]
      unfold zqmu
      refine (c_pos (by omega)).trans ?_
      refine (c_inb (by omega)).trans ?_
      rw [Int.toNat_natCast]
      generalize R.getD i tr0 = x at *
      dsimp only
      refine (c_inb (by omega)).trans ?_
      generalize hevq : r.2.2.1.getD x.1.toNat ((0 : Int), ((0 : Int), ([] : List UInt8))) = ev at *
      refine (c_inb he).trans ?_
      have n1 : zq1e (r.1.getD ev.1.toNat (([] : List UInt8), (0 : Int))).1 33 = zq1e (β := β) [104] 33 := by rw [hnm]
      refine (congrFun n1 _).trans ?_
      refine (printed_eq (by simp) (fun c hc => by rw [List.mem_singleton] at hc; subst hc; decide) (by simp) _).trans ?_
      refine c_f.trans ?_
      refine (printed_eq (by omega) (fun c hc => ?_) ?_ _).trans ?_
      · rcases htt with e | e | e <;> rw [e] at hc <;> simp only [List.mem_cons, List.not_mem_nil, or_false] at hc
        · rcases hc with rfl | rfl <;> decide
        · rcases hc with rfl | rfl | rfl | rfl <;> decide
        · rcases hc with rfl | rfl | rfl | rfl <;> decide
      · rcases htt with e | e | e <;> rw [e] <;> simp
      refine c_f.trans ?_
      refine (itoa_eq x2 _).trans ?_
      refine (c_pos (by rw [bI_len]; omega)).trans ?_
      by_cases heq : x.2.1.2 = x.2.1.1
      · refine (c_npos heq).trans ?_
        rw [← bI_app]
        refine (text_p1 (ev := r.2.2.1) (x := x) (by rw [List.length_append]; omega) he hnm htl _).trans ?_
        rw [i64_in ((i : Int) + 1) (by omega), hS]
        have e : (textX r.2.2.1 (R.take i) ++ Lib.itoa x.2.1.1) ++ ((([32] ++ [104]) ++ [32] ++ ev.2.2) ++ tailX x) ++ [10] = textX r.2.2.1 (R.take i) ++ (lineX r.2.2.1 x ++ [10]) := by
          unfold lineX rangeX
          rw [if_pos heq, List.append_nil, hevq]
          simp only [List.append_assoc]
        rw [← e]
      · refine (c_nneg heq).trans ?_
        refine (itoa_eq x3 _).trans ?_
        refine (c_pos (by simp only [List.length_cons, List.length_nil]; omega)).trans ?_
        refine (c_pos (by simp only [List.length_append, bI_len, List.length_cons, List.length_nil]; omega)).trans ?_
        rw [← bI_app, ← bI_app]
        refine (text_p1 (ev := r.2.2.1) (x := x) (by simp only [List.length_append, List.length_cons, List.length_nil]; omega) he hnm htl _).trans ?_
        rw [i64_in ((i : Int) + 1) (by omega), hS]
        have e : ((textX r.2.2.1 (R.take i) ++ Lib.itoa x.2.1.1) ++ ([46, 46] ++ Lib.itoa x.2.1.2)) ++ (((([32] ++ [104]) ++ [32] ++ ev.2.2)) ++ tailX x ++ [10]) = textX r.2.2.1 (R.take i) ++ (lineX r.2.2.1 x ++ [10]) := by
          unfold lineX rangeX
          rw [if_neg heq, hevq]
          simp only [List.append_assoc]
        rw [← e]
        simp only [List.append_assoc])
    (fun m => by
      rw [zqn3]
      unfold zqmu
      refine (c_neg (by omega)).trans ?_
      rw [List.take_length]
      refine (c_neg (by rw [bI_len]; omega)).trans ?_
      rw [bI_ok, strOf_bytesI]
      rfl)
  exact h

/-! ### The text, line by line -/
def markV (l : List UInt8) : Bool := decide (5 < l.length) && decide (l.drop (l.length - 5) = [32, 111, 112, 101, 110])
theorem drop_end (p q : List UInt8) : (p ++ q).drop ((p ++ q).length - q.length) = q := by
  have : (p ++ q).length - q.length = p.length := by rw [List.length_append]; omega
  rw [this, List.drop_left]
theorem mark_tail (p : List UInt8) (hp : p ≠ []) : markV (p ++ [32, 111, 112, 101, 110]) = true := by
  have h := drop_end p [32, 111, 112, 101, 110]
  have hl : 1 ≤ p.length := by cases p with | nil => exact absurd rfl hp | cons => simp
  have h5 : ([32, 111, 112, 101, 110] : List UInt8).length = 5 := rfl
  rw [h5] at h
  unfold markV
  rw [h]
  simp
  omega
theorem mark_not (p q : List UInt8) (hq : q.length = 5) (hn : q ≠ [32, 111, 112, 101, 110]) : markV (p ++ q) = false := by
  have h := drop_end p q
  rw [hq] at h
  unfold markV
  rw [h, decide_eq_false hn, Bool.and_false]
theorem lineX_mark {ev : List Event} (htx : TextsOk ev) {x : TRow} (hx : RowW ev.length x) : markV (lineX ev x) = decide (0 < x.2.2.length) := by
  obtain ⟨x0, x1, _, _⟩ := hx
  have htt := htx _ (getD_mem (d := ((0 : Int), ((0 : Int), ([] : List UInt8)))) (show x.1.toNat < ev.length by omega))
  unfold lineX tailX
  by_cases ho : 0 < x.2.2.length
  · rw [if_pos ho, decide_eq_true ho]
    exact mark_tail _ (by simp)
  · rw [if_neg ho, decide_eq_false ho, List.append_nil]
    rcases htt with e | e | e <;> rw [e]
    · have := mark_not (rangeX x) [32, 104, 32, 117, 112] rfl (by decide)
      simpa using this
    · have := mark_not (rangeX x ++ [32, 104]) [32, 100, 111, 119, 110] rfl (by decide)
      simpa using this
    · have := mark_not (rangeX x ++ [32, 104]) [32, 115, 108, 111, 119] rfl (by decide)
      simpa using this
theorem lineX_no10 {ev : List Event} (htx : TextsOk ev) {x : TRow} (hx : RowW ev.length x) : ∀ c ∈ lineX ev x, c ≠ 10 := by
  obtain ⟨x0, x1, _, _⟩ := hx
  have htt := htx _ (getD_mem (d := ((0 : Int), ((0 : Int), ([] : List UInt8)))) (show x.1.toNat < ev.length by omega))
  intro c hc
  unfold lineX rangeX tailX at hc
  simp only [List.mem_append] at hc
  rcases hc with ((hc | hc) | ((hc | hc) | hc) | hc) | hc
  · exact itoa_no10 _ c hc
  · split at hc
    · exact absurd hc List.not_mem_nil
    · rcases List.mem_append.1 hc with h | h
      · simp only [List.mem_cons, List.not_mem_nil, or_false] at h
        rcases h with rfl | rfl <;> decide
      · exact itoa_no10 _ c h
  · rw [List.mem_singleton] at hc; rw [hc]; decide
  · rw [List.mem_singleton] at hc; rw [hc]; decide
  · rw [List.mem_singleton] at hc; rw [hc]; decide
  · rcases htt with e | e | e <;> rw [e] at hc <;> simp only [List.mem_cons, List.not_mem_nil, or_false] at hc
    · rcases hc with rfl | rfl <;> decide
    · rcases hc with rfl | rfl | rfl | rfl <;> decide
    · rcases hc with rfl | rfl | rfl | rfl <;> decide
  · split at hc
    · simp only [List.mem_cons, List.not_mem_nil, or_false] at hc
      rcases hc with rfl | rfl | rfl | rfl | rfl <;> decide
    · exact absurd hc List.not_mem_nil

theorem at_pre {α : Type} (d : α) (pre : List α) (c : α) (rest : List α) : (pre ++ c :: rest).getD pre.length d = c := by simp [List.getD]
theorem cut_pre (pre : List UInt8) (c : UInt8) (rest : List UInt8) : ((pre ++ c :: rest).take (pre.length + 1)).drop pre.length = [c] := by
  rw [List.take_append, List.take_of_length_le (by omega), show pre.length + 1 - pre.length = 1 by omega, List.drop_left]
  rfl

theorem lines_run (k1 : zqnq β) (k2 : zqnr β) (l : List TRow) (s : List UInt8) (hs : s.length ≤ 100000) : ∀ (u pre rest line : List UInt8) (at_ : Int) (m : Nat), s = pre ++ (u ++ rest) → (∀ c ∈ u, c ≠ 10) → line.length + u.length ≤ 100000 →
    zqod (m + u.length) k1 k2 s line at_ (pre.length : Int) l = zqod m k1 k2 s (line ++ u) at_ ((pre.length + u.length : Nat) : Int) l
  | [], pre, rest, line, at_, m, _, _, _ => by simp
  | c :: u, pre, rest, line, at_, m, e, hu, hl => by
    have hlen : pre.length + 1 ≤ s.length := by rw [e]; simp only [List.length_append, List.length_cons]; omega
    have hc : c ≠ 10 := hu c (by simp)
    have hcn : ¬ ((c.toNat : Int) = 10) := fun h => hc (UInt8.toNat_inj.1 (by show c.toNat = 10; omega))
    have ih := lines_run k1 k2 l s hs u (pre ++ [c]) rest (line ++ [c]) at_ m (by rw [e]; simp) (fun b hb => hu b (by simp [hb])) (by simp only [List.length_append, List.length_cons, List.length_nil] at hl ⊢; omega)
    have e1 : s.getD pre.length 0 = c := by rw [e]; exact at_pre 0 pre c (u ++ rest)
    have e2 : (s.take (pre.length + 1)).drop pre.length = [c] := by rw [e]; exact cut_pre pre c (u ++ rest)
    have ew : IntKind.i64.wrap ((pre.length : Int) + 1) = ((pre.length + 1 : Nat) : Int) := by rw [i64_in _ (by omega)]; omega
    simp only [List.length_cons] at hl
    rw [show m + (c :: u).length = (m + u.length) + 1 by simp only [List.length_cons]; omega, zqoe]
    unfold zqo1
    refine (c_pos (by omega)).trans ?_
    refine (c_inb (by omega)).trans ?_
    rw [Int.toNat_natCast, e1]
    refine (c_nneg hcn).trans ?_
    rw [ew]
    refine (c_p3 (by omega) (by omega) (by omega)).trans ?_
    rw [Int.toNat_natCast, e2]
    refine (c_pos (by simp only [List.length_cons, List.length_nil]; omega)).trans ?_
    simp only [List.length_append, List.length_cons, List.length_nil] at ih
    refine Eq.trans ih ?_
    rw [List.append_assoc]
    simp only [List.length_cons]
    rw [show pre.length + (0 + 1) + u.length = pre.length + (u.length + 1) by omega]
    rfl

theorem lines_nl (k1 : zqnq β) (k2 : zqnr β) (l : List TRow) (s : List UInt8) (hs : s.length ≤ 100000) {pre rest line : List UInt8} {j m : Nat} (e : s = pre ++ 10 :: rest) (hl : line.length ≤ 100000) (hj : j < l.length) (hl2 : l.length ≤ 1000)
    (hm : markV line = decide (0 < (l.getD j tr0).2.2.length)) :
    zqod (m + 1) k1 k2 s line (j : Int) (pre.length : Int) l = zqod m k1 k2 s [] ((j + 1 : Nat) : Int) ((pre.length + 1 : Nat) : Int) l := by
  have hlen : pre.length + 1 ≤ s.length := by rw [e]; simp only [List.length_append, List.length_cons]; omega
  have e1 : s.getD pre.length 0 = 10 := by rw [e]; exact at_pre 0 pre 10 rest
  have ew : IntKind.i64.wrap ((pre.length : Int) + 1) = ((pre.length + 1 : Nat) : Int) := by rw [i64_in _ (by omega)]; omega
  have ej : IntKind.i64.wrap ((j : Int) + 1) = ((j + 1 : Nat) : Int) := by rw [i64_in _ (by omega)]; omega
  have hp2 : ∀ (mk : Bool), mk = markV line → zqob (fun t2 => k1 t2) (fun s2 line2 at_2 i_2 l2 => zqod m k1 k2 s2 line2 at_2 (IntKind.i64.wrap (i_2 + 1)) l2) s (j : Int) (pre.length : Int) mk l = zqod m k1 k2 s [] ((j + 1 : Nat) : Int) ((pre.length + 1 : Nat) : Int) l := fun mk hmk => by
    unfold zqob zqnz zqny
    refine (c_inb (by omega)).trans ?_
    rw [Int.toNat_natCast]
    have h2 : (!(mk == decide ((0 : Int) < (List.length (l.getD j ((0 : Int), (((0 : Int), (0 : Int)), ([] : List Int)))).2.2 : Int)))) = false := by
      rw [hmk, hm]
      have : decide (0 < (l.getD j tr0).2.2.length) = decide ((0 : Int) < ((l.getD j tr0).2.2.length : Int)) := by
        by_cases h : 0 < (l.getD j tr0).2.2.length
        · rw [decide_eq_true h, decide_eq_true (by omega)]
        · rw [decide_eq_false h, decide_eq_false (by omega)]
      rw [this]
      simp
    rw [h2]
    refine c_f.trans ?_
    dsimp only
    rw [ew, ej]
  rw [zqoe]
  unfold zqo1
  refine (c_pos (by omega)).trans ?_
  refine (c_inb (by omega)).trans ?_
  rw [Int.toNat_natCast, e1]
  refine (c_npos rfl).trans ?_
  refine (c_neg (by omega)).trans ?_
  by_cases h5 : 5 < line.length
  · refine (c_pos (by omega)).trans ?_
    have e5 : IntKind.i64.wrap ((line.length : Int) - 5) = ((line.length - 5 : Nat) : Int) := by rw [i64_in _ (by omega)]; omega
    rw [e5]
    refine (c_p3 (by omega) (by omega) (Int.le_refl _)).trans ?_
    rw [Int.toNat_natCast, Int.toNat_natCast, List.take_length]
    exact hp2 _ (by unfold markV; rw [decide_eq_true h5, Bool.true_and])
  · refine (c_neg (by omega)).trans ?_
    exact hp2 _ (by unfold markV; rw [decide_eq_false h5, Bool.false_and])

theorem lines_all (k1 : zqnq β) (k2 : zqnr β) {ev : List Event} (htx : TextsOk ev) (l : List TRow) (hl : l.length ≤ 100) (hrow : ∀ x ∈ l, RowW ev.length x) (hs : (textX ev l).length ≤ 100000) : ∀ (todo done : List TRow) (m : Nat), l = done ++ todo →
    zqod (m + 1 + (textX ev todo).length) k1 k2 (textX ev l) [] (done.length : Int) ((textX ev done).length : Int) l = k2 [] (l.length : Int) l
  | [], done, m, e => by
    have hd : done = l := by rw [e, List.append_nil]
    rw [hd, show m + 1 + (textX ev []).length = m + 1 from rfl, zqoe]
    unfold zqo1
    exact c_neg (by omega)
  | x :: todo, done, m, e => by
    have hx : x ∈ l := by rw [e]; simp
    have hlx := lineX_len htx (hrow x hx)
    have e0 : textX ev (x :: todo) = (lineX ev x ++ [10]) ++ textX ev todo := rfl
    have es : textX ev l = textX ev done ++ (lineX ev x ++ (10 :: textX ev todo)) := by
      rw [e, textX_app, e0]
      simp only [List.append_assoc, List.singleton_append]
    have es2 : textX ev l = (textX ev done ++ lineX ev x) ++ 10 :: textX ev todo := by rw [es, List.append_assoc]
    have ih := lines_all k1 k2 htx l hl hrow hs todo (done ++ [x]) m (by rw [e]; simp)
    have hjl : done.length < l.length := by rw [e]; simp
    have hj : l.getD done.length tr0 = x := by rw [e]; exact at_pre tr0 done x todo
    have hmk : markV (lineX ev x) = decide (0 < (l.getD done.length tr0).2.2.length) := by rw [hj]; exact lineX_mark htx (hrow x hx)
    have r1 := lines_run k1 k2 l (textX ev l) hs (lineX ev x) (textX ev done) (10 :: textX ev todo) [] (done.length : Int) (m + 1 + (textX ev todo).length + 1) es (lineX_no10 htx (hrow x hx)) (by simp; omega)
    have r2 := lines_nl k1 k2 l (textX ev l) hs (j := done.length) (m := m + 1 + (textX ev todo).length) es2 (line := lineX ev x) (by omega) hjl (by omega) hmk
    have el : m + 1 + (textX ev (x :: todo)).length = (m + 1 + (textX ev todo).length + 1) + (lineX ev x).length := by
      rw [e0]
      simp only [List.length_append, List.length_cons, List.length_nil]
      omega
    rw [el]
    refine r1.trans ?_
    rw [List.nil_append]
    rw [List.length_append] at r2
    refine r2.trans ?_
    have e3 : (textX ev (done ++ [x])).length = (textX ev done).length + (lineX ev x).length + 1 := by
      rw [textX_app]
      show (textX ev done ++ ((lineX ev x ++ [10]) ++ [])).length = _
      simp only [List.length_append, List.length_cons, List.length_nil]
      omega
    rw [e3, List.length_append, List.length_singleton] at ih
    exact ih

theorem timelineLines (t : List Int) (k : Bool → Option β) : zqoh t k = k true := by
  unfold zqoh zqo4
  refine (light_eq t _).trans ?_
  by_cases hl : (t.length : Int) ≤ 500
  · rw [decide_eq_true hl]
    refine c_f.trans ?_
    refine (roll_eq t _).trans ?_
    obtain ⟨r0, d', times, ahead, hr0, htx, hd, f⟩ := record_okL 6 (by omega) (roll_ok hl)
    refine (f _).trans ?_
    have hm3 := hr0.hosts.most
    refine (lines_p1 (by omega) _).trans ?_
    have hr := hr0.rename
    have hh : ∀ h ∈ r0.1.map hN, h.1 = [104] := fun h hh => by
      obtain ⟨y, _, rfl⟩ := List.mem_map.1 hh
      rfl
    have hev : ∀ e ∈ r0.2.2.1, 0 ≤ e.1 ∧ e.1 < (r0.1.map hN).length := fun e he => by
      obtain ⟨i, hi, rfl⟩ := List.getElem_of_mem he
      have := hr.events i hi
      rw [show (r0.2.2.1).getD i (0, 0, []) = r0.2.2.1[i] by simp [List.getD, hi]] at this
      exact ⟨this.1, this.2.1⟩
    clear hr0 f
    generalize hr1 : ((r0.1.map hN, r0.2.1, r0.2.2.1, r0.2.2.2) : Rec) = r at hr
    have e1 : r0.1.map hN = r.1 := by rw [← hr1]
    have e2 : r0.2.1 = r.2.1 := by rw [← hr1]
    have e3 : r0.2.2.1 = r.2.2.1 := by rw [← hr1]
    have e4 : r0.2.2.2 = r.2.2.2 := by rw [← hr1]
    rw [e1] at hh hev
    rw [e3] at htx hev
    clear e1 e2 e3 e4 hr1
    have hn : nE r ≤ 6 := by have := hr.nE_le; omega
    obtain ⟨m, hm⟩ := hr.closed (by omega)
    have hal := hm.sort_allowed
    have hmb := hm.matB (by omega)
    obtain ⟨h0, h1, h2⟩ := allows_iff.1 hal
    refine (timeline_Rows_eq (r := r) hm (by omega) _).trans ?_
    have hRl : (rowsW (whensN (nE r) m) (openW (nE r) m) (sortN (nE r) m (nE r) [])).length = nE r := by rw [rowsW_len, h0]
    have hrow : ∀ x ∈ rowsW (whensN (nE r) m) (openW (nE r) m) (sortN (nE r) m (nE r) []), RowW r.2.2.1.length x := fun x hx => by
      obtain ⟨i, hi, rfl⟩ := List.getElem_of_mem hx
      have hi' : i < nE r := by omega
      have h3 := rowsW_get (ws := whensN (nE r) m) (ps := openW (nE r) m) (l := sortN (nE r) m (nE r) []) (i := i) (by omega) tr0
      rw [show (rowsW (whensN (nE r) m) (openW (nE r) m) (sortN (nE r) m (nE r) [])).getD i tr0 = (rowsW (whensN (nE r) m) (openW (nE r) m) (sortN (nE r) m (nE r) []))[i] by simp [List.getD, hi]] at h3
      rw [h3]
      have h4 := h1 i hi'
      have h5 : ((sortN (nE r) m (nE r) []).getD i 0).toNat < nE r := by omega
      have b1 := hmb.bd (((sortN (nE r) m (nE r) []).getD i 0).toNat + 1) 0 (by omega) (by omega)
      have b2 := hmb.bd 0 (((sortN (nE r) m (nE r) []).getD i 0).toNat + 1) (by omega) (by omega)
      refine ⟨h4.1, h4.2, ?_⟩
      show (-9223372036854775807 ≤ ((whensN (nE r) m).getD ((sortN (nE r) m (nE r) []).getD i 0).toNat (0, 0)).1 ∧ ((whensN (nE r) m).getD ((sortN (nE r) m (nE r) []).getD i 0).toNat (0, 0)).1 ≤ 9223372036854775807) ∧ -9223372036854775807 ≤ ((whensN (nE r) m).getD ((sortN (nE r) m (nE r) []).getD i 0).toNat (0, 0)).2 ∧ ((whensN (nE r) m).getD ((sortN (nE r) m (nE r) []).getD i 0).toNat (0, 0)).2 ≤ 9223372036854775807
      rw [whensN_getD h5]
      unfold rangeN
      exact ⟨by simp only; omega, by simp only; omega⟩
    have hck : ∀ {γ : Type} (k : Bool → Option γ), zqme r (rowsW (whensN (nE r) m) (openW (nE r) m) (sortN (nE r) m (nE r) [])) k = k true := fun k => timeline_Check_eq hm (by omega) hal k
    generalize rowsW (whensN (nE r) m) (openW (nE r) m) (sortN (nE r) m (nE r) []) = R at *
    have hTl := textX_len htx hrow
    refine (timeline_Text_eq (r := r) (R := R) (by omega) hrow hev htx hh hck _).trans ?_
    refine c_f.trans ?_
    refine (c_npos rfl).trans ?_
    unfold zqof
    have hfu : fuel = (fuel - 1 - (textX r.2.2.1 R).length) + 1 + (textX r.2.2.1 R).length := by
      have := lt_fuel (n := (textX r.2.2.1 R).length + 1) (by omega)
      omega
    rw [hfu]
    refine (lines_all _ _ htx R (by omega) hrow (by omega) R [] _ rfl).trans ?_
    refine (c_pos rfl).trans ?_
    refine (c_pos rfl).trans ?_
    exact sane41 _
  · rw [decide_eq_false hl]
    refine c_t.trans ?_
    exact sane41 _
end
end
end Go.Lift

