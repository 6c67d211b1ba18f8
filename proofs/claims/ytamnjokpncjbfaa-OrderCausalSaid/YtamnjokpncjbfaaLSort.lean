/- order.Sort in plain Lean. -/
import Derived.Test.YtamnjokpncjbfaaFn2
import Derived.Test.YtamnjokpncjbfaaLOrder5
namespace Go.Lift
open Go.RowKit Go.IntWalk
noncomputable section
set_option linter.unusedVariables false
set_option linter.unusedSimpArgs false
set_option maxRecDepth 10000

/-- A loop that keeps an invariant; the next state may hang on what follows. -/
theorem range_exm {β σ : Type} (n : Nat) (I : Nat → σ → Prop) (F : Nat → Int → σ → Option β) (K : σ → Option β) (s : σ) (N : Nat) (hn : n < N) (h0 : I 0 s)
    (h1 : ∀ (m i : Nat) s, i < n → I i s → ∃ s', I (i + 1) s' ∧ F (m + 1) (i : Int) s = F m ((i : Int) + 1) s')
    (h2 : ∀ (m : Nat) s, I n s → F (m + 1) (n : Int) s = K s) : ∃ s', I n s' ∧ F N 0 s = K s' := by
  have key : ∀ (c i N : Nat) (s : σ), i + c = n → c < N → I i s → ∃ s', I n s' ∧ F N (i : Int) s = K s' := by
    intro c
    induction c with
    | zero =>
      intro i N s hi hN hs
      obtain ⟨N, rfl⟩ : ∃ m, N = m + 1 := ⟨N - 1, by omega⟩
      obtain rfl : i = n := by omega
      exact ⟨s, hs, h2 N s hs⟩
    | succ c ih =>
      intro i N s hi hN hs
      obtain ⟨N, rfl⟩ : ∃ m, N = m + 1 := ⟨N - 1, by omega⟩
      obtain ⟨s', hs', e⟩ := h1 N i s (by omega) hs
      obtain ⟨s'', h3, h4⟩ := ih (i + 1) N s' (by omega) (by omega) hs'
      exact ⟨s'', h3, e.trans h4⟩
  exact key n 0 N s (by omega) hn h0

theorem mGet_mPut {δ : Type} (l : List (Int × δ)) (a b : Int) (v z : δ) : mGet (.int .i64) (mPut (.int .i64) l a v) b z = if a = b then v else mGet (.int .i64) l b z := by
  induction l with
  | nil =>
    simp only [mPut, mGet, keyEq]
    by_cases h : a = b <;> simp [h]
  | cons y l ih =>
    simp only [mPut]
    by_cases h : y.1 = a
    · simp only [keyEq, decide_eq_true h, cond_true, mGet]
      by_cases hb : a = b
      · simp [hb]
      · have : ¬ y.1 = b := by rw [h]; exact hb
        simp [hb, this]
    · simp only [keyEq, decide_eq_false h, cond_false, mGet]
      rw [ih]
      by_cases hb : y.1 = b
      · have : ¬ a = b := by intro h2; exact h (hb.trans h2.symm)
        simp [hb, this]
      · simp [hb]

/-- An event that nothing unplaced was before. -/
def freeN (n : Nat) (m : Mat) (out : List Int) (i : Nat) : Bool := !decide ((i : Int) ∈ out) && (List.range n).all fun k => decide ((k : Int) ∈ out) || !bef m k i
def earlyN (m : Mat) (a b : Nat) : Bool := decide ((rangeN m a).1 < (rangeN m b).1) || (decide ((rangeN m a).1 = (rangeN m b).1) && decide ((rangeN m a).2 < (rangeN m b).2))
def pickN (n : Nat) (m : Mat) (out : List Int) (next : Int) (i : Nat) : Int := if freeN n m out i && (decide (next < 0) || earlyN m i next.toNat) then (i : Int) else next
def nextN (n : Nat) (m : Mat) (out : List Int) : Int := (List.range n).foldl (pickN n m out) (-1)
def sortN (n : Nat) (m : Mat) : Nat → List Int → List Int
  | 0, out => out
  | c + 1, out => sortN n m c (out ++ [nextN n m out])

section
variable {β : Type} {n : Nat} {m : Mat}

theorem earlier_eq (h : MatB n m) {a b : Nat} (ha : a < n) (hb : b < n) (k : Bool → Option β) : order_matrix_earlier m (a : Int) (b : Int) k = k (earlyN m a b) := by
  unfold order_matrix_earlier order_matrix_earlier_s
  refine (mwhen_eq h ha _).trans ?_
  refine (mwhen_eq h hb _).trans ?_
  unfold earlyN
  by_cases h1 : (rangeN m a).1 < (rangeN m b).1
  · refine (c_pos h1).trans ?_
    rw [decide_eq_true h1]
    rfl
  · refine (c_neg h1).trans ?_
    rw [decide_eq_false h1]
    by_cases h2 : (rangeN m a).1 = (rangeN m b).1
    · refine (c_pos h2).trans ?_
      rw [decide_eq_true h2]
      rfl
    · refine (c_neg h2).trans ?_
      rw [decide_eq_false h2]
      rfl

theorem sort_p1 (h : MatB n m) {placed : List (Int × Bool)} {out : List Int} (hp : ∀ i : Int, mGet (.int .i64) placed i false = decide (i ∈ out)) (k1 : order_Sort_p1_K1 β) (next : Int) {i : Nat} (hi : i < n) (b : Bool) (t22 t23 t27 t28 : Int) (r : List Host) (r2 : List Sync) (r3 : List Event) (r4 : List Link) :
    order_Sort_p1 k1 m next (i : Int) b t22 t23 t27 t28 (n : Int) 0 r r2 r3 r4 placed out = k1 m next (i : Int) (b && (List.range n).all fun k => decide ((k : Int) ∈ out) || !bef m k i) t22 t23 t27 t28 r r2 r3 r4 placed out := by
  have hs := h.small
  have key := range_fold' n (fun _ _ => True) (fun f j (s : Bool) => order_Sort_p1_n f k1 m next (i : Int) s t22 t23 t27 t28 (n : Int) j r r2 r3 r4 placed out)
    (fun s k => s && (decide ((k : Int) ∈ out) || !bef m k i)) (fun s => k1 m next (i : Int) s t22 t23 t27 t28 r r2 r3 r4 placed out) b fuel (lt_fuel (by omega)) trivial (fun _ _ _ _ => trivial)
    (fun f j s hj _ => by
      have e1 : IntKind.i64.wrap ((j : Int) + 1) = j + 1 := i64_in _ (by omega)
      rw [order_Sort_p1_step]
      unfold order_Sort_p1_s
      simp only [e1]
      refine (c_pos (by omega)).trans ?_
      cases s with
      | false => rfl
      | true =>
        refine c_t.trans ?_
        have hg := hp (j : Int)
        rw [hg]
        by_cases hm : (j : Int) ∈ out
        · refine (c_pos hm).trans ?_
          rw [decide_eq_true hm]
          rfl
        · refine (c_neg hm).trans ?_
          refine (before_eq h hj hi _).trans ?_
          rw [decide_eq_false hm]
          rfl)
    (fun f s _ => by
      rw [order_Sort_p1_step]
      unfold order_Sort_p1_s
      exact c_neg (by omega))
  unfold order_Sort_p1
  rw [key]
  congr 1
  have : ∀ (l : List Nat) (p : Nat → Bool) (b : Bool), l.foldl (fun s k => s && p k) b = (b && l.all p) := by
    intro l p
    induction l with
    | nil => intro b; simp
    | cons x l ih => intro b; simp only [List.foldl_cons, List.all_cons]; rw [ih, Bool.and_assoc]
  exact this _ _ _

/-- Either nothing is picked yet, or something free. -/
def Picked (n : Nat) (m : Mat) (out : List Int) (next : Int) : Prop := next = -1 ∨ (0 ≤ next ∧ next < n ∧ freeN n m out next.toNat = true)

theorem pick_ok {out : List Int} {next : Int} (hp : Picked n m out next) {i : Nat} (hi : i < n) : Picked n m out (pickN n m out next i) := by
  unfold pickN
  split
  · rename_i h
    rw [Bool.and_eq_true] at h
    exact .inr ⟨by omega, by omega, by rw [Int.toNat_natCast]; exact h.1⟩
  · exact hp

theorem sort_p2 (h : MatB n m) {placed : List (Int × Bool)} {out : List Int} (hp : ∀ i : Int, mGet (.int .i64) placed i false = decide (i ∈ out)) (k1 : order_Sort_p2_K1 β) (t22 t23 : Int) (r : List Host) (r2 : List Sync) (r3 : List Event) (hr : r3.length = n) (r4 : List Link) :
    order_Sort_p2 k1 m (-1) t22 t23 (n : Int) 0 r r2 r3 r4 placed out = k1 m (nextN n m out) t22 t23 r r2 r3 r4 placed out := by
  have hs := h.small
  have key := range_fold' n (fun _ s => Picked n m out s) (fun f j (s : Int) => order_Sort_p2_n f k1 m s t22 t23 (n : Int) j r r2 r3 r4 placed out)
    (pickN n m out) (fun s => k1 m s t22 t23 r r2 r3 r4 placed out) (-1) fuel (lt_fuel (by omega)) (.inl rfl) (fun i s hi hs => pick_ok hs hi)
    (fun f j s hj hs' => by
      have e1 : IntKind.i64.wrap ((j : Int) + 1) = j + 1 := i64_in _ (by omega)
      rw [order_Sort_p2_step]
      unfold order_Sort_p2_s
      refine (c_pos (by omega)).trans ?_
      have hg := hp (j : Int)
      rw [hg, hr]
      refine (sort_p1 h hp _ _ hj _ _ _ _ _ _ _ _ _).trans ?_
      have hf : (!decide ((j : Int) ∈ out) && (List.range n).all fun k => decide ((k : Int) ∈ out) || !bef m k j) = freeN n m out j := rfl
      rw [hf]
      unfold pickN
      simp only [e1]
      cases freeN n m out j with
      | false => rfl
      | true =>
        refine c_t.trans ?_
        by_cases hn : s < 0
        · refine (c_pos hn).trans ?_
          rw [decide_eq_true hn]
          rfl
        · refine (c_neg hn).trans ?_
          rw [decide_eq_false hn]
          have hb : s = ((s.toNat : Nat) : Int) := by omega
          have hlt : s.toNat < n := by
            rcases hs' with h0 | h0
            · omega
            · omega
          have he := earlier_eq (β := β) h hj hlt
          rw [← hb] at he
          refine (he _).trans ?_
          cases earlyN m j s.toNat <;> rfl)
    (fun f s _ => by
      rw [order_Sort_p2_step]
      unfold order_Sort_p2_s
      exact c_neg (by omega))
  unfold order_Sort_p2
  rw [key]
  rfl

theorem sort_p3 (h : MatB n m) (k1 : order_Sort_p3_K1 β) (r : List Host) (r2 : List Sync) (r3 : List Event) (hr : r3.length = n) (r4 : List Link) : ∀ (c i f : Nat) (placed : List (Int × Bool)) (out : List Int), i + c = n → c < f → out.length + c ≤ 1000 →
    (∀ i : Int, mGet (.int .i64) placed i false = decide (i ∈ out)) → order_Sort_p3_n f k1 m (n : Int) (i : Int) r r2 r3 r4 placed out = k1 (sortN n m c out)
  | 0, i, f + 1, placed, out, hi, hf, ho, hp => by
    rw [order_Sort_p3_step]
    unfold order_Sort_p3_s
    exact c_neg (by omega)
  | c + 1, i, f + 1, placed, out, hi, hf, ho, hp => by
    have hs := h.small
    have e1 : IntKind.i64.wrap ((i : Int) + 1) = ((i + 1 : Nat) : Int) := i64_in _ (by omega)
    rw [order_Sort_p3_step]
    unfold order_Sort_p3_s
    refine (c_pos (by omega)).trans ?_
    rw [hr]
    refine (sort_p2 h hp _ _ _ _ _ _ hr _).trans ?_
    refine (c_room (by simp only [List.length_cons, List.length_nil]; omega)).trans ?_
    simp only [e1]
    refine sort_p3 h k1 r r2 r3 hr r4 c (i + 1) f _ _ (by omega) (by omega) (by simp only [List.length_append, List.length_cons, List.length_nil]; omega) (fun j => ?_)
    rw [mGet_mPut, hp]
    by_cases hj : nextN n m out = j
    · rw [if_pos hj]
      simp [hj]
    · have hj' : ¬ j = nextN n m out := fun h => hj h.symm
      rw [if_neg hj]
      simp [hj']
  | _, _, 0, _, _, _, hf, _, _ => absurd hf (by omega)

theorem Sort_eq {r : Rec} (he : closedW r = some m) (h : MatB (nE r) m) (k : Bool → List Int → Option β) : order_Sort r k = k true (sortN (nE r) m (nE r) []) := by
  have hs := h.small
  unfold order_Sort order_Sort_s
  refine (closed_eq hs _).trans ?_
  rw [he]
  simp only [Bool.not_true, cond_false]
  unfold order_Sort_p3
  exact sort_p3 h _ _ _ _ rfl _ (nE r) 0 fuel [] [] (by omega) (lt_fuel (by omega)) (by simp; omega) (fun i => by simp [mGet])
end

/-! ### What is allowed -/
theorem allows_iff {n : Nat} {m : Mat} {l : List Int} : allowsW n m l = true ↔ l.length = n ∧ (∀ i, i < n → 0 ≤ l.getD i 0 ∧ l.getD i 0 < n) ∧
    ∀ k i, k < i → i < n → l.getD i 0 ≠ l.getD k 0 ∧ bef m (l.getD i 0).toNat (l.getD k 0).toNat = false := by
  unfold allowsW
  rw [Bool.and_eq_true, decide_eq_true_iff, List.all_eq_true]
  simp only [List.mem_range]
  have hg : ∀ (i k : Nat), k < i → i < n → l.length = n → (l.take i).getD k 0 = l.getD k 0 := by
    intro i k h1 h2 h3
    simp [List.getD, h1]
  constructor
  · rintro ⟨h0, h⟩
    refine ⟨h0, fun i hi => ?_, fun k i hk hi => ?_⟩
    · have := h i hi
      unfold placeOk at this
      rw [Bool.and_eq_true, Bool.and_eq_true] at this
      have := inN_iff.1 this.1.1
      omega
    · have := h i hi
      unfold placeOk at this
      rw [Bool.and_eq_true, Bool.and_eq_true] at this
      obtain ⟨⟨_, h1⟩, h2⟩ := this
      have hm : l.getD k 0 ∈ l.take i := by
        rw [← hg i k hk hi h0]
        exact getD_mem (by rw [List.length_take]; omega)
      rw [Bool.not_eq_true', List.any_eq_false] at h1 h2
      have a1 := h1 _ hm
      have a2 := h2 _ hm
      simp only [decide_eq_true_eq] at a1
      exact ⟨a1, by simpa using a2⟩
  · rintro ⟨h0, h1, h2⟩
    refine ⟨h0, fun i hi => ?_⟩
    have ex : ∀ y ∈ l.take i, ∃ k, k < i ∧ y = l.getD k 0 := by
      intro y hy
      obtain ⟨k, hk, rfl⟩ := List.getElem_of_mem hy
      have hk' : k < i := by rw [List.length_take] at hk; omega
      refine ⟨k, hk', ?_⟩
      rw [← hg i k hk' hi h0]
      simp only [List.getD, List.getElem?_eq_getElem hk, Option.getD_some]
    unfold placeOk
    rw [Bool.and_eq_true, Bool.and_eq_true, Bool.not_eq_true', Bool.not_eq_true', List.any_eq_false, List.any_eq_false]
    have := h1 i hi
    refine ⟨⟨inN_mk (by omega), fun y hy => ?_⟩, fun y hy => ?_⟩
    · obtain ⟨k, hk, rfl⟩ := ex y hy
      simp only [decide_eq_true_eq]
      exact (h2 k i hk hi).1
    · obtain ⟨k, hk, rfl⟩ := ex y hy
      rw [(h2 k i hk hi).2]
      simp

theorem length_le_of_subset : ∀ (l l' : List Int), l.Nodup → (∀ x ∈ l, x ∈ l') → l.length ≤ l'.length
  | [], _, _, _ => by simp
  | x :: l, l', hn, h => by
    rw [List.nodup_cons] at hn
    have hx := h x (by simp)
    have h1 := length_le_of_subset l (l'.erase x) hn.2 (fun y hy => by
      have hne : y ≠ x := fun e => hn.1 (e ▸ hy)
      exact (List.mem_erase_of_ne hne).2 (h y (by simp [hy])))
    rw [List.length_erase_of_mem hx] at h1
    have : 0 < l'.length := List.length_pos_of_mem hx
    simp only [List.length_cons]
    omega

/-- A number that is not in a short list. -/
theorem exists_out {n : Nat} {out : List Int} (h : out.length < n) : ∃ i : Nat, i < n ∧ (i : Int) ∉ out := by
  refine Classical.byContradiction fun hc => ?_
  have h1 := length_le_of_subset ((List.range n).map fun (i : Nat) => (i : Int)) out ?_ (fun x hx => ?_)
  · simp at h1
    omega
  · exact List.pairwise_map.2 (List.nodup_range.imp (fun h e => h (by omega)))
  · simp only [List.mem_map, List.mem_range] at hx
    obtain ⟨i, hi, rfl⟩ := hx
    exact Classical.byContradiction fun hx => hc ⟨i, hi, hx⟩

/-- The first of the unplaced by some numbers. -/
theorem exists_min {n : Nat} {out : List Int} (x : Nat → Int) (h : out.length < n) : ∃ i : Nat, i < n ∧ (i : Int) ∉ out ∧ ∀ k : Nat, k < n → (k : Int) ∉ out → x i ≤ x k := by
  have key : ∀ c, (∃ i : Nat, i < c ∧ (i : Int) ∉ out) → ∃ i : Nat, i < c ∧ (i : Int) ∉ out ∧ ∀ k : Nat, k < c → (k : Int) ∉ out → x i ≤ x k := by
    intro c
    induction c with
    | zero => rintro ⟨i, hi, _⟩; omega
    | succ c ih =>
      rintro ⟨i, hi, ho⟩
      by_cases hc : ∃ i : Nat, i < c ∧ (i : Int) ∉ out
      · obtain ⟨j, h1, h2, h3⟩ := ih hc
        by_cases hcc : (c : Int) ∈ out
        · refine ⟨j, by omega, h2, fun k hk hko => ?_⟩
          by_cases e : k = c
          · subst e; exact absurd hcc hko
          · exact h3 k (by omega) hko
        · by_cases hx : x j ≤ x c
          · refine ⟨j, by omega, h2, fun k hk hko => ?_⟩
            by_cases e : k = c
            · subst e; exact hx
            · exact h3 k (by omega) hko
          · refine ⟨c, by omega, hcc, fun k hk hko => ?_⟩
            by_cases e : k = c
            · subst e; omega
            · have := h3 k (by omega) hko; omega
      · have e : i = c := by
          refine Classical.byContradiction fun hne => hc ⟨i, by omega, ho⟩
        subst e
        refine ⟨i, by omega, ho, fun k hk hko => ?_⟩
        by_cases e : k = i
        · subst e; omega
        · exact absurd ⟨k, by omega, hko⟩ hc
  exact key n (exists_out h)

theorem fold_picked {n : Nat} {m : Mat} {out : List Int} : ∀ (l : List Nat) (s : Int), (∀ i ∈ l, i < n) → Picked n m out s → Picked n m out (l.foldl (pickN n m out) s) ∧ ((0 ≤ s ∨ ∃ i ∈ l, freeN n m out i = true) → 0 ≤ l.foldl (pickN n m out) s)
  | [], s, _, hs => ⟨hs, fun h => by
    rcases h with h | ⟨i, hi, _⟩
    · exact h
    · cases hi⟩
  | x :: l, s, hl, hs => by
    have hx : x < n := hl x (by simp)
    have ih := fold_picked l (pickN n m out s x) (fun i hi => hl i (by simp [hi])) (pick_ok hs hx)
    refine ⟨ih.1, fun h => ih.2 ?_⟩
    by_cases hp : 0 ≤ pickN n m out s x
    · exact .inl hp
    · have hneg : s < 0 := by
        unfold pickN at hp
        split at hp <;> omega
      have hfx : freeN n m out x = false := by
        cases hf : freeN n m out x with
        | false => rfl
        | true =>
          unfold pickN at hp
          rw [hf, decide_eq_true hneg] at hp
          simp at hp
      rcases h with h | ⟨i, hi, hf⟩
      · omega
      · rcases List.mem_cons.1 hi with rfl | hi
        · rw [hfx] at hf; cases hf
        · exact .inr ⟨i, hi, hf⟩

/-- What Sort has placed. -/
structure Placed (n : Nat) (m : Mat) (out : List Int) : Prop where
  range : ∀ i, i < out.length → 0 ≤ out.getD i 0 ∧ out.getD i 0 < n
  pairs : ∀ k i, k < i → i < out.length → out.getD i 0 ≠ out.getD k 0 ∧ bef m (out.getD i 0).toNat (out.getD k 0).toNat = false
  rest : ∀ y ∈ out, ∀ k : Nat, k < n → (k : Int) ∉ out → bef m k y.toNat = false

theorem ClosedR.next {r : Rec} {m : Mat} (hm : ClosedR r m) {out : List Int} (hl : out.length < nE r) : 0 ≤ nextN (nE r) m out ∧ nextN (nE r) m out < nE r ∧ freeN (nE r) m out (nextN (nE r) m out).toNat = true := by
  obtain ⟨i, hi, ho, hmin⟩ := exists_min (fun i => at2 m 0 (i + 1)) hl
  have hf : freeN (nE r) m out i = true := by
    unfold freeN
    rw [decide_eq_false ho, Bool.not_false, Bool.true_and, List.all_eq_true]
    intro k hk
    have hk := List.mem_range.1 hk
    by_cases hko : (k : Int) ∈ out
    · rw [decide_eq_true hko]; rfl
    · cases hb : Go.Lift.bef m k i with
      | false => simp
      | true =>
        have h1 := (hm.bef hk hi).1 hb _ (hm.row (i := 0) (by omega))
        have h2 := hmin k hk hko
        omega
  have h := fold_picked (m := m) (out := out) (List.range (nE r)) (-1) (fun i hi => List.mem_range.1 hi) (.inl rfl)
  have h0 := h.2 (.inr ⟨i, List.mem_range.2 hi, hf⟩)
  unfold nextN
  rcases h.1 with h1 | ⟨h1, h2, h3⟩
  · rw [h1] at h0; omega
  · exact ⟨h1, h2, h3⟩

theorem getD_snoc {l : List Int} {x : Int} {i : Nat} : (l ++ [x]).getD i 0 = if i < l.length then l.getD i 0 else if i = l.length then x else 0 := by
  by_cases h : i < l.length
  · rw [if_pos h, getD_append h]
  · rw [if_neg h]
    by_cases e : i = l.length
    · rw [if_pos e, e, getD_last]
    · rw [if_neg e]
      simp [List.getD, List.getElem?_append, h, show ¬ i - l.length = 0 by omega]

theorem Placed.snoc {n : Nat} {m : Mat} {out : List Int} (h : Placed n m out) {x : Int} (h0 : 0 ≤ x ∧ x < n) (hf : freeN n m out x.toNat = true) : Placed n m (out ++ [x]) := by
  unfold freeN at hf
  rw [Bool.and_eq_true, Bool.not_eq_true', decide_eq_false_iff_not, List.all_eq_true] at hf
  obtain ⟨hx, hf⟩ := hf
  have ex : ((x.toNat : Nat) : Int) = x := by omega
  rw [ex] at hx
  have hlen : (out ++ [x]).length = out.length + 1 := by simp
  refine ⟨fun i hi => ?_, fun k i hk hi => ?_, fun y hy k hk hko => ?_⟩
  · rw [getD_snoc]
    split
    · exact h.range i (by assumption)
    · rw [if_pos (by omega)]
      exact h0
  · rw [getD_snoc, getD_snoc, if_pos (show k < out.length by omega)]
    by_cases hi' : i < out.length
    · rw [if_pos hi']
      exact h.pairs k i hk hi'
    · rw [if_neg hi', if_pos (show i = out.length by omega)]
      have hm : out.getD k 0 ∈ out := getD_mem (by omega)
      refine ⟨fun e => hx (e ▸ hm), ?_⟩
      exact h.rest _ hm x.toNat (by omega) (by rw [ex]; exact hx)
  · rw [List.mem_append, not_or] at hko
    rcases List.mem_append.1 hy with hy | hy
    · exact h.rest y hy k hk hko.1
    · simp only [List.mem_cons, List.not_mem_nil, or_false] at hy
      subst hy
      have := hf k (List.mem_range.2 hk)
      rw [decide_eq_false hko.1, Bool.false_or, Bool.not_eq_true'] at this
      exact this

theorem ClosedR.sorted {r : Rec} {m : Mat} (hm : ClosedR r m) : ∀ (c : Nat) (out : List Int), out.length + c = nE r → Placed (nE r) m out → (sortN (nE r) m c out).length = nE r ∧ Placed (nE r) m (sortN (nE r) m c out)
  | 0, out, hl, hp => ⟨by show out.length = _; omega, hp⟩
  | c + 1, out, hl, hp => by
    obtain ⟨h1, h2, h3⟩ := hm.next (out := out) (by omega)
    exact hm.sorted c _ (by simp only [List.length_append, List.length_cons, List.length_nil]; omega) (hp.snoc ⟨h1, h2⟩ h3)

theorem ClosedR.sort_allowed {r : Rec} {m : Mat} (hm : ClosedR r m) : allowsW (nE r) m (sortN (nE r) m (nE r) []) = true := by
  obtain ⟨h1, h2⟩ := hm.sorted (nE r) [] (by simp) ⟨by simp, by simp, by simp⟩
  rw [allows_iff]
  exact ⟨h1, fun i hi => h2.range i (by omega), fun k i hk hi => h2.pairs k i hk (by omega)⟩
end
end Go.Lift
