/- Plain lemmas about functional forms: tests that are known, loops. -/
import Derived.Test.YtamnjokpncjbfaaLiftW
namespace Go.Lift
open Go.RowKit Go.IntWalk

section
variable {β : Type}
/-! ### Tests -/
theorem c_inb {i n : Int} {a b : Option β} (h : 0 ≤ i ∧ i < n) : cond (decide (0 ≤ i) && decide (i < n)) a b = a := by
  rw [decide_eq_true h.1, decide_eq_true h.2]; rfl
theorem c_room {n : Nat} {a b : Option β} (h : n ≤ 140737488355328) : cond (decide (n ≤ roomMax)) a b = a := by
  rw [decide_eq_true (p := n ≤ roomMax) h]; rfl
theorem c_pos {p : Prop} [Decidable p] {a b : Option β} (h : p) : cond (decide p) a b = a := by rw [decide_eq_true h]; rfl
theorem c_neg {p : Prop} [Decidable p] {a b : Option β} (h : ¬ p) : cond (decide p) a b = b := by rw [decide_eq_false h]; rfl
theorem c_npos {p : Prop} [Decidable p] {a b : Option β} (h : p) : cond (!decide p) a b = b := by rw [decide_eq_true h]; rfl
theorem c_nneg {p : Prop} [Decidable p] {a b : Option β} (h : ¬ p) : cond (!decide p) a b = a := by rw [decide_eq_false h]; rfl
theorem c_t {a b : Option β} : cond true a b = a := rfl
theorem c_f {a b : Option β} : cond false a b = b := rfl
theorem c_not {p : Bool} {a b : Option β} : cond (!p) a b = cond p b a := by cases p <;> rfl
theorem c_and {p q : Bool} {a b : Option β} : cond p (cond q a b) b = cond (p && q) a b := by cases p <;> rfl
theorem c_or {p q : Bool} {a b : Option β} : cond p a (cond q a b) = cond (p || q) a b := by cases p <;> rfl
theorem c_andn {p q : Bool} {a b : Option β} : cond p (cond q b a) b = cond (p && !q) a b := by cases p <;> cases q <;> rfl
theorem c_nand {p q : Bool} {a b : Option β} : cond p b (cond q a b) = cond (!p && q) a b := by cases p <;> rfl
theorem c_same {p : Bool} {a : Option β} : cond p a a = a := by cases p <;> rfl
theorem c_k {γ : Type} (k : γ → Option β) (p : Bool) (x y : γ) : cond p (k x) (k y) = k (cond p x y) := by cases p <;> rfl
theorem c_kb (k : Bool → Option β) (p q : Bool) : cond p (k q) (k false) = k (p && q) := by cases p <;> rfl
theorem pair_eta {γ δ : Type} (p : γ × δ) : (p.1, p.2) = p := rfl
theorem k_eq {γ : Type} {k : γ → Option β} {x y : γ} (h : x = y) : k x = k y := by rw [h]

/-! ### Loops over the numbers from 0 on -/
/-- A walk over a list that may end early. -/
def walk {α σ ε : Type} (g : Nat → α → σ → ε ⊕ σ) : List α → Nat → σ → ε ⊕ σ
  | [], _, s => .inr s
  | x :: r, j, s =>
    match g j x s with
    | .inl e => .inl e
    | .inr s' => walk g r (j + 1) s'

def sumK {ε σ : Type} (E : ε → Option β) (K : σ → Option β) : ε ⊕ σ → Option β
  | .inl e => E e
  | .inr s => K s

theorem walk_loop {α σ ε : Type} (F : Nat → Int → σ → Option β) (g : Nat → α → σ → ε ⊕ σ) (E : ε → Option β) (K : σ → Option β) (d : α) (xs : List α)
    (h1 : ∀ (m i : Nat) s, i < xs.length → F (m + 1) (i : Int) s = sumK E (fun s' => F m ((i : Int) + 1) s') (g i (xs.getD i d) s))
    (h2 : ∀ (m : Nat) s, F (m + 1) (xs.length : Int) s = K s) :
    ∀ (r : List α) (j fuel : Nat) (s : σ), xs.drop j = r → j + r.length = xs.length → r.length < fuel → F fuel (j : Int) s = sumK E K (walk g r j s)
  | r, j, 0, s, _, _, h => absurd h (Nat.not_lt_zero _)
  | [], j, m + 1, s, hd, hj, _ => by
    simp only [List.length_nil, Nat.add_zero] at hj
    subst hj
    rw [h2]; rfl
  | x :: r, j, m + 1, s, hd, hj, hm => by
    simp only [List.length_cons] at hj hm
    have h3 : j < xs.length := by omega
    have hx : xs.getD j d = x := by
      rw [List.drop_eq_getElem_cons h3] at hd
      injection hd with hd1 hd2
      simp [List.getD, h3, hd1]
    have hr : xs.drop (j + 1) = r := by
      rw [List.drop_eq_getElem_cons h3] at hd
      injection hd with hd1 hd2
    rw [h1 m j s h3, hx, walk]
    cases hg : g j x s with
    | inl e => rfl
    | inr s' =>
      simp only [sumK]
      exact walk_loop F g E K d xs h1 h2 r (j + 1) m s' hr (by omega) (by omega)

theorem walk_loop0 {α σ ε : Type} (F : Nat → Int → σ → Option β) (g : Nat → α → σ → ε ⊕ σ) (E : ε → Option β) (K : σ → Option β) (d : α) (xs : List α) (s : σ) (n : Nat) (hn : xs.length < n)
    (h1 : ∀ (m i : Nat) s, i < xs.length → F (m + 1) (i : Int) s = sumK E (fun s' => F m ((i : Int) + 1) s') (g i (xs.getD i d) s))
    (h2 : ∀ (m : Nat) s, F (m + 1) (xs.length : Int) s = K s) : F n 0 s = sumK E K (walk g xs 0 s) :=
  walk_loop F g E K d xs h1 h2 xs 0 n s rfl (by simp) hn

/-- A loop that only looks: every element, or out. -/
theorem check_loop {α : Type} (F : Nat → Int → Option β) (p : α → Bool) (E K : Option β) (d : α) (xs : List α) (n : Nat) (hn : xs.length < n)
    (h1 : ∀ (m i : Nat), i < xs.length → F (m + 1) (i : Int) = cond (p (xs.getD i d)) (F m ((i : Int) + 1)) E)
    (h2 : ∀ (m : Nat), F (m + 1) (xs.length : Int) = K) : F n 0 = cond (xs.all p) K E := by
  have h := walk_loop0 (ε := Unit) (fun m i (_ : Unit) => F m i) (fun _ x s => cond (p x) (.inr s) (.inl ())) (fun _ => E) (fun _ => K) d xs () n hn
    (fun m i s hi => by rw [h1 m i hi]; cases p (xs.getD i d) <;> rfl) (fun m s => h2 m)
  rw [h]
  have key : ∀ (l : List α) (j : Nat), sumK (fun _ => E) (fun _ => K) (walk (ε := Unit) (fun _ x (s : Unit) => cond (p x) (.inr s) (.inl ())) l j ()) = cond (l.all p) K E := by
    intro l
    induction l with
    | nil => intro j; rfl
    | cons x l ih =>
      intro j
      simp only [walk, List.all_cons]
      cases p x with
      | true => simpa using ih (j + 1)
      | false => rfl
  exact key xs 0

/-- A loop that goes through all elements. -/
theorem fold_loop {α σ : Type} (F : Nat → Int → σ → Option β) (g : σ → α → σ) (K : σ → Option β) (d : α) (xs : List α) (s : σ) (n : Nat) (hn : xs.length < n)
    (h1 : ∀ (m i : Nat) s, i < xs.length → F (m + 1) (i : Int) s = F m ((i : Int) + 1) (g s (xs.getD i d)))
    (h2 : ∀ (m : Nat) s, F (m + 1) (xs.length : Int) s = K s) : F n 0 s = K (xs.foldl g s) := by
  have h := walk_loop0 (ε := Empty) F (fun _ x s => .inr (g s x)) (fun e => e.elim) K d xs s n hn (fun m i s hi => h1 m i s hi) h2
  rw [h]
  have key : ∀ (l : List α) (j : Nat) (s : σ), sumK (fun e : Empty => e.elim) K (walk (fun _ x s => .inr (g s x)) l j s) = K (l.foldl g s) := by
    intro l
    induction l with
    | nil => intro j s; rfl
    | cons x l ih => intro j s; exact ih (j + 1) (g s x)
  exact key xs 0 s

/-- A loop that goes through all elements, with an invariant. -/
theorem fold_loopI {α σ : Type} (I : Nat → σ → Prop) (F : Nat → Int → σ → Option β) (g : σ → α → σ) (K : σ → Option β) (d : α) (xs : List α) (s : σ) (n : Nat) (hn : xs.length < n) (h0 : I 0 s)
    (hI : ∀ (i : Nat) s, i < xs.length → I i s → I (i + 1) (g s (xs.getD i d)))
    (h1 : ∀ (m i : Nat) s, i < xs.length → I i s → F (m + 1) (i : Int) s = F m ((i : Int) + 1) (g s (xs.getD i d)))
    (h2 : ∀ (m : Nat) s, I xs.length s → F (m + 1) (xs.length : Int) s = K s) : F n 0 s = K (xs.foldl g s) := by
  have key : ∀ (r : List α) (j fuel : Nat) (s : σ), xs.drop j = r → j + r.length = xs.length → r.length < fuel → I j s → F fuel (j : Int) s = K (r.foldl g s) := by
    intro r
    induction r with
    | nil =>
      intro j fuel s hd hj hf hs
      obtain ⟨m, rfl⟩ : ∃ m, fuel = m + 1 := ⟨fuel - 1, by omega⟩
      simp only [List.length_nil, Nat.add_zero] at hj
      subst hj
      exact h2 m s hs
    | cons x r ih =>
      intro j fuel s hd hj hf hs
      obtain ⟨m, rfl⟩ : ∃ m, fuel = m + 1 := ⟨fuel - 1, by omega⟩
      simp only [List.length_cons] at hj hf
      have h3 : j < xs.length := by omega
      have hx : xs.getD j d = x := by
        rw [List.drop_eq_getElem_cons h3] at hd
        injection hd with hd1 hd2
        simp [List.getD, h3, hd1]
      have hr : xs.drop (j + 1) = r := by
        rw [List.drop_eq_getElem_cons h3] at hd
        injection hd with hd1 hd2
      rw [h1 m j s h3 hs, hx]
      have := hI j s h3 hs
      rw [hx] at this
      exact ih (j + 1) m (g s x) hr (by omega) (by omega) this
  exact key xs 0 n s rfl (by simp) hn h0

/-- A loop with an invariant, that counts up to n. -/
theorem count_loop {σ ρ : Type} {Kt : Type → Type} (F : {β : Type} → Kt β → Nat → Int → σ → Option β) (X : {β : Type} → Kt β → ρ → Option β) (n : Nat) (I : Nat → σ → Prop) (Q : ρ → Prop)
    (step : ∀ i s, i < n → I i s → (∃ s', I (i + 1) s' ∧ ∀ {β : Type} (k : Kt β) m, F k (m + 1) (i : Int) s = F k m ((i : Int) + 1) s') ∨ (∃ r, Q r ∧ ∀ {β : Type} (k : Kt β) m, F k (m + 1) (i : Int) s = X k r))
    (last : ∀ s, I n s → ∃ r, Q r ∧ ∀ {β : Type} (k : Kt β) m, F k (m + 1) (n : Int) s = X k r) (N : Nat) (hN : n < N) (s : σ) (h0 : I 0 s) :
    ∃ r, Q r ∧ ∀ {β : Type} (k : Kt β), F k N 0 s = X k r := by
  have key : ∀ (j i : Nat) (s : σ) (N : Nat), i + j = n → j < N → I i s → ∃ r, Q r ∧ ∀ {β : Type} (k : Kt β), F k N (i : Int) s = X k r := by
    intro j
    induction j with
    | zero =>
      intro i s N hi hN h
      obtain ⟨N, rfl⟩ : ∃ N', N = N' + 1 := ⟨N - 1, by omega⟩
      have : i = n := by omega
      subst this
      obtain ⟨r, h1, h2⟩ := last s h
      exact ⟨r, h1, fun k => h2 k N⟩
    | succ j ih =>
      intro i s N hi hN h
      obtain ⟨N, rfl⟩ : ∃ N', N = N' + 1 := ⟨N - 1, by omega⟩
      rcases step i s (by omega) h with ⟨s', h1, h2⟩ | ⟨r, h1, h2⟩
      · obtain ⟨r, h3, h4⟩ := ih (i + 1) s' N (by omega) (by omega) h1
        exact ⟨r, h3, fun k => (h2 k N).trans (h4 k)⟩
      · exact ⟨r, h1, fun k => h2 k N⟩
  exact key n 0 s N (by omega) hN h0

/-- A loop with an invariant and a measure. -/
theorem while_loop {σ ρ : Type} {Kt : Type → Type} (F : {β : Type} → Kt β → Nat → σ → Option β) (X : {β : Type} → Kt β → ρ → Option β) (I : σ → Prop) (μ : σ → Nat) (Q : ρ → Prop)
    (step : ∀ s, I s → (∃ s', I s' ∧ μ s' < μ s ∧ ∀ {β : Type} (k : Kt β) m, F k (m + 1) s = F k m s') ∨ (∃ r, Q r ∧ ∀ {β : Type} (k : Kt β) m, F k (m + 1) s = X k r)) :
    ∀ (N : Nat) (s : σ), I s → μ s < N → ∃ r, Q r ∧ ∀ {β : Type} (k : Kt β), F k N s = X k r := by
  intro N
  induction N with
  | zero => intro s _ h; omega
  | succ N ih =>
    intro s hI hN
    rcases step s hI with ⟨s', h1, h2, h3⟩ | ⟨r, h1, h2⟩
    · obtain ⟨r, h4, h5⟩ := ih s' h1 (by omega)
      exact ⟨r, h4, fun k => (h3 k N).trans (h5 k)⟩
    · exact ⟨r, h1, fun k => h2 k N⟩
end
end Go.Lift
