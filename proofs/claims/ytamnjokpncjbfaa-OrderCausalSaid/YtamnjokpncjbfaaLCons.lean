/- The constraints of a record, and what their solutions are. -/
import Derived.Test.YtamnjokpncjbfaaFn2
import Derived.Test.YtamnjokpncjbfaaLBase
import Derived.Test.YtamnjokpncjbfaaLMat
import Derived.Test.YtamnjokpncjbfaaLClock
import Derived.Test.YtamnjokpncjbfaaLDice
import Derived.Test.YtamnjokpncjbfaaLRecord
import Derived.Test.YtamnjokpncjbfaaLWhen
import Derived.Test.YtamnjokpncjbfaaLClose
import Derived.Test.YtamnjokpncjbfaaLValid
import Derived.Test.YtamnjokpncjbfaaLDirect
import Derived.Test.YtamnjokpncjbfaaLClosure
import Derived.Test.YtamnjokpncjbfaaLClosure2
import Derived.Test.YtamnjokpncjbfaaLClosure3
namespace Go.Lift
open Go.RowKit Go.IntWalk
noncomputable section
set_option linter.unusedVariables false
set_option linter.unusedSimpArgs false
set_option maxRecDepth 10000

theorem foldl_flat {α γ : Type} (f : α → List γ) : ∀ (l : List α) (s : List γ), l.foldl (fun s x => s ++ f x) s = s ++ l.flatMap f
  | [], s => by simp
  | x :: l, s => by
    simp only [List.foldl_cons, List.flatMap_cons]
    rw [foldl_flat f l, List.append_assoc]

/-- A loop with a test at each element: out, or on. -/
theorem fold_check {β α σ : Type} (I : Nat → σ → Prop) (F : Nat → Int → σ → Option β) (p : α → Bool) (g : σ → α → σ) (E : Option β) (K : σ → Option β) (d : α) (xs : List α) (s : σ) (n : Nat) (hn : xs.length < n) (h0 : I 0 s)
    (hI : ∀ (i : Nat) s, i < xs.length → I i s → p (xs.getD i d) = true → I (i + 1) (g s (xs.getD i d)))
    (h1 : ∀ (m i : Nat) s, i < xs.length → I i s → F (m + 1) (i : Int) s = cond (p (xs.getD i d)) (F m ((i : Int) + 1) (g s (xs.getD i d))) E)
    (h2 : ∀ (m : Nat) s, I xs.length s → F (m + 1) (xs.length : Int) s = K s) : F n 0 s = cond (xs.all p) (K (xs.foldl g s)) E := by
  have key : ∀ (r : List α) (j fuel : Nat) (s : σ), xs.drop j = r → j + r.length = xs.length → r.length < fuel → I j s → F fuel (j : Int) s = cond (r.all p) (K (r.foldl g s)) E := by
    intro r
    induction r with
    | nil =>
      intro j fuel s hd hj hf hs
      obtain ⟨m, rfl⟩ : ∃ m, fuel = m + 1 := ⟨fuel - 1, by omega⟩
      simp only [List.length_nil, Nat.add_zero] at hj
      subst hj
      exact h2 m s hs
    | cons x r ih =>
      intro j fuel s hd hj hf hs
      obtain ⟨m, rfl⟩ : ∃ m, fuel = m + 1 := ⟨fuel - 1, by omega⟩
      simp only [List.length_cons] at hj hf
      have h3 : j < xs.length := by omega
      have hx : xs.getD j d = x := by
        rw [List.drop_eq_getElem_cons h3] at hd
        injection hd with hd1 hd2
        simp [List.getD, h3, hd1]
      have hr : xs.drop (j + 1) = r := by
        rw [List.drop_eq_getElem_cons h3] at hd
        injection hd with hd1 hd2
      rw [h1 m j s h3 hs, hx]
      have := hI j s h3 hs
      rw [hx] at this
      simp only [List.all_cons, List.foldl_cons]
      cases hp : p x with
      | true => simpa using ih (j + 1) m (g s x) hr (by omega) (by omega) (this hp)
      | false => rfl
  exact key xs 0 n s rfl (by simp) hn h0

/-- The same over the numbers below n. -/
theorem range_check {β σ : Type} (n : Nat) (I : Nat → σ → Prop) (F : Nat → Int → σ → Option β) (p : Nat → Bool) (g : σ → Nat → σ) (E : Option β) (K : σ → Option β) (s : σ) (N : Nat) (hn : n < N) (h0 : I 0 s)
    (hI : ∀ (i : Nat) s, i < n → I i s → p i = true → I (i + 1) (g s i))
    (h1 : ∀ (m i : Nat) s, i < n → I i s → F (m + 1) (i : Int) s = cond (p i) (F m ((i : Int) + 1) (g s i)) E)
    (h2 : ∀ (m : Nat) s, I n s → F (m + 1) (n : Int) s = K s) : F N 0 s = cond ((List.range n).all p) (K ((List.range n).foldl g s)) E := by
  have hl : (List.range n).length = n := List.length_range
  refine fold_check I F p g E K 0 (List.range n) s N (by omega) h0 (fun i s hi hs => ?_) (fun m i s hi hs => ?_) (fun m s hs => ?_)
  · rw [range_getD (by omega)]
    exact hI i s (by omega) hs
  · rw [range_getD (by omega)]
    exact h1 m i s (by omega) hs
  · rw [hl] at hs ⊢
    exact h2 m s hs

theorem range_fold' {β σ : Type} (n : Nat) (I : Nat → σ → Prop) (F : Nat → Int → σ → Option β) (g : σ → Nat → σ) (K : σ → Option β) (s : σ) (N : Nat) (hn : n < N) (h0 : I 0 s)
    (hI : ∀ (i : Nat) s, i < n → I i s → I (i + 1) (g s i))
    (h1 : ∀ (m i : Nat) s, i < n → I i s → F (m + 1) (i : Int) s = F m ((i : Int) + 1) (g s i))
    (h2 : ∀ (m : Nat) s, I n s → F (m + 1) (n : Int) s = K s) : F N 0 s = K ((List.range n).foldl g s) := by
  have h := range_check n I F (fun _ => true) g none K s N hn h0 (fun i s hi hs _ => hI i s hi hs) h1 h2
  rw [h]
  have : (List.range n).all (fun _ => true) = true := by simp
  rw [this]
  rfl

def evAt (r : Rec) (i : Nat) : Event := r.2.2.1.getD i (0, 0, [])
def whenAt (r : Rec) (i : Nat) : (Int × Int) × Bool := when? r (evAt r i).1 (evAt r i).2.1
def driftAt (r : Rec) (h : Int) : Int := (r.1.getD h.toNat ([], 0)).2
def evD (r : Rec) (i : Nat) : List Diff := [(0, ((i : Int) + 1, (whenAt r i).1.2)), ((i : Int) + 1, (0, -(whenAt r i).1.1))]
def pairD (r : Rec) (i j : Nat) : List Diff :=
  if (evAt r j).2.1 < (evAt r i).2.1 then
    [((j : Int) + 1, ((i : Int) + 1, (elapsed (driftAt r (evAt r j).1) ((evAt r i).2.1 - (evAt r j).2.1)).2)), ((i : Int) + 1, ((j : Int) + 1, -(elapsed (driftAt r (evAt r j).1) ((evAt r i).2.1 - (evAt r j).2.1)).1))]
  else
    [((i : Int) + 1, ((j : Int) + 1, (elapsed (driftAt r (evAt r i).1) ((evAt r j).2.1 - (evAt r i).2.1)).2)), ((j : Int) + 1, ((i : Int) + 1, -(elapsed (driftAt r (evAt r i).1) ((evAt r j).2.1 - (evAt r i).2.1)).1))]
def pairIf (r : Rec) (i j : Nat) : List Diff := if (evAt r j).1 = (evAt r i).1 then pairD r i j else []
def pairsI (r : Rec) (n i : Nat) : List Diff := ((List.range n).filter fun j => decide (i < j)).flatMap (pairIf r i)
def linkD (l : Link) : Diff := (l.2.1 + 1, (l.1 + 1, -l.2.2))
def nE (r : Rec) : Nat := r.2.2.1.length
def whensOk (r : Rec) : Bool := (List.range (nE r)).all fun i => (whenAt r i).2
def consL (r : Rec) : List Diff := (List.range (nE r)).flatMap (evD r) ++ (List.range (nE r)).flatMap (pairsI r (nE r)) ++ r.2.2.2.map linkD
/-- The constraints of a record. -/
def consW (r : Rec) : Option (List Diff) := if valid r && whensOk r then some (consL r) else none

/-- Times that fit a record. -/
structure SolR (r : Rec) (x : Nat → Int) : Prop where
  ev : ∀ i, i < nE r → x (i + 1) - x 0 ≤ (whenAt r i).1.2 ∧ x 0 - x (i + 1) ≤ -(whenAt r i).1.1
  pair : ∀ i j, i < nE r → j < nE r → i ≠ j → (evAt r i).1 = (evAt r j).1 → (evAt r i).2.1 ≤ (evAt r j).2.1 →
    (elapsed (driftAt r (evAt r i).1) ((evAt r j).2.1 - (evAt r i).2.1)).1 ≤ x (j + 1) - x (i + 1) ∧ x (j + 1) - x (i + 1) ≤ (elapsed (driftAt r (evAt r i).1) ((evAt r j).2.1 - (evAt r i).2.1)).2
  link : ∀ l ∈ r.2.2.2, l.2.2 ≤ x (l.2.1.toNat + 1) - x (l.1.toNat + 1)

theorem valid_parts {r : Rec} (h : valid r = true) : (∀ h ∈ r.1, 0 ≤ h.2 ∧ h.2 ≤ 500000) ∧ (∀ s ∈ r.2.1, 0 ≤ s.1 ∧ s.1 < r.1.length ∧ okSync s = true) ∧
    (∀ e ∈ r.2.2.1, 0 ≤ e.1 ∧ e.1 < r.1.length ∧ 0 ≤ e.2.1 ∧ e.2.1 ≤ 8589934592) ∧
    (∀ l ∈ r.2.2.2, 0 ≤ l.1 ∧ l.1 < nE r ∧ 0 ≤ l.2.1 ∧ l.2.1 < nE r ∧ l.1 ≠ l.2.1 ∧ 0 ≤ l.2.2 ∧ l.2.2 ≤ 8589934592) := by
  unfold valid at h
  simp only [Bool.and_eq_true, List.all_eq_true] at h
  obtain ⟨_, h1, h2, h3, h4⟩ := h
  refine ⟨fun x hx => ?_, fun x hx => ?_, fun x hx => ?_, fun x hx => ?_⟩
  · exact inN_iff.1 (h1 x hx)
  · have := h2 x hx
    simp only [vSync, Bool.and_eq_true, inN_iff] at this
    exact ⟨by omega, by omega, this.2⟩
  · have := h3 x hx
    simp only [vEvent, Bool.and_eq_true, inN_iff] at this
    omega
  · have := h4 x hx
    simp only [vLink, Bool.and_eq_true, inN_iff, Bool.not_eq_true', decide_eq_false_iff_not] at this
    unfold nE
    omega

theorem valid_ev {r : Rec} (h : valid r = true) {i : Nat} (hi : i < nE r) : 0 ≤ (evAt r i).1 ∧ (evAt r i).1 < r.1.length ∧ 0 ≤ (evAt r i).2.1 ∧ (evAt r i).2.1 ≤ 8589934592 :=
  (valid_parts h).2.2.1 _ (getD_mem hi)

theorem elapsed_zero (d : Int) : elapsed d 0 = (0, 0) := by
  unfold elapsed
  by_cases h : inN d 0 500000 = true
  · have := inN_iff.1 h
    rw [h, inN_mk (by omega)]
    simp only [Bool.and_self, cond_true]
    rw [Int.zero_mul, Int.zero_ediv]
    congr 1
    exact Int.ediv_eq_zero_of_lt (by omega) (by omega)
  · rw [Bool.eq_false_iff.2 h]
    rfl

theorem mem_pairs {r : Rec} {n : Nat} {d : Diff} : d ∈ (List.range n).flatMap (pairsI r n) ↔ ∃ i j, i < j ∧ j < n ∧ (evAt r j).1 = (evAt r i).1 ∧ d ∈ pairD r i j := by
  simp only [List.mem_flatMap, pairsI, List.mem_filter, List.mem_range, decide_eq_true_eq, pairIf]
  constructor
  · rintro ⟨i, hi, j, ⟨hj, hij⟩, hd⟩
    split at hd
    · rename_i e
      exact ⟨i, j, hij, hj, e, hd⟩
    · cases hd
  · rintro ⟨i, j, hij, hj, e, hd⟩
    exact ⟨i, by omega, j, ⟨hj, hij⟩, by rw [if_pos e]; exact hd⟩

theorem mem_cons {r : Rec} {d : Diff} : d ∈ consL r ↔ (∃ i, i < nE r ∧ d ∈ evD r i) ∨ (∃ i j, i < j ∧ j < nE r ∧ (evAt r j).1 = (evAt r i).1 ∧ d ∈ pairD r i j) ∨ ∃ l ∈ r.2.2.2, d = linkD l := by
  unfold consL
  rw [List.mem_append, List.mem_append, mem_pairs, or_assoc]
  simp only [List.mem_flatMap, List.mem_range, List.mem_map, eq_comm]

theorem pairD_sol {r : Rec} {i j : Nat} {x : Nat → Int} : (∀ d ∈ pairD r i j, x d.2.1.toNat - x d.1.toNat ≤ d.2.2) ↔
    (if (evAt r j).2.1 < (evAt r i).2.1 then
      (elapsed (driftAt r (evAt r j).1) ((evAt r i).2.1 - (evAt r j).2.1)).1 ≤ x (i + 1) - x (j + 1) ∧ x (i + 1) - x (j + 1) ≤ (elapsed (driftAt r (evAt r j).1) ((evAt r i).2.1 - (evAt r j).2.1)).2
    else (elapsed (driftAt r (evAt r i).1) ((evAt r j).2.1 - (evAt r i).2.1)).1 ≤ x (j + 1) - x (i + 1) ∧ x (j + 1) - x (i + 1) ≤ (elapsed (driftAt r (evAt r i).1) ((evAt r j).2.1 - (evAt r i).2.1)).2) := by
  have ei : ((i : Int) + 1).toNat = i + 1 := by omega
  have ej : ((j : Int) + 1).toNat = j + 1 := by omega
  unfold pairD
  split
  · simp only [List.mem_cons, List.not_mem_nil, or_false, forall_eq_or_imp, forall_eq, ei, ej]
    omega
  · simp only [List.mem_cons, List.not_mem_nil, or_false, forall_eq_or_imp, forall_eq, ei, ej]
    omega

theorem sol_cons {r : Rec} (hv : valid r = true) (x : Nat → Int) : Sol (consL r) x ↔ SolR r x := by
  have hp := valid_parts hv
  constructor
  · intro h
    refine ⟨fun i hi => ?_, fun i j hi hj hij hh hc => ?_, fun l hl => ?_⟩
    · have h1 := h (0, ((i : Int) + 1, (whenAt r i).1.2)) (mem_cons.2 (.inl ⟨i, hi, by simp [evD]⟩))
      have h2 := h ((i : Int) + 1, (0, -(whenAt r i).1.1)) (mem_cons.2 (.inl ⟨i, hi, by simp [evD]⟩))
      have e : ((i : Int) + 1).toNat = i + 1 := by omega
      simp only [e, Int.toNat_zero] at h1 h2
      exact ⟨h1, h2⟩
    · rcases Nat.lt_or_gt_of_ne hij with hl | hl
      · have := pairD_sol.1 (fun d hd => h d (mem_cons.2 (.inr (.inl ⟨i, j, hl, hj, hh.symm, hd⟩))))
        rw [if_neg (by omega)] at this
        exact this
      · have := pairD_sol.1 (fun d hd => h d (mem_cons.2 (.inr (.inl ⟨j, i, hl, hi, hh, hd⟩))))
        by_cases e : (evAt r i).2.1 = (evAt r j).2.1
        · rw [if_neg (by omega), e, Int.sub_self, elapsed_zero] at this
          rw [e, Int.sub_self, elapsed_zero]
          simp only at this ⊢
          omega
        · rw [if_pos (by omega)] at this
          exact this
    · have h1 := h (linkD l) (mem_cons.2 (.inr (.inr ⟨l, hl, rfl⟩)))
      have := hp.2.2.2 l hl
      have e1 : (l.1 + 1).toNat = l.1.toNat + 1 := by omega
      have e2 : (l.2.1 + 1).toNat = l.2.1.toNat + 1 := by omega
      simp only [linkD, e1, e2] at h1
      omega
  · intro h d hd
    rcases mem_cons.1 hd with ⟨i, hi, hd⟩ | ⟨i, j, hij, hj, hh, hd⟩ | ⟨l, hl, rfl⟩
    · have := h.ev i hi
      have e : ((i : Int) + 1).toNat = i + 1 := by omega
      simp only [evD, List.mem_cons, List.not_mem_nil, or_false] at hd
      rcases hd with rfl | rfl
      · simp only [e, Int.toNat_zero]
        exact this.1
      · simp only [e, Int.toNat_zero]
        exact this.2
    · refine pairD_sol.2 ?_ d hd
      split
      · rename_i hc
        exact h.pair j i hj (by omega) (by omega) hh (by omega)
      · rename_i hc
        exact h.pair i j (by omega) hj (by omega) hh.symm (by omega)
    · have := h.link l hl
      have hb := hp.2.2.2 l hl
      have e1 : (l.1 + 1).toNat = l.1.toNat + 1 := by omega
      have e2 : (l.2.1 + 1).toNat = l.2.1.toNat + 1 := by omega
      simp only [linkD, e1, e2]
      omega

theorem flat_len {α γ : Type} (f : α → List γ) (c : Nat) : ∀ l : List α, (∀ x ∈ l, (f x).length ≤ c) → (l.flatMap f).length ≤ l.length * c
  | [], _ => by simp
  | x :: l, h => by
    have h1 := h x (by simp)
    have h2 := flat_len f c l (fun y hy => h y (by simp [hy]))
    simp only [List.flatMap_cons, List.length_append, List.length_cons, Nat.succ_mul]
    omega

theorem cons_len {r : Rec} (hv : valid r = true) : (consL r).length ≤ 4000 := by
  have hb := valid_bd hv
  have h1 := flat_len (evD r) 2 (List.range (nE r)) (fun i _ => by simp [evD])
  have h2 : ∀ i ∈ List.range (nE r), (pairsI r (nE r) i).length ≤ 80 := fun i _ => by
    have h3 := flat_len (pairIf r i) 2 ((List.range (nE r)).filter fun j => decide (i < j)) (fun j _ => by
      unfold pairIf pairD
      split
      · split <;> simp
      · simp)
    have h4 := List.length_filter_le (fun j => decide (i < j)) (List.range (nE r))
    rw [List.length_range] at h4
    unfold pairsI nE at *
    omega
  have h3 := flat_len (pairsI r (nE r)) 80 _ h2
  unfold consL
  rw [List.length_append, List.length_append, List.length_map]
  rw [List.length_range] at h1 h3
  unfold nE at *
  omega

/-- The ranges of the readings. -/
theorem whenAt_bd {r : Rec} {i : Nat} (h : (whenAt r i).2 = true) : 0 ≤ (whenAt r i).1.1 ∧ (whenAt r i).1.1 ≤ (whenAt r i).1.2 ∧ (whenAt r i).1.2 ≤ 8589934592 := by
  unfold whenAt Go.Lift.when? at h ⊢
  cases hc : (valid r && (inN (evAt r i).1 0 ((r.1.length : Int) - 1) && inN (evAt r i).2.1 0 8589934592)) with
  | false => rw [hc] at h; cases h
  | true =>
    rw [hc] at h
    simp only [cond_true, Bool.not_eq_true', decide_eq_false_iff_not] at h ⊢
    rw [whenR_eq] at h ⊢
    have := @foldl_meet_bd (froms r.1 (evAt r i).1 (evAt r i).2.1 r.2.1) (0, 8589934592)
    simp only at this
    omega

theorem whensOk_iff {r : Rec} : whensOk r = true ↔ ∀ i, i < nE r → (whenAt r i).2 = true := by
  unfold whensOk
  rw [List.all_eq_true]
  simp only [List.mem_range]

theorem consL_ok {r : Rec} (hv : valid r = true) (hw : whensOk r = true) : (consL r).all (diffOk (nE r + 1)) = true := by
  rw [List.all_eq_true]
  intro d hd
  have hp := valid_parts hv
  unfold diffOk
  apply decide_eq_true
  rcases mem_cons.1 hd with ⟨i, hi, hd⟩ | ⟨i, j, hij, hj, hh, hd⟩ | ⟨l, hl, rfl⟩
  · have := whenAt_bd (whensOk_iff.1 hw i hi)
    simp only [evD, List.mem_cons, List.not_mem_nil, or_false] at hd
    rcases hd with rfl | rfl <;> simp only <;> omega
  · unfold pairD at hd
    split at hd <;> simp only [List.mem_cons, List.not_mem_nil, or_false] at hd
    · have := @elapsed_bd (driftAt r (evAt r j).1) ((evAt r i).2.1 - (evAt r j).2.1)
      rcases hd with rfl | rfl <;> simp only <;> omega
    · have := @elapsed_bd (driftAt r (evAt r i).1) ((evAt r j).2.1 - (evAt r i).2.1)
      rcases hd with rfl | rfl <;> simp only <;> omega
  · have := hp.2.2.2 l hl
    simp only [linkD]
    omega

theorem consL_valid {r : Rec} (hv : valid r = true) (hw : whensOk r = true) : validD (nE r + 1) (consL r) = true := by
  unfold validD
  rw [decide_eq_true (cons_len hv), consL_ok hv hw]
  rfl

/-- Every variable is bound both ways. -/
theorem cons_conn {r : Rec} (hv : valid r = true) (hw : whensOk r = true) (hn : nE r ≤ 7) : Conn (nE r + 1) (consL r) := by
  refine ⟨by omega, by omega, consL_valid hv hw, fun i h1 h2 => ?_, fun i h1 h2 => ?_⟩
  · refine ⟨(0, (((i - 1 : Nat) : Int) + 1, (whenAt r (i - 1)).1.2)), mem_cons.2 (.inl ⟨i - 1, by omega, by simp [evD]⟩), rfl, ?_⟩
    simp only
    omega
  · refine ⟨(((i - 1 : Nat) : Int) + 1, (0, -(whenAt r (i - 1)).1.1)), mem_cons.2 (.inl ⟨i - 1, by omega, by simp [evD]⟩), ?_, rfl⟩
    simp only
    omega

/-- The matrix of a record. -/
def closedW (r : Rec) : Option Mat := match consW r with | some l => closeW (nE r + 1) l | none => none

theorem CloseOk.le_iff {n : Nat} {l : List Diff} {m : Mat} (h : CloseOk n l m) {i j : Nat} (hi : i < n) (hj : j < n) (c : Int) : at2 m i j ≤ c ↔ ∀ x, Sol l x → x j - x i ≤ c := by
  constructor
  · intro hc x s
    exact Int.le_trans (h.sol x s i j hi hj) hc
  · intro hx
    have := hx _ (h.row i hi)
    have := h.zero i hi
    omega

/-- What is known of a record that has a matrix. -/
structure ClosedR (r : Rec) (m : Mat) : Prop where
  valid : valid r = true
  whens : whensOk r = true
  eq : closedW r = some m
  ok : CloseOk (nE r + 1) (consL r) m

theorem closed_some {r : Rec} (hv : Go.Lift.valid r = true) (hw : whensOk r = true) (hn : nE r ≤ 7) {x : Nat → Int} (s : SolR r x) : ∃ m, ClosedR r m := by
  obtain ⟨m, e, h⟩ := close_some (cons_conn hv hw hn) ((sol_cons hv x).2 s)
  refine ⟨m, hv, hw, ?_, h⟩
  unfold closedW consW
  rw [hv, hw]
  exact e

theorem closed_ok {r : Rec} (hn : nE r ≤ 7) {m : Mat} (e : closedW r = some m) : ClosedR r m := by
  unfold closedW consW at e
  by_cases h : (Go.Lift.valid r && whensOk r) = true
  · have e0 := e
    rw [if_pos h] at e
    rw [Bool.and_eq_true] at h
    refine ⟨h.1, h.2, ?_, close_ok (cons_conn h.1 h.2 hn) e⟩
    unfold closedW consW
    exact e0
  · rw [if_neg h] at e
    cases e

theorem ClosedR.le_iff {r : Rec} {m : Mat} (h : ClosedR r m) {i j : Nat} (hi : i < nE r + 1) (hj : j < nE r + 1) (c : Int) : at2 m i j ≤ c ↔ ∀ x, SolR r x → x j - x i ≤ c := by
  rw [h.ok.le_iff hi hj]
  exact ⟨fun g x s => g x ((sol_cons h.valid x).2 s), fun g x s => g x ((sol_cons h.valid x).1 s)⟩

theorem ClosedR.row {r : Rec} {m : Mat} (h : ClosedR r m) {i : Nat} (hi : i < nE r + 1) : SolR r (fun j => at2 m i j) := (sol_cons h.valid _).1 (h.ok.row i hi)

theorem ClosedR.sol {r : Rec} {m : Mat} (h : ClosedR r m) {x : Nat → Int} (s : SolR r x) {i j : Nat} (hi : i < nE r + 1) (hj : j < nE r + 1) : x j - x i ≤ at2 m i j :=
  (h.le_iff hi hj _).1 (Int.le_refl _) x s

/-- If no times fit, there is no matrix. -/
theorem closed_none {r : Rec} (hn : nE r ≤ 7) (h : ∀ x, ¬ SolR r x) : closedW r = none := by
  cases e : closedW r with
  | none => rfl
  | some m => exact absurd ((closed_ok hn e).row (i := 0) (by omega)) (h _)
end
end Go.Lift
