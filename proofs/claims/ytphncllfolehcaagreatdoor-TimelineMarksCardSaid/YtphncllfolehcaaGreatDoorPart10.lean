/- The constraints of a record, and what their solutions are. -/
import Derived.KernelRfl
import Derived.Test.YtphncllfolehcaaGreatDoorPart9
namespace Go.Lift
open Go.RowKit Go.IntWalk
noncomputable section
set_option linter.unusedVariables false
set_option linter.unusedSimpArgs false
set_option maxRecDepth 10000

theorem foldl_flat {α γ : Type} (f : α → List γ) : ∀ (l : List α) (s : List γ), l.foldl (fun s x => s ++ f x) s = s ++ l.flatMap f
  | [], s => by simp
  | x :: l, s => by
    simp only [List.foldl_cons, List.flatMap_cons]
    rw [foldl_flat f l, List.append_assoc]

/-- A loop with a test at each element: out, or on. -/
theorem fold_check {β α σ : Type} (I : Nat → σ → Prop) (F : Nat → Int → σ → Option β) (p : α → Bool) (g : σ → α → σ) (E : Option β) (K : σ → Option β) (d : α) (xs : List α) (s : σ) (n : Nat) (hn : xs.length < n) (h0 : I 0 s)
    (hI : ∀ (i : Nat) s, i < xs.length → I i s → p (xs.getD i d) = true → I (i + 1) (g s (xs.getD i d)))
    (h1 : ∀ (m i : Nat) s, i < xs.length → I i s → F (m + 1) (i : Int) s = cond (p (xs.getD i d)) (F m ((i : Int) + 1) (g s (xs.getD i d))) E)
    (h2 : ∀ (m : Nat) s, I xs.length s → F (m + 1) (xs.length : Int) s = K s) : F n 0 s = cond (xs.all p) (K (xs.foldl g s)) E := by
  have key : ∀ (r : List α) (j fuel : Nat) (s : σ), xs.drop j = r → j + r.length = xs.length → r.length < fuel → I j s → F fuel (j : Int) s = cond (r.all p) (K (r.foldl g s)) E := by
    intro r
    induction r with
    | nil =>
      intro j fuel s hd hj hf hs
      obtain ⟨m, rfl⟩ : ∃ m, fuel = m + 1 := ⟨fuel - 1, by omega⟩
      simp only [List.length_nil, Nat.add_zero] at hj
      subst hj
      exact h2 m s hs
    | cons x r ih =>
      intro j fuel s hd hj hf hs
      obtain ⟨m, rfl⟩ : ∃ m, fuel = m + 1 := ⟨fuel - 1, by omega⟩
      simp only [List.length_cons] at hj hf
      have h3 : j < xs.length := by omega
      have hx : xs.getD j d = x := by
        rw [List.drop_eq_getElem_cons h3] at hd
        injection hd with hd1 hd2
        simp [List.getD, h3, hd1]
      have hr : xs.drop (j + 1) = r := by
        rw [List.drop_eq_getElem_cons h3] at hd
        injection hd with hd1 hd2
      rw [h1 m j s h3 hs, hx]
      have := hI j s h3 hs
      rw [hx] at this
      simp only [List.all_cons, List.foldl_cons]
      cases hp : p x with
      | true => simpa using ih (j + 1) m (g s x) hr (by omega) (by omega) (this hp)
      | false => rfl
  exact key xs 0 n s rfl (by simp) hn h0

/-- The same over the numbers below n. -/
theorem range_check {β σ : Type} (n : Nat) (I : Nat → σ → Prop) (F : Nat → Int → σ → Option β) (p : Nat → Bool) (g : σ → Nat → σ) (E : Option β) (K : σ → Option β) (s : σ) (N : Nat) (hn : n < N) (h0 : I 0 s)
    (hI : ∀ (i : Nat) s, i < n → I i s → p i = true → I (i + 1) (g s i))
    (h1 : ∀ (m i : Nat) s, i < n → I i s → F (m + 1) (i : Int) s = cond (p i) (F m ((i : Int) + 1) (g s i)) E)
    (h2 : ∀ (m : Nat) s, I n s → F (m + 1) (n : Int) s = K s) : F N 0 s = cond ((List.range n).all p) (K ((List.range n).foldl g s)) E := by
  have hl : (List.range n).length = n := List.length_range
  refine fold_check I F p g E K 0 (List.range n) s N (by omega) h0 (fun i s hi hs => ?_) (fun m i s hi hs => ?_) (fun m s hs => ?_)
  · rw [range_getD (by omega)]
    exact hI i s (by omega) hs
  · rw [range_getD (by omega)]
    exact h1 m i s (by omega) hs
  · rw [hl] at hs ⊢
    exact h2 m s hs

theorem range_fold' {β σ : Type} (n : Nat) (I : Nat → σ → Prop) (F : Nat → Int → σ → Option β) (g : σ → Nat → σ) (K : σ → Option β) (s : σ) (N : Nat) (hn : n < N) (h0 : I 0 s)
    (hI : ∀ (i : Nat) s, i < n → I i s → I (i + 1) (g s i))
    (h1 : ∀ (m i : Nat) s, i < n → I i s → F (m + 1) (i : Int) s = F m ((i : Int) + 1) (g s i))
    (h2 : ∀ (m : Nat) s, I n s → F (m + 1) (n : Int) s = K s) : F N 0 s = K ((List.range n).foldl g s) := by
  have h := range_check n I F (fun _ => true) g none K s N hn h0 (fun i s hi hs _ => hI i s hi hs) h1 h2
  rw [h]
  have : (List.range n).all (fun _ => true) = true := by simp
  rw [this]
  rfl

def evAt (r : Rec) (i : Nat) : Event := r.2.2.1.getD i (0, 0, [])
def whenAt (r : Rec) (i : Nat) : (Int × Int) × Bool := when? r (evAt r i).1 (evAt r i).2.1
def driftAt (r : Rec) (h : Int) : Int := (r.1.getD h.toNat ([], 0)).2
def evD (r : Rec) (i : Nat) : List Diff := [(0, ((i : Int) + 1, (whenAt r i).1.2)), ((i : Int) + 1, (0, -(whenAt r i).1.1))]
def pairD (r : Rec) (i j : Nat) : List Diff :=
  if (evAt r j).2.1 < (evAt r i).2.1 then
    [((j : Int) + 1, ((i : Int) + 1, (elapsed (driftAt r (evAt r j).1) ((evAt r i).2.1 - (evAt r j).2.1)).2)), ((i : Int) + 1, ((j : Int) + 1, -(elapsed (driftAt r (evAt r j).1) ((evAt r i).2.1 - (evAt r j).2.1)).1))]
  else
    [((i : Int) + 1, ((j : Int) + 1, (elapsed (driftAt r (evAt r i).1) ((evAt r j).2.1 - (evAt r i).2.1)).2)), ((j : Int) + 1, ((i : Int) + 1, -(elapsed (driftAt r (evAt r i).1) ((evAt r j).2.1 - (evAt r i).2.1)).1))]
def pairIf (r : Rec) (i j : Nat) : List Diff := if (evAt r j).1 = (evAt r i).1 then pairD r i j else []
def pairsI (r : Rec) (n i : Nat) : List Diff := ((List.range n).filter fun j => decide (i < j)).flatMap (pairIf r i)
def linkD (l : Link) : Diff := (l.2.1 + 1, (l.1 + 1, -l.2.2))
def nE (r : Rec) : Nat := r.2.2.1.length
def whensOk (r : Rec) : Bool := (List.range (nE r)).all fun i => (whenAt r i).2
def consL (r : Rec) : List Diff := (List.range (nE r)).flatMap (evD r) ++ (List.range (nE r)).flatMap (pairsI r (nE r)) ++ r.2.2.2.map linkD
/-- The constraints of a record. -/
def consW (r : Rec) : Option (List Diff) := if valid r && whensOk r then some (consL r) else none

/-- Times that fit a record. -/
structure SolR (r : Rec) (x : Nat → Int) : Prop where
  ev : ∀ i, i < nE r → x (i + 1) - x 0 ≤ (whenAt r i).1.2 ∧ x 0 - x (i + 1) ≤ -(whenAt r i).1.1
  pair : ∀ i j, i < nE r → j < nE r → i ≠ j → (evAt r i).1 = (evAt r j).1 → (evAt r i).2.1 ≤ (evAt r j).2.1 →
    (elapsed (driftAt r (evAt r i).1) ((evAt r j).2.1 - (evAt r i).2.1)).1 ≤ x (j + 1) - x (i + 1) ∧ x (j + 1) - x (i + 1) ≤ (elapsed (driftAt r (evAt r i).1) ((evAt r j).2.1 - (evAt r i).2.1)).2
  link : ∀ l ∈ r.2.2.2, l.2.2 ≤ x (l.2.1.toNat + 1) - x (l.1.toNat + 1)

theorem valid_parts {r : Rec} (h : valid r = true) : (∀ h ∈ r.1, 0 ≤ h.2 ∧ h.2 ≤ 500000) ∧ (∀ s ∈ r.2.1, 0 ≤ s.1 ∧ s.1 < r.1.length ∧ okSync s = true) ∧
    (∀ e ∈ r.2.2.1, 0 ≤ e.1 ∧ e.1 < r.1.length ∧ 0 ≤ e.2.1 ∧ e.2.1 ≤ 8589934592) ∧
    (∀ l ∈ r.2.2.2, 0 ≤ l.1 ∧ l.1 < nE r ∧ 0 ≤ l.2.1 ∧ l.2.1 < nE r ∧ l.1 ≠ l.2.1 ∧ 0 ≤ l.2.2 ∧ l.2.2 ≤ 8589934592) := by
  unfold valid at h
  simp only [Bool.and_eq_true, List.all_eq_true] at h
  obtain ⟨_, h1, h2, h3, h4⟩ := h
  refine ⟨fun x hx => ?_, fun x hx => ?_, fun x hx => ?_, fun x hx => ?_⟩
  · exact inN_iff.1 (h1 x hx)
  · have := h2 x hx
    simp only [vSync, Bool.and_eq_true, inN_iff] at this
    exact ⟨by omega, by omega, this.2⟩
  · have := h3 x hx
    simp only [vEvent, Bool.and_eq_true, inN_iff] at this
    omega
  · have := h4 x hx
    simp only [vLink, Bool.and_eq_true, inN_iff, Bool.not_eq_true', decide_eq_false_iff_not] at this
    unfold nE
    omega

theorem valid_ev {r : Rec} (h : valid r = true) {i : Nat} (hi : i < nE r) : 0 ≤ (evAt r i).1 ∧ (evAt r i).1 < r.1.length ∧ 0 ≤ (evAt r i).2.1 ∧ (evAt r i).2.1 ≤ 8589934592 :=
  (valid_parts h).2.2.1 _ (getD_mem hi)

theorem elapsed_zero (d : Int) : elapsed d 0 = (0, 0) := by
  unfold elapsed
  by_cases h : inN d 0 500000 = true
  · have := inN_iff.1 h
    rw [h, inN_mk (by omega)]
    simp only [Bool.and_self, cond_true]
    rw [Int.zero_mul, Int.zero_ediv]
    congr 1
    exact Int.ediv_eq_zero_of_lt (by omega) (by omega)
  · rw [Bool.eq_false_iff.2 h]
    rfl

theorem mem_pairs {r : Rec} {n : Nat} {d : Diff} : d ∈ (List.range n).flatMap (pairsI r n) ↔ ∃ i j, i < j ∧ j < n ∧ (evAt r j).1 = (evAt r i).1 ∧ d ∈ pairD r i j := by
  simp only [List.mem_flatMap, pairsI, List.mem_filter, List.mem_range, decide_eq_true_eq, pairIf]
  constructor
  · rintro ⟨i, hi, j, ⟨hj, hij⟩, hd⟩
    split at hd
    · rename_i e
      exact ⟨i, j, hij, hj, e, hd⟩
    · cases hd
  · rintro ⟨i, j, hij, hj, e, hd⟩
    exact ⟨i, by omega, j, ⟨hj, hij⟩, by rw [if_pos e]; exact hd⟩

theorem mem_cons {r : Rec} {d : Diff} : d ∈ consL r ↔ (∃ i, i < nE r ∧ d ∈ evD r i) ∨ (∃ i j, i < j ∧ j < nE r ∧ (evAt r j).1 = (evAt r i).1 ∧ d ∈ pairD r i j) ∨ ∃ l ∈ r.2.2.2, d = linkD l := by
  unfold consL
  rw [List.mem_append, List.mem_append, mem_pairs, or_assoc]
  simp only [List.mem_flatMap, List.mem_range, List.mem_map, eq_comm]

theorem pairD_sol {r : Rec} {i j : Nat} {x : Nat → Int} : (∀ d ∈ pairD r i j, x d.2.1.toNat - x d.1.toNat ≤ d.2.2) ↔
    (if (evAt r j).2.1 < (evAt r i).2.1 then
      (elapsed (driftAt r (evAt r j).1) ((evAt r i).2.1 - (evAt r j).2.1)).1 ≤ x (i + 1) - x (j + 1) ∧ x (i + 1) - x (j + 1) ≤ (elapsed (driftAt r (evAt r j).1) ((evAt r i).2.1 - (evAt r j).2.1)).2
    else (elapsed (driftAt r (evAt r i).1) ((evAt r j).2.1 - (evAt r i).2.1)).1 ≤ x (j + 1) - x (i + 1) ∧ x (j + 1) - x (i + 1) ≤ (elapsed (driftAt r (evAt r i).1) ((evAt r j).2.1 - (evAt r i).2.1)).2) := by
  have ei : ((i : Int) + 1).toNat = i + 1 := by omega
  have ej : ((j : Int) + 1).toNat = j + 1 := by omega
  unfold pairD
  split
  · simp only [List.mem_cons, List.not_mem_nil, or_false, forall_eq_or_imp, forall_eq, ei, ej]
    omega
  · simp only [List.mem_cons, List.not_mem_nil, or_false, forall_eq_or_imp, forall_eq, ei, ej]
    omega

theorem sol_cons {r : Rec} (hv : valid r = true) (x : Nat → Int) : Sol (consL r) x ↔ SolR r x := by
  have hp := valid_parts hv
  constructor
  · intro h
    refine ⟨fun i hi => ?_, fun i j hi hj hij hh hc => ?_, fun l hl => ?_⟩
    · have h1 := h (0, ((i : Int) + 1, (whenAt r i).1.2)) (mem_cons.2 (.inl ⟨i, hi, by simp [evD]⟩))
      have h2 := h ((i : Int) + 1, (0, -(whenAt r i).1.1)) (mem_cons.2 (.inl ⟨i, hi, by simp [evD]⟩))
      have e : ((i : Int) + 1).toNat = i + 1 := by omega
      simp only [e, Int.toNat_zero] at h1 h2
      exact ⟨h1, h2⟩
    · rcases Nat.lt_or_gt_of_ne hij with hl | hl
      · have := pairD_sol.1 (fun d hd => h d (mem_cons.2 (.inr (.inl ⟨i, j, hl, hj, hh.symm, hd⟩))))
        rw [if_neg (by omega)] at this
        exact this
      · have := pairD_sol.1 (fun d hd => h d (mem_cons.2 (.inr (.inl ⟨j, i, hl, hi, hh, hd⟩))))
        by_cases e : (evAt r i).2.1 = (evAt r j).2.1
        · rw [if_neg (by omega), e, Int.sub_self, elapsed_zero] at this
          rw [e, Int.sub_self, elapsed_zero]
          simp only at this ⊢
          omega
        · rw [if_pos (by omega)] at this
          exact this
    · have h1 := h (linkD l) (mem_cons.2 (.inr (.inr ⟨l, hl, rfl⟩)))
      have := hp.2.2.2 l hl
      have e1 : (l.1 + 1).toNat = l.1.toNat + 1 := by omega
      have e2 : (l.2.1 + 1).toNat = l.2.1.toNat + 1 := by omega
      simp only [linkD, e1, e2] at h1
      omega
  · intro h d hd
    rcases mem_cons.1 hd with ⟨i, hi, hd⟩ | ⟨i, j, hij, hj, hh, hd⟩ | ⟨l, hl, rfl⟩
    · have := h.ev i hi
      have e : ((i : Int) + 1).toNat = i + 1 := by omega
      simp only [evD, List.mem_cons, List.not_mem_nil, or_false] at hd
      rcases hd with rfl | rfl
      · simp only [e, Int.toNat_zero]
        exact this.1
      · simp only [e, Int.toNat_zero]
        exact this.2
    · refine pairD_sol.2 ?_ d hd
      split
      · rename_i hc
        exact h.pair j i hj (by omega) (by omega) hh (by omega)
      · rename_i hc
        exact h.pair i j (by omega) hj (by omega) hh.symm (by omega)
    · have := h.link l hl
      have hb := hp.2.2.2 l hl
      have e1 : (l.1 + 1).toNat = l.1.toNat + 1 := by omega
      have e2 : (l.2.1 + 1).toNat = l.2.1.toNat + 1 := by omega
      simp only [linkD, e1, e2]
      omega

theorem flat_len {α γ : Type} (f : α → List γ) (c : Nat) : ∀ l : List α, (∀ x ∈ l, (f x).length ≤ c) → (l.flatMap f).length ≤ l.length * c
  | [], _ => by simp
  | x :: l, h => by
    have h1 := h x (by simp)
    have h2 := flat_len f c l (fun y hy => h y (by simp [hy]))
    simp only [List.flatMap_cons, List.length_append, List.length_cons, Nat.succ_mul]
    omega

theorem cons_len {r : Rec} (hv : valid r = true) : (consL r).length ≤ 4000 := by
  have hb := valid_bd hv
  have h1 := flat_len (evD r) 2 (List.range (nE r)) (fun i _ => by simp [evD])
  have h2 : ∀ i ∈ List.range (nE r), (pairsI r (nE r) i).length ≤ 80 := fun i _ => by
    have h3 := flat_len (pairIf r i) 2 ((List.range (nE r)).filter fun j => decide (i < j)) (fun j _ => by
      unfold pairIf pairD
      split
      · split <;> simp
      · simp)
    have h4 := List.length_filter_le (fun j => decide (i < j)) (List.range (nE r))
    rw [List.length_range] at h4
    unfold pairsI nE at *
    omega
  have h3 := flat_len (pairsI r (nE r)) 80 _ h2
  unfold consL
  rw [List.length_append, List.length_append, List.length_map]
  rw [List.length_range] at h1 h3
  unfold nE at *
  omega

/-- The ranges of the readings. -/
theorem whenAt_bd {r : Rec} {i : Nat} (h : (whenAt r i).2 = true) : 0 ≤ (whenAt r i).1.1 ∧ (whenAt r i).1.1 ≤ (whenAt r i).1.2 ∧ (whenAt r i).1.2 ≤ 8589934592 := by
  unfold whenAt Go.Lift.when? at h ⊢
  cases hc : (valid r && (inN (evAt r i).1 0 ((r.1.length : Int) - 1) && inN (evAt r i).2.1 0 8589934592)) with
  | false => rw [hc] at h; cases h
  | true =>
    rw [hc] at h
    simp only [cond_true, Bool.not_eq_true', decide_eq_false_iff_not] at h ⊢
    rw [whenR_eq] at h ⊢
    have := @foldl_meet_bd (froms r.1 (evAt r i).1 (evAt r i).2.1 r.2.1) (0, 8589934592)
    simp only at this
    omega

theorem whensOk_iff {r : Rec} : whensOk r = true ↔ ∀ i, i < nE r → (whenAt r i).2 = true := by
  unfold whensOk
  rw [List.all_eq_true]
  simp only [List.mem_range]

theorem consL_ok {r : Rec} (hv : valid r = true) (hw : whensOk r = true) : (consL r).all (diffOk (nE r + 1)) = true := by
  rw [List.all_eq_true]
  intro d hd
  have hp := valid_parts hv
  unfold diffOk
  apply decide_eq_true
  rcases mem_cons.1 hd with ⟨i, hi, hd⟩ | ⟨i, j, hij, hj, hh, hd⟩ | ⟨l, hl, rfl⟩
  · have := whenAt_bd (whensOk_iff.1 hw i hi)
    simp only [evD, List.mem_cons, List.not_mem_nil, or_false] at hd
    rcases hd with rfl | rfl <;> simp only <;> omega
  · unfold pairD at hd
    split at hd <;> simp only [List.mem_cons, List.not_mem_nil, or_false] at hd
    · have := @elapsed_bd (driftAt r (evAt r j).1) ((evAt r i).2.1 - (evAt r j).2.1)
      rcases hd with rfl | rfl <;> simp only <;> omega
    · have := @elapsed_bd (driftAt r (evAt r i).1) ((evAt r j).2.1 - (evAt r i).2.1)
      rcases hd with rfl | rfl <;> simp only <;> omega
  · have := hp.2.2.2 l hl
    simp only [linkD]
    omega

theorem consL_valid {r : Rec} (hv : valid r = true) (hw : whensOk r = true) : validD (nE r + 1) (consL r) = true := by
  unfold validD
  rw [decide_eq_true (cons_len hv), consL_ok hv hw]
  rfl

/-- Every variable is bound both ways. -/
theorem cons_conn {r : Rec} (hv : valid r = true) (hw : whensOk r = true) : Conn (nE r + 1) (consL r) := by
  have hn : nE r ≤ 40 := (valid_bd hv).2.2.1
  refine ⟨by omega, by omega, consL_valid hv hw, fun i h1 h2 => ?_, fun i h1 h2 => ?_⟩
  · refine ⟨(0, (((i - 1 : Nat) : Int) + 1, (whenAt r (i - 1)).1.2)), mem_cons.2 (.inl ⟨i - 1, by omega, by simp [evD]⟩), rfl, ?_⟩
    simp only
    omega
  · refine ⟨(((i - 1 : Nat) : Int) + 1, (0, -(whenAt r (i - 1)).1.1)), mem_cons.2 (.inl ⟨i - 1, by omega, by simp [evD]⟩), ?_, rfl, ?_⟩
    · simp only
      omega
    · have := whenAt_bd (whensOk_iff.1 hw (i - 1) (by omega))
      simp only
      omega

/-- The matrix of a record. -/
def closedW (r : Rec) : Option Mat := match consW r with | some l => closeW (nE r + 1) l | none => none

theorem CloseOk.le_iff {n : Nat} {l : List Diff} {m : Mat} (h : CloseOk n l m) {i j : Nat} (hi : i < n) (hj : j < n) (c : Int) : at2 m i j ≤ c ↔ ∀ x, Sol l x → x j - x i ≤ c := by
  constructor
  · intro hc x s
    exact Int.le_trans (h.sol x s i j hi hj) hc
  · intro hx
    have := hx _ (h.row i hi)
    have := h.zero i hi
    omega

/-- What is known of a record that has a matrix. -/
structure ClosedR (r : Rec) (m : Mat) : Prop where
  valid : valid r = true
  whens : whensOk r = true
  eq : closedW r = some m
  ok : CloseOk (nE r + 1) (consL r) m

theorem closed_some' {r : Rec} (hv : Go.Lift.valid r = true) (hw : whensOk r = true) {x : Nat → Int} (s : SolR r x) : ∃ m, ClosedR r m := by
  obtain ⟨m, e, h⟩ := close_some (cons_conn hv hw) ((sol_cons hv x).2 s)
  refine ⟨m, hv, hw, ?_, h⟩
  unfold closedW consW
  rw [hv, hw]
  exact e

theorem closed_some {r : Rec} (hv : Go.Lift.valid r = true) (hw : whensOk r = true) (hn : nE r ≤ 7) {x : Nat → Int} (s : SolR r x) : ∃ m, ClosedR r m := closed_some' hv hw s

theorem closed_ok' {r : Rec} {m : Mat} (e : closedW r = some m) : ClosedR r m := by
  unfold closedW consW at e
  by_cases h : (Go.Lift.valid r && whensOk r) = true
  · have e0 := e
    rw [if_pos h] at e
    rw [Bool.and_eq_true] at h
    refine ⟨h.1, h.2, ?_, close_ok (cons_conn h.1 h.2) e⟩
    unfold closedW consW
    exact e0
  · rw [if_neg h] at e
    cases e

theorem ClosedR.le_iff {r : Rec} {m : Mat} (h : ClosedR r m) {i j : Nat} (hi : i < nE r + 1) (hj : j < nE r + 1) (c : Int) : at2 m i j ≤ c ↔ ∀ x, SolR r x → x j - x i ≤ c := by
  rw [h.ok.le_iff hi hj]
  exact ⟨fun g x s => g x ((sol_cons h.valid x).2 s), fun g x s => g x ((sol_cons h.valid x).1 s)⟩

theorem ClosedR.row {r : Rec} {m : Mat} (h : ClosedR r m) {i : Nat} (hi : i < nE r + 1) : SolR r (fun j => at2 m i j) := (sol_cons h.valid _).1 (h.ok.row i hi)

theorem ClosedR.sol {r : Rec} {m : Mat} (h : ClosedR r m) {x : Nat → Int} (s : SolR r x) {i j : Nat} (hi : i < nE r + 1) (hj : j < nE r + 1) : x j - x i ≤ at2 m i j :=
  (h.le_iff hi hj _).1 (Int.le_refl _) x s

end
end Go.Lift

/- The functions of the package order in plain Lean. -/
namespace Go.Lift
open Go.RowKit Go.IntWalk
noncomputable section
set_option linter.unusedVariables false
set_option linter.unusedSimpArgs false
set_option maxRecDepth 10000

section
variable {β : Type}
theorem pair_p1_eq (k1 : zqje β) (r : Rec) {i j : Nat} (hi : i ≤ 100) (hj : j ≤ 100) {a a2 b b2 : Int} (a3 b3 : List UInt8) (ha : 0 ≤ a ∧ a < r.1.length) (h2 : 0 ≤ a2 ∧ a2 ≤ 8589934592) (h3 : 0 ≤ b2 ∧ b2 ≤ 8589934592) :
    zqjo k1 (i : Int) (j : Int) r.1 r.2.1 r.2.2.1 r.2.2.2 a a2 a3 b b2 b3 = k1 [((i : Int) + 1, ((j : Int) + 1, (elapsed (driftAt r a) (b2 - a2)).2)), ((j : Int) + 1, ((i : Int) + 1, -(elapsed (driftAt r a) (b2 - a2)).1))] := by
  have e1 : IntKind.i64.wrap ((i : Int) + 1) = i + 1 := i64_in _ (by omega)
  have e2 : IntKind.i64.wrap ((j : Int) + 1) = j + 1 := i64_in _ (by omega)
  have e3 : IntKind.i64.wrap (b2 - a2) = b2 - a2 := i64_in _ (by omega)
  unfold zqjo zqjj zqji
  refine (c_inb ha).trans ?_
  simp only [e1, e2, e3]
  refine (clock_Elapsed_eq _ _ _).trans ?_
  have := @elapsed_bd (driftAt r a) (b2 - a2)
  have e4 : IntKind.i64.wrap (0 - (elapsed (driftAt r a) (b2 - a2)).1) = -(elapsed (driftAt r a) (b2 - a2)).1 := (i64_in _ (by omega)).trans (by omega)
  unfold driftAt at e4 ⊢
  rw [e4]

theorem order_pair_eq {r : Rec} (hv : valid r = true) {i j : Nat} (hi : i < nE r) (hj : j < nE r) (k : List Diff → Option β) : zqjq r (i : Int) (j : Int) k = k (pairD r i j) := by
  have hb := valid_bd hv
  have h1 := valid_ev hv hi
  have h2 := valid_ev hv hj
  unfold nE evAt at *
  unfold zqjq zqjl
  refine (c_inb (by omega)).trans ?_
  refine (c_inb (by omega)).trans ?_
  unfold pairD evAt
  simp only [Int.toNat_natCast]
  by_cases hc : (r.2.2.1.getD j (0, 0, [])).2.1 < (r.2.2.1.getD i (0, 0, [])).2.1
  · refine (c_pos hc).trans ?_
    rw [if_pos hc]
    exact pair_p1_eq _ r (by omega) (by omega) _ _ (by omega) (by omega) (by omega)
  · refine (c_neg hc).trans ?_
    rw [if_neg hc]
    exact pair_p1_eq _ r (by omega) (by omega) _ _ (by omega) (by omega) (by omega)

theorem cons_p1 (k1 : zqlg β) (k2 : zqlh β) {r : Rec} (hv : valid r = true) :
    zqme k1 k2 r.2.2.1 (r.2.2.1.length : Int) 0 r.1 r.2.1 r.2.2.1 r.2.2.2 [] = cond (whensOk r) (k2 r.1 r.2.1 r.2.2.1 r.2.2.2 ((List.range (nE r)).flatMap (evD r))) (k1 false []) := by
  have hb := valid_bd hv
  have key := range_check (nE r) (fun i (s : List Diff) => s.length ≤ 2 * i) (fun f j s => zqmc f k1 k2 r.2.2.1 (r.2.2.1.length : Int) j r.1 r.2.1 r.2.2.1 r.2.2.2 s) (fun i => (whenAt r i).2)
    (fun s i => s ++ evD r i) (k1 false []) (fun s => k2 r.1 r.2.1 r.2.2.1 r.2.2.2 s) [] fuel (lt_fuel (by unfold nE; omega)) (by simp)
    (fun i s hi hs _ => by simp only [List.length_append, evD, List.length_cons, List.length_nil]; omega)
    (fun f i s hi hs => by
      unfold nE at hi
      have e1 : IntKind.i64.wrap ((i : Int) + 1) = i + 1 := i64_in _ (by omega)
      rw [zqmd]
      unfold zqlx
      refine (c_pos (by omega)).trans ?_
      refine (c_inb (by omega)).trans ?_
      simp only [Int.toNat_natCast, e1]
      refine (clock_When_eq _ _ _ _).trans ?_
      have hw : when? (r.1, r.2.1, r.2.2.1, r.2.2.2) (r.2.2.1.getD i (0, 0, [])).1 (r.2.2.1.getD i (0, 0, [])).2.1 = whenAt r i := rfl
      rw [hw]
      cases hk : (whenAt r i).2 with
      | false => rfl
      | true =>
        have hbd := whenAt_bd hk
        have e2 : IntKind.i64.wrap (0 - (whenAt r i).1.1) = -(whenAt r i).1.1 := (i64_in _ (by omega)).trans (by omega)
        simp only [Bool.not_true, cond_false, cond_true, e2]
        refine (c_room (by simp only [List.length_cons, List.length_nil]; omega)).trans ?_
        rfl)
    (fun f s hs => by
      rw [zqmd]
      unfold zqlx
      exact c_neg (by unfold nE; omega))
  unfold zqme
  rw [key, foldl_flat]
  rfl

theorem cons_p2 (k1 : zqll β) {r : Rec} (hv : valid r = true) {i : Nat} (hi : i < nE r) (t52 : List Event) (t53 t54 : Int) (a2 : Int) (a3 : List UInt8) (out : List Diff) (ho : out.length ≤ 4000) :
    zqmi k1 (i : Int) ((i : Int) + 1) t52 t53 t54 r.1 r.2.1 r.2.2.1 r.2.2.2 out (evAt r i).1 a2 a3 = k1 t52 t53 t54 r.1 r.2.1 r.2.2.1 r.2.2.2 (out ++ pairsI r (nE r) i) := by
  have hb := valid_bd hv
  have key : ∀ (c j f : Nat) (s : List Diff), j + c = nE r → i < j → c < f → s.length + 2 * c ≤ 100000 →
      zqmg f k1 (i : Int) (j : Int) t52 t53 t54 r.1 r.2.1 r.2.2.1 r.2.2.2 s (evAt r i).1 a2 a3 = k1 t52 t53 t54 r.1 r.2.1 r.2.2.1 r.2.2.2 (s ++ (List.range' j c).flatMap (pairIf r i)) := by
    intro c
    induction c with
    | zero =>
      intro j f s hj hij hf hs
      obtain ⟨f, rfl⟩ : ∃ m, f = m + 1 := ⟨f - 1, by omega⟩
      rw [zqmh]
      unfold zqm0
      unfold nE at hj
      refine (c_neg (by omega)).trans ?_
      simp
    | succ c ih =>
      intro j f s hj hij hf hs
      obtain ⟨f, rfl⟩ : ∃ m, f = m + 1 := ⟨f - 1, by omega⟩
      rw [zqmh]
      unfold zqm0
      have hj' : j < nE r := by omega
      have hjn : (j : Int) < (r.2.2.1.length : Int) := by unfold nE at hj'; omega
      have e1 : IntKind.i64.wrap ((j : Int) + 1) = ((j + 1 : Nat) : Int) := i64_in _ (by unfold nE at hj'; omega)
      refine (c_pos hjn).trans ?_
      refine (c_inb (by omega)).trans ?_
      simp only [Int.toNat_natCast, e1]
      rw [List.range'_succ, List.flatMap_cons]
      have hpi : pairIf r i j = if (evAt r j).1 = (evAt r i).1 then pairD r i j else [] := rfl
      rw [hpi]
      by_cases hh : (evAt r j).1 = (evAt r i).1
      · refine (c_pos (p := (r.2.2.1.getD j ((0 : Int), ((0 : Int), ([] : List UInt8)))).1 = (evAt r i).1) hh).trans ?_
        rw [if_pos hh]
        refine (order_pair_eq hv hi hj' _).trans ?_
        have hp : (pairD r i j).length = 2 := by unfold pairD; split <;> rfl
        refine (c_room (by omega)).trans ?_
        refine (ih (j + 1) f _ (by omega) (by omega) (by omega) (by rw [List.length_append]; omega)).trans ?_
        rw [List.append_assoc]
      · refine (c_neg (p := (r.2.2.1.getD j ((0 : Int), ((0 : Int), ([] : List UInt8)))).1 = (evAt r i).1) hh).trans ?_
        rw [if_neg hh]
        refine (ih (j + 1) f _ (by omega) (by omega) (by omega) (by omega)).trans ?_
        rw [List.nil_append]
  unfold zqmi
  have h1 := key (nE r - (i + 1)) (i + 1) fuel out (by omega) (by omega) (lt_fuel (by unfold nE at *; omega)) (by unfold nE at *; omega)
  rw [show ((i : Int) + 1) = ((i + 1 : Nat) : Int) by omega, h1]
  congr 1
  congr 1
  unfold pairsI
  have e : ∀ n, i < n → (List.range n).filter (fun j => decide (i < j)) = List.range' (i + 1) (n - (i + 1)) := by
    intro n
    induction n with
    | zero => intro h; omega
    | succ n ihn =>
      intro h
      rw [List.range_succ, List.filter_append]
      by_cases hin : i < n
      · rw [ihn hin]
        have : n + 1 - (i + 1) = (n - (i + 1)) + 1 := by omega
        rw [this, List.range'_concat]
        simp only [List.filter_cons, List.filter_nil, decide_eq_true hin, if_true]
        congr 2
        omega
      · have hin' : n = i := by omega
        subst hin'
        have : (List.range n).filter (fun j => decide (n < j)) = [] := by
          rw [List.filter_eq_nil_iff]
          intro a ha
          simp only [List.mem_range] at ha
          simp only [decide_eq_true_eq]
          omega
        rw [this]
        simp
  rw [e _ hi]

theorem cons_p3 (k1 : zqlp β) {r : Rec} (hv : valid r = true) (out : List Diff) (ho : out.length ≤ 80) :
    zqmm k1 r.2.2.1 (r.2.2.1.length : Int) 0 r.1 r.2.1 r.2.2.1 r.2.2.2 out = k1 r.1 r.2.1 r.2.2.1 r.2.2.2 (out ++ (List.range (nE r)).flatMap (pairsI r (nE r))) := by
  have hb := valid_bd hv
  have h2 : ∀ i, (pairsI r (nE r) i).length ≤ 80 := fun i => by
    have h3 := flat_len (pairIf r i) 2 ((List.range (nE r)).filter fun j => decide (i < j)) (fun j _ => by
      unfold pairIf pairD
      split
      · split <;> simp
      · simp)
    have h4 := List.length_filter_le (fun j => decide (i < j)) (List.range (nE r))
    rw [List.length_range] at h4
    unfold pairsI nE at *
    omega
  have key := range_fold' (nE r) (fun i (s : List Diff) => s.length ≤ 80 + 80 * i) (fun f j s => zqmk f k1 r.2.2.1 (r.2.2.1.length : Int) j r.1 r.2.1 r.2.2.1 r.2.2.2 s)
    (fun s i => s ++ pairsI r (nE r) i) (fun s => k1 r.1 r.2.1 r.2.2.1 r.2.2.2 s) out fuel (lt_fuel (by unfold nE; omega)) (by omega)
    (fun i s hi hs => by have := h2 i; rw [List.length_append]; omega)
    (fun f i s hi hs => by
      have hi' := hi
      unfold nE at hi'
      have e1 : IntKind.i64.wrap ((i : Int) + 1) = i + 1 := i64_in _ (by omega)
      rw [zqml]
      unfold zqm3
      refine (c_pos (by omega)).trans ?_
      refine (c_inb (by omega)).trans ?_
      simp only [Int.toNat_natCast, e1]
      refine (cons_p2 _ hv hi _ _ _ _ _ s (by omega)).trans ?_
      simp only [e1])
    (fun f s hs => by
      rw [zqml]
      unfold zqm3
      exact c_neg (by unfold nE; omega))
  unfold zqmm
  rw [key, foldl_flat]

theorem cons_p4 (k1 : zqlt β) (l : List Link) (hl : l.length ≤ 1000) (hok : ∀ x ∈ l, 0 ≤ x.1 ∧ x.1 ≤ 1000 ∧ 0 ≤ x.2.1 ∧ x.2.1 ≤ 1000 ∧ 0 ≤ x.2.2 ∧ x.2.2 ≤ 8589934592) (out : List Diff) (ho : out.length ≤ 10000) :
    zqmq k1 l (l.length : Int) 0 out = k1 (out ++ l.map linkD) := by
  have key := fold_loopI (fun i (s : List Diff) => s.length ≤ 10000 + i) (fun f j s => zqmo f k1 l (l.length : Int) j s)
    (fun s x => s ++ [linkD x]) (fun s => k1 s) ((0 : Int), ((0 : Int), (0 : Int))) l out fuel (lt_fuel (by omega)) (by omega)
    (fun i s hi hs => by simp only [List.length_append, List.length_cons, List.length_nil]; omega)
    (fun f i s hi hs => by
      have e1 : IntKind.i64.wrap ((i : Int) + 1) = i + 1 := i64_in _ (by omega)
      have hx := hok _ (getD_mem (d := ((0 : Int), ((0 : Int), (0 : Int)))) hi)
      rw [zqmp]
      unfold zqm6
      refine (c_pos (by omega)).trans ?_
      refine (c_inb (by omega)).trans ?_
      simp only [Int.toNat_natCast, e1]
      generalize l.getD i ((0 : Int), ((0 : Int), (0 : Int))) = x at hx
      have e2 : IntKind.i64.wrap (x.2.1 + 1) = x.2.1 + 1 := i64_in _ (by omega)
      have e3 : IntKind.i64.wrap (x.1 + 1) = x.1 + 1 := i64_in _ (by omega)
      have e4 : IntKind.i64.wrap (0 - x.2.2) = -x.2.2 := (i64_in _ (by omega)).trans (by omega)
      simp only [e2, e3, e4]
      refine (c_room (by simp only [List.length_cons, List.length_nil]; omega)).trans ?_
      rfl)
    (fun f s hs => by
      rw [zqmp]
      unfold zqm6
      exact c_neg (by omega))
  unfold zqmq
  rw [key]
  have : ∀ (l : List Link) (s : List Diff), l.foldl (fun s x => s ++ [linkD x]) s = s ++ l.map linkD := by
    intro l
    induction l with
    | nil => intro s; simp
    | cons x l ih => intro s; simp only [List.foldl_cons, List.map_cons]; rw [ih, List.append_assoc]; rfl
  rw [this]

theorem Constraints_eq (r : Rec) (k : Bool → List Diff → Option β) : zqms r k = (match consW r with | some l => k true l | none => k false []) := by
  unfold zqms zqm9
  refine (clock_Valid_eq _ _).trans ?_
  unfold consW
  cases hv : valid r with
  | false => rfl
  | true =>
    have hb := valid_bd hv
    have hp := valid_parts hv
    simp only [Bool.not_true, cond_false, Bool.true_and]
    refine (cons_p1 _ _ hv).trans ?_
    cases hw : whensOk r with
    | false => rfl
    | true =>
      simp only [cond_true, if_true]
      have h1 := flat_len (evD r) 2 (List.range (nE r)) (fun i _ => by simp [evD])
      rw [List.length_range] at h1
      have h2 := cons_len hv
      unfold consL at h2 ⊢
      rw [List.length_append, List.length_map] at h2
      refine (cons_p3 _ hv _ (by unfold nE at *; omega)).trans ?_
      exact cons_p4 _ _ (by omega) (fun x hx => by have := hp.2.2.2 x hx; unfold nE at *; omega) _ (by omega)

theorem closed_eq {r : Rec} (hE : nE r ≤ 100) (k : Mat → Bool → Option β) : zqpe r k = (match closedW r with | some m => k m true | none => k [] false) := by
  unfold zqpe zqpb
  refine (Constraints_eq _ _).trans ?_
  unfold closedW
  cases hc : consW r with
  | none => rfl
  | some l =>
    simp only [Bool.not_true, cond_false]
    have e1 : IntKind.i64.wrap ((r.2.2.1.length : Int) + 1) = ((nE r + 1 : Nat) : Int) := i64_in _ (by unfold nE at hE; omega)
    rw [e1]
    have hn : nE r ≤ 40 := by
      unfold consW at hc
      by_cases hh : (valid r && whensOk r) = true
      · rw [Bool.and_eq_true] at hh
        have := valid_bd hh.1
        unfold nE
        omega
      · rw [if_neg hh] at hc
        cases hc
    exact Close_eq (by omega) (by omega) l _

/-- One event is before another one for certain. -/
def bef (m : Mat) (a b : Nat) : Bool := decide (at2 m (b + 1) (a + 1) ≤ -1)
def opn (m : Mat) (a b : Nat) : Bool := !bef m a b && !bef m b a
def cmpN (m : Mat) (a b : Nat) : Int := if bef m a b then -1 else if bef m b a then 1 else 0
def rangeN (m : Mat) (i : Nat) : Int × Int := (-at2 m (i + 1) 0, at2 m 0 (i + 1))
structure MatB (n : Nat) (m : Mat) : Prop where
  sq : Sq (n + 1) m
  small : n ≤ 100
  bd : ∀ i j, i < n + 1 → j < n + 1 → -9223372036854775807 ≤ at2 m i j ∧ at2 m i j ≤ 9223372036854775807

theorem before_eq {n : Nat} {m : Mat} (h : MatB n m) {a b : Nat} (ha : a < n) (hb : b < n) (k : Bool → Option β) : zq3j m (a : Int) (b : Int) k = k (bef m a b) := by
  have hs := h.small
  have e1 : IntKind.i64.wrap ((a : Int) + 1) = ((a + 1 : Nat) : Int) := i64_in _ (by omega)
  have e2 : IntKind.i64.wrap ((b : Int) + 1) = ((b + 1 : Nat) : Int) := i64_in _ (by omega)
  have l0 := h.sq.len
  have l1 := h.sq.row (b + 1) (by omega)
  unfold zq3j zq3g
  simp only [e1, e2, Int.toNat_natCast]
  refine (c_inb (by omega)).trans ?_
  refine (c_inb (by omega)).trans ?_
  rfl

theorem open_eq {n : Nat} {m : Mat} (h : MatB n m) {a b : Nat} (ha : a < n) (hb : b < n) (k : Bool → Option β) : zq72 m (a : Int) (b : Int) k = k (opn m a b) := by
  unfold zq72 zq6z
  refine (before_eq h ha hb _).trans ?_
  unfold opn
  cases bef m a b with
  | true => rfl
  | false => exact before_eq h hb ha _

theorem mwhen_eq {n : Nat} {m : Mat} (h : MatB n m) {i : Nat} (hi : i < n) (k : Int × Int → Option β) : zq6v m (i : Int) k = k (rangeN m i) := by
  have hs := h.small
  have e1 : IntKind.i64.wrap ((i : Int) + 1) = ((i + 1 : Nat) : Int) := i64_in _ (by omega)
  have l0 := h.sq.len
  have l1 := h.sq.row (i + 1) (by omega)
  have l2 := h.sq.row 0 (by omega)
  have hb := h.bd (i + 1) 0 (by omega) (by omega)
  have e2 : IntKind.i64.wrap (0 - at2 m (i + 1) 0) = -at2 m (i + 1) 0 := (i64_in _ (by omega)).trans (by omega)
  unfold zq6v zq6s
  simp only [e1, Int.toNat_natCast, Int.toNat_zero]
  refine (c_inb (by omega)).trans ?_
  refine (c_inb (by omega)).trans ?_
  refine (c_inb (by omega)).trans ?_
  refine (c_inb (by omega)).trans ?_
  unfold at2 at e2
  rw [e2]
  rfl

theorem oin_eq (n lo hi : Int) (k : Bool → Option β) : zq3u n lo hi k = k (inN n lo hi) := by
  simp only [zq3u, zq3r, inN, c_kb]

def whensN (n : Nat) (m : Mat) : List (Int × Int) := (List.range n).map (rangeN m)

theorem When_eq {r : Rec} (hE : nE r ≤ 100) (hm : ∀ m, closedW r = some m → MatB (nE r) m) (k : Bool → List (Int × Int) → Option β) :
    zqpw r k = (match closedW r with | some m => k true (whensN (nE r) m) | none => k false []) := by
  unfold zqpw zqpp
  refine (closed_eq hE _).trans ?_
  cases he : closedW r with
  | none => rfl
  | some m =>
    have h := hm m he
    have hs := h.small
    simp only [Bool.not_true, cond_false]
    have key := range_fold' (nE r) (fun i (s : List (Int × Int)) => s.length ≤ i) (fun f j s => zqps f (fun out => k true out) m (r.2.2.1.length : Int) j s)
      (fun s i => s ++ [rangeN m i]) (fun s => k true s) [] fuel (lt_fuel (by omega)) (by simp)
      (fun i s hi hs => by simp only [List.length_append, List.length_cons, List.length_nil]; omega)
      (fun f i s hi hs => by
        have hi' := hi
        unfold nE at hi'
        have e1 : IntKind.i64.wrap ((i : Int) + 1) = i + 1 := i64_in _ (by omega)
        rw [zqpt]
        unfold zqpm
        refine (c_pos (by omega)).trans ?_
        refine (mwhen_eq h hi _).trans ?_
        simp only [e1]
        exact c_room (by simp only [List.length_cons, List.length_nil]; omega))
      (fun f s hs => by
        rw [zqpt]
        unfold zqpm
        exact c_neg (by unfold nE; omega))
    unfold zqpu
    rw [key]
    have : ∀ (l : List Nat) (s : List (Int × Int)), l.foldl (fun s i => s ++ [rangeN m i]) s = s ++ l.map (rangeN m) := by
      intro l
      induction l with
      | nil => intro s; simp
      | cons x l ih => intro s; simp only [List.foldl_cons, List.map_cons]; rw [ih, List.append_assoc]; rfl
    rw [this]
    rfl
end
end
end Go.Lift

/- Records of the dice and their order; the example of the chapter. -/
namespace Go.Lift
open Go.RowKit Go.IntWalk
noncomputable section
set_option linter.unusedVariables false
set_option linter.unusedSimpArgs false
set_option maxRecDepth 10000

/-- A loop that only looks and always goes on. -/
theorem pass_loop {β : Type} (n : Nat) (F : Nat → Int → Option β) (K : Option β) (N : Nat) (hn : n < N)
    (h1 : ∀ (m i : Nat), i < n → F (m + 1) (i : Int) = F m ((i : Int) + 1))
    (h2 : ∀ (m : Nat), F (m + 1) (n : Int) = K) : F N 0 = K :=
  range_fold' (σ := Unit) n (fun _ _ => True) (fun m i _ => F m i) (fun s _ => s) (fun _ => K) () N hn trivial (fun _ _ _ _ => trivial) (fun m i _ hi _ => h1 m i hi) (fun m _ _ => h2 m)

/-- The true times as a solution. -/
def xOf (times : List Int) (j : Nat) : Int := if j = 0 then 0 else times.getD (j - 1) 0
theorem xOf_zero (times : List Int) : xOf times 0 = 0 := rfl
theorem xOf_succ (times : List Int) (j : Nat) : xOf times (j + 1) = times.getD j 0 := by unfold xOf; rw [if_neg (by omega)]; rfl

section
variable {n : Int} {r : Rec} {ahead times : List Int}
theorem RecOk.nE_le (h : RecOk n r ahead times) : (nE r : Int) ≤ n := h.fewE
theorem RecOk.evOk (h : RecOk n r ahead times) {i : Nat} (hi : i < nE r) : EventOk r.1.length ahead (evAt r i) (times.getD i 0) := h.events i hi

theorem RecOk.whenAt (h : RecOk n r ahead times) (hn : n ≤ 40) {i : Nat} (hi : i < nE r) : (whenAt r i).2 = true ∧ (whenAt r i).1.1 ≤ times.getD i 0 ∧ times.getD i 0 ≤ (whenAt r i).1.2 := by
  obtain ⟨a1, a2, a3, a4, a5⟩ := h.evOk hi
  have hb := ahead_bd h.hosts (evAt r i).1.toNat
  have e := h.when? hn (host := (evAt r i).1) (c := (evAt r i).2.1) ⟨a1, a2⟩ (by omega)
  have t := h.when_true (host := (evAt r i).1) (c := (evAt r i).2.1) ⟨a1, a2⟩ (by omega)
  unfold Go.Lift.whenAt
  rw [e]
  refine ⟨rfl, ?_, ?_⟩ <;> simp only <;> omega

theorem RecOk.whens (h : RecOk n r ahead times) (hn : n ≤ 40) : whensOk r = true := whensOk_iff.2 fun i hi => (h.whenAt hn hi).1

theorem RecOk.solR (h : RecOk n r ahead times) (hn : n ≤ 40) : SolR r (xOf times) := by
  refine ⟨fun i hi => ?_, fun i j hi hj hij hh hc => ?_, fun l hl => ?_⟩
  · have := h.whenAt hn hi
    rw [xOf_succ, xOf_zero]
    omega
  · obtain ⟨a1, a2, a3, a4, a5⟩ := h.evOk hi
    obtain ⟨b1, b2, b3, b4, b5⟩ := h.evOk hj
    rw [xOf_succ, xOf_succ]
    rw [← hh] at b5
    have hd : 0 ≤ driftAt r (evAt r i).1 ∧ driftAt r (evAt r i).1 ≤ 500000 := h.drift_ok _
    have := elapsed_le hd (d := (evAt r j).2.1 - (evAt r i).2.1) (by omega)
    omega
  · have := h.links l hl
    unfold LinkOk at this
    rw [xOf_succ, xOf_succ]
    omega

theorem RecOk.closed (h : RecOk n r ahead times) (hn : n ≤ 7) : ∃ m, ClosedR r m := by
  have := h.nE_le
  exact closed_some (h.valid (by omega)) (h.whens (by omega)) (by omega) (h.solR (by omega))
end

section
variable {β : Type}
theorem c_nt {a b : Option β} : cond (!true) a b = b := rfl
theorem c_nf {a b : Option β} : cond (!false) a b = a := rfl

/-- The loops of Open. -/
def openL (n : Nat) (m : Mat) (a : Nat) : List (Int × Int) := ((List.range' (a + 1) (n - (a + 1))).filter fun b => opn m a b).map fun (b : Nat) => ((a : Int), (b : Int))

theorem open_p1 {n : Nat} {m : Mat} (h : MatB n m) (k1 : zqq0 β) {a : Nat} (ha : a < n) (r : List Host) (r2 : List Sync) (r3 : List Event) (r4 : List Link) (hr : r3.length = n) (t15 t16 : Int) (out : List (Int × Int)) (ho : out.length ≤ 100000) :
    zqqj k1 m true (a : Int) ((a : Int) + 1) t15 t16 r r2 r3 r4 out = k1 m true t15 t16 r r2 r3 r4 (out ++ openL n m a) := by
  have hs := h.small
  have key : ∀ (c b f : Nat) (s : List (Int × Int)), b + c = n → c < f → s.length + c ≤ 100100 →
      zqqh f k1 m true (a : Int) (b : Int) t15 t16 r r2 r3 r4 s = k1 m true t15 t16 r r2 r3 r4 (s ++ ((List.range' b c).filter fun b => opn m a b).map fun (b : Nat) => ((a : Int), (b : Int))) := by
    intro c
    induction c with
    | zero =>
      intro b f s hb hf hs'
      obtain ⟨f, rfl⟩ : ∃ m, f = m + 1 := ⟨f - 1, by omega⟩
      rw [zqqi]
      unfold zqq8
      refine (c_neg (by omega)).trans ?_
      simp
    | succ c ih =>
      intro b f s hb hf hs'
      obtain ⟨f, rfl⟩ : ∃ m, f = m + 1 := ⟨f - 1, by omega⟩
      have e1 : IntKind.i64.wrap ((b : Int) + 1) = ((b + 1 : Nat) : Int) := i64_in _ (by omega)
      rw [zqqi]
      unfold zqq8
      refine (c_pos (by omega)).trans ?_
      simp only [cond_true, e1]
      refine (open_eq h ha (by omega) _).trans ?_
      rw [List.range'_succ, List.filter_cons]
      cases ho : opn m a b with
      | true =>
        simp only [cond_true, if_true, List.map_cons]
        refine (c_room (by simp only [List.length_cons, List.length_nil]; omega)).trans ?_
        refine (ih (b + 1) f _ (by omega) (by omega) (by simp only [List.length_append, List.length_cons, List.length_nil]; omega)).trans ?_
        rw [List.append_assoc]
        rfl
      | false => exact ih (b + 1) f _ (by omega) (by omega) (by omega)
  unfold zqqj
  have := key (n - (a + 1)) (a + 1) fuel out (by omega) (lt_fuel (by omega)) (by omega)
  rw [show ((a : Int) + 1) = ((a + 1 : Nat) : Int) by omega, this]
  rfl

def openW (n : Nat) (m : Mat) : List (Int × Int) := (List.range n).flatMap (openL n m)

theorem openL_len (n : Nat) (m : Mat) (a : Nat) : (openL n m a).length ≤ n := by
  unfold openL
  rw [List.length_map]
  have := List.length_filter_le (fun b => opn m a b) (List.range' (a + 1) (n - (a + 1)))
  rw [List.length_range'] at this
  omega

theorem Open_eq {r : Rec} {m : Mat} (he : closedW r = some m) (h : MatB (nE r) m) (k : List (Int × Int) → Option β) : zqqp r k = k (openW (nE r) m) := by
  have hs := h.small
  unfold zqqp zqqe
  refine (closed_eq hs _).trans ?_
  rw [he]
  simp only []
  have key := range_fold' (nE r) (fun i (s : List (Int × Int)) => s.length ≤ 100 * i) (fun f j s => zqql f (fun out => k out) m true (r.2.2.1.length : Int) j r.1 r.2.1 r.2.2.1 r.2.2.2 s)
    (fun s i => s ++ openL (nE r) m i) (fun s => k s) [] fuel (lt_fuel (by omega)) (by simp)
    (fun i s hi hs => by have := openL_len (nE r) m i; rw [List.length_append]; omega)
    (fun f i s hi hs' => by
      have hi' := hi
      unfold nE at hi'
      have e1 : IntKind.i64.wrap ((i : Int) + 1) = i + 1 := i64_in _ (by omega)
      rw [zqqm]
      unfold zqqb
      refine (c_pos (by omega)).trans ?_
      simp only [e1]
      refine (open_p1 h _ hi _ _ _ _ rfl _ _ s (by omega)).trans ?_
      simp only [e1])
    (fun f s hs => by
      rw [zqqm]
      unfold zqqb
      exact c_neg (by unfold nE; omega))
  unfold zqqn
  rw [key, foldl_flat]
  rfl

theorem Open_none {r : Rec} (he : closedW r = none) (hE : nE r ≤ 100) (k : List (Int × Int) → Option β) : zqqp r k = k [] := by
  unfold zqqp zqqe
  refine (closed_eq hE _).trans ?_
  rw [he]
  simp only []
  have key := pass_loop (nE r) (fun f j => zqql f (fun out => k out) [] false (r.2.2.1.length : Int) j r.1 r.2.1 r.2.2.1 r.2.2.2 []) (k []) fuel (lt_fuel (by omega))
    (fun f i hi => by
      have hi' := hi
      unfold nE at hi'
      have e1 : IntKind.i64.wrap ((i : Int) + 1) = i + 1 := i64_in _ (by unfold nE at hE; omega)
      rw [zqqm]
      unfold zqqb
      refine (c_pos (by omega)).trans ?_
      simp only [e1]
      have : zqqj (fun (m2 : Mat) ok2 t152 t162 r_5 r_6 r_7 r_8 out2 => zqql f (fun out => k out) m2 ok2 t152 (IntKind.i64.wrap (t162 + 1)) r_5 r_6 r_7 r_8 out2) ([] : Mat) false (i : Int) ((i : Int) + 1) (r.2.2.1.length : Int) (i : Int) r.1 r.2.1 r.2.2.1 r.2.2.2 [] =
          zqql f (fun out => k out) [] false (r.2.2.1.length : Int) (IntKind.i64.wrap ((i : Int) + 1)) r.1 r.2.1 r.2.2.1 r.2.2.2 [] := by
        unfold zqqj
        rw [show fuel = (fuel - 1) + 1 by decide, zqqi]
        unfold zqq8
        cases decide ((i : Int) + 1 < (r.2.2.1.length : Int)) <;> rfl
      refine this.trans ?_
      rw [e1])
    (fun f => by
      rw [zqqm]
      unfold zqqb
      exact c_neg (by unfold nE; omega))
  unfold zqqn
  exact key
end

section
variable {β : Type}
end
end
end Go.Lift

/- The reference of the chapter 38 in plain Lean. -/
namespace Go.Lift
open Go.RowKit Go.IntWalk
noncomputable section
set_option linter.unusedVariables false
set_option linter.unusedSimpArgs false

section
variable {β : Type}
theorem ref25_In_eq (n lo hi : Int) (k : Bool → Option β) : zq24 n lo hi k = k (inN n lo hi) := by
  simp only [zq24, zq21, inN, c_kb]
theorem ref38_Valid_p1_eq (k1 : zq4j β) (k2 : zq4k β) (r : List Host) (hr : r.length ≤ 1000000) (r2 : List Sync) (r3 : List Event) (r4 : List Link) :
    zq5k k1 k2 0 r r2 r3 r4 = cond (r.all vHost) (k2 r r2 r3 r4) (k1 false) := by
  refine check_loop (fun m i => zq5i m k1 k2 i r r2 r3 r4) vHost _ _ ([], 0) r fuel (lt_fuel (by omega)) (fun m i hi => ?_) (fun m => ?_)
  · simp (disch := omega) only [zq5j, zq53, ref25_In_eq, c_pos, c_inb, c_not, i64_in, Int.toNat_natCast, vHost]
  · simp (disch := omega) only [zq5j, zq53, c_neg]

theorem vSync_ref (n : Nat) (e : Sync) : vSync n e = (inN e.1 0 ((n : Int) - 1) && (inN e.2.1 0 8589934592 && (inN e.2.2.1 0 e.2.2.2 && !decide ((8589934592 : Int) < e.2.2.2)))) := by
  rw [Bool.eq_iff_iff]
  simp [vSync, okSync, inN]
  omega

theorem ref38_Valid_p2_eq (k1 : zq4o β) (k2 : zq4p β) (r : List Host) (hr : r.length ≤ 1000000) (r2 : List Sync) (hr2 : r2.length ≤ 1000000) (r3 : List Event) (r4 : List Link) :
    zq5o k1 k2 0 r r2 r3 r4 = cond (r2.all (vSync r.length)) (k2 r r2 r3 r4) (k1 false) := by
  refine check_loop (fun m i => zq5m m k1 k2 i r r2 r3 r4) (vSync r.length) _ _ (0, 0, 0, 0) r2 fuel (lt_fuel (by omega)) (fun m i hi => ?_) (fun m => ?_)
  · simp (disch := omega) only [zq5n, zq56, ref25_In_eq, c_pos, c_inb, c_not, i64_in, Int.toNat_natCast, vSync_ref, c_andn, c_and]
  · simp (disch := omega) only [zq5n, zq56, c_neg]

theorem ref38_Valid_p3_eq (k1 : zq4t β) (k2 : zq4u β) (r : List Host) (hr : r.length ≤ 1000000) (r2 : List Sync) (r3 : List Event) (hr3 : r3.length ≤ 1000000) (r4 : List Link) :
    zq5s k1 k2 0 r r2 r3 r4 = cond (r3.all (vEvent r.length)) (k2 r r2 r3 r4) (k1 false) := by
  refine check_loop (fun m i => zq5q m k1 k2 i r r2 r3 r4) (vEvent r.length) _ _ (0, 0, []) r3 fuel (lt_fuel (by omega)) (fun m i hi => ?_) (fun m => ?_)
  · simp (disch := omega) only [zq5r, zq59, ref25_In_eq, c_pos, c_inb, c_not, i64_in, Int.toNat_natCast, vEvent, c_and]
  · simp (disch := omega) only [zq5r, zq59, c_neg]

theorem ref38_Valid_p4_eq (k1 : zq4y β) (k2 : zq4z β) (r : List Host) (r2 : List Sync) (r3 : List Event) (hr3 : r3.length ≤ 1000000) (r4 : List Link) (hr4 : r4.length ≤ 1000000) :
    zq5w k1 k2 0 r r2 r3 r4 = cond (r4.all (vLink r3.length)) (k2 ()) (k1 false) := by
  refine check_loop (fun m i => zq5u m k1 k2 i r r2 r3 r4) (vLink r3.length) _ _ (0, 0, 0) r4 fuel (lt_fuel (by omega)) (fun m i hi => ?_) (fun m => ?_)
  · simp (disch := omega) only [zq5v, zq5c, ref25_In_eq, c_pos, c_inb, c_not, i64_in, Int.toNat_natCast, vLink, c_nand, c_and, Bool.not_not]
  · simp (disch := omega) only [zq5v, zq5c, c_neg]

theorem ref38_Valid_eq (r : Rec) (k : Bool → Option β) : zq5y r k = k (valid r) := by
  simp only [zq5y, zq5f]
  by_cases h1 : (8 : Int) < r.1.length
  · simp [valid, small, h1]
  by_cases h2 : (64 : Int) < r.2.1.length
  · simp [valid, small, h1, h2]
  by_cases h3 : (40 : Int) < r.2.2.1.length
  · simp [valid, small, h1, h2, h3]
  by_cases h4 : (64 : Int) < r.2.2.2.length
  · simp [valid, small, h1, h2, h3, h4]
  rw [decide_eq_false h1, decide_eq_false h2, decide_eq_false h3, decide_eq_false h4]
  simp only [c_f]
  rw [ref38_Valid_p1_eq _ _ _ (by omega), ref38_Valid_p2_eq _ _ _ (by omega) _ (by omega), ref38_Valid_p3_eq _ _ _ (by omega) _ _ (by omega), ref38_Valid_p4_eq _ _ _ _ _ (by omega) _ (by omega)]
  simp only [c_kb, c_k, valid, small, decide_eq_false h1, decide_eq_false h2, decide_eq_false h3, decide_eq_false h4, Bool.not_false, Bool.true_and]
  apply k_eq
  cases r.1.all vHost <;> cases r.2.1.all (vSync r.1.length) <;> cases r.2.2.1.all (vEvent r.1.length) <;> cases r.2.2.2.all (vLink r.2.2.1.length) <;> rfl

theorem ref38_Elapsed_eq (drift d : Int) (k : Int → Int → Option β) : zq65 drift d k = k (elapsed drift d).1 (elapsed drift d).2 := by
  simp only [zq65, zq62, ref25_In_eq, elapsed]
  cases h1 : inN drift 0 500000 with
  | false => rfl
  | true =>
    cases h2 : inN d 0 8589934592 with
    | false => rfl
    | true =>
      have h1 := inN_iff.1 h1
      have h2 := inN_iff.1 h2
      simp (disch := omega) only [Bool.not_true, c_f, Bool.and_true, cond_true, i64_in, i64_quo, c_nneg]
      congr 2
      omega

theorem ref38_From_eq (h : Host) (s : Sync) (c : Int) (k : Int × Int → Option β) : zq7z h s c k = k (fromS h s c) := by
  rw [← clock_From_eq h s c k]
  simp only [zqjx, zqju, clock_in_eq, clock_compared_eq, clock_instant_eq, clock_Elapsed_eq, zq7z, zq7w, ref25_In_eq, ref38_Elapsed_eq]
  have : okSync s = (inN s.2.1 0 8589934592 && (inN s.2.2.1 0 s.2.2.2 && !decide ((8589934592 : Int) < s.2.2.2))) := by
    rw [Bool.eq_iff_iff]; simp [okSync, inN]; omega
  rw [this]
  cases inN h.2 0 500000 <;> cases inN s.2.1 0 8589934592 <;> cases inN s.2.2.1 0 s.2.2.2 <;> cases decide ((8589934592 : Int) < s.2.2.2) <;> rfl

theorem ref38_Meet_eq (a b : Int × Int) (k : Int × Int → Option β) : zq7s a b k = k (meet2 a b) := by simp only [zq7s, zq7p, meet2]
theorem ref38_Empty_eq (a : Int × Int) (k : Bool → Option β) : zq86 a k = k (decide (a.2 < a.1)) := by simp only [zq86, zq83]

theorem ref38_When_p1_eq (k1 : zqfh β) (host c : Int) (r : List Host) (hh : 0 ≤ host ∧ host < r.length) (r2 : List Sync) (hx : r2.length ≤ 1000000) (r3 : List Event) (r4 : List Link) (a b : Int) (o : Int × Int) :
    zqft k1 host c 0 r r2 r3 r4 a b o.1 o.2 = k1 a b (r2.foldl (fun out s => cond (decide (s.1 = host)) (meet2 out (fromS (r.getD host.toNat ([], 0)) s c)) out) o).1 (r2.foldl (fun out s => cond (decide (s.1 = host)) (meet2 out (fromS (r.getD host.toNat ([], 0)) s c)) out) o).2 := by
  refine fold_loop (σ := Int × Int) (fun m i o => zqfr m k1 host c i r r2 r3 r4 a b o.1 o.2) (fun out s => cond (decide (s.1 = host)) (meet2 out (fromS (r.getD host.toNat ([], 0)) s c)) out) (fun o => k1 a b o.1 o.2) (0, 0, 0, 0) r2 o fuel (lt_fuel (by omega)) (fun m i s hi => ?_) (fun m s => ?_)
  · simp (disch := omega) only [zqfs, zqfl, ref38_From_eq, ref38_Meet_eq, c_pos, c_inb, i64_in, Int.toNat_natCast]
    cases decide ((r2.getD i (0, 0, 0, 0)).1 = host) <;> rfl
  · simp (disch := omega) only [zqfs, zqfl, c_neg]

theorem ref38_When_eq (r : Rec) (host c : Int) (k : Int × Int → Bool → Option β) : zqfv r host c k = k (when? r host c).1 (when? r host c).2 := by
  simp only [zqfv, zqfo, ref38_Valid_eq, ref25_In_eq, ref38_Empty_eq, when?]
  cases h1 : valid r with
  | false => rfl
  | true =>
    have hb := valid_bd h1
    simp (disch := omega) only [i64_in, Bool.not_true, c_f, Bool.true_and]
    cases h2 : inN host 0 ((r.1.length : Int) - 1) with
    | false => rfl
    | true =>
      cases h3 : inN c 0 8589934592 with
      | false => rfl
      | true =>
        have h2 := inN_iff.1 h2
        simp only [Bool.not_true, c_f, Bool.and_true, cond_true]
        rw [ref38_When_p1_eq _ host c r.1 (by omega) r.2.1 (by omega) r.2.2.1 r.2.2.2 0 0 (0, 8589934592)]
        rfl

end
end
end Go.Lift

/- The reference of the chapter 39 in plain Lean. -/
namespace Go.Lift
open Go.RowKit Go.IntWalk
noncomputable section
set_option linter.unusedVariables false
set_option linter.unusedSimpArgs false
set_option maxRecDepth 10000

/-! ### The rounds, with a look at the whole diagonal behind each -/
def refRounds (n : Nat) : Nat → Nat → Mat → Option Mat
  | 0, _, m => some m
  | c + 1, k, m => if diagOk n (roundW n k m) then refRounds n c (k + 1) (roundW n k m) else none

theorem refRounds_eq {n : Nat} : ∀ (c k : Nat) (m : Mat), Sq n m → k + (c + 1) = n → refRounds n (c + 1) k m = (match roundsW n (c + 1) k m with | some m' => if diagOk n m' then some m' else none | none => none) := by
  intro c
  induction c with
  | zero =>
    intro k m hm hk
    have h1 := hm.roundW k
    unfold refRounds roundsW
    cases hd : diagOk n (roundW n k m) with
    | true =>
      have := diagOk_iff.1 hd k (by omega)
      rw [if_neg (show ¬ at2 (roundW n k m) k k < 0 by omega)]
      simp [refRounds, roundsW, hd]
    | false =>
      simp only [Bool.false_eq_true, if_false]
      by_cases hk0 : at2 (roundW n k m) k k < 0
      · rw [if_pos hk0]
      · rw [if_neg hk0]
        simp [roundsW, hd]
  | succ c ih =>
    intro k m hm hk
    have h1 := hm.roundW k
    have e : roundsW n (c + 1 + 1) k m = if at2 (roundW n k m) k k < 0 then none else roundsW n (c + 1) (k + 1) (roundW n k m) := rfl
    have e' : refRounds n (c + 1 + 1) k m = if diagOk n (roundW n k m) then refRounds n (c + 1) (k + 1) (roundW n k m) else none := rfl
    rw [e, e']
    cases hd : diagOk n (roundW n k m) with
    | true =>
      have := diagOk_iff.1 hd k (by omega)
      rw [if_neg (show ¬ at2 (roundW n k m) k k < 0 by omega), if_pos rfl]
      exact ih (k + 1) _ h1 (by omega)
    | false =>
      rw [if_neg (by simp)]
      split
      · rename_i m' heq
        split at heq
        · cases heq
        · have hle := rounds_le (c + 1) (k + 1) _ m' h1 heq
          have hd' : diagOk n m' = false := by
            cases hx : diagOk n m' with
            | false => rfl
            | true =>
              have : diagOk n (roundW n k m) = true := diagOk_iff.2 (fun i hi => by
                have := diagOk_iff.1 hx i hi
                have := hle i i hi hi
                omega)
              rw [hd] at this
              cases this
          rw [hd']
          rfl
      · rfl

/-! ### The beginning -/
def initM (n : Nat) : Mat := (List.range n).map fun i => (List.replicate n BIG).set i 0
theorem initM_sq (n : Nat) : Sq n (initM n) := by
  refine ⟨by simp [initM], fun i hi => ?_⟩
  simp [initM, List.getD, hi]
theorem initM_at {n i j : Nat} (hi : i < n) (hj : j < n) : at2 (initM n) i j = if i = j then 0 else 1099511627776 := by
  unfold at2 initM
  have : ((List.range n).map fun i => (List.replicate n BIG).set i 0).getD i [] = (List.replicate n BIG).set i 0 := by simp [List.getD, hi]
  rw [this]
  by_cases h : i = j
  · rw [if_pos h, ← h, getD_set_eq (by simp; exact hi)]
  · rw [if_neg h, getD_set_ne h]
    simp [List.getD, hj]

def noSelf (l : List Diff) : Prop := ∀ d ∈ l, d.1.toNat ≠ d.2.1.toNat

theorem fold_put_sq {n : Nat} (l : List Diff) {m : Mat} (hm : Sq n m) : Sq n (l.foldl putW m) := fold_inv (Sq n) _ (fun m d h => h.putW d) _ _ hm

theorem start_init {n : Nat} {l : List Diff} (ho : l.all (diffOk n) = true) (hs : noSelf l) : l.foldl putW (initM n) = startW n l := by
  refine mat_ext (fold_put_sq l (initM_sq n)) (directW_sq n l).diagW (fun i j hi hj => ?_)
  have g1 := direct_glb l ho (initM n) (initM_sq n) i j
  have g2 := start_glb ho hi hj
  have key : ∀ v, v ≤ at2 (l.foldl putW (initM n)) i j ↔ v ≤ at2 (startW n l) i j := by
    intro v
    rw [g1 v, g2 v, initM_at hi hj]
    by_cases h : i = j
    · rw [if_pos h]
      constructor
      · intro hv
        exact ⟨by omega, hv.2, fun _ => hv.1⟩
      · intro hv
        exact ⟨hv.2.2 h, hv.2.1⟩
    · rw [if_neg h]
      constructor
      · intro hv
        exact ⟨hv.1, hv.2, fun e => absurd e h⟩
      · intro hv
        exact ⟨hv.1, hv.2.1⟩
  exact Int.le_antisymm ((key _).1 (Int.le_refl _)) ((key _).2 (Int.le_refl _))

/-- No entry is beyond BIG. -/
def Cap (n : Nat) (m : Mat) : Prop := ∀ i j, i < n → j < n → at2 m i j ≤ 1099511627776
theorem Cap.le {n : Nat} {m m' : Mat} (h : Cap n m) (hl : Le n m' m) : Cap n m' := fun i j hi hj => Int.le_trans (hl i j hi hj) (h i j hi hj)
theorem Cap.relax {n : Nat} {m : Mat} (h : Cap n m) (hm : Sq n m) {k i j : Nat} (hi : i < n) (hj : j < n) : Cap n (relaxW k i j m) := h.le (relax_le hm hi hj)
theorem start_cap {n : Nat} {l : List Diff} (ho : l.all (diffOk n) = true) : Cap n (startW n l) := fun i j hi hj => ((start_glb ho hi hj _).1 (Int.le_refl _)).1

section
variable {β : Type}
theorem ref39_Valid_eq {n : Nat} (h1 : 1 ≤ n) (hn : n ≤ 41) {l : List Diff} (k : Bool → Option β) : zq6o (n : Int) l k = k (validD n l) := by
  unfold zq6o zq6h
  refine (ref25_In_eq _ _ _ _).trans ?_
  rw [inN_mk (by omega)]
  refine c_nt.trans ?_
  unfold validD
  by_cases hl : l.length ≤ 4000
  · refine (c_neg (by omega)).trans ?_
    rw [decide_eq_true hl, Bool.true_and]
    unfold zq6m
    refine (check_loop (fun f j => zq6k f (fun t => k t) (fun _ => k true) (n : Int) l j) (diffOk n) (k false) (k true) ((0 : Int), ((0 : Int), (0 : Int))) l fuel (lt_fuel (by omega)) (fun f j hj => ?_) (fun f => ?_)).trans ?_
    · have e1 : IntKind.i64.wrap ((j : Int) + 1) = j + 1 := i64_in _ (by omega)
      have e2 : IntKind.i64.wrap ((n : Int) - 1) = n - 1 := i64_in _ (by omega)
      rw [zq6l]
      unfold zq6e
      simp only [Int.toNat_natCast, e1, e2]
      refine (c_pos (by omega)).trans ?_
      refine (c_inb (by omega)).trans ?_
      generalize l.getD j ((0 : Int), ((0 : Int), (0 : Int))) = d
      refine (ref25_In_eq _ _ _ _).trans ?_
      unfold diffOk
      by_cases a1 : 0 ≤ d.1 ∧ d.1 ≤ (n : Int) - 1
      · rw [inN_mk a1]
        refine c_nt.trans ?_
        refine (c_inb (by omega)).trans ?_
        refine (ref25_In_eq _ _ _ _).trans ?_
        by_cases a2 : 0 ≤ d.2.1 ∧ d.2.1 ≤ (n : Int) - 1
        · rw [inN_mk a2]
          refine c_nt.trans ?_
          refine (c_inb (by omega)).trans ?_
          refine (ref25_In_eq _ _ _ _).trans ?_
          by_cases a3 : -17179869184 ≤ d.2.2 ∧ d.2.2 ≤ 17179869184
          · rw [inN_mk a3, decide_eq_true (show (0 ≤ d.1 ∧ d.1 < (n : Int) ∧ 0 ≤ d.2.1 ∧ d.2.1 < (n : Int) ∧ -17179869184 ≤ d.2.2 ∧ d.2.2 ≤ 17179869184) by omega)]
            rfl
          · have : inN d.2.2 (-17179869184) 17179869184 = false := Bool.eq_false_iff.2 (fun h => a3 (inN_iff.1 h))
            rw [this, decide_eq_false (show ¬ (0 ≤ d.1 ∧ d.1 < (n : Int) ∧ 0 ≤ d.2.1 ∧ d.2.1 < (n : Int) ∧ -17179869184 ≤ d.2.2 ∧ d.2.2 ≤ 17179869184) by omega)]
            rfl
        · have : inN d.2.1 0 ((n : Int) - 1) = false := Bool.eq_false_iff.2 (fun h => a2 (inN_iff.1 h))
          rw [this, decide_eq_false (show ¬ (0 ≤ d.1 ∧ d.1 < (n : Int) ∧ 0 ≤ d.2.1 ∧ d.2.1 < (n : Int) ∧ -17179869184 ≤ d.2.2 ∧ d.2.2 ≤ 17179869184) by omega)]
          rfl
      · have : inN d.1 0 ((n : Int) - 1) = false := Bool.eq_false_iff.2 (fun h => a1 (inN_iff.1 h))
        rw [this, decide_eq_false (show ¬ (0 ≤ d.1 ∧ d.1 < (n : Int) ∧ 0 ≤ d.2.1 ∧ d.2.1 < (n : Int) ∧ -17179869184 ≤ d.2.2 ∧ d.2.2 ≤ 17179869184) by omega)]
        rfl
    · rw [zq6l]
      unfold zq6e
      exact c_neg (by omega)
    · cases l.all (diffOk n) <;> rfl
  · refine (c_pos (by omega)).trans ?_
    rw [decide_eq_false hl]
    rfl

theorem rclose_p1 {n : Nat} (hn : n ≤ 100) (k1 : zqcm β) (l : List Diff) (i : Int) (d : Mat) :
    zqee k1 (n : Int) l i 0 d [] = k1 (n : Int) l i d (List.replicate n BIG) := by
  have key := range_fold' n (fun i (s : List Int) => s.length = i) (fun f j s => zqec f k1 (n : Int) l i j d s) (fun s _ => s ++ [BIG]) (fun s => k1 (n : Int) l i d s) [] fuel (lt_fuel (by omega)) rfl
    (fun i s hi hs => by simp [hs])
    (fun f j s hj hs => by
      have e1 : IntKind.i64.wrap ((j : Int) + 1) = j + 1 := i64_in _ (by omega)
      rw [zqed]
      unfold zqdl
      simp only [e1]
      refine (c_pos (by omega)).trans ?_
      exact c_room (by simp only [List.length_cons, List.length_nil]; omega))
    (fun f s hs => by
      rw [zqed]
      unfold zqdl
      exact c_neg (by omega))
  unfold zqee
  rw [key]
  congr 1
  have : ∀ c, (List.range c).foldl (fun (s : List Int) _ => s ++ [BIG]) [] = List.replicate c BIG := by
    intro c
    induction c with
    | zero => rfl
    | succ c ih => rw [range_fold, ih, List.replicate_succ']
  exact this n

theorem rclose_p2 {n : Nat} (hn : n ≤ 100) (k1 : zqcq β) (l : List Diff) :
    zqei k1 (n : Int) l 0 [] = k1 (n : Int) l (initM n) := by
  have key := range_fold' n (fun i (s : Mat) => s.length = i) (fun f j s => zqeg f k1 (n : Int) l j s) (fun s i => s ++ [(List.replicate n BIG).set i 0]) (fun s => k1 (n : Int) l s) [] fuel (lt_fuel (by omega)) rfl
    (fun i s hi hs => by simp [hs])
    (fun f j s hj hs => by
      have e1 : IntKind.i64.wrap ((j : Int) + 1) = j + 1 := i64_in _ (by omega)
      rw [zqeh]
      unfold zqdo
      refine (c_pos (by omega)).trans ?_
      refine (rclose_p1 hn _ _ _ _).trans ?_
      simp only [Int.toNat_natCast, e1]
      refine (c_inb (by simp; omega)).trans ?_
      exact c_room (by simp only [List.length_cons, List.length_nil]; omega))
    (fun f s hs => by
      rw [zqeh]
      unfold zqdo
      exact c_neg (by omega))
  unfold zqei
  rw [key]
  congr 1
  have : ∀ (l : List Nat) (s : Mat), l.foldl (fun (s : Mat) i => s ++ [(List.replicate n BIG).set i 0]) s = s ++ l.map fun i => (List.replicate n BIG).set i 0 := by
    intro l
    induction l with
    | nil => intro s; simp
    | cons x l ih => intro s; simp only [List.foldl_cons, List.map_cons]; rw [ih, List.append_assoc]; rfl
  rw [this]
  rfl

theorem rclose_p3 {n : Nat} (hn : n ≤ 100) (k1 : zqcu β) (k2 : zqcv β) {l : List Diff} (hl : l.length ≤ 4000) (ho : l.all (diffOk n) = true) (hs : noSelf l) {m : Mat} (hm : Sq n m) :
    zqem k1 k2 (n : Int) l 0 m = k2 (n : Int) (l.foldl putW m) := by
  have key := fold_loopI (fun _ (m : Mat) => Sq n m) (fun f j m => zqek f k1 k2 (n : Int) l j m) putW (fun m => k2 (n : Int) m) ((0 : Int), ((0 : Int), (0 : Int))) l m fuel (lt_fuel (by omega)) hm
    (fun j m hj hm => hm.putW _)
    (fun f j m hj hm => by
      have e1 : IntKind.i64.wrap ((j : Int) + 1) = j + 1 := i64_in _ (by omega)
      have hmem := getD_mem (d := ((0 : Int), ((0 : Int), (0 : Int)))) hj
      have hd := of_decide_eq_true (List.all_eq_true.1 ho _ hmem)
      have hns := hs _ hmem
      have l0 := hm.len
      have l1 := hm.row (l.getD j ((0 : Int), ((0 : Int), (0 : Int)))).1.toNat (by omega)
      rw [zqel]
      unfold zqdr
      simp only [Int.toNat_natCast, e1]
      refine (c_pos (by omega)).trans ?_
      refine (c_inb (by omega)).trans ?_
      refine (c_inb (by omega)).trans ?_
      refine (c_inb (by omega)).trans ?_
      refine (c_inb (by omega)).trans ?_
      refine (c_inb (by omega)).trans ?_
      refine (c_inb (by omega)).trans ?_
      refine (c_inb (by omega)).trans ?_
      refine (c_inb (by omega)).trans ?_
      refine (c_inb (by omega)).trans ?_
      refine (c_inb (by omega)).trans ?_
      refine (c_inb (by omega)).trans ?_
      refine (c_neg (by omega)).trans ?_
      rfl)
    (fun f m hm => by
      rw [zqel]
      unfold zqdr
      exact c_neg (by omega))
  unfold zqem
  exact key

theorem rclose_p5 {n : Nat} (hn : n ≤ 100) {k i : Nat} (hk : k < n) (hi : i < n) {m : Mat} (hm : Sq n m) (hc : Cap n m) (k1 : zqd3 β) :
    zqes k1 (n : Int) (k : Int) (i : Int) 0 m = k1 (n : Int) (k : Int) (i : Int) (rowW n k i m) := by
  have key := range_fold' n (fun _ (m : Mat) => Sq n m ∧ Cap n m) (fun f j m => zqeq f k1 (n : Int) (k : Int) (i : Int) j m) (fun m j => relaxW k i j m) (fun m => k1 (n : Int) (k : Int) (i : Int) m) m fuel (lt_fuel (by omega)) ⟨hm, hc⟩
    (fun j m hj hm => ⟨hm.1.relaxW _ _ _, hm.2.relax hm.1 hi hj⟩)
    (fun f j m hj hm => by
      have e1 : IntKind.i64.wrap ((j : Int) + 1) = j + 1 := i64_in _ (by omega)
      have l0 := hm.1.len
      have l1 := hm.1.row i hi
      have l2 := hm.1.row k hk
      have c1 := hm.2 i k hi hk
      have c2 := hm.2 k j hk hj
      rw [zqer]
      unfold zqdx
      simp only [Int.toNat_natCast]
      refine (c_pos (by omega)).trans ?_
      refine (c_inb (by omega)).trans ?_
      refine (c_inb (by omega)).trans ?_
      have hq : ∀ (t : Bool), (zqeo (fun (n2 : Int) (k_2 : Int) (i_2 : Int) (j2 : Int) (d2 : Mat) => zqeq f k1 n2 k_2 i_2 (IntKind.i64.wrap (j2 + (1 : Int))) d2) (n : Int) (k : Int) (i : Int) (j : Int) t m : Option β) =
          zqeq f k1 (n : Int) (k : Int) (i : Int) ((j : Int) + 1) (if t then setAt m i j (if IntKind.i64.wrap (at2 m i k + at2 m k j) < at2 m i j then IntKind.i64.wrap (at2 m i k + at2 m k j) else at2 m i j) else m) := fun t => by
        unfold zqeo zqdv zqdu
        cases t with
        | false =>
          simp only [cond_false, e1]
          rfl
        | true =>
          simp only [cond_true, Int.toNat_natCast, e1]
          refine (c_inb (by omega)).trans ?_
          refine (c_inb (by omega)).trans ?_
          refine (c_inb (by omega)).trans ?_
          refine (c_inb (by omega)).trans ?_
          refine (c_inb (by omega)).trans ?_
          refine (c_inb (by omega)).trans ?_
          refine (c_inb (by omega)).trans ?_
          refine (c_inb (by omega)).trans ?_
          rfl
      by_cases h1 : at2 m i k = BIG
      · refine (c_neg (p := (m.getD i []).getD k 0 < (1099511627776 : Int)) (show ¬ at2 m i k < 1099511627776 by rw [h1]; decide)).trans ?_
        refine (hq false).trans ?_
        have : relaxW k i j m = m := by unfold relaxW; rw [if_pos (.inl h1)]
        rw [this]
        rfl
      · have h1' : at2 m i k < 1099511627776 := by
          have : at2 m i k ≠ 1099511627776 := h1
          omega
        refine (c_pos (p := (m.getD i []).getD k 0 < (1099511627776 : Int)) h1').trans ?_
        refine (c_inb (by omega)).trans ?_
        refine (c_inb (by omega)).trans ?_
        refine (hq _).trans ?_
        by_cases h2 : at2 m k j = BIG
        · have : relaxW k i j m = m := by unfold relaxW; rw [if_pos (.inr h2)]
          rw [this, decide_eq_false (show ¬ (m.getD k []).getD j 0 < (1099511627776 : Int) from by
            have h3 : (m.getD k []).getD j 0 = 1099511627776 := h2
            omega)]
          rfl
        · have h2' : at2 m k j < 1099511627776 := by
            have : at2 m k j ≠ 1099511627776 := h2
            omega
          have : relaxW k i j m = setAt m i j (if IntKind.i64.wrap (at2 m i k + at2 m k j) < at2 m i j then IntKind.i64.wrap (at2 m i k + at2 m k j) else at2 m i j) := by unfold relaxW; rw [if_neg (fun h => h.elim h1 h2)]
          rw [this, decide_eq_true (show (m.getD k []).getD j 0 < (1099511627776 : Int) from h2')]
          rfl)
    (fun f m hm => by
      rw [zqer]
      unfold zqdx
      exact c_neg (by omega))
  unfold zqes
  exact key

theorem cap_rowW {n k i : Nat} {m : Mat} (hm : Sq n m) (hc : Cap n m) (hi : i < n) : Cap n (rowW n k i m) := by
  unfold rowW
  have key : ∀ (l : List Nat) (m : Mat), (∀ j ∈ l, j < n) → Sq n m → Cap n m → Cap n (l.foldl (fun m j => relaxW k i j m) m) := by
    intro l
    induction l with
    | nil => intro m _ _ hc; exact hc
    | cons x l ih => intro m hl hm hc; exact ih _ (fun j hj => hl j (by simp [hj])) (hm.relaxW _ _ _) (hc.relax hm hi (hl x (by simp)))
  exact key _ _ (fun j hj => List.mem_range.1 hj) hm hc

theorem rclose_p6 {n : Nat} (hn : n ≤ 100) {k : Nat} (hk : k < n) {m : Mat} (hm : Sq n m) (hc : Cap n m) (k1 : zqd7 β) :
    zqew k1 (n : Int) (k : Int) 0 m = k1 (n : Int) (k : Int) (roundW n k m) := by
  have key := range_fold' n (fun _ (m : Mat) => Sq n m ∧ Cap n m) (fun f j m => zqeu f k1 (n : Int) (k : Int) j m) (fun m i => rowW n k i m) (fun m => k1 (n : Int) (k : Int) m) m fuel (lt_fuel (by omega)) ⟨hm, hc⟩
    (fun j m hj hm => ⟨hm.1.rowW _ _, cap_rowW hm.1 hm.2 hj⟩)
    (fun f j m hj hm => by
      have e1 : IntKind.i64.wrap ((j : Int) + 1) = j + 1 := i64_in _ (by omega)
      rw [zqev]
      unfold zqe0
      refine (c_pos (by omega)).trans ?_
      refine (rclose_p5 hn hk hj hm.1 hm.2 _).trans ?_
      simp only [e1])
    (fun f m hm => by
      rw [zqev]
      unfold zqe0
      exact c_neg (by omega))
  unfold zqew
  exact key

theorem cap_roundW {n k : Nat} {m : Mat} (hm : Sq n m) (hc : Cap n m) : Cap n (roundW n k m) := by
  unfold roundW
  have key : ∀ (l : List Nat) (m : Mat), (∀ j ∈ l, j < n) → Sq n m → Cap n m → Cap n (l.foldl (fun m i => rowW n k i m) m) := by
    intro l
    induction l with
    | nil => intro m _ _ hc; exact hc
    | cons x l ih => intro m hl hm hc; exact ih _ (fun j hj => hl j (by simp [hj])) (hm.rowW _ _) (cap_rowW hm hc (hl x (by simp)))
  exact key _ _ (fun j hj => List.mem_range.1 hj) hm hc

theorem rclose_p7 {n : Nat} (hn : n ≤ 100) (k1 : zqdb β) (k2 : zqdc β) (k : Int) {m : Mat} (hm : Sq n m) :
    zqf0 k1 k2 (n : Int) k 0 m = cond (diagOk n m) (k2 (n : Int) k m) (k1 false []) := by
  have key := range_check (σ := Unit) n (fun _ _ => True) (fun f j _ => zqey f k1 k2 (n : Int) k j m) (fun i => decide (¬ at2 m i i < 0)) (fun s _ => s) (k1 false []) (fun _ => k2 (n : Int) k m) () fuel (lt_fuel (by omega)) trivial (fun _ _ _ _ _ => trivial)
    (fun f j _ hj _ => by
      have e1 : IntKind.i64.wrap ((j : Int) + 1) = j + 1 := i64_in _ (by omega)
      have l0 := hm.len
      have l1 := hm.row j hj
      rw [zqez]
      unfold zqe3
      simp only [Int.toNat_natCast, e1]
      refine (c_pos (by omega)).trans ?_
      refine (c_inb (by omega)).trans ?_
      refine (c_inb (by omega)).trans ?_
      by_cases h2 : at2 m j j < 0
      · refine (c_pos h2).trans ?_
        simp [h2]
      · refine (c_neg h2).trans ?_
        simp [h2])
    (fun f _ _ => by
      rw [zqez]
      unfold zqe3
      exact c_neg (by omega))
  unfold zqf0
  exact key

theorem rclose_p8 {n : Nat} (hn : n ≤ 100) (k1 : zqdg β) (k2 : zqdh β) : ∀ (c k f : Nat) (m : Mat), k + c = n → c < f → Sq n m → Cap n m →
    zqf2 f k1 k2 (n : Int) (k : Int) m = (match refRounds n c k m with | some m' => k2 m' | none => k1 false [])
  | 0, k, f + 1, m, h, hf, hm, hc => by
    rw [zqf3]
    unfold zqe6
    exact c_neg (by omega)
  | c + 1, k, f + 1, m, h, hf, hm, hc => by
    have hk : k < n := by omega
    have e1 : IntKind.i64.wrap ((k : Int) + 1) = ((k + 1 : Nat) : Int) := i64_in _ (by omega)
    rw [zqf3]
    unfold zqe6
    refine (c_pos (by omega)).trans ?_
    refine (rclose_p6 hn hk hm hc _).trans ?_
    refine (rclose_p7 hn _ _ _ (hm.roundW k)).trans ?_
    unfold refRounds
    cases hd : diagOk n (roundW n k m) with
    | false => rfl
    | true =>
      simp only [if_true, e1]
      refine c_t.trans ?_
      exact rclose_p8 hn k1 k2 c (k + 1) f _ (by omega) (by omega) (hm.roundW k) (cap_roundW hm hc)
  | _, _, 0, _, _, hf, _, _ => absurd hf (by omega)

theorem ref39_Close_eq {n : Nat} (h1 : 1 ≤ n) (hn : n ≤ 41) {l : List Diff} (hs : noSelf l) (k : Mat → Bool → Option β) : zqf6 (n : Int) l k = (match closeW n l with | some m => k m true | none => k [] false) := by
  unfold zqf6 zqe9
  refine (ref39_Valid_eq h1 hn _).trans ?_
  unfold closeW
  by_cases hv : validD n l = true
  · rw [hv]
    have hv' := hv
    unfold validD at hv'
    rw [Bool.and_eq_true] at hv'
    refine c_nt.trans ?_
    rw [if_pos rfl]
    refine (rclose_p2 (by omega) _ _).trans ?_
    refine (rclose_p3 (by omega) _ _ (of_decide_eq_true hv'.1) hv'.2 hs (initM_sq n)).trans ?_
    rw [start_init hv'.2 hs]
    unfold zqf4
    refine (rclose_p8 (by omega) _ _ n 0 fuel _ (by omega) (lt_fuel (by omega)) (directW_sq n l).diagW (start_cap hv'.2)).trans ?_
    obtain ⟨c, rfl⟩ : ∃ c, n = c + 1 := ⟨n - 1, by omega⟩
    have e := refRounds_eq c 0 _ (directW_sq (c + 1) l).diagW (by omega)
    revert e
    generalize refRounds (c + 1) (c + 1) 0 (diagW (c + 1) (directW (c + 1) l)) = R
    intro e
    subst e
    cases roundsW (c + 1) (c + 1) 0 (diagW (c + 1) (directW (c + 1) l)) with
    | none => exact rfl
    | some m => exact rfl
  · rw [Bool.eq_false_iff.2 hv]
    refine c_nf.trans ?_
    rw [if_neg (by simp)]
end
end
end Go.Lift

/- order.Fits, order.Allows in plain Lean. -/
namespace Go.Lift
open Go.RowKit Go.IntWalk
noncomputable section
set_option linter.unusedVariables false
set_option linter.unusedSimpArgs false
set_option maxRecDepth 10000

/-- A loop that looks for an element. -/
theorem any_loop {β α : Type} (F : Nat → Int → Option β) (p : α → Bool) (KT KF : Option β) (d : α) (xs : List α) (n : Nat) (hn : xs.length < n)
    (h1 : ∀ (m i : Nat), i < xs.length → F (m + 1) (i : Int) = cond (p (xs.getD i d)) KT (F m ((i : Int) + 1)))
    (h2 : ∀ (m : Nat), F (m + 1) (xs.length : Int) = KF) : F n 0 = cond (xs.any p) KT KF := by
  have h := check_loop F (fun x => !p x) KT KF d xs n hn (fun m i hi => by rw [h1 m i hi]; cases p (xs.getD i d) <;> rfl) h2
  rw [h]
  have : xs.all (fun x => !p x) = !xs.any p := by
    rw [List.all_eq_not_any_not]
    simp
  rw [this]
  cases xs.any p <;> rfl

section
variable {β : Type}
/-! ### Allows -/
theorem contains_eq (l : List Int) (hl : l.length ≤ 100000) (v : Int) (k : Bool → Option β) : zqci l v k = k (l.any fun x => decide (v = x)) := by
  unfold zqci zqcf zq7l zq7e zq7j
  refine (any_loop (fun f j => zq7h f (fun (t4 : Int) => k (decide ((0 : Int) ≤ t4))) (fun _ => k (decide ((0 : Int) ≤ -1))) l v (l.length : Int) j) (fun x => decide (v = x)) (k true) (k false) (0 : Int) l fuel (lt_fuel (by omega))
    (fun f j hj => ?_) (fun f => ?_)).trans ?_
  · have e1 : IntKind.i64.wrap ((j : Int) + 1) = j + 1 := i64_in _ (by omega)
    rw [zq7i]
    unfold zq7b
    refine (c_pos (by omega)).trans ?_
    refine (c_inb (by omega)).trans ?_
    simp only [Int.toNat_natCast, e1]
    rw [decide_eq_true (show (0 : Int) ≤ j by omega)]
  · rw [zq7i]
    unfold zq7b
    exact c_neg (by omega)
  · cases l.any fun x => decide (v = x) <;> rfl

theorem anyAllows {n : Nat} {m : Mat} (h : MatB n m) (l : List Int) (hl : l.length ≤ 100000) (ho : ∀ y ∈ l, 0 ≤ y ∧ y < n) {x : Int} (hx : 0 ≤ x ∧ x < n) (k : Bool → Mat → Int → Option β) :
    zqtu l m x k = k (l.any fun y => bef m x.toNat y.toNat) m x := by
  unfold zqtu zqtr zqtn zqtg zqtl
  refine (any_loop (fun f j => zqtj f (fun (t4 : Int) m x => k (decide ((0 : Int) ≤ t4)) m x) (fun m x => k (decide ((0 : Int) ≤ -1)) m x) l (l.length : Int) j m x) (fun y => bef m x.toNat y.toNat) (k true m x) (k false m x) (0 : Int) l fuel (lt_fuel (by omega))
    (fun f j hj => ?_) (fun f => ?_)).trans ?_
  · have e1 : IntKind.i64.wrap ((j : Int) + 1) = j + 1 := i64_in _ (by omega)
    have hy := ho _ (getD_mem (d := (0 : Int)) hj)
    rw [zqtk]
    unfold zqtd
    refine (c_pos (by omega)).trans ?_
    refine (c_inb (by omega)).trans ?_
    simp only [Int.toNat_natCast, e1]
    generalize l.getD j (0 : Int) = y at hy
    unfold zq41 zq3y
    have hb := before_eq h (a := x.toNat) (b := y.toNat) (by omega) (by omega) (β := β)
    rw [show ((x.toNat : Nat) : Int) = x by omega, show ((y.toNat : Nat) : Int) = y by omega] at hb
    refine (hb _).trans ?_
    rw [decide_eq_true (show (0 : Int) ≤ j by omega)]
  · rw [zqtk]
    unfold zqtd
    exact c_neg (by omega)
  · cases l.any fun y => bef m x.toNat y.toNat <;> rfl

/-- The test of one place of an order. -/
def placeOk (n : Nat) (m : Mat) (l : List Int) (i : Nat) : Bool :=
  inN (l.getD i 0) 0 ((n : Int) - 1) && !((l.take i).any fun x => decide (l.getD i 0 = x)) && !((l.take i).any fun y => bef m (l.getD i 0).toNat y.toNat)
def allowsW (n : Nat) (m : Mat) (l : List Int) : Bool := decide (l.length = n) && (List.range n).all (placeOk n m l)

/-- Places ahead of a place that is looked at are right. -/
theorem allows_loop {n : Nat} {m : Mat} (h : MatB n m) (k1 : zqty β) (k2 : zqtz β) (l : List Int) (hl : l.length = n) :
    zqub k1 k2 l l (l.length : Int) 0 m = cond ((List.range n).all (placeOk n m l)) (k2 ()) (k1 false) := by
  have hs := h.small
  have key := range_check (σ := Unit) n (fun i _ => ∀ y ∈ l.take i, 0 ≤ y ∧ y < n) (fun f j _ => zqu9 f k1 k2 l l (l.length : Int) j m) (placeOk n m l) (fun s _ => s) (k1 false) (fun _ => k2 ()) () fuel (lt_fuel (by omega)) (fun j hj => by simp at hj)
    (fun i s hi hs hp => by
      intro y hy
      rw [List.take_succ_eq_append_getElem (by omega), List.mem_append] at hy
      rcases hy with hy | hy
      · exact hs y hy
      · simp only [List.mem_cons, List.not_mem_nil, or_false] at hy
        unfold placeOk at hp
        rw [Bool.and_eq_true, Bool.and_eq_true] at hp
        have := inN_iff.1 hp.1.1
        have e : l.getD i 0 = l[i] := by simp [List.getD, show i < l.length by omega]
        rw [e] at this
        omega)
    (fun f i s hi hs' => by
      have e1 : IntKind.i64.wrap ((i : Int) + 1) = i + 1 := i64_in _ (by omega)
      have e2 : IntKind.i64.wrap ((l.length : Int) - 1) = (n : Int) - 1 := (i64_in _ (by omega)).trans (by omega)
      rw [zqua]
      unfold zqu3
      refine (c_pos (by omega)).trans ?_
      refine (c_inb (by omega)).trans ?_
      simp only [Int.toNat_natCast, Int.toNat_zero, List.drop_zero, e1, e2]
      refine (oin_eq _ _ _ _).trans ?_
      unfold placeOk
      cases hin : inN (l.getD i 0) 0 ((n : Int) - 1) with
      | false => rfl
      | true =>
        have hb := inN_iff.1 hin
        simp only [Bool.not_true, cond_false, Bool.true_and]
        have ht : cond (decide ((0 : Int) ≤ 0) && (decide ((0 : Int) ≤ (i : Int)) && decide ((i : Int) ≤ (l.length : Int)))) = fun (a b : Option β) => a := by
          rw [decide_eq_true (show (0 : Int) ≤ 0 by omega), decide_eq_true (show (0 : Int) ≤ (i : Int) by omega), decide_eq_true (show (i : Int) ≤ (l.length : Int) by omega)]
          rfl
        simp only [ht]
        refine (contains_eq _ (by rw [List.length_take]; omega) _ _).trans ?_
        cases (l.take i).any fun x => decide (l.getD i 0 = x) with
        | true => rfl
        | false =>
          simp only [cond_false, Bool.not_false, Bool.true_and]
          refine (anyAllows h _ (by rw [List.length_take]; omega) hs' (by omega) _).trans ?_
          cases (l.take i).any fun y => bef m (l.getD i 0).toNat y.toNat <;> rfl)
    (fun f s hs => by
      rw [zqua]
      unfold zqu3
      exact c_neg (by omega))
  unfold zqub
  exact key

theorem Allows_eq {r : Rec} {m : Mat} (he : closedW r = some m) (h : MatB (nE r) m) (l : List Int) (k : Bool → Option β) : zqud r l k = k (allowsW (nE r) m l) := by
  unfold zqud zqu6
  refine (closed_eq h.small _).trans ?_
  rw [he]
  simp only [Bool.not_true, cond_false]
  unfold allowsW
  by_cases hl : l.length = nE r
  · refine (c_npos (by unfold nE at hl; omega)).trans ?_
    refine (allows_loop h _ _ l hl).trans ?_
    rw [decide_eq_true hl]
    cases (List.range (nE r)).all (placeOk (nE r) m l) <;> rfl
  · refine (c_nneg (by unfold nE at hl; omega)).trans ?_
    rw [decide_eq_false hl]
    rfl
end
end
end Go.Lift

/- What is certain, and what the true times are. -/
namespace Go.Lift
open Go.RowKit Go.IntWalk
noncomputable section
set_option linter.unusedVariables false
set_option linter.unusedSimpArgs false
set_option maxRecDepth 10000

/-- A loop whose state is known at each round. -/
theorem range_state {β σ : Type} (n : Nat) (S : Nat → σ) (F : Nat → Int → σ → Option β) (K : Option β) (N : Nat) (hn : n < N)
    (h1 : ∀ (m i : Nat), i < n → F (m + 1) (i : Int) (S i) = F m ((i : Int) + 1) (S (i + 1)))
    (h2 : ∀ (m : Nat), F (m + 1) (n : Int) (S n) = K) : F N 0 (S 0) = K :=
  pass_loop n (fun m i => F m i (S i.toNat)) K N hn (fun m i hi => by
    have e : ((i : Int) + 1).toNat = i + 1 := by omega
    simp only [Int.toNat_natCast, e]
    exact h1 m i hi) (fun m => by simp only [Int.toNat_natCast]; exact h2 m)

section
variable {β : Type} {n : Int} {r : Rec} {ahead times : List Int}

theorem ClosedR.bef {r : Rec} {m : Mat} (hm : ClosedR r m) {a b : Nat} (ha : a < nE r) (hb : b < nE r) : bef m a b = true ↔ ∀ x, SolR r x → x (a + 1) < x (b + 1) := by
  unfold Go.Lift.bef
  rw [decide_eq_true_iff, hm.le_iff (i := b + 1) (j := a + 1) (by omega) (by omega)]
  constructor
  · intro h x s
    have := h x s
    omega
  · intro h x s
    have := h x s
    omega

theorem ClosedR.bef_asymm {r : Rec} {m : Mat} (hm : ClosedR r m) {a b : Nat} (ha : a < nE r) (hb : b < nE r) (h : Go.Lift.bef m a b = true) : Go.Lift.bef m b a = false := by
  cases e : Go.Lift.bef m b a with
  | false => rfl
  | true =>
    have h1 := (hm.bef ha hb).1 h _ (hm.row (i := 0) (by omega))
    have h2 := (hm.bef hb ha).1 e _ (hm.row (i := 0) (by omega))
    omega

theorem ClosedR.cmp_after {r : Rec} {m : Mat} (hm : ClosedR r m) {a b : Nat} (ha : a < nE r) (hb : b < nE r) : cmpN m a b = 1 ↔ Go.Lift.bef m b a = true := by
  unfold cmpN
  cases h1 : Go.Lift.bef m a b with
  | true => rw [hm.bef_asymm ha hb h1]; simp
  | false => cases Go.Lift.bef m b a <;> simp

theorem ClosedR.cmp_open {r : Rec} {m : Mat} (hm : ClosedR r m) {a b : Nat} (ha : a < nE r) (hb : b < nE r) : cmpN m a b = 0 ↔ opn m a b = true := by
  unfold cmpN opn
  cases Go.Lift.bef m a b <;> cases Go.Lift.bef m b a <;> simp

theorem whensN_getD {n : Nat} {m : Mat} {i : Nat} (hi : i < n) : (whensN n m).getD i ((0 : Int), (0 : Int)) = rangeN m i := by
  unfold whensN
  simp [List.getD, hi]

theorem ClosedR.range {r : Rec} {m : Mat} (hm : ClosedR r m) {x : Nat → Int} (s : SolR r x) (h0 : x 0 = 0) {i : Nat} (hi : i < nE r) : (rangeN m i).1 ≤ x (i + 1) ∧ x (i + 1) ≤ (rangeN m i).2 := by
  have h1 := hm.sol s (i := i + 1) (j := 0) (by omega) (by omega)
  have h2 := hm.sol s (i := 0) (j := i + 1) (by omega) (by omega)
  unfold rangeN
  simp only
  omega

/-- Readings of one clock that are two seconds apart. -/
theorem ClosedR.far {m : Mat} (hm : ClosedR r m) {i k : Nat} (hi : i < nE r) (hk : k < nE r) (hh : (evAt r i).1 = (evAt r k).1) (hc : (evAt r i).2.1 + 2 ≤ (evAt r k).2.1) : Go.Lift.bef m i k = true := by
  rw [hm.bef hi hk]
  intro x s
  have h1 := (s.pair i k hi hk (by intro h; subst h; omega) hh (by omega)).1
  have e1 := valid_ev hm.valid hi
  have e2 := valid_ev hm.valid hk
  have hd : 0 ≤ driftAt r (evAt r i).1 ∧ driftAt r (evAt r i).1 ≤ 500000 := by
    have := (valid_parts hm.valid).1 _ (getD_mem (l := r.1) (i := (evAt r i).1.toNat) (d := ([], 0)) (by omega))
    exact this
  have h2 : 1 ≤ (elapsed (driftAt r (evAt r i).1) ((evAt r k).2.1 - (evAt r i).2.1)).1 := by
    unfold elapsed
    rw [inN_mk hd, inN_mk (by omega)]
    simp only [Bool.and_self, cond_true]
    rw [Int.le_ediv_iff_mul_le (by omega)]
    omega
  omega

end
end
end Go.Lift

/- Records that are changed in their links. -/
namespace Go.Lift
open Go.RowKit Go.IntWalk
noncomputable section
set_option linter.unusedVariables false
set_option linter.unusedSimpArgs false
set_option maxRecDepth 10000

theorem c_nbeq {β : Type} {a b : Bool} {x y : Option β} (h : a = b) : cond (!(a == b)) x y = y := by subst h; cases a <;> rfl

theorem opn_comm (m : Mat) (a b : Nat) : opn m a b = opn m b a := Bool.and_comm _ _

theorem mem_openW {n : Nat} {m : Mat} {p : Int × Int} : p ∈ openW n m ↔ ∃ a b : Nat, a < b ∧ b < n ∧ opn m a b = true ∧ p = ((a : Int), (b : Int)) := by
  unfold openW openL
  simp only [List.mem_flatMap, List.mem_range, List.mem_map, List.mem_filter, List.mem_range'_1]
  constructor
  · rintro ⟨a, ha, b, ⟨hb, ho⟩, rfl⟩
    exact ⟨a, b, by omega, by omega, ho, rfl⟩
  · rintro ⟨a, b, h1, h2, ho, rfl⟩
    exact ⟨a, by omega, b, ⟨by omega, ho⟩, rfl⟩

theorem openW_any {n : Nat} {m : Mat} {a b : Nat} (ha : a < n) (hb : b < n) (hab : a ≠ b) :
    (openW n m).any (fun p => decide (p.1 = (if (b : Int) < a then (b : Int) else a)) && (decide (p.2 = (if (b : Int) > a then (b : Int) else a)) && true)) = opn m a b := by
  rw [Bool.eq_iff_iff, List.any_eq_true]
  constructor
  · rintro ⟨p, hp, h⟩
    obtain ⟨c, d, h1, h2, ho, rfl⟩ := mem_openW.1 hp
    simp only [Bool.and_true, Bool.and_eq_true, decide_eq_true_eq] at h
    by_cases hlt : b < a
    · rw [if_pos (by omega), if_neg (by omega)] at h
      have e1 : c = b := by omega
      have e2 : d = a := by omega
      rw [opn_comm, ← e1, ← e2]
      exact ho
    · rw [if_neg (by omega), if_pos (by omega)] at h
      have e1 : c = a := by omega
      have e2 : d = b := by omega
      rw [← e1, ← e2]
      exact ho
  · intro ho
    by_cases hlt : b < a
    · refine ⟨((b : Int), (a : Int)), mem_openW.2 ⟨b, a, hlt, ha, by rw [opn_comm]; exact ho, rfl⟩, ?_⟩
      rw [if_pos (by omega), if_neg (by omega)]
      simp
    · refine ⟨((a : Int), (b : Int)), mem_openW.2 ⟨a, b, by omega, hb, ho, rfl⟩, ?_⟩
      rw [if_neg (by omega), if_pos (by omega)]
      simp
theorem openW_len (n : Nat) (m : Mat) : (openW n m).length ≤ n * n := by
  have h := flat_len (openL n m) n (List.range n) (fun a _ => openL_len n m a)
  rw [List.length_range] at h
  exact h
end
end Go.Lift

/- order.Sort in plain Lean. -/
namespace Go.Lift
open Go.RowKit Go.IntWalk
noncomputable section
set_option linter.unusedVariables false
set_option linter.unusedSimpArgs false
set_option maxRecDepth 10000

theorem mGet_mPut {δ : Type} (l : List (Int × δ)) (a b : Int) (v z : δ) : mGet (.int .i64) (mPut (.int .i64) l a v) b z = if a = b then v else mGet (.int .i64) l b z := by
  induction l with
  | nil =>
    simp only [mPut, mGet, keyEq]
    by_cases h : a = b <;> simp [h]
  | cons y l ih =>
    simp only [mPut]
    by_cases h : y.1 = a
    · simp only [keyEq, decide_eq_true h, cond_true, mGet]
      by_cases hb : a = b
      · simp [hb]
      · have : ¬ y.1 = b := by rw [h]; exact hb
        simp [hb, this]
    · simp only [keyEq, decide_eq_false h, cond_false, mGet]
      rw [ih]
      by_cases hb : y.1 = b
      · have : ¬ a = b := by intro h2; exact h (hb.trans h2.symm)
        simp [hb, this]
      · simp [hb]

/-- An event that nothing unplaced was before. -/
def freeN (n : Nat) (m : Mat) (out : List Int) (i : Nat) : Bool := !decide ((i : Int) ∈ out) && (List.range n).all fun k => decide ((k : Int) ∈ out) || !bef m k i
def earlyN (m : Mat) (a b : Nat) : Bool := decide ((rangeN m a).1 < (rangeN m b).1) || (decide ((rangeN m a).1 = (rangeN m b).1) && decide ((rangeN m a).2 < (rangeN m b).2))
def pickN (n : Nat) (m : Mat) (out : List Int) (next : Int) (i : Nat) : Int := if freeN n m out i && (decide (next < 0) || earlyN m i next.toNat) then (i : Int) else next
def nextN (n : Nat) (m : Mat) (out : List Int) : Int := (List.range n).foldl (pickN n m out) (-1)
def sortN (n : Nat) (m : Mat) : Nat → List Int → List Int
  | 0, out => out
  | c + 1, out => sortN n m c (out ++ [nextN n m out])

section
variable {β : Type} {n : Nat} {m : Mat}

theorem earlier_eq (h : MatB n m) {a b : Nat} (ha : a < n) (hb : b < n) (k : Bool → Option β) : zqcb m (a : Int) (b : Int) k = k (earlyN m a b) := by
  unfold zqcb zqc8
  refine (mwhen_eq h ha _).trans ?_
  refine (mwhen_eq h hb _).trans ?_
  unfold earlyN
  by_cases h1 : (rangeN m a).1 < (rangeN m b).1
  · refine (c_pos h1).trans ?_
    rw [decide_eq_true h1]
    rfl
  · refine (c_neg h1).trans ?_
    rw [decide_eq_false h1]
    by_cases h2 : (rangeN m a).1 = (rangeN m b).1
    · refine (c_pos h2).trans ?_
      rw [decide_eq_true h2]
      rfl
    · refine (c_neg h2).trans ?_
      rw [decide_eq_false h2]
      rfl

theorem sort_p1 (h : MatB n m) {placed : List (Int × Bool)} {out : List Int} (hp : ∀ i : Int, mGet (.int .i64) placed i false = decide (i ∈ out)) (k1 : zqqt β) (next : Int) {i : Nat} (hi : i < n) (b : Bool) (t22 t23 t27 t28 : Int) (r : List Host) (r2 : List Sync) (r3 : List Event) (r4 : List Link) :
    zqrj k1 m next (i : Int) b t22 t23 t27 t28 (n : Int) 0 r r2 r3 r4 placed out = k1 m next (i : Int) (b && (List.range n).all fun k => decide ((k : Int) ∈ out) || !bef m k i) t22 t23 t27 t28 r r2 r3 r4 placed out := by
  have hs := h.small
  have key := range_fold' n (fun _ _ => True) (fun f j (s : Bool) => zqrh f k1 m next (i : Int) s t22 t23 t27 t28 (n : Int) j r r2 r3 r4 placed out)
    (fun s k => s && (decide ((k : Int) ∈ out) || !bef m k i)) (fun s => k1 m next (i : Int) s t22 t23 t27 t28 r r2 r3 r4 placed out) b fuel (lt_fuel (by omega)) trivial (fun _ _ _ _ => trivial)
    (fun f j s hj _ => by
      have e1 : IntKind.i64.wrap ((j : Int) + 1) = j + 1 := i64_in _ (by omega)
      rw [zqri]
      unfold zqr5
      simp only [e1]
      refine (c_pos (by omega)).trans ?_
      cases s with
      | false => rfl
      | true =>
        refine c_t.trans ?_
        have hg := hp (j : Int)
        rw [hg]
        by_cases hm : (j : Int) ∈ out
        · refine (c_pos hm).trans ?_
          rw [decide_eq_true hm]
          rfl
        · refine (c_neg hm).trans ?_
          refine (before_eq h hj hi _).trans ?_
          rw [decide_eq_false hm]
          rfl)
    (fun f s _ => by
      rw [zqri]
      unfold zqr5
      exact c_neg (by omega))
  unfold zqrj
  rw [key]
  congr 1
  have : ∀ (l : List Nat) (p : Nat → Bool) (b : Bool), l.foldl (fun s k => s && p k) b = (b && l.all p) := by
    intro l p
    induction l with
    | nil => intro b; simp
    | cons x l ih => intro b; simp only [List.foldl_cons, List.all_cons]; rw [ih, Bool.and_assoc]
  exact this _ _ _

/-- Either nothing is picked yet, or something free. -/
def Picked (n : Nat) (m : Mat) (out : List Int) (next : Int) : Prop := next = -1 ∨ (0 ≤ next ∧ next < n ∧ freeN n m out next.toNat = true)

theorem pick_ok {out : List Int} {next : Int} (hp : Picked n m out next) {i : Nat} (hi : i < n) : Picked n m out (pickN n m out next i) := by
  unfold pickN
  split
  · rename_i h
    rw [Bool.and_eq_true] at h
    exact .inr ⟨by omega, by omega, by rw [Int.toNat_natCast]; exact h.1⟩
  · exact hp

theorem sort_p2 (h : MatB n m) {placed : List (Int × Bool)} {out : List Int} (hp : ∀ i : Int, mGet (.int .i64) placed i false = decide (i ∈ out)) (k1 : zqqx β) (t22 t23 : Int) (r : List Host) (r2 : List Sync) (r3 : List Event) (hr : r3.length = n) (r4 : List Link) :
    zqrn k1 m (-1) t22 t23 (n : Int) 0 r r2 r3 r4 placed out = k1 m (nextN n m out) t22 t23 r r2 r3 r4 placed out := by
  have hs := h.small
  have key := range_fold' n (fun _ s => Picked n m out s) (fun f j (s : Int) => zqrl f k1 m s t22 t23 (n : Int) j r r2 r3 r4 placed out)
    (pickN n m out) (fun s => k1 m s t22 t23 r r2 r3 r4 placed out) (-1) fuel (lt_fuel (by omega)) (.inl rfl) (fun i s hi hs => pick_ok hs hi)
    (fun f j s hj hs' => by
      have e1 : IntKind.i64.wrap ((j : Int) + 1) = j + 1 := i64_in _ (by omega)
      rw [zqrm]
      unfold zqr8
      refine (c_pos (by omega)).trans ?_
      have hg := hp (j : Int)
      rw [hg, hr]
      refine (sort_p1 h hp _ _ hj _ _ _ _ _ _ _ _ _).trans ?_
      have hf : (!decide ((j : Int) ∈ out) && (List.range n).all fun k => decide ((k : Int) ∈ out) || !bef m k j) = freeN n m out j := rfl
      rw [hf]
      unfold pickN
      simp only [e1]
      cases freeN n m out j with
      | false => rfl
      | true =>
        refine c_t.trans ?_
        by_cases hn : s < 0
        · refine (c_pos hn).trans ?_
          rw [decide_eq_true hn]
          rfl
        · refine (c_neg hn).trans ?_
          rw [decide_eq_false hn]
          have hb : s = ((s.toNat : Nat) : Int) := by omega
          have hlt : s.toNat < n := by
            rcases hs' with h0 | h0
            · omega
            · omega
          have he := earlier_eq (β := β) h hj hlt
          rw [← hb] at he
          refine (he _).trans ?_
          cases earlyN m j s.toNat <;> rfl)
    (fun f s _ => by
      rw [zqrm]
      unfold zqr8
      exact c_neg (by omega))
  unfold zqrn
  rw [key]
  rfl

theorem sort_p3 (h : MatB n m) (k1 : zqr1 β) (r : List Host) (r2 : List Sync) (r3 : List Event) (hr : r3.length = n) (r4 : List Link) : ∀ (c i f : Nat) (placed : List (Int × Bool)) (out : List Int), i + c = n → c < f → out.length + c ≤ 1000 →
    (∀ i : Int, mGet (.int .i64) placed i false = decide (i ∈ out)) → zqrp f k1 m (n : Int) (i : Int) r r2 r3 r4 placed out = k1 (sortN n m c out)
  | 0, i, f + 1, placed, out, hi, hf, ho, hp => by
    rw [zqrq]
    unfold zqrb
    exact c_neg (by omega)
  | c + 1, i, f + 1, placed, out, hi, hf, ho, hp => by
    have hs := h.small
    have e1 : IntKind.i64.wrap ((i : Int) + 1) = ((i + 1 : Nat) : Int) := i64_in _ (by omega)
    rw [zqrq]
    unfold zqrb
    refine (c_pos (by omega)).trans ?_
    rw [hr]
    refine (sort_p2 h hp _ _ _ _ _ _ hr _).trans ?_
    refine (c_room (by simp only [List.length_cons, List.length_nil]; omega)).trans ?_
    simp only [e1]
    refine sort_p3 h k1 r r2 r3 hr r4 c (i + 1) f _ _ (by omega) (by omega) (by simp only [List.length_append, List.length_cons, List.length_nil]; omega) (fun j => ?_)
    rw [mGet_mPut, hp]
    by_cases hj : nextN n m out = j
    · rw [if_pos hj]
      simp [hj]
    · have hj' : ¬ j = nextN n m out := fun h => hj h.symm
      rw [if_neg hj]
      simp [hj']
  | _, _, 0, _, _, _, hf, _, _ => absurd hf (by omega)

theorem Sort_eq {r : Rec} (he : closedW r = some m) (h : MatB (nE r) m) (k : Bool → List Int → Option β) : zqrt r k = k true (sortN (nE r) m (nE r) []) := by
  have hs := h.small
  unfold zqrt zqre
  refine (closed_eq hs _).trans ?_
  rw [he]
  simp only [Bool.not_true, cond_false]
  unfold zqrr
  exact sort_p3 h _ _ _ _ rfl _ (nE r) 0 fuel [] [] (by omega) (lt_fuel (by omega)) (by simp; omega) (fun i => by simp [mGet])
end

/-! ### What is allowed -/
theorem allows_iff {n : Nat} {m : Mat} {l : List Int} : allowsW n m l = true ↔ l.length = n ∧ (∀ i, i < n → 0 ≤ l.getD i 0 ∧ l.getD i 0 < n) ∧
    ∀ k i, k < i → i < n → l.getD i 0 ≠ l.getD k 0 ∧ bef m (l.getD i 0).toNat (l.getD k 0).toNat = false := by
  unfold allowsW
  rw [Bool.and_eq_true, decide_eq_true_iff, List.all_eq_true]
  simp only [List.mem_range]
  have hg : ∀ (i k : Nat), k < i → i < n → l.length = n → (l.take i).getD k 0 = l.getD k 0 := by
    intro i k h1 h2 h3
    simp [List.getD, h1]
  constructor
  · rintro ⟨h0, h⟩
    refine ⟨h0, fun i hi => ?_, fun k i hk hi => ?_⟩
    · have := h i hi
      unfold placeOk at this
      rw [Bool.and_eq_true, Bool.and_eq_true] at this
      have := inN_iff.1 this.1.1
      omega
    · have := h i hi
      unfold placeOk at this
      rw [Bool.and_eq_true, Bool.and_eq_true] at this
      obtain ⟨⟨_, h1⟩, h2⟩ := this
      have hm : l.getD k 0 ∈ l.take i := by
        rw [← hg i k hk hi h0]
        exact getD_mem (by rw [List.length_take]; omega)
      rw [Bool.not_eq_true', List.any_eq_false] at h1 h2
      have a1 := h1 _ hm
      have a2 := h2 _ hm
      simp only [decide_eq_true_eq] at a1
      exact ⟨a1, by simpa using a2⟩
  · rintro ⟨h0, h1, h2⟩
    refine ⟨h0, fun i hi => ?_⟩
    have ex : ∀ y ∈ l.take i, ∃ k, k < i ∧ y = l.getD k 0 := by
      intro y hy
      obtain ⟨k, hk, rfl⟩ := List.getElem_of_mem hy
      have hk' : k < i := by rw [List.length_take] at hk; omega
      refine ⟨k, hk', ?_⟩
      rw [← hg i k hk' hi h0]
      simp only [List.getD, List.getElem?_eq_getElem hk, Option.getD_some]
    unfold placeOk
    rw [Bool.and_eq_true, Bool.and_eq_true, Bool.not_eq_true', Bool.not_eq_true', List.any_eq_false, List.any_eq_false]
    have := h1 i hi
    refine ⟨⟨inN_mk (by omega), fun y hy => ?_⟩, fun y hy => ?_⟩
    · obtain ⟨k, hk, rfl⟩ := ex y hy
      simp only [decide_eq_true_eq]
      exact (h2 k i hk hi).1
    · obtain ⟨k, hk, rfl⟩ := ex y hy
      rw [(h2 k i hk hi).2]
      simp

theorem length_le_of_subset : ∀ (l l' : List Int), l.Nodup → (∀ x ∈ l, x ∈ l') → l.length ≤ l'.length
  | [], _, _, _ => by simp
  | x :: l, l', hn, h => by
    rw [List.nodup_cons] at hn
    have hx := h x (by simp)
    have h1 := length_le_of_subset l (l'.erase x) hn.2 (fun y hy => by
      have hne : y ≠ x := fun e => hn.1 (e ▸ hy)
      exact (List.mem_erase_of_ne hne).2 (h y (by simp [hy])))
    rw [List.length_erase_of_mem hx] at h1
    have : 0 < l'.length := List.length_pos_of_mem hx
    simp only [List.length_cons]
    omega

/-- A number that is not in a short list. -/
theorem exists_out {n : Nat} {out : List Int} (h : out.length < n) : ∃ i : Nat, i < n ∧ (i : Int) ∉ out := by
  refine Classical.byContradiction fun hc => ?_
  have h1 := length_le_of_subset ((List.range n).map fun (i : Nat) => (i : Int)) out ?_ (fun x hx => ?_)
  · simp at h1
    omega
  · exact List.pairwise_map.2 (List.nodup_range.imp (fun h e => h (by omega)))
  · simp only [List.mem_map, List.mem_range] at hx
    obtain ⟨i, hi, rfl⟩ := hx
    exact Classical.byContradiction fun hx => hc ⟨i, hi, hx⟩

/-- The first of the unplaced by some numbers. -/
theorem exists_min {n : Nat} {out : List Int} (x : Nat → Int) (h : out.length < n) : ∃ i : Nat, i < n ∧ (i : Int) ∉ out ∧ ∀ k : Nat, k < n → (k : Int) ∉ out → x i ≤ x k := by
  have key : ∀ c, (∃ i : Nat, i < c ∧ (i : Int) ∉ out) → ∃ i : Nat, i < c ∧ (i : Int) ∉ out ∧ ∀ k : Nat, k < c → (k : Int) ∉ out → x i ≤ x k := by
    intro c
    induction c with
    | zero => rintro ⟨i, hi, _⟩; omega
    | succ c ih =>
      rintro ⟨i, hi, ho⟩
      by_cases hc : ∃ i : Nat, i < c ∧ (i : Int) ∉ out
      · obtain ⟨j, h1, h2, h3⟩ := ih hc
        by_cases hcc : (c : Int) ∈ out
        · refine ⟨j, by omega, h2, fun k hk hko => ?_⟩
          by_cases e : k = c
          · subst e; exact absurd hcc hko
          · exact h3 k (by omega) hko
        · by_cases hx : x j ≤ x c
          · refine ⟨j, by omega, h2, fun k hk hko => ?_⟩
            by_cases e : k = c
            · subst e; exact hx
            · exact h3 k (by omega) hko
          · refine ⟨c, by omega, hcc, fun k hk hko => ?_⟩
            by_cases e : k = c
            · subst e; omega
            · have := h3 k (by omega) hko; omega
      · have e : i = c := by
          refine Classical.byContradiction fun hne => hc ⟨i, by omega, ho⟩
        subst e
        refine ⟨i, by omega, ho, fun k hk hko => ?_⟩
        by_cases e : k = i
        · subst e; omega
        · exact absurd ⟨k, by omega, hko⟩ hc
  exact key n (exists_out h)

theorem fold_picked {n : Nat} {m : Mat} {out : List Int} : ∀ (l : List Nat) (s : Int), (∀ i ∈ l, i < n) → Picked n m out s → Picked n m out (l.foldl (pickN n m out) s) ∧ ((0 ≤ s ∨ ∃ i ∈ l, freeN n m out i = true) → 0 ≤ l.foldl (pickN n m out) s)
  | [], s, _, hs => ⟨hs, fun h => by
    rcases h with h | ⟨i, hi, _⟩
    · exact h
    · cases hi⟩
  | x :: l, s, hl, hs => by
    have hx : x < n := hl x (by simp)
    have ih := fold_picked l (pickN n m out s x) (fun i hi => hl i (by simp [hi])) (pick_ok hs hx)
    refine ⟨ih.1, fun h => ih.2 ?_⟩
    by_cases hp : 0 ≤ pickN n m out s x
    · exact .inl hp
    · have hneg : s < 0 := by
        unfold pickN at hp
        split at hp <;> omega
      have hfx : freeN n m out x = false := by
        cases hf : freeN n m out x with
        | false => rfl
        | true =>
          unfold pickN at hp
          rw [hf, decide_eq_true hneg] at hp
          simp at hp
      rcases h with h | ⟨i, hi, hf⟩
      · omega
      · rcases List.mem_cons.1 hi with rfl | hi
        · rw [hfx] at hf; cases hf
        · exact .inr ⟨i, hi, hf⟩

/-- What Sort has placed. -/
structure Placed (n : Nat) (m : Mat) (out : List Int) : Prop where
  range : ∀ i, i < out.length → 0 ≤ out.getD i 0 ∧ out.getD i 0 < n
  pairs : ∀ k i, k < i → i < out.length → out.getD i 0 ≠ out.getD k 0 ∧ bef m (out.getD i 0).toNat (out.getD k 0).toNat = false
  rest : ∀ y ∈ out, ∀ k : Nat, k < n → (k : Int) ∉ out → bef m k y.toNat = false

theorem ClosedR.next {r : Rec} {m : Mat} (hm : ClosedR r m) {out : List Int} (hl : out.length < nE r) : 0 ≤ nextN (nE r) m out ∧ nextN (nE r) m out < nE r ∧ freeN (nE r) m out (nextN (nE r) m out).toNat = true := by
  obtain ⟨i, hi, ho, hmin⟩ := exists_min (fun i => at2 m 0 (i + 1)) hl
  have hf : freeN (nE r) m out i = true := by
    unfold freeN
    rw [decide_eq_false ho, Bool.not_false, Bool.true_and, List.all_eq_true]
    intro k hk
    have hk := List.mem_range.1 hk
    by_cases hko : (k : Int) ∈ out
    · rw [decide_eq_true hko]; rfl
    · cases hb : Go.Lift.bef m k i with
      | false => simp
      | true =>
        have h1 := (hm.bef hk hi).1 hb _ (hm.row (i := 0) (by omega))
        have h2 := hmin k hk hko
        omega
  have h := fold_picked (m := m) (out := out) (List.range (nE r)) (-1) (fun i hi => List.mem_range.1 hi) (.inl rfl)
  have h0 := h.2 (.inr ⟨i, List.mem_range.2 hi, hf⟩)
  unfold nextN
  rcases h.1 with h1 | ⟨h1, h2, h3⟩
  · rw [h1] at h0; omega
  · exact ⟨h1, h2, h3⟩

theorem getD_snoc {l : List Int} {x : Int} {i : Nat} : (l ++ [x]).getD i 0 = if i < l.length then l.getD i 0 else if i = l.length then x else 0 := by
  by_cases h : i < l.length
  · rw [if_pos h, getD_append h]
  · rw [if_neg h]
    by_cases e : i = l.length
    · rw [if_pos e, e, getD_last]
    · rw [if_neg e]
      simp [List.getD, List.getElem?_append, h, show ¬ i - l.length = 0 by omega]

theorem Placed.snoc {n : Nat} {m : Mat} {out : List Int} (h : Placed n m out) {x : Int} (h0 : 0 ≤ x ∧ x < n) (hf : freeN n m out x.toNat = true) : Placed n m (out ++ [x]) := by
  unfold freeN at hf
  rw [Bool.and_eq_true, Bool.not_eq_true', decide_eq_false_iff_not, List.all_eq_true] at hf
  obtain ⟨hx, hf⟩ := hf
  have ex : ((x.toNat : Nat) : Int) = x := by omega
  rw [ex] at hx
  have hlen : (out ++ [x]).length = out.length + 1 := by simp
  refine ⟨fun i hi => ?_, fun k i hk hi => ?_, fun y hy k hk hko => ?_⟩
  · rw [getD_snoc]
    split
    · exact h.range i (by assumption)
    · rw [if_pos (by omega)]
      exact h0
  · rw [getD_snoc, getD_snoc, if_pos (show k < out.length by omega)]
    by_cases hi' : i < out.length
    · rw [if_pos hi']
      exact h.pairs k i hk hi'
    · rw [if_neg hi', if_pos (show i = out.length by omega)]
      have hm : out.getD k 0 ∈ out := getD_mem (by omega)
      refine ⟨fun e => hx (e ▸ hm), ?_⟩
      exact h.rest _ hm x.toNat (by omega) (by rw [ex]; exact hx)
  · rw [List.mem_append, not_or] at hko
    rcases List.mem_append.1 hy with hy | hy
    · exact h.rest y hy k hk hko.1
    · simp only [List.mem_cons, List.not_mem_nil, or_false] at hy
      subst hy
      have := hf k (List.mem_range.2 hk)
      rw [decide_eq_false hko.1, Bool.false_or, Bool.not_eq_true'] at this
      exact this

theorem ClosedR.sorted {r : Rec} {m : Mat} (hm : ClosedR r m) : ∀ (c : Nat) (out : List Int), out.length + c = nE r → Placed (nE r) m out → (sortN (nE r) m c out).length = nE r ∧ Placed (nE r) m (sortN (nE r) m c out)
  | 0, out, hl, hp => ⟨by show out.length = _; omega, hp⟩
  | c + 1, out, hl, hp => by
    obtain ⟨h1, h2, h3⟩ := hm.next (out := out) (by omega)
    exact hm.sorted c _ (by simp only [List.length_append, List.length_cons, List.length_nil]; omega) (hp.snoc ⟨h1, h2⟩ h3)

theorem ClosedR.sort_allowed {r : Rec} {m : Mat} (hm : ClosedR r m) : allowsW (nE r) m (sortN (nE r) m (nE r) []) = true := by
  obtain ⟨h1, h2⟩ := hm.sorted (nE r) [] (by simp) ⟨by simp, by simp, by simp⟩
  rw [allows_iff]
  exact ⟨h1, fun i hi => h2.range i (by omega), fun k i hk hi => h2.pairs k i hk (by omega)⟩
end
end Go.Lift

/- The reference of the chapter 40 in plain Lean. -/
namespace Go.Lift
open Go.RowKit Go.IntWalk
noncomputable section
set_option linter.unusedVariables false
set_option linter.unusedSimpArgs false
set_option maxRecDepth 10000

theorem pairsI_range' {r : Rec} {i : Nat} (hi : i < nE r) : pairsI r (nE r) i = (List.range' (i + 1) (nE r - (i + 1))).flatMap (pairIf r i) := by
  unfold pairsI
  have e : ∀ n, i < n → (List.range n).filter (fun j => decide (i < j)) = List.range' (i + 1) (n - (i + 1)) := by
    intro n
    induction n with
    | zero => intro h; omega
    | succ n ihn =>
      intro h
      rw [List.range_succ, List.filter_append]
      by_cases hin : i < n
      · rw [ihn hin]
        have : n + 1 - (i + 1) = (n - (i + 1)) + 1 := by omega
        rw [this, List.range'_concat]
        simp only [List.filter_cons, List.filter_nil, decide_eq_true hin, if_true]
        congr 2
        omega
      · have hin' : n = i := by omega
        subst hin'
        have : (List.range n).filter (fun j => decide (n < j)) = [] := by
          rw [List.filter_eq_nil_iff]
          intro a ha
          simp only [List.mem_range] at ha
          simp only [decide_eq_true_eq]
          omega
        rw [this]
        simp
  rw [e _ hi]

section
variable {β : Type}
theorem rcons_p1 (k1 : zqhp β) (k2 : zqhq β) {r : Rec} (hv : valid r = true) :
    zqiu k1 k2 0 r.1 r.2.1 r.2.2.1 r.2.2.2 [] = cond (whensOk r) (k2 r.1 r.2.1 r.2.2.1 r.2.2.2 ((List.range (nE r)).flatMap (evD r))) (k1 false []) := by
  have hb := valid_bd hv
  have key := range_check (nE r) (fun i (s : List Diff) => s.length ≤ 2 * i) (fun f j s => zqis f k1 k2 j r.1 r.2.1 r.2.2.1 r.2.2.2 s) (fun i => (whenAt r i).2)
    (fun s i => s ++ evD r i) (k1 false []) (fun s => k2 r.1 r.2.1 r.2.2.1 r.2.2.2 s) [] fuel (lt_fuel (by unfold nE; omega)) (by simp)
    (fun i s hi hs _ => by simp only [List.length_append, evD, List.length_cons, List.length_nil]; omega)
    (fun f i s hi hs => by
      unfold nE at hi
      have e1 : IntKind.i64.wrap ((i : Int) + 1) = i + 1 := i64_in _ (by omega)
      rw [zqit]
      unfold zqia
      refine (c_pos (by omega)).trans ?_
      refine (c_inb (by omega)).trans ?_
      refine (c_inb (by omega)).trans ?_
      simp only [Int.toNat_natCast, e1]
      refine (ref38_When_eq _ _ _ _).trans ?_
      have hw : when? (r.1, r.2.1, r.2.2.1, r.2.2.2) (r.2.2.1.getD i (0, 0, [])).1 (r.2.2.1.getD i (0, 0, [])).2.1 = whenAt r i := rfl
      rw [hw]
      cases hk : (whenAt r i).2 with
      | false => rfl
      | true =>
        have hbd := whenAt_bd hk
        have e2 : IntKind.i64.wrap (0 - (whenAt r i).1.1) = -(whenAt r i).1.1 := (i64_in _ (by omega)).trans (by omega)
        simp only [Bool.not_true, cond_false, cond_true, e2]
        refine (c_room (by simp only [List.length_cons, List.length_nil]; omega)).trans ?_
        rfl)
    (fun f s hs => by
      rw [zqit]
      unfold zqia
      exact c_neg (by unfold nE; omega))
  unfold zqiu
  rw [key, foldl_flat]
  rfl

theorem rcons_p2 (k1 : zqhu β) {r : Rec} {x d a b : Int} (hx : 0 ≤ x ∧ x < r.1.length) (i j : Int) (out : List Diff) (ho : out.length ≤ 100000) (x2 : Int) (x3 : List UInt8) :
    zqiw k1 i j a b d r.1 r.2.1 r.2.2.1 r.2.2.2 out x x2 x3 = k1 i j r.1 r.2.1 r.2.2.1 r.2.2.2 (out ++ [(a, (b, (elapsed (driftAt r x) d).2)), (b, (a, -(elapsed (driftAt r x) d).1))]) := by
  unfold zqiw zqie zqid
  refine (c_inb hx).trans ?_
  refine (ref38_Elapsed_eq _ _ _).trans ?_
  have := @elapsed_bd (driftAt r x) d
  have e4 : IntKind.i64.wrap (0 - (elapsed (driftAt r x) d).1) = -(elapsed (driftAt r x) d).1 := (i64_in _ (by omega)).trans (by omega)
  unfold driftAt at e4 ⊢
  simp only [e4]
  exact c_room (by simp only [List.length_cons, List.length_nil]; omega)

theorem rcons_p3 (k1 : zqhy β) {r : Rec} (hv : valid r = true) {i : Nat} (hi : i < nE r) (out : List Diff) (ho : out.length ≤ 4000) :
    zqj0 k1 (i : Int) ((i : Int) + 1) r.1 r.2.1 r.2.2.1 r.2.2.2 out = k1 (i : Int) r.1 r.2.1 r.2.2.1 r.2.2.2 (out ++ pairsI r (nE r) i) := by
  have hb := valid_bd hv
  have key : ∀ (c j f : Nat) (s : List Diff), j + c = nE r → i < j → c < f → s.length + 2 * c ≤ 100000 →
      zqiy f k1 (i : Int) (j : Int) r.1 r.2.1 r.2.2.1 r.2.2.2 s = k1 (i : Int) r.1 r.2.1 r.2.2.1 r.2.2.2 (s ++ (List.range' j c).flatMap (pairIf r i)) := by
    intro c
    induction c with
    | zero =>
      intro j f s hj hij hf hs
      obtain ⟨f, rfl⟩ : ∃ m, f = m + 1 := ⟨f - 1, by omega⟩
      rw [zqiz]
      unfold zqig
      unfold nE at hj
      refine (c_neg (by omega)).trans ?_
      simp
    | succ c ih =>
      intro j f s hj hij hf hs
      obtain ⟨f, rfl⟩ : ∃ m, f = m + 1 := ⟨f - 1, by omega⟩
      have hj' : j < nE r := by omega
      have hin : (i : Int) < (r.2.2.1.length : Int) := by unfold nE at hi; omega
      have hjn : (j : Int) < (r.2.2.1.length : Int) := by unfold nE at hj'; omega
      have e0 : IntKind.i64.wrap ((i : Int) + 1) = (i : Int) + 1 := i64_in _ (by unfold nE at hi; omega)
      have e1 : IntKind.i64.wrap ((j : Int) + 1) = (j : Int) + 1 := i64_in _ (by unfold nE at hj'; omega)
      have e1' : ((j + 1 : Nat) : Int) = (j : Int) + 1 := by omega
      have b1 := valid_ev hv hi
      have b2 := valid_ev hv hj'
      rw [zqiz]
      unfold zqig
      refine (c_pos hjn).trans ?_
      refine (c_inb (by omega)).trans ?_
      refine (c_inb (by omega)).trans ?_
      unfold evAt at b1 b2
      have e2 : IntKind.i64.wrap ((r.2.2.1.getD j ((0 : Int), ((0 : Int), ([] : List UInt8)))).2.1 - (r.2.2.1.getD i ((0 : Int), ((0 : Int), ([] : List UInt8)))).2.1) = (r.2.2.1.getD j ((0 : Int), ((0 : Int), ([] : List UInt8)))).2.1 - (r.2.2.1.getD i ((0 : Int), ((0 : Int), ([] : List UInt8)))).2.1 := i64_in _ (by omega)
      have e3 : IntKind.i64.wrap (0 - ((r.2.2.1.getD j ((0 : Int), ((0 : Int), ([] : List UInt8)))).2.1 - (r.2.2.1.getD i ((0 : Int), ((0 : Int), ([] : List UInt8)))).2.1)) = (r.2.2.1.getD i ((0 : Int), ((0 : Int), ([] : List UInt8)))).2.1 - (r.2.2.1.getD j ((0 : Int), ((0 : Int), ([] : List UInt8)))).2.1 := (i64_in _ (by omega)).trans (by omega)
      simp only [Int.toNat_natCast, e0, e1, e2, e3]
      rw [List.range'_succ, List.flatMap_cons]
      have hpi : pairIf r i j = if (evAt r j).1 = (evAt r i).1 then pairD r i j else [] := rfl
      have hp : (pairD r i j).length = 2 := by unfold pairD; split <;> rfl
      rw [hpi]
      by_cases hh : (r.2.2.1.getD i ((0 : Int), ((0 : Int), ([] : List UInt8)))).1 = (r.2.2.1.getD j ((0 : Int), ((0 : Int), ([] : List UInt8)))).1
      · refine (c_npos hh).trans ?_
        rw [if_pos (show (evAt r j).1 = (evAt r i).1 from hh.symm)]
        have fin : zqiy f k1 (i : Int) ((j : Int) + 1) r.1 r.2.1 r.2.2.1 r.2.2.2 (s ++ pairD r i j) = k1 (i : Int) r.1 r.2.1 r.2.2.1 r.2.2.2 (s ++ (pairD r i j ++ (List.range' (j + 1) c).flatMap (pairIf r i))) := by
          rw [← e1', ih (j + 1) f _ (by omega) (by omega) (by omega) (by rw [List.length_append]; omega), List.append_assoc]
        by_cases hc : (r.2.2.1.getD j ((0 : Int), ((0 : Int), ([] : List UInt8)))).2.1 < (r.2.2.1.getD i ((0 : Int), ((0 : Int), ([] : List UInt8)))).2.1
        · refine (c_pos (by omega)).trans ?_
          refine (rcons_p2 _ (by omega) _ _ s (by omega) _ _).trans ?_
          rw [← fin]
          simp only [e1]
          unfold pairD evAt
          rw [if_pos hc, hh]
        · refine (c_neg (by omega)).trans ?_
          refine (rcons_p2 _ (by omega) _ _ s (by omega) _ _).trans ?_
          rw [← fin]
          simp only [e1]
          unfold pairD evAt
          rw [if_neg hc]
      · refine (c_nneg hh).trans ?_
        rw [if_neg (show ¬ (evAt r j).1 = (evAt r i).1 from fun e => hh e.symm), List.nil_append, ← e1']
        exact ih (j + 1) f _ (by omega) (by omega) (by omega) (by omega)
  unfold zqj0
  have h1 := key (nE r - (i + 1)) (i + 1) fuel out (by omega) (by omega) (lt_fuel (by unfold nE at *; omega)) (by unfold nE at *; omega)
  rw [show ((i : Int) + 1) = ((i + 1 : Nat) : Int) by omega, h1]
  rw [pairsI_range' hi]

theorem rcons_p4 (k1 : zqi2 β) {r : Rec} (hv : valid r = true) (out : List Diff) (ho : out.length ≤ 80) :
    zqj4 k1 0 r.1 r.2.1 r.2.2.1 r.2.2.2 out = k1 r.1 r.2.1 r.2.2.1 r.2.2.2 (out ++ (List.range (nE r)).flatMap (pairsI r (nE r))) := by
  have hb := valid_bd hv
  have h2 : ∀ i, (pairsI r (nE r) i).length ≤ 80 := fun i => by
    have h3 := flat_len (pairIf r i) 2 ((List.range (nE r)).filter fun j => decide (i < j)) (fun j _ => by
      unfold pairIf pairD
      split
      · split <;> simp
      · simp)
    have h4 := List.length_filter_le (fun j => decide (i < j)) (List.range (nE r))
    rw [List.length_range] at h4
    unfold pairsI nE at *
    omega
  have key := range_fold' (nE r) (fun i (s : List Diff) => s.length ≤ 80 + 80 * i) (fun f j s => zqj2 f k1 j r.1 r.2.1 r.2.2.1 r.2.2.2 s)
    (fun s i => s ++ pairsI r (nE r) i) (fun s => k1 r.1 r.2.1 r.2.2.1 r.2.2.2 s) out fuel (lt_fuel (by unfold nE; omega)) (by omega)
    (fun i s hi hs => by have := h2 i; rw [List.length_append]; omega)
    (fun f i s hi hs => by
      have hi' := hi
      unfold nE at hi'
      have e1 : IntKind.i64.wrap ((i : Int) + 1) = i + 1 := i64_in _ (by omega)
      rw [zqj3]
      unfold zqij
      simp only [e1]
      refine (c_pos (by omega)).trans ?_
      refine (rcons_p3 _ hv hi s (by omega)).trans ?_
      simp only [e1])
    (fun f s hs => by
      rw [zqj3]
      unfold zqij
      exact c_neg (by unfold nE; omega))
  unfold zqj4
  rw [key, foldl_flat]

theorem rcons_p5 (k1 : zqi6 β) {r : Rec} (hv : valid r = true) (out : List Diff) (ho : out.length ≤ 10000) :
    zqj8 k1 0 r.1 r.2.1 r.2.2.1 r.2.2.2 out = k1 (out ++ r.2.2.2.map linkD) := by
  have hb := valid_bd hv
  have hp := valid_parts hv
  have key := fold_loopI (fun i (s : List Diff) => s.length ≤ 10000 + i) (fun f j s => zqj6 f k1 j r.1 r.2.1 r.2.2.1 r.2.2.2 s)
    (fun s x => s ++ [linkD x]) (fun s => k1 s) ((0 : Int), ((0 : Int), (0 : Int))) r.2.2.2 out fuel (lt_fuel (by omega)) (by omega)
    (fun i s hi hs => by simp only [List.length_append, List.length_cons, List.length_nil]; omega)
    (fun f i s hi hs => by
      have e1 : IntKind.i64.wrap ((i : Int) + 1) = i + 1 := i64_in _ (by omega)
      have hx := hp.2.2.2 _ (getD_mem (d := ((0 : Int), ((0 : Int), (0 : Int)))) hi)
      unfold nE at hx
      have e2 : IntKind.i64.wrap ((r.2.2.2.getD i (0, 0, 0)).2.1 + 1) = (r.2.2.2.getD i (0, 0, 0)).2.1 + 1 := i64_in _ (by omega)
      have e3 : IntKind.i64.wrap ((r.2.2.2.getD i (0, 0, 0)).1 + 1) = (r.2.2.2.getD i (0, 0, 0)).1 + 1 := i64_in _ (by omega)
      have e4 : IntKind.i64.wrap (0 - (r.2.2.2.getD i (0, 0, 0)).2.2) = -(r.2.2.2.getD i (0, 0, 0)).2.2 := (i64_in _ (by omega)).trans (by omega)
      rw [zqj7]
      unfold zqim
      refine (c_pos (by omega)).trans ?_
      refine (c_inb (by omega)).trans ?_
      refine (c_inb (by omega)).trans ?_
      refine (c_inb (by omega)).trans ?_
      simp only [Int.toNat_natCast, e1, e2, e3, e4]
      refine (c_room (by simp only [List.length_cons, List.length_nil]; omega)).trans ?_
      rfl)
    (fun f s hs => by
      rw [zqj7]
      unfold zqim
      exact c_neg (by omega))
  unfold zqj8
  rw [key]
  have : ∀ (l : List Link) (s : List Diff), l.foldl (fun s x => s ++ [linkD x]) s = s ++ l.map linkD := by
    intro l
    induction l with
    | nil => intro s; simp
    | cons x l ih => intro s; simp only [List.foldl_cons, List.map_cons]; rw [ih, List.append_assoc]; rfl
  rw [this]

theorem rConstraints_eq (r : Rec) (k : Bool → List Diff → Option β) : zqja r k = (match consW r with | some l => k true l | none => k false []) := by
  unfold zqja zqip
  refine (ref38_Valid_eq _ _).trans ?_
  unfold consW
  cases hv : valid r with
  | false => rfl
  | true =>
    have hb := valid_bd hv
    refine c_nt.trans ?_
    rw [Bool.true_and]
    refine (rcons_p1 _ _ hv).trans ?_
    cases hw : whensOk r with
    | false => rfl
    | true =>
      refine c_t.trans ?_
      rw [if_pos rfl]
      have h1 := flat_len (evD r) 2 (List.range (nE r)) (fun i _ => by simp [evD])
      rw [List.length_range] at h1
      have h2 := cons_len hv
      unfold consL at h2 ⊢
      rw [List.length_append, List.length_map] at h2
      refine (rcons_p4 _ hv _ (by unfold nE at *; omega)).trans ?_
      exact rcons_p5 _ hv _ (by omega)

theorem cons_noSelf {r : Rec} (hv : valid r = true) : noSelf (consL r) := by
  intro d hd
  have hp := valid_parts hv
  rcases mem_cons.1 hd with ⟨i, hi, hd⟩ | ⟨i, j, hij, hj, hh, hd⟩ | ⟨l, hl, rfl⟩
  · simp only [evD, List.mem_cons, List.not_mem_nil, or_false] at hd
    rcases hd with rfl | rfl <;> simp only <;> omega
  · unfold pairD at hd
    split at hd <;> simp only [List.mem_cons, List.not_mem_nil, or_false] at hd <;> rcases hd with rfl | rfl <;> simp only <;> omega
  · have := hp.2.2.2 l hl
    simp only [linkD]
    omega

theorem rclosed_eq (r : Rec) (k : Mat → Bool → Option β) : zqk4 r k = (match closedW r with | some m => k m true | none => k [] false) := by
  unfold zqk4 zqk1
  refine (rConstraints_eq _ _).trans ?_
  unfold closedW
  cases hc : consW r with
  | none => rfl
  | some l =>
    simp only [Bool.not_true, cond_false]
    have hc' := hc
    unfold consW at hc'
    by_cases hh : (valid r && whensOk r) = true
    · rw [if_pos hh] at hc'
      rw [Bool.and_eq_true] at hh
      cases hc'
      have := valid_bd hh.1
      have e1 : IntKind.i64.wrap ((r.2.2.1.length : Int) + 1) = ((nE r + 1 : Nat) : Int) := i64_in _ (by omega)
      rw [e1]
      exact ref39_Close_eq (by omega) (by unfold nE; omega) (cons_noSelf hh.1) _
    · rw [if_neg hh] at hc'
      cases hc'

/-- All that the functions of the order need of the matrix. -/
theorem closed_matB {r : Rec} {m : Mat} (e : closedW r = some m) : MatB (nE r) m := by
  have h := closed_ok' e
  have hn : nE r ≤ 40 := (valid_bd h.valid).2.2.1
  exact ⟨h.ok.sq, by omega, fun i j hi hj => by have := h.ok.lo i j hi hj; have := h.ok.hi i j hi hj; omega⟩

theorem closedR_small {r : Rec} {m : Mat} (e : closedW r = some m) : nE r ≤ 40 := (valid_bd (closed_ok' e).valid).2.2.1

theorem rcompare_eq {n : Nat} {m : Mat} (h : MatB n m) {a b : Nat} (ha : a < n) (hb : b < n) (k : Int → Option β) : zq2b m (a : Int) (b : Int) k = k (cmpN m a b) := by
  have hs := h.small
  have e1 : IntKind.i64.wrap ((a : Int) + 1) = ((a + 1 : Nat) : Int) := i64_in _ (by omega)
  have e2 : IntKind.i64.wrap ((b : Int) + 1) = ((b + 1 : Nat) : Int) := i64_in _ (by omega)
  have l0 := h.sq.len
  have l1 := h.sq.row (b + 1) (by omega)
  have l2 := h.sq.row (a + 1) (by omega)
  unfold zq2b zq28
  simp only [e1, e2, Int.toNat_natCast]
  refine (c_inb (by omega)).trans ?_
  refine (c_inb (by omega)).trans ?_
  unfold cmpN bef
  by_cases h1 : at2 m (b + 1) (a + 1) ≤ -1
  · refine (c_pos (p := (m.getD (b + 1) []).getD (a + 1) 0 ≤ -1) h1).trans ?_
    rw [decide_eq_true h1]
    rfl
  · refine (c_neg (p := (m.getD (b + 1) []).getD (a + 1) 0 ≤ -1) h1).trans ?_
    refine (c_inb (by omega)).trans ?_
    refine (c_inb (by omega)).trans ?_
    rw [decide_eq_false h1]
    by_cases h2 : at2 m (a + 1) (b + 1) ≤ -1
    · refine (c_pos (p := (m.getD (a + 1) []).getD (b + 1) 0 ≤ -1) h2).trans ?_
      rw [decide_eq_true h2]
      rfl
    · refine (c_neg (p := (m.getD (a + 1) []).getD (b + 1) 0 ≤ -1) h2).trans ?_
      rw [decide_eq_false h2]
      rfl

/-- Compare and Gap at any two numbers. -/
def cmpG (r : Rec) (a b : Int) : Int × Bool := match closedW r with
  | some m => if inN a 0 ((nE r : Int) - 1) && inN b 0 ((nE r : Int) - 1) then (cmpN m a.toNat b.toNat, true) else (0, false)
  | none => (0, false)
theorem rCompare_gen (r : Rec) (a b : Int) (k : Int → Bool → Option β) : zqlc r a b k = k (cmpG r a b).1 (cmpG r a b).2 := by
  unfold zqlc zql9
  refine (rclosed_eq _ _).trans ?_
  unfold cmpG
  cases he : closedW r with
  | none => rfl
  | some m =>
    have hn := closedR_small he
    have e1 : IntKind.i64.wrap ((r.2.2.1.length : Int) - 1) = (nE r : Int) - 1 := i64_in _ (by unfold nE at hn; omega)
    simp only [Bool.not_true, cond_false, e1]
    refine (ref25_In_eq _ _ _ _).trans ?_
    cases ha : inN a 0 ((nE r : Int) - 1) with
    | false => rfl
    | true =>
      refine c_nt.trans ?_
      refine (ref25_In_eq _ _ _ _).trans ?_
      cases hb : inN b 0 ((nE r : Int) - 1) with
      | false => rfl
      | true =>
        refine c_nt.trans ?_
        rw [inN_iff] at ha hb
        have := rcompare_eq (β := β) (closed_matB he) (a := a.toNat) (b := b.toNat) (by omega) (by omega)
        rw [show ((a.toNat : Nat) : Int) = a by omega, show ((b.toNat : Nat) : Int) = b by omega] at this
        exact this _

end
end
end Go.Lift

/- The reference of the chapter 40 in plain Lean: lists, orders, times. -/
namespace Go.Lift
open Go.RowKit Go.IntWalk
noncomputable section
set_option linter.unusedVariables false
set_option linter.unusedSimpArgs false
set_option maxRecDepth 10000

section
variable {β : Type}
/-! ### Open -/
def openG (r : Rec) : List (Int × Int) := match closedW r with | some m => openW (nE r) m | none => []
theorem Open_gen (r : Rec) (hE : nE r ≤ 100) (k : List (Int × Int) → Option β) : zqqp r k = k (openG r) := by
  unfold openG
  cases he : closedW r with
  | none => exact Open_none he hE k
  | some m => exact Open_eq he (closed_matB he) k

/-! ### Sort -/
def sortG (r : Rec) : Bool × List Int := match closedW r with | some m => (true, sortN (nE r) m (nE r) []) | none => (false, [])
theorem Sort_gen (r : Rec) (hE : nE r ≤ 100) (k : Bool → List Int → Option β) : zqrt r k = k (sortG r).1 (sortG r).2 := by
  unfold sortG
  cases he : closedW r with
  | none =>
    unfold zqrt zqre
    refine (closed_eq hE _).trans ?_
    rw [he]
    rfl
  | some m => exact Sort_eq he (closed_matB he) k

theorem rhas_eq (l : List Int) (hl : l.length ≤ 100000) (x : Int) (k : Bool → Option β) : zq10 l x k = k (decide (x ∈ l)) := by
  unfold zq10 zqt zqy
  refine (any_loop (fun f j => zqw f (fun t => k t) (fun _ => k false) l x j) (fun y => decide (y = x)) (k true) (k false) (0 : Int) l fuel (lt_fuel (by omega)) (fun f j hj => ?_) (fun f => ?_)).trans ?_
  · have e1 : IntKind.i64.wrap ((j : Int) + 1) = j + 1 := i64_in _ (by omega)
    rw [zqx]
    unfold zqq
    simp only [Int.toNat_natCast, e1]
    refine (c_pos (by omega)).trans ?_
    exact c_inb (by omega)
  · rw [zqx]
    unfold zqq
    exact c_neg (by omega)
  · have : l.any (fun y => decide (y = x)) = decide (x ∈ l) := by
      rw [Bool.eq_iff_iff, List.any_eq_true]
      simp only [decide_eq_true_eq, exists_eq_right]
    rw [this]
    cases decide (x ∈ l) <;> rfl

/-! ### Allows -/
def allowsG (r : Rec) (l : List Int) : Bool := match closedW r with | some m => allowsW (nE r) m l | none => false
theorem Allows_gen (r : Rec) (hE : nE r ≤ 100) (l : List Int) (k : Bool → Option β) : zqud r l k = k (allowsG r l) := by
  unfold allowsG
  cases he : closedW r with
  | none =>
    unfold zqud zqu6
    refine (closed_eq hE _).trans ?_
    rw [he]
    rfl
  | some m => exact Allows_eq he (closed_matB he) l k

/-! ### Fits -/
end
end
end Go.Lift

/- The functions of the chapter 40 at any record. -/
namespace Go.Lift
open Go.RowKit Go.IntWalk
noncomputable section
set_option linter.unusedVariables false
set_option linter.unusedSimpArgs false
set_option maxRecDepth 10000

theorem closedW_inv {r : Rec} (hv : ¬ valid r = true) : closedW r = none := by
  unfold closedW consW
  rw [Bool.eq_false_iff.2 hv]
  rfl
theorem small_of {r : Rec} (hv : valid r = true) : nE r ≤ 100 := by
  have := (valid_bd hv).2.2.1
  unfold nE
  omega

section
variable {β : Type}
theorem constraints_inv {r : Rec} (hv : ¬ valid r = true) (k : Bool → List Diff → Option β) : zqms r k = k false [] := by
  refine (Constraints_eq _ _).trans ?_
  unfold consW
  rw [Bool.eq_false_iff.2 hv]
  rfl
theorem closed_inv {r : Rec} (hv : ¬ valid r = true) (k : Mat → Bool → Option β) : zqpe r k = k [] false := by
  unfold zqpe zqpb
  refine (constraints_inv hv _).trans ?_
  exact c_nf
def whenG (r : Rec) : Bool × List (Int × Int) := match closedW r with | some m => (true, whensN (nE r) m) | none => (false, [])
theorem When_g (r : Rec) (k : Bool → List (Int × Int) → Option β) : zqpw r k = k (whenG r).1 (whenG r).2 := by
  by_cases hv : valid r = true
  · refine (When_eq (small_of hv) (fun m he => closed_matB he) k).trans ?_
    unfold whenG
    cases closedW r <;> rfl
  · unfold whenG
    rw [closedW_inv hv]
    unfold zqpw zqpp
    refine (closed_inv hv _).trans ?_
    exact c_nf
theorem Sort_g (r : Rec) (k : Bool → List Int → Option β) : zqrt r k = k (sortG r).1 (sortG r).2 := by
  by_cases hv : valid r = true
  · exact Sort_gen r (small_of hv) k
  · unfold sortG
    rw [closedW_inv hv]
    unfold zqrt zqre
    refine (closed_inv hv _).trans ?_
    exact c_nf
theorem Allows_g (r : Rec) (l : List Int) (k : Bool → Option β) : zqud r l k = k (allowsG r l) := by
  by_cases hv : valid r = true
  · exact Allows_gen r (small_of hv) l k
  · unfold allowsG
    rw [closedW_inv hv]
    unfold zqud zqu6
    refine (closed_inv hv _).trans ?_
    exact c_nf
theorem Open_g (r : Rec) (hE : nE r ≤ 9223372036854775807) (k : List (Int × Int) → Option β) : zqqp r k = k (openG r) := by
  by_cases hv : valid r = true
  · exact Open_gen r (small_of hv) k
  · unfold openG
    rw [closedW_inv hv]
    unfold zqqp zqqe
    refine (closed_inv hv _).trans ?_
    have key := pass_loop (nE r) (fun f j => zqql f (fun out => k out) [] false (r.2.2.1.length : Int) j r.1 r.2.1 r.2.2.1 r.2.2.2 []) (k []) fuel (Nat.lt_of_le_of_lt hE (by decide))
      (fun f i hi => by
        have hi' := hi
        unfold nE at hi'
        have e1 : IntKind.i64.wrap ((i : Int) + 1) = i + 1 := i64_in _ (by unfold nE at hE; omega)
        rw [zqqm]
        unfold zqqb
        refine (c_pos (by omega)).trans ?_
        simp only [e1]
        have : zqqj (fun (m2 : Mat) ok2 t152 t162 r_5 r_6 r_7 r_8 out2 => zqql f (fun out => k out) m2 ok2 t152 (IntKind.i64.wrap (t162 + 1)) r_5 r_6 r_7 r_8 out2) ([] : Mat) false (i : Int) ((i : Int) + 1) (r.2.2.1.length : Int) (i : Int) r.1 r.2.1 r.2.2.1 r.2.2.2 [] =
            zqql f (fun out => k out) [] false (r.2.2.1.length : Int) (IntKind.i64.wrap ((i : Int) + 1)) r.1 r.2.1 r.2.2.1 r.2.2.2 [] := by
          unfold zqqj
          rw [show fuel = (fuel - 1) + 1 by decide, zqqi]
          unfold zqq8
          cases decide ((i : Int) + 1 < (r.2.2.1.length : Int)) <;> rfl
        refine this.trans ?_
        rw [e1])
      (fun f => by
        rw [zqqm]
        unfold zqqb
        exact c_neg (by unfold nE; omega))
    unfold zqqn
    exact key

/-! ### Lists that are equal -/
end
end
end Go.Lift

/- The rows of records (chapter 41): what the code makes of them. -/
namespace Go.Lift
open Go.RowKit Go.IntWalk
noncomputable section
set_option linter.unusedVariables false
set_option linter.unusedSimpArgs false
set_option maxRecDepth 10000

abbrev TRow := Int × ((Int × Int) × List Int)
abbrev tr0 : TRow := (0, ((0, 0), []))

/-! ### A map with pairs as keys -/
theorem mGet_putP (l : List ((Int × Int) × Bool)) (k : Int × Int) (v : Bool) (j : Int × Int) (z : Bool) :
    mGet (.prod (.int .i64) (.int .i64)) (mPut (.prod (.int .i64) (.int .i64)) l k v) j z = if k = j then v else mGet (.prod (.int .i64) (.int .i64)) l j z := by
  have hk : ∀ x y : Int × Int, keyEq (.prod (.int .i64) (.int .i64)) x y = decide (x = y) := by
    intro x y
    simp only [keyEq]
    by_cases h : x = y
    · subst h; simp
    · rw [decide_eq_false h]
      by_cases h1 : x.1 = y.1
      · have h2 : x.2 ≠ y.2 := fun h2 => h (Prod.ext h1 h2)
        simp [h1, h2]
      · simp [h1]
  induction l with
  | nil => by_cases hj : k = j <;> simp [mPut, mGet, hk, hj]
  | cons y l ih =>
    by_cases h : y.1 = k
    · subst h
      by_cases hj : y.1 = j <;> simp [mPut, mGet, hk, hj]
    · by_cases hj : y.1 = j
      · have : k ≠ j := fun e => h (hj.trans e.symm)
        subst hj
        simp [mPut, mGet, hk, h, this]
      · simp [mPut, mGet, hk, h, hj, ih]

def putAll (ps : List (Int × Int)) (s : List ((Int × Int) × Bool)) : List ((Int × Int) × Bool) := ps.foldl (fun s p => mPut (.prod (.int .i64) (.int .i64)) s (p.1, p.2) true) s
theorem get_putAll : ∀ (ps : List (Int × Int)) (s : List ((Int × Int) × Bool)) (j : Int × Int), mGet (.prod (.int .i64) (.int .i64)) (putAll ps s) j false = (decide (j ∈ ps) || mGet (.prod (.int .i64) (.int .i64)) s j false)
  | [], s, j => by simp [putAll]
  | p :: ps, s, j => by
    have h := get_putAll ps (mPut (.prod (.int .i64) (.int .i64)) s (p.1, p.2) true) j
    have e : putAll (p :: ps) s = putAll ps (mPut (.prod (.int .i64) (.int .i64)) s (p.1, p.2) true) := rfl
    rw [e, h, mGet_putP]
    by_cases hj : (p.1, p.2) = j
    · subst hj; simp
    · have : j ≠ p := fun e => hj e.symm
      rw [if_neg hj]
      simp [this]

def mmP (x y : Int) : Int × Int := (if y < x then y else x, if y > x then y else x)
def openOf (ps : List (Int × Int)) (x : Int) (l : List Int) : List Int := l.filter fun y => decide (mmP x y ∈ ps)
def trowOf (ws ps : List (Int × Int)) (l : List Int) (i : Nat) : TRow := (l.getD i 0, (ws.getD (l.getD i 0).toNat (0, 0), sortInts (openOf ps (l.getD i 0) (l.take i))))
def rowsW (ws ps : List (Int × Int)) (l : List Int) : List TRow := (List.range l.length).map (trowOf ws ps l)

theorem rowsW_len (ws ps : List (Int × Int)) (l : List Int) : (rowsW ws ps l).length = l.length := by simp [rowsW]
theorem rowsW_get {ws ps : List (Int × Int)} {l : List Int} {i : Nat} (hi : i < l.length) (d : TRow) : (rowsW ws ps l).getD i d = trowOf ws ps l i := by simp [rowsW, List.getD, hi]
theorem rowsW_events (ws ps : List (Int × Int)) (l : List Int) : (rowsW ws ps l).map (·.1) = l := by
  apply List.ext_getElem
  · simp [rowsW]
  · intro i h1 h2
    simp [rowsW, trowOf, List.getD, h2]

section
variable {β : Type}
theorem openG_len' (r : Rec) : (openG r).length ≤ 1600 := by
  unfold openG
  cases e : closedW r with
  | none => simp
  | some m =>
    have h1 := openW_len (nE r) m
    have h2 := closedR_small e
    have h3 : nE r * nE r ≤ 40 * 40 := Nat.mul_le_mul h2 h2
    show (openW (nE r) m).length ≤ 1600
    omega

theorem rows_p1 (k1 : zqrx β) (l : List Int) (ws : List (Int × Int)) (ps : List (Int × Int)) (hp : ps.length ≤ 100000) : zqsn k1 l (ps.length : Int) 0 ws [] ps = k1 l ws (putAll ps []) := by
  unfold zqsn
  exact fold_loop (fun f i s => zqsl f k1 l (ps.length : Int) i ws s ps) (fun s p => mPut (.prod (.int .i64) (.int .i64)) s (p.1, p.2) true) (fun s => k1 l ws s) ((0 : Int), (0 : Int)) ps [] fuel (lt_fuel (by omega))
    (fun m i s hi => by
      rw [zqsm]
      unfold zqs9
      refine (c_pos (by omega)).trans ?_
      refine (c_inb (by omega)).trans ?_
      rw [i64_in ((i : Int) + 1) (by omega)]
      rfl)
    (fun m s => by
      rw [zqsm]
      unfold zqs9
      exact c_neg (by omega))

theorem foldl_filter {α : Type} (p : α → Bool) : ∀ (l s : List α), l.foldl (fun s x => if p x then s ++ [x] else s) s = s ++ l.filter p
  | [], s => by simp
  | x :: l, s => by
    rw [List.foldl_cons, foldl_filter p l]
    cases h : p x with
    | true => simp [List.filter_cons, h]
    | false => simp [List.filter_cons, h]

theorem rows_p2 (k1 : zqs1 β) (l : List Int) (x : Int) (t32 : List Int) (t33 t34 : Int) (pre : List Int) (hpre : pre.length ≤ 100000) (ws : List (Int × Int)) (ps : List (Int × Int)) (out : List TRow) (a b c : Int) :
    zqsr k1 l x t32 t33 t34 pre (pre.length : Int) 0 ws (putAll ps []) out a b c [] = k1 l t32 t33 t34 ws (putAll ps []) out a b c (openOf ps x pre) := by
  have htest : ∀ e : Int, mGet (.prod (.int .i64) (.int .i64)) (putAll ps []) ((if e < x then e else x), (if e > x then e else x)) false = decide (mmP x e ∈ ps) := fun e => by
    rw [get_putAll]
    show (decide (mmP x e ∈ ps) || false) = _
    rw [Bool.or_false]
  unfold zqsr
  have key := fold_loopI (fun i (s : List Int) => s.length ≤ i) (fun f i s => zqsp f k1 l x t32 t33 t34 pre (pre.length : Int) i ws (putAll ps []) out a b c s)
    (fun s y => if decide (mmP x y ∈ ps) then s ++ [y] else s) (fun s => k1 l t32 t33 t34 ws (putAll ps []) out a b c s) (0 : Int) pre [] fuel (lt_fuel (by omega)) (by simp)
    (fun i s hi hs => by
      split
      · simp only [List.length_append, List.length_cons, List.length_nil]; omega
      · omega)
    (fun m i s hi hs => by
      rw [zqsq]
      unfold zqsc
      refine (c_pos (by omega)).trans ?_
      refine (c_inb (by omega)).trans ?_
      dsimp only
      rw [htest, i64_in ((i : Int) + 1) (by omega), Int.toNat_natCast]
      cases hb : decide (mmP x (pre.getD i 0) ∈ ps) with
      | true =>
        refine c_t.trans ?_
        refine (c_room (by simp only [List.length_cons, List.length_nil]; omega)).trans ?_
        rfl
      | false =>
        refine c_f.trans ?_
        rfl)
    (fun m s hs => by
      rw [zqsq]
      unfold zqsc
      exact c_neg (by omega))
  refine key.trans ?_
  rw [foldl_filter]
  rfl

theorem timeline_rows_eq {r : Rec} {l : List Int} (hE : nE r ≤ 9223372036854775807) (hl : l.length ≤ 1000) (hw : ∀ e ∈ l, 0 ≤ e ∧ e < ((whenG r).2.length : Int)) (k : List TRow → Option β) :
    zqsx r l k = k (rowsW (whenG r).2 (openG r) l) := by
  unfold zqsx zqsi
  refine (When_g r _).trans ?_
  refine (Open_g r hE _).trans ?_
  have hp := openG_len' r
  refine (rows_p1 _ l _ _ (by omega)).trans ?_
  generalize (whenG r).2 = ws at hw
  generalize openG r = ps at hp
  show zqsv _ l l (l.length : Int) 0 ws (putAll ps []) [] = _
  unfold zqsv
  have hS : ∀ i, i < l.length → (List.range (i + 1)).map (trowOf ws ps l) = (List.range i).map (trowOf ws ps l) ++ [trowOf ws ps l i] := fun i hi => by rw [List.range_succ, List.map_append]; rfl
  refine (range_state l.length (fun i => (List.range i).map (trowOf ws ps l)) (fun f i s => zqst f (fun out => k out) l l (l.length : Int) i ws (putAll ps []) s) (k (rowsW ws ps l)) fuel (lt_fuel (by omega))
    (fun m i hi => ?_) (fun m => ?_))
  · have he := hw _ (getD_mem (d := 0) hi)
    rw [zqsu]
    unfold zqsf
    refine (c_pos (by omega)).trans ?_
    refine (c_inb (by omega)).trans ?_
    dsimp only
    rw [Int.toNat_natCast]
    refine (c_inb he).trans ?_
    refine (c_p3 (by decide) (by omega) (by omega)).trans ?_
    have e1 : List.drop (Int.toNat 0) (List.take i l) = List.take i l := rfl
    rw [e1]
    refine (rows_p2 _ l _ l _ _ (l.take i) (by rw [List.length_take]; omega) ws ps _ _ _ _).trans ?_
    have hf : (openOf ps (l.getD i 0) (l.take i)).length ≤ 1000 := by
      have := List.length_filter_le (fun y => decide (mmP (l.getD i 0) y ∈ ps)) (l.take i)
      rw [List.length_take] at this
      unfold openOf
      omega
    refine (c_pos (by omega)).trans ?_
    rw [i64_in ((i : Int) + 1) (by omega)]
    refine (c_room (by simp only [List.length_map, List.length_range, List.length_cons, List.length_nil]; omega)).trans ?_
    rw [hS i hi]
    rfl
  · rw [zqsu]
    unfold zqsf
    refine (c_neg (by omega)).trans ?_
    rfl

theorem whenG_len' {r : Rec} {m : Mat} (he : closedW r = some m) : (whenG r).2 = whensN (nE r) m := by unfold whenG; rw [he]
theorem whensN_len (n : Nat) (m : Mat) : (whensN n m).length = n := by simp [whensN]
theorem openG_some {r : Rec} {m : Mat} (he : closedW r = some m) : openG r = openW (nE r) m := by unfold openG; rw [he]

/-- The rows of a record that stands. -/
theorem timeline_Rows_eq {r : Rec} {m : Mat} (hm : ClosedR r m) (hn : nE r ≤ 40) (k : Bool → List TRow → Option β) :
    zqt4 r k = k true (rowsW (whensN (nE r) m) (openW (nE r) m) (sortN (nE r) m (nE r) [])) := by
  obtain ⟨h1, h2⟩ := hm.sorted (nE r) [] (by simp) ⟨by simp, by simp, by simp⟩
  have es : sortG r = (true, sortN (nE r) m (nE r) []) := by unfold sortG; rw [hm.eq]
  unfold zqt4 zqt1
  refine (Sort_g r _).trans ?_
  rw [es]
  refine c_f.trans ?_
  refine (timeline_rows_eq (by omega) (by show (sortN (nE r) m (nE r) []).length ≤ 1000; omega) (fun e he => ?_) _).trans ?_
  · rw [whenG_len' hm.eq, whensN_len]
    obtain ⟨i, hi, rfl⟩ := List.getElem_of_mem he
    have := h2.range i (by exact hi)
    rwa [show (sortN (nE r) m (nE r) []).getD i 0 = (sortN (nE r) m (nE r) [])[i] by simp [List.getD, hi]] at this
  · rw [whenG_len' hm.eq, openG_some hm.eq]

theorem equal_self (l : List Int) (hl : l.length ≤ 100000) (k : Bool → Option β) : zq1x l l k = k true := by
  unfold zq1x zq1q
  refine (c_npos rfl).trans ?_
  unfold zq1v
  exact pass_loop l.length (fun f i => zq1t f (fun t4 => k t4) (fun _ => k true) l l (l.length : Int) i) (k true) fuel (lt_fuel (by omega))
    (fun m i hi => by
      rw [zq1u]
      unfold zq1n
      refine (c_pos (by omega)).trans ?_
      refine (c_inb (by omega)).trans ?_
      refine (c_inb (by omega)).trans ?_
      refine (c_npos rfl).trans ?_
      rw [i64_in ((i : Int) + 1) (by omega)])
    (fun m => by
      rw [zq1u]
      unfold zq1n
      exact c_neg (by omega))

theorem check_f1_self (x : TRow) (hx : x.2.2.length ≤ 100000) (k : Bool → Option β) : zqc4 x x k = k true := by
  unfold zqc4 zqc1
  refine (c_pos rfl).trans ?_
  have e : (decide (x.2.1.1 = x.2.1.1) && (decide (x.2.1.2 = x.2.1.2) && true)) = true := by simp
  rw [e]
  refine c_t.trans ?_
  exact equal_self _ hx _

theorem rows_self (l : List TRow) (hl : l.length ≤ 100000) (ho : ∀ x ∈ l, x.2.2.length ≤ 100000) (k : Bool → Option β) : zquw l l k = k true := by
  unfold zquw zqup
  refine (c_npos rfl).trans ?_
  unfold zquu
  exact pass_loop l.length (fun f i => zqus f (fun t6 => k t6) (fun _ => k true) l l (l.length : Int) i) (k true) fuel (lt_fuel (by omega))
    (fun m i hi => by
      rw [zqut]
      unfold zqum
      refine (c_pos (by omega)).trans ?_
      refine (c_inb (by omega)).trans ?_
      refine (c_inb (by omega)).trans ?_
      refine (check_f1_self _ (ho _ (getD_mem (by rw [Int.toNat_natCast]; exact hi))) _).trans ?_
      refine c_f.trans ?_
      rw [i64_in ((i : Int) + 1) (by omega)])
    (fun m => by
      rw [zqut]
      unfold zqum
      exact c_neg (by omega))

theorem sortInts_length (l : List Int) : (sortInts l).length = l.length := by unfold sortInts; exact List.length_mergeSort l

theorem openOf_len (ps : List (Int × Int)) (x : Int) (l : List Int) : (openOf ps x l).length ≤ l.length := List.length_filter_le _ _

/-- Rows of a record that stands pass the check. -/
theorem timeline_Check_eq {r : Rec} {m : Mat} (hm : ClosedR r m) (hn : nE r ≤ 40) {s : List Int} (hs : allowsW (nE r) m s = true) (k : Bool → Option β) :
    zqve r (rowsW (whensN (nE r) m) (openW (nE r) m) s) k = k true := by
  have hal := allows_iff.1 hs
  have hlen : s.length = nE r := hal.1
  generalize hR : rowsW (whensN (nE r) m) (openW (nE r) m) s = R
  have hRl : R.length = s.length := by rw [← hR, rowsW_len]
  have hev : R.map (·.1) = s := by rw [← hR]; exact rowsW_events _ _ _
  have p1 : ∀ (k1 : zqv0 β), zqvc k1 R R (R.length : Int) 0 r.1 r.2.1 r.2.2.1 r.2.2.2 [] = k1 R r.1 r.2.1 r.2.2.1 r.2.2.2 s := by
    intro k1
    unfold zqvc
    have key := fold_loopI (fun i (z : List Int) => z.length = i) (fun f i z => zqva f k1 R R (R.length : Int) i r.1 r.2.1 r.2.2.1 r.2.2.2 z) (fun z x => z ++ [x.1]) (fun z => k1 R r.1 r.2.1 r.2.2.1 r.2.2.2 z) tr0 R [] fuel (lt_fuel (by omega)) rfl
      (fun i z hi hz => by simp only [List.length_append, List.length_cons, List.length_nil]; omega)
      (fun m i z hi hz => by
        rw [zqvb]
        unfold zqv4
        refine (c_pos (by omega)).trans ?_
        refine (c_inb (by omega)).trans ?_
        refine (c_room (by simp only [List.length_cons, List.length_nil]; omega)).trans ?_
        rw [i64_in ((i : Int) + 1) (by omega)]
        rfl)
      (fun m z hz => by
        rw [zqvb]
        unfold zqv4
        exact c_neg (by omega))
    refine key.trans ?_
    have e : ∀ (l : List TRow) (z : List Int), l.foldl (fun z x => z ++ [x.1]) z = z ++ l.map (·.1) := by
      intro l
      induction l with
      | nil => intro z; simp
      | cons x l ih => intro z; rw [List.foldl_cons, ih]; simp
    rw [e, List.nil_append, hev]
  have eA : allowsG r s = true := by unfold allowsG; rw [hm.eq]; exact hs
  unfold zqve zqv7
  refine (p1 _).trans ?_
  refine (Allows_g (r.1, r.2.1, r.2.2.1, r.2.2.2) s _).trans ?_
  have eA' : allowsG (r.1, r.2.1, r.2.2.1, r.2.2.2) s = true := eA
  rw [eA']
  refine c_t.trans ?_
  refine (timeline_rows_eq (r := (r.1, r.2.1, r.2.2.1, r.2.2.2)) (by show nE r ≤ _; omega) (by omega) (fun e he => ?_) _).trans ?_
  · show 0 ≤ e ∧ e < ((whenG r).2.length : Int)
    rw [whenG_len' hm.eq, whensN_len]
    obtain ⟨i, hi, rfl⟩ := List.getElem_of_mem he
    have := hal.2.1 i (by omega)
    rwa [show s.getD i 0 = s[i] by simp [List.getD, hi]] at this
  · show zquw R (rowsW (whenG r).2 (openG r) s) _ = _
    rw [whenG_len' hm.eq, openG_some hm.eq, hR]
    refine rows_self R (by omega) (fun x hx => ?_) _
    rw [← hR] at hx
    obtain ⟨i, hi, rfl⟩ := List.mem_map.1 hx
    have h1 := openOf_len (openW (nE r) m) (s.getD i 0) (s.take i)
    rw [List.length_take] at h1
    show (sortInts _).length ≤ 100000
    rw [sortInts_length]
    omega
end
end
end Go.Lift

/- The example of chapter 41. -/
namespace Go.Lift
noncomputable section
set_option maxRecDepth 100000
theorem sane41 {β : Type} (k : Bool → Option β) : zqwd k = k true := by kernel_rfl
end
end Go.Lift

/- TimelineMarks: each event has one row; certain orders are shown so, open ones are named. -/
namespace Go.Lift
open Go.RowKit Go.IntWalk
noncomputable section
set_option linter.unusedVariables false
set_option linter.unusedSimpArgs false
set_option maxRecDepth 10000

theorem mem_sortInts {l : List Int} {x : Int} : x ∈ sortInts l ↔ x ∈ l := by unfold sortInts; exact List.mem_mergeSort
theorem mem_openOf {n : Nat} {m : Mat} {l : List Int} {x y : Nat} (hx : x < n) (hy : y < n) (hxy : x ≠ y) (hl : (y : Int) ∈ l) : (y : Int) ∈ sortInts (openOf (openW n m) (x : Int) l) ↔ opn m y x = true := by
  rw [mem_sortInts, openOf, List.mem_filter, decide_eq_true_iff]
  have key := openW_any (m := m) hx hy hxy
  have e : mmP (x : Int) (y : Int) ∈ openW n m ↔ opn m x y = true := by
    rw [← key, List.any_eq_true]
    constructor
    · intro h
      exact ⟨_, h, by simp [mmP]⟩
    · rintro ⟨p, hp, h⟩
      simp only [Bool.and_true, Bool.and_eq_true, decide_eq_true_eq] at h
      have : mmP (x : Int) (y : Int) = p := Prod.ext h.1.symm h.2.symm
      rw [this]; exact hp
  rw [e, opn_comm]
  exact ⟨fun h => h.2, fun h => ⟨hl, h⟩⟩

theorem take_get {l : List Int} {i k : Nat} (hk : k < i) (hi : i ≤ l.length) : (l.take i).getD k 0 = l.getD k 0 := by
  rw [List.getD_eq_getElem?_getD, List.getD_eq_getElem?_getD, List.getElem?_take, if_pos hk]
theorem mem_take_iff {l : List Int} {i : Nat} {x : Int} (hi : i ≤ l.length) : x ∈ l.take i ↔ ∃ k, k < i ∧ l.getD k 0 = x := by
  constructor
  · intro h
    obtain ⟨k, hk, e⟩ := List.getElem_of_mem h
    rw [List.length_take] at hk
    refine ⟨k, by omega, ?_⟩
    rw [← e, ← take_get (i := i) (by omega) hi]
    simp [List.getD, List.getElem?_eq_getElem, hk]
  · rintro ⟨k, hk, rfl⟩
    rw [← take_get hk hi]
    exact getD_mem (by rw [List.length_take]; omega)

section
variable {β : Type} {r : Rec} {m : Mat} {times s : List Int}

theorem cmpG_in (hm : ClosedR r m) {a b : Nat} (ha : a < nE r) (hb : b < nE r) : cmpG r (a : Int) (b : Int) = (cmpN m a b, true) := by
  unfold cmpG
  rw [hm.eq]
  show (if _ then _ else _) = _
  rw [inN_mk (by omega), inN_mk (by omega)]
  simp

theorem marks_p1 (hm : ClosedR r m) (hn : nE r ≤ 40) (hs : allowsW (nE r) m s = true) {i : Nat} (hi : i < nE r) (a b : Int) (R : List TRow) (x2 x3 : Int) (k1 : zqwh β) (k2 : zqwi β) :
    zqxa k1 k2 a b ((s.take i).length : Int) 0 r.1 r.2.1 r.2.2.1 r.2.2.2 times R (s.take i) (s.getD i 0) x2 x3 (sortInts (openOf (openW (nE r) m) (s.getD i 0) (s.take i))) =
      k2 a b r.1 r.2.1 r.2.2.1 r.2.2.2 times R (s.take i) (s.getD i 0) x2 x3 (sortInts (openOf (openW (nE r) m) (s.getD i 0) (s.take i))) := by
  obtain ⟨h0, h1, h2⟩ := allows_iff.1 hs
  have hlen : (s.take i).length = i := by rw [List.length_take]; omega
  have hO : (sortInts (openOf (openW (nE r) m) (s.getD i 0) (s.take i))).length ≤ 100000 := by
    rw [sortInts_length]
    have := openOf_len (openW (nE r) m) (s.getD i 0) (s.take i)
    omega
  obtain ⟨x, hx⟩ : ∃ x : Nat, s.getD i 0 = (x : Int) := ⟨(s.getD i 0).toNat, by have := h1 i hi; omega⟩
  have hxn : x < nE r := by have := h1 i hi; omega
  unfold zqxa
  rw [hlen]
  exact pass_loop i (fun f j => zqx8 f k1 k2 a b (i : Int) j r.1 r.2.1 r.2.2.1 r.2.2.2 times R (s.take i) (s.getD i 0) x2 x3 (sortInts (openOf (openW (nE r) m) (s.getD i 0) (s.take i)))) _ fuel (lt_fuel (by omega))
    (fun f j hj => by
      obtain ⟨y, hy⟩ : ∃ y : Nat, s.getD j 0 = (y : Int) := ⟨(s.getD j 0).toNat, by have := h1 j (by omega); omega⟩
      have hyn : y < nE r := by have := h1 j (by omega); omega
      have hp := h2 j i hj hi
      rw [hx, hy, Int.toNat_natCast, Int.toNat_natCast] at hp
      have hxy : x ≠ y := fun e => hp.1 (by rw [e])
      rw [zqx9]
      unfold zqww
      refine (c_pos (by omega)).trans ?_
      refine (c_inb (by omega)).trans ?_
      dsimp only
      rw [Int.toNat_natCast, take_get hj (by omega), i64_in ((j : Int) + 1) (by omega)]
      refine (rCompare_gen _ _ _ _).trans ?_
      have ec : cmpG (r.1, r.2.1, r.2.2.1, r.2.2.2) (s.getD j 0) (s.getD i 0) = (cmpN m y x, true) := by rw [hx, hy]; exact cmpG_in hm hyn hxn
      rw [ec]
      refine c_f.trans ?_
      have hna : ¬ cmpN m y x = 1 := fun h => by
        rw [hm.cmp_after hyn hxn, hp.2] at h
        cases h
      refine (c_neg hna).trans ?_
      refine (rhas_eq _ hO _ _).trans ?_
      have hmem : s.getD j 0 ∈ s.take i := (mem_take_iff (by omega)).2 ⟨j, hj, rfl⟩
      have ed : decide (s.getD j 0 ∈ sortInts (openOf (openW (nE r) m) (s.getD i 0) (s.take i))) = decide (cmpN m y x = 0) := by
        rw [hx, hy]
        rw [hy] at hmem
        refine decide_eq_decide.2 ?_
        rw [mem_openOf hxn hyn hxy hmem, hm.cmp_open hyn hxn]
      exact c_nbeq ed)
    (fun f => by
      rw [zqx9]
      unfold zqww
      exact c_neg (by omega))

theorem marks_p2 {seen O : List Int} (hl : O.length ≤ 1000) (hs : seen.length ≤ 1000) (h : ∀ y ∈ O, y ∈ seen) (a b : Int) (R : List TRow) (x x2 x3 : Int) (r1 : List Host) (r2 : List Sync) (r3 : List Event) (r4 : List Link) (k1 : zqwm β) (k2 : zqwn β) :
    zqxe k1 k2 a b O (O.length : Int) 0 r1 r2 r3 r4 times R seen x x2 x3 O = k2 a b r1 r2 r3 r4 times R seen x x2 x3 O := by
  unfold zqxe
  exact pass_loop O.length (fun f j => zqxc f k1 k2 a b O (O.length : Int) j r1 r2 r3 r4 times R seen x x2 x3 O) _ fuel (lt_fuel (by omega))
    (fun f j hj => by
      rw [zqxd]
      unfold zqwz
      refine (c_pos (by omega)).trans ?_
      refine (c_inb (by omega)).trans ?_
      dsimp only
      rw [Int.toNat_natCast, i64_in ((j : Int) + 1) (by omega)]
      refine (rhas_eq _ (by omega) _ _).trans ?_
      rw [decide_eq_true (h _ (getD_mem hj))]
      exact c_f)
    (fun f => by
      rw [zqxd]
      unfold zqwz
      exact c_neg (by omega))

theorem marks_p3 (hm : ClosedR r m) (hn : nE r ≤ 40) (hs : allowsW (nE r) m s = true) (ht : times.length = nE r) (hsol : SolR r (xOf times)) (k1 : zqwr β) (k2 : zqws β) :
    zqxi k1 k2 ((rowsW (whensN (nE r) m) (openW (nE r) m) s).length : Int) 0 r.1 r.2.1 r.2.2.1 r.2.2.2 times (rowsW (whensN (nE r) m) (openW (nE r) m) s) [] = k2 () := by
  obtain ⟨h0, h1, h2⟩ := allows_iff.1 hs
  have hlen : (rowsW (whensN (nE r) m) (openW (nE r) m) s).length = nE r := by rw [rowsW_len, h0]
  have hget : ∀ i, i < nE r → (rowsW (whensN (nE r) m) (openW (nE r) m) s).getD i tr0 = trowOf (whensN (nE r) m) (openW (nE r) m) s i := fun i hi => rowsW_get (by omega) _
  generalize rowsW (whensN (nE r) m) (openW (nE r) m) s = R at hlen hget
  unfold zqxi
  rw [hlen]
  refine range_state (nE r) (fun i => s.take i) (fun f i z => zqxg f k1 k2 (nE r : Int) i r.1 r.2.1 r.2.2.1 r.2.2.2 times R z) (k2 ()) fuel (lt_fuel (by omega)) (fun f i hi => ?_) (fun f => ?_)
  · have hx := h1 i hi
    obtain ⟨x, ex⟩ : ∃ x : Nat, s.getD i 0 = (x : Int) := ⟨(s.getD i 0).toNat, by omega⟩
    have hxn : x < nE r := by omega
    have hg := hm.range hsol rfl hxn
    rw [xOf_succ] at hg
    have hw : (whensN (nE r) m).getD (s.getD i 0).toNat (0, 0) = rangeN m x := by rw [ex, Int.toNat_natCast]; exact whensN_getD hxn
    have hti : (s.take i).length = i := by rw [List.length_take]; omega
    have hnot : s.getD i 0 ∉ s.take i := fun hmem => by
      obtain ⟨k, hk, e⟩ := (mem_take_iff (by omega)).1 hmem
      exact (h2 k i hk hi).1 e.symm
    rw [zqxh]
    unfold zqx2
    rw [Int.toNat_natCast]
    have hr0 : R.getD i ((0 : Int), (((0 : Int), (0 : Int)), ([] : List Int))) = trowOf (whensN (nE r) m) (openW (nE r) m) s i := hget i hi
    rw [hr0]
    refine (c_pos (by omega)).trans ?_
    refine (c_inb (by omega)).trans ?_
    refine (rhas_eq _ (by omega) _ _).trans ?_
    have hd : decide ((trowOf (whensN (nE r) m) (openW (nE r) m) s i).1 ∈ s.take i) = false := decide_eq_false hnot
    rw [hd]
    refine c_f.trans ?_
    refine (c_neg (p := (trowOf (whensN (nE r) m) (openW (nE r) m) s i).1 < 0) (by show ¬ s.getD i 0 < 0; omega)).trans ?_
    refine (c_neg (p := (times.length : Int) ≤ (trowOf (whensN (nE r) m) (openW (nE r) m) s i).1) (by show ¬ (times.length : Int) ≤ s.getD i 0; omega)).trans ?_
    refine (c_inb (i := (trowOf (whensN (nE r) m) (openW (nE r) m) s i).1) (by show 0 ≤ s.getD i 0 ∧ s.getD i 0 < (times.length : Int); omega)).trans ?_
    have hlo : ¬ (times.getD (Int.toNat (trowOf (whensN (nE r) m) (openW (nE r) m) s i).1) 0 < (trowOf (whensN (nE r) m) (openW (nE r) m) s i).2.1.1) := by
      show ¬ (times.getD (s.getD i 0).toNat 0 < ((whensN (nE r) m).getD (s.getD i 0).toNat (0, 0)).1)
      rw [hw, ex, Int.toNat_natCast]
      omega
    have hhi : ¬ ((trowOf (whensN (nE r) m) (openW (nE r) m) s i).2.1.2 < times.getD (Int.toNat (trowOf (whensN (nE r) m) (openW (nE r) m) s i).1) 0) := by
      show ¬ (((whensN (nE r) m).getD (s.getD i 0).toNat (0, 0)).2 < times.getD (s.getD i 0).toNat 0)
      rw [hw, ex, Int.toNat_natCast]
      omega
    refine (c_neg hlo).trans ?_
    refine (c_inb (i := (trowOf (whensN (nE r) m) (openW (nE r) m) s i).1) (by show 0 ≤ s.getD i 0 ∧ s.getD i 0 < (times.length : Int); omega)).trans ?_
    refine (c_neg hhi).trans ?_
    refine (marks_p1 hm hn hs hi _ _ R _ _ _ _).trans ?_
    have hO := openOf_len (openW (nE r) m) (s.getD i 0) (s.take i)
    refine (marks_p2 (seen := s.take i) (O := sortInts (openOf (openW (nE r) m) (s.getD i 0) (s.take i))) (by rw [sortInts_length]; omega) (by omega) (fun y hy => ?_) _ _ R _ _ _ _ _ _ _ _ _).trans ?_
    · rw [mem_sortInts, openOf, List.mem_filter] at hy
      exact hy.1
    · refine (c_room (by simp only [List.length_cons, List.length_nil]; omega)).trans ?_
      rw [i64_in ((i : Int) + 1) (by omega)]
      have e : s.take (i + 1) = s.take i ++ [s.getD i 0] := by
        have hlt : i < s.length := by omega
        rw [List.take_add_one, List.getElem?_eq_getElem hlt]
        simp [List.getD, hlt]
      rw [e]
  · rw [zqxh]
    unfold zqx2
    exact c_neg (by omega)

theorem timelineMarks (t : List Int) (k : Bool → Option β) : zqxk t k = k true := by
  unfold zqxk zqx5
  refine (light_eq t _).trans ?_
  by_cases hl : (t.length : Int) ≤ 500
  · rw [decide_eq_true hl]
    refine c_f.trans ?_
    refine (roll_eq t _).trans ?_
    obtain ⟨r, d', times, ahead, hr, hd, f⟩ := record_ok 7 (by omega) (roll_ok hl)
    have hn : nE r ≤ 7 := by have := hr.nE_le; omega
    obtain ⟨m, hm⟩ := hr.closed (by omega)
    have hal := hm.sort_allowed
    have hsol := hr.solR (by omega)
    have hlE : times.length = nE r := hr.lenE
    obtain ⟨h0, h1, h2⟩ := allows_iff.1 hal
    refine (f _).trans ?_
    refine (timeline_Rows_eq hm (by omega) _).trans ?_
    refine c_f.trans ?_
    refine (c_npos (by rw [rowsW_len, h0, hlE])).trans ?_
    refine (timeline_Check_eq hm (by omega) hal _).trans ?_
    refine c_f.trans ?_
    refine (marks_p3 hm (by omega) hal hlE hsol _ _).trans ?_
    exact sane41 _
  · rw [decide_eq_false hl]
    refine c_t.trans ?_
    exact sane41 _
end
end
end Go.Lift

