/- OrderSorts in plain Lean. -/
import Derived.Test.YtamnjokpncjbfaaFn2
import Derived.Test.YtamnjokpncjbfaaLSort
namespace Go.Lift
open Go.RowKit Go.IntWalk
noncomputable section
set_option linter.unusedVariables false
set_option linter.unusedSimpArgs false
set_option maxRecDepth 10000

/-- Two neighbours change places. -/
def swapL (l : List Int) (i : Nat) : List Int := (l.set i (l.getD (i + 1) 0)).set (i + 1) (l.getD i 0)
theorem swap_at {l : List Int} {i : Nat} (h : i + 1 < l.length) (j : Nat) : (swapL l i).getD j 0 = if j = i + 1 then l.getD i 0 else if j = i then l.getD (i + 1) 0 else l.getD j 0 := by
  unfold swapL
  by_cases h1 : j = i + 1
  · rw [if_pos h1, h1, getD_set_eq (by simp; omega)]
  · rw [if_neg h1, getD_set_ne (fun e => h1 e.symm)]
    by_cases h2 : j = i
    · rw [if_pos h2, h2, getD_set_eq (by omega)]
    · rw [if_neg h2, getD_set_ne (fun e => h2 e.symm)]
theorem swap_len (l : List Int) (i : Nat) : (swapL l i).length = l.length := by simp [swapL]

theorem swap_allowed {n : Nat} {m : Mat} {l : List Int} (ha : allowsW n m l = true) {i : Nat} (hi : i + 1 < n) : allowsW n m (swapL l i) = !bef m (l.getD i 0).toNat (l.getD (i + 1) 0).toNat := by
  obtain ⟨h0, h1, h2⟩ := allows_iff.1 ha
  have hs := swap_at (l := l) (i := i) (by omega)
  rw [Bool.eq_iff_iff, allows_iff]
  constructor
  · rintro ⟨_, _, h5⟩
    have := (h5 i (i + 1) (by omega) hi).2
    rw [hs, hs, if_pos rfl, if_neg (by omega), if_pos rfl] at this
    rw [this]
    rfl
  · intro hb
    rw [Bool.not_eq_true'] at hb
    have hin := h2 i (i + 1) (by omega) hi
    refine ⟨by rw [swap_len]; exact h0, fun j hj => ?_, fun k j hk hj => ?_⟩
    · rw [hs]
      split
      · exact h1 i (by omega)
      · split
        · exact h1 (i + 1) hi
        · exact h1 j hj
    · rw [hs, hs]
      by_cases j1 : j = i + 1
      · rw [if_pos j1, if_neg (show ¬ k = i + 1 by omega)]
        by_cases k1 : k = i
        · rw [if_pos k1]
          exact ⟨fun e => hin.1 e.symm, hb⟩
        · rw [if_neg k1]
          exact h2 k i (by omega) (by omega)
      · rw [if_neg j1]
        by_cases j2 : j = i
        · rw [if_pos j2, if_neg (show ¬ k = i + 1 by omega), if_neg (show ¬ k = i by omega)]
          exact h2 k (i + 1) (by omega) hi
        · rw [if_neg j2]
          by_cases k1 : k = i + 1
          · rw [if_pos k1]
            exact h2 i j (by omega) hj
          · rw [if_neg k1]
            by_cases k2 : k = i
            · rw [if_pos k2]
              exact h2 (i + 1) j (by omega) hj
            · rw [if_neg k2]
              exact h2 k j hk hj

section
variable {β : Type} {r : Rec} {m : Mat} {times l : List Int}

theorem sorts_p1 (hm : ClosedR r m) (hn : nE r ≤ 7) (ha : allowsW (nE r) m l = true) (k1 : law40_OrderSorts_p1_K1 β) (k2 : law40_OrderSorts_p1_K2 β) {i : Nat} (hi : i < nE r) (t51 t52 : Int) :
    law40_OrderSorts_p1 k1 k2 (i : Int) 0 t51 t52 r.1 r.2.1 r.2.2.1 r.2.2.2 times l = k2 t51 t52 r.1 r.2.1 r.2.2.1 r.2.2.2 times l := by
  obtain ⟨h0, h1, h2⟩ := allows_iff.1 ha
  have key := pass_loop i (fun f j => law40_OrderSorts_p1_n f k1 k2 (i : Int) j t51 t52 r.1 r.2.1 r.2.2.1 r.2.2.2 times l) (k2 t51 t52 r.1 r.2.1 r.2.2.1 r.2.2.2 times l) fuel (lt_fuel (by omega))
    (fun f j hj => by
      have e1 : IntKind.i64.wrap ((j : Int) + 1) = j + 1 := i64_in _ (by omega)
      have a1 := h1 i hi
      have a2 := h1 j (by omega)
      have a3 := h2 j i hj hi
      have hc := Compare_eq (β := β) hm.eq (hm.matB hn) (a := (l.getD i 0).toNat) (b := (l.getD j 0).toNat) (by omega) (by omega)
      rw [show (((l.getD i 0).toNat : Nat) : Int) = l.getD i 0 by omega, show (((l.getD j 0).toNat : Nat) : Int) = l.getD j 0 by omega] at hc
      rw [law40_OrderSorts_p1_step]
      unfold law40_OrderSorts_p1_s
      simp only [Int.toNat_natCast, e1]
      refine (c_pos (by omega)).trans ?_
      refine (c_inb (by omega)).trans ?_
      refine (c_inb (by omega)).trans ?_
      refine (hc _).trans ?_
      refine c_neg ?_
      rw [cmpN_before, a3.2]
      simp)
    (fun f => by
      rw [law40_OrderSorts_p1_step]
      unfold law40_OrderSorts_p1_s
      exact c_neg (by omega))
  unfold law40_OrderSorts_p1
  exact key

theorem sorts_p2 (hm : ClosedR r m) (hn : nE r ≤ 7) (ha : allowsW (nE r) m l = true) (k1 : law40_OrderSorts_p2_K1 β) (k2 : law40_OrderSorts_p2_K2 β) :
    law40_OrderSorts_p2 k1 k2 (l.length : Int) 0 r.1 r.2.1 r.2.2.1 r.2.2.2 times l = k2 r.1 r.2.1 r.2.2.1 r.2.2.2 times l := by
  obtain ⟨h0, h1, h2⟩ := allows_iff.1 ha
  have key := pass_loop (nE r) (fun f j => law40_OrderSorts_p2_n f k1 k2 (l.length : Int) j r.1 r.2.1 r.2.2.1 r.2.2.2 times l) (k2 r.1 r.2.1 r.2.2.1 r.2.2.2 times l) fuel (lt_fuel (by omega))
    (fun f j hj => by
      have e1 : IntKind.i64.wrap ((j : Int) + 1) = j + 1 := i64_in _ (by omega)
      rw [law40_OrderSorts_p2_step]
      unfold law40_OrderSorts_p2_s
      refine (c_pos (by omega)).trans ?_
      refine (sorts_p1 hm hn ha _ _ hj _ _).trans ?_
      simp only [e1])
    (fun f => by
      rw [law40_OrderSorts_p2_step]
      unfold law40_OrderSorts_p2_s
      exact c_neg (by omega))
  unfold law40_OrderSorts_p2
  exact key

theorem sorts_p3 (hm : ClosedR r m) (hn : nE r ≤ 7) (ha : allowsW (nE r) m l = true) (k1 : law40_OrderSorts_p3_K1 β) (k2 : law40_OrderSorts_p3_K2 β) :
    law40_OrderSorts_p3 k1 k2 0 r.1 r.2.1 r.2.2.1 r.2.2.2 times l = k2 r.1 r.2.1 r.2.2.1 r.2.2.2 times := by
  obtain ⟨h0, h1, h2⟩ := allows_iff.1 ha
  have key := pass_loop (nE r - 1) (fun f j => law40_OrderSorts_p3_n f k1 k2 j r.1 r.2.1 r.2.2.1 r.2.2.2 times l) (k2 r.1 r.2.1 r.2.2.1 r.2.2.2 times) fuel (lt_fuel (by omega))
    (fun f j hj => by
      have e1 : IntKind.i64.wrap ((j : Int) + 1) = ((j + 1 : Nat) : Int) := i64_in _ (by omega)
      have e2 : ((j : Int) + 1) = ((j + 1 : Nat) : Int) := by omega
      have a1 := h1 j (by omega)
      have a2 := h1 (j + 1) (by omega)
      have a3 := h2 j (j + 1) (by omega) (by omega)
      have hc := Compare_eq (β := β) hm.eq (hm.matB hn) (a := (l.getD j 0).toNat) (b := (l.getD (j + 1) 0).toNat) (by omega) (by omega)
      rw [show (((l.getD j 0).toNat : Nat) : Int) = l.getD j 0 by omega, show (((l.getD (j + 1) 0).toNat : Nat) : Int) = l.getD (j + 1) 0 by omega] at hc
      rw [law40_OrderSorts_p3_step]
      unfold law40_OrderSorts_p3_s
      simp only [e1, Int.toNat_natCast]
      refine (c_pos (by omega)).trans ?_
      refine (c_inb (by omega)).trans ?_
      refine (c_inb (by omega)).trans ?_
      refine (hc _).trans ?_
      refine (c_room (by omega)).trans ?_
      refine (c_inb (by omega)).trans ?_
      refine (c_inb (by omega)).trans ?_
      refine (c_inb (by omega)).trans ?_
      refine (c_inb (by rw [List.length_set]; omega)).trans ?_
      refine (Allows_eq hm.eq (hm.matB hn) (swapL l j) _).trans ?_
      refine (c_nbeq ?_).trans ?_
      · rw [swap_allowed ha (by omega), Bool.eq_iff_iff, decide_eq_true_iff]
        unfold cmpN
        rw [a3.2]
        cases bef m (l.getD j 0).toNat (l.getD (j + 1) 0).toNat <;> simp
      · rw [e2])
    (fun f => by
      have e1 : IntKind.i64.wrap (((nE r - 1 : Nat) : Int) + 1) = ((nE r - 1 : Nat) : Int) + 1 := i64_in _ (by omega)
      rw [law40_OrderSorts_p3_step]
      unfold law40_OrderSorts_p3_s
      simp only [e1]
      exact c_neg (by omega))
  unfold law40_OrderSorts_p3
  exact key

theorem has_eq (l : List Int) (hl : l.length ≤ 100000) (x : Int) (k : Bool → Option β) : ref25_Has l x k = k (decide (x ∈ l)) := by
  unfold ref25_Has ref25_Has_s ref25_Has_p1
  refine (any_loop (fun f j => ref25_Has_p1_n f (fun t => k t) (fun _ => k false) l x j) (fun y => decide (y = x)) (k true) (k false) (0 : Int) l fuel (lt_fuel (by omega)) (fun f j hj => ?_) (fun f => ?_)).trans ?_
  · have e1 : IntKind.i64.wrap ((j : Int) + 1) = j + 1 := i64_in _ (by omega)
    rw [ref25_Has_p1_step]
    unfold ref25_Has_p1_s
    simp only [Int.toNat_natCast, e1]
    refine (c_pos (by omega)).trans ?_
    exact c_inb (by omega)
  · rw [ref25_Has_p1_step]
    unfold ref25_Has_p1_s
    exact c_neg (by omega)
  · have : l.any (fun y => decide (y = x)) = decide (x ∈ l) := by
      rw [Bool.eq_iff_iff, List.any_eq_true]
      simp only [decide_eq_true_eq, exists_eq_right]
    rw [this]
    cases decide (x ∈ l) <;> rfl

/-- The best so far. -/
def BestOk (times out : List Int) (i : Nat) (best : Int) : Prop :=
  (best = -1 ∧ ∀ j : Nat, j < i → (j : Int) ∈ out) ∨ (0 ≤ best ∧ best < i ∧ best ∉ out ∧ ∀ j : Nat, j < i → (j : Int) ∉ out → times.getD best.toNat 0 ≤ times.getD j 0)

theorem sorts_p4 {n : Nat} (hn : n ≤ 100) (ht : times.length = n) {out : List Int} (ho : out.length ≤ 1000) (k1 : law40_OrderSorts_p4_K1 β) (t122 t123 : Int) (r : List Host) (r2 : List Sync) (r3 : List Event) (r4 : List Link) :
    ∃ best, BestOk times out n best ∧ law40_OrderSorts_p4 k1 (-1) t122 t123 (times.length : Int) 0 r r2 r3 r4 times out = k1 best t122 t123 r r2 r3 r4 times out := by
  refine range_ex (σ := Int) n (fun i s => BestOk times out i s) (fun f j s => law40_OrderSorts_p4_n f k1 s t122 t123 (times.length : Int) j r r2 r3 r4 times out) (fun s => k1 s t122 t123 r r2 r3 r4 times out)
    (-1) fuel (lt_fuel (by omega)) (.inl ⟨rfl, fun j hj => by omega⟩) (fun i s hi hs => ?_) (fun f s hs => ?_)
  · have e1 : IntKind.i64.wrap ((i : Int) + 1) = i + 1 := i64_in _ (by omega)
    by_cases hm : (i : Int) ∈ out
    · refine ⟨s, ?_, fun f => ?_⟩
      · rcases hs with ⟨h1, h2⟩ | ⟨h1, h2, h3, h4⟩
        · exact .inl ⟨h1, fun j hj => by
            by_cases e : j = i
            · subst e; exact hm
            · exact h2 j (by omega)⟩
        · exact .inr ⟨h1, by omega, h3, fun j hj hjo => by
            by_cases e : j = i
            · subst e; exact absurd hm hjo
            · exact h4 j (by omega) hjo⟩
      · rw [law40_OrderSorts_p4_step]
        unfold law40_OrderSorts_p4_s
        simp only [e1]
        refine (c_pos (by omega)).trans ?_
        refine (has_eq _ (by omega) _ _).trans ?_
        exact c_npos hm
    · by_cases hneg : s < 0
      · refine ⟨(i : Int), .inr ⟨by omega, by omega, hm, fun j hj hjo => ?_⟩, fun f => ?_⟩
        · rw [Int.toNat_natCast]
          rcases hs with ⟨h1, h2⟩ | ⟨h1, _⟩
          · by_cases e : j = i
            · subst e; omega
            · exact absurd (h2 j (by omega)) hjo
          · omega
        · rw [law40_OrderSorts_p4_step]
          unfold law40_OrderSorts_p4_s
          simp only [e1]
          refine (c_pos (by omega)).trans ?_
          refine (has_eq _ (by omega) _ _).trans ?_
          refine (c_nneg hm).trans ?_
          exact c_pos hneg
      · obtain ⟨h1, h2, h3, h4⟩ : 0 ≤ s ∧ s < i ∧ s ∉ out ∧ ∀ j : Nat, j < i → (j : Int) ∉ out → times.getD s.toNat 0 ≤ times.getD j 0 := by
          rcases hs with ⟨h1, h2⟩ | h
          · omega
          · exact h
        by_cases hlt : times.getD i 0 < times.getD s.toNat 0
        · refine ⟨(i : Int), .inr ⟨by omega, by omega, hm, fun j hj hjo => ?_⟩, fun f => ?_⟩
          · rw [Int.toNat_natCast]
            by_cases e : j = i
            · subst e; omega
            · have := h4 j (by omega) hjo
              omega
          · rw [law40_OrderSorts_p4_step]
            unfold law40_OrderSorts_p4_s
            simp only [e1, Int.toNat_natCast]
            refine (c_pos (by omega)).trans ?_
            refine (has_eq _ (by omega) _ _).trans ?_
            refine (c_nneg hm).trans ?_
            refine (c_neg hneg).trans ?_
            refine (c_inb (by omega)).trans ?_
            refine (c_inb (by omega)).trans ?_
            exact c_pos hlt
        · refine ⟨s, .inr ⟨h1, by omega, h3, fun j hj hjo => ?_⟩, fun f => ?_⟩
          · by_cases e : j = i
            · subst e; omega
            · exact h4 j (by omega) hjo
          · rw [law40_OrderSorts_p4_step]
            unfold law40_OrderSorts_p4_s
            simp only [e1, Int.toNat_natCast]
            refine (c_pos (by omega)).trans ?_
            refine (has_eq _ (by omega) _ _).trans ?_
            refine (c_nneg hm).trans ?_
            refine (c_neg hneg).trans ?_
            refine (c_inb (by omega)).trans ?_
            refine (c_inb (by omega)).trans ?_
            exact c_neg hlt
  · rw [law40_OrderSorts_p4_step]
    unfold law40_OrderSorts_p4_s
    exact c_neg (by omega)

/-- What is in the order of the times. -/
structure Timed (n : Nat) (times out : List Int) : Prop where
  range : ∀ i, i < out.length → 0 ≤ out.getD i 0 ∧ out.getD i 0 < n
  pairs : ∀ k i, k < i → i < out.length → out.getD i 0 ≠ out.getD k 0 ∧ times.getD (out.getD k 0).toNat 0 ≤ times.getD (out.getD i 0).toNat 0
  rest : ∀ y ∈ out, ∀ k : Nat, k < n → (k : Int) ∉ out → times.getD y.toNat 0 ≤ times.getD k 0

theorem Timed.snoc {n : Nat} {out : List Int} (h : Timed n times out) {x : Int} (hb : BestOk times out n x) (hl : out.length < n) : Timed n times (out ++ [x]) := by
  obtain ⟨h1, h2, h3, h4⟩ : 0 ≤ x ∧ x < n ∧ x ∉ out ∧ ∀ j : Nat, j < n → (j : Int) ∉ out → times.getD x.toNat 0 ≤ times.getD j 0 := by
    rcases hb with ⟨_, h2⟩ | h
    · obtain ⟨i, hi, ho⟩ := exists_out hl
      exact absurd (h2 i hi) ho
    · exact h
  have ex : ((x.toNat : Nat) : Int) = x := by omega
  have hlen : (out ++ [x]).length = out.length + 1 := by simp
  refine ⟨fun i hi => ?_, fun k i hk hi => ?_, fun y hy k hk hko => ?_⟩
  · rw [getD_snoc]
    split
    · exact h.range i (by assumption)
    · rw [if_pos (by omega)]
      exact ⟨h1, h2⟩
  · rw [getD_snoc, getD_snoc, if_pos (show k < out.length by omega)]
    by_cases hi' : i < out.length
    · rw [if_pos hi']
      exact h.pairs k i hk hi'
    · rw [if_neg hi', if_pos (show i = out.length by omega)]
      have hm : out.getD k 0 ∈ out := getD_mem (by omega)
      refine ⟨fun e => h3 (e ▸ hm), ?_⟩
      exact h.rest _ hm x.toNat (by omega) (by rw [ex]; exact h3)
  · rw [List.mem_append, not_or] at hko
    rcases List.mem_append.1 hy with hy | hy
    · exact h.rest y hy k hk hko.1
    · simp only [List.mem_cons, List.not_mem_nil, or_false] at hy
      subst hy
      exact h4 k hk hko.1

theorem sorts_p5 {n : Nat} (hn : n ≤ 100) (ht : times.length = n) (k1 : law40_OrderSorts_p5_K1 β) (r : List Host) (r2 : List Sync) (r3 : List Event) (r4 : List Link) :
    ∃ out, (out.length = n ∧ Timed n times out) ∧ law40_OrderSorts_p5 k1 (times.length : Int) 0 r r2 r3 r4 times [] = k1 r r2 r3 r4 out := by
  refine range_exm (σ := List Int) n (fun i s => s.length = i ∧ Timed n times s) (fun f j s => law40_OrderSorts_p5_n f k1 (times.length : Int) j r r2 r3 r4 times s) (fun s => k1 r r2 r3 r4 s)
    [] fuel (lt_fuel (by omega)) ⟨rfl, by simp, by simp, by simp⟩ (fun f i s hi hs => ?_) (fun f s hs => ?_)
  · have e1 : IntKind.i64.wrap ((i : Int) + 1) = i + 1 := i64_in _ (by omega)
    obtain ⟨hl, hT⟩ := hs
    rw [law40_OrderSorts_p5_step]
    unfold law40_OrderSorts_p5_s
    obtain ⟨best, hb, e⟩ := sorts_p4 (β := β) hn ht (out := s) (by omega) (fun (best : Int) (t1222 : Int) (t1232 : Int) (r_5 : List Host) (r_6 : List Sync) (r_7 : List Event) (r_8 : List Link) (times2 : List Int) (byTime2 : List Int) =>
      let l : List Int := ([best] : List Int);
      cond (decide ((List.length byTime2 + List.length l) * 8 ≤ roomMax))
      (let l2 : List Int := (byTime2 ++ l);
      law40_OrderSorts_p5_n f k1 t1222 (IntKind.i64.wrap (t1232 + (1 : Int))) r_5 r_6 r_7 r_8 times2 l2)
      none) (times.length : Int) (i : Int) r r2 r3 r4
    refine ⟨s ++ [best], ⟨by simp [hl], hT.snoc hb (by omega)⟩, ?_⟩
    refine (c_pos (by omega)).trans ?_
    refine e.trans ?_
    refine (c_room (by simp only [List.length_cons, List.length_nil]; omega)).trans ?_
    simp only [e1]
  · rw [law40_OrderSorts_p5_step]
    unfold law40_OrderSorts_p5_s
    exact c_neg (by omega)

theorem ClosedR.timed (hm : ClosedR r m) (hs : SolR r (xOf times)) {out : List Int} (hl : out.length = nE r) (h : Timed (nE r) times out) : allowsW (nE r) m out = true := by
  rw [allows_iff]
  refine ⟨hl, fun i hi => h.range i (by omega), fun k i hk hi => ?_⟩
  have a1 := h.range i (by omega)
  have a2 := h.range k (by omega)
  obtain ⟨a3, a4⟩ := h.pairs k i hk (by omega)
  refine ⟨a3, ?_⟩
  cases hb : Go.Lift.bef m (out.getD i 0).toNat (out.getD k 0).toNat with
  | false => rfl
  | true =>
    have := (hm.bef (by omega) (by omega)).1 hb _ hs
    rw [xOf_succ, xOf_succ] at this
    omega

theorem orderSorts {t : List Int} (k : Bool → Option β) : law40_OrderSorts t k = k true := by
  unfold law40_OrderSorts law40_OrderSorts_s
  refine (light_eq _ _).trans ?_
  by_cases hl : (t.length : Int) ≤ 500
  · refine (c_npos hl).trans ?_
    refine (roll_eq _ _).trans ?_
    obtain ⟨r, d, times, ahead, hr, hd, f1⟩ := record_ok 7 (by omega) (roll_ok hl)
    refine (f1 _).trans ?_
    obtain ⟨m, hm⟩ := hr.closed (by omega)
    have hn : nE r ≤ 7 := by have := hr.nE_le; omega
    have hlen : times.length = nE r := hr.lenE
    have ha := hm.sort_allowed
    have hsl := (allows_iff.1 ha).1
    refine (Sort_eq hm.eq (hm.matB hn) _).trans ?_
    refine c_nt.trans ?_
    refine (c_npos (by omega)).trans ?_
    refine (Allows_eq hm.eq (hm.matB hn) _ _).trans ?_
    rw [ha]
    refine c_nt.trans ?_
    refine (sorts_p2 hm hn ha _ _).trans ?_
    refine (sorts_p3 hm hn ha _ _).trans ?_
    obtain ⟨out, ⟨o1, o2⟩, e⟩ := sorts_p5 (n := nE r) (by omega) hlen (fun (r_9 : List Host) (r_10 : List Sync) (r_11 : List Event) (r_12 : List Link) (byTime : List Int) =>
      order_Allows (r_9, (r_10, (r_11, r_12))) byTime (fun (rAllows2 : Bool) =>
      cond rAllows2
      (law40_sane  (fun (rsane : Bool) =>
      k rsane))
      (k false))) r.1 r.2.1 r.2.2.1 r.2.2.2
    refine e.trans ?_
    refine (Allows_eq hm.eq (hm.matB hn) _ _).trans ?_
    rw [hm.timed (hr.solR (by omega)) o1 o2]
    refine c_t.trans ?_
    exact sane40_eq _
  · refine (c_nneg hl).trans ?_
    exact sane40_eq _
end
end
end Go.Lift
