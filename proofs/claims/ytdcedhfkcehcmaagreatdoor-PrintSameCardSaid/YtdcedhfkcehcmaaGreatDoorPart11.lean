/- Part11: LNames1, LNames2, LNames3, LLim, LNames4, LNames5, LSame1, LSame2, LSame3, LSame4, LSame5. -/
import Derived.KernelRfl
import Derived.Test.YtdcedhfkcehcmaaGreatDoorPart10
set_option linter.unusedVariables false
set_option linter.unusedSectionVars false
set_option linter.unusedSimpArgs false
namespace Go.Lift
open Go.RowKit Go.IntWalk
noncomputable section
variable [Sl]
set_option linter.unusedSectionVars false
set_option linter.unusedVariables false
set_option linter.unusedSimpArgs false
set_option maxRecDepth 10000
theorem Qlq {s : List (Int × Int)} (hs : s.Pairwise fun x y => x.1 < y.1) {a b : Int × Int} (ha : a ∈ s) (hb : b ∈ s) (e : a.1 = b.1) : a = b := by
 induction hs with
 | nil => exact absurd ha List.not_mem_nil
 | cons h _ ih =>
  rcases List.mem_cons.1 ha with ga | ga
  ·rcases List.mem_cons.1 hb with gb | gb
   ·exact ga.trans gb.symm
   ·have := h b gb; rw [← ga] at this; omega
  ·rcases List.mem_cons.1 hb with gb | gb
   ·have := h a ga; rw [← gb] at this; omega
   ·exact ih ga gb
theorem Qlr {l : List (Int × Int)} (h : ∀ i j, i < j → j < l.length → ¬ (l.getD j (0, 0)).1 - (l.getD i (0, 0)).1 < 0) : l.Pairwise fun x y => x.1 ≤ y.1 := by
 rw [List.pairwise_iff_getElem]
 intro i j hi hj hij
 have := h i j hij hj
 simp only [List.getD, hi, hj, List.getElem?_eq_getElem, Option.getD_some] at this
 omega
theorem Qa7 {z : zqa} (h : ZoneOk z) {s : List (Int × Int)} (hp : (Q1p z.2.2).Perm s) (hs : s.Pairwise fun x y => x.1 < y.1) : occS z = s := by
 obtain ⟨h1, h2⟩ := Qjw h
 have hp' : (occS z).Perm s := h1.trans hp
 refine List.Perm.eq_of_pairwise (le := fun x y => x.1 ≤ y.1) (fun a b ha hb g1 g2 => ?_) (Qlr fun i j hij hj => h2 i j hij (h1.length_eq ▸ hj)) (hs.imp fun g => Int.le_of_lt g) hp'
 exact Qlq hs (hp'.mem_iff.1 ha) hb (Int.le_antisymm g1 g2)
theorem Qls (i : Nat) {o : Int × Int} {s : TrS} (h : o.2 = s.1) : Q3d i o s = .inr s := by
 unfold Q3d
 rw [decide_eq_true h]; rfl
theorem Qb5 (i : Nat) {o : Int × Int} {now : Int} (h : o.2 ≠ now) (hd : -86400 < o.2 - now ∧ o.2 - now < 86400) (ha : 0 ≤ o.1 - now ∧ o.1 - now ≤ 8589934592) : Q3d i o (now, []) = .inr (o.2, [(o.1 - now, o.2)]) := by
 unfold Q3d
 simp only
 rw [decide_eq_false h, decide_eq_false (by omega), decide_eq_false (by omega), Qa6 ha]
 rfl
theorem Qa8 (i : Nat) {o x : Int × Int} {now : Int} {p : List (Int × Int)} (h : o.2 ≠ now) (hd : -86400 < o.2 - now ∧ o.2 - now < 86400) (ha : 0 ≤ o.1 - now ∧ o.1 - now ≤ 8589934592) (hx : x.1 + 604800 ≤ o.1 - now) :
  Q3d i o (now, p ++ [x]) = .inr (o.2, (p ++ [x]) ++ [(o.1 - now, o.2)]) := by
 unfold Q3d
 simp only
 have e : (p ++ [x]).getD ((p ++ [x]).length - 1) (0, 0) = x := by simp [List.getD]
 rw [decide_eq_false h, decide_eq_false (by omega), decide_eq_false (by omega), Qa6 ha, e, decide_eq_false (show ¬ o.1 - now < x.1 + 604800 by omega), Bool.and_false]
 rfl
theorem Q7i {z : zqa} {s : TrS} (h : Q68 z = .inr s) (ho : Int.tmod z.2.1 60 = 0) (hr : ∀ r ∈ z.2.2, Int.tmod r.2.2.2.2.2.2 60 = 0) : Q87 z = 0 := by
 unfold Q87
 rw [h, decide_eq_true (show errV (Sum.inr s : Int ⊕ TrS) = 0 from rfl), decide_eq_true ho, List.all_eq_true.2 fun r hr' => decide_eq_true (hr r hr')]
 rfl
theorem Qmh {n : List UInt8} {off : Int} (ho : -64800 ≤ off ∧ off ≤ 64800) (h6 : Int.tmod off 60 = 0) : ZoneOk (n, off, []) ∧ Q87 (n, off, []) = 0 := by
 have hz : ZoneOk (n, off, []) := ⟨ho, fun r hr => absurd hr List.not_mem_nil, by simp [Q1p], by simp⟩
 refine ⟨hz, Q7i (s := (off, [])) ?_ h6 fun r hr => absurd hr List.not_mem_nil⟩
 unfold Q68
 rw [Qa7 hz (s := []) (List.Perm.refl _) List.Pairwise.nil]
 rfl
theorem Qdg (r : zq8) (h : r.2.1 = r.1) : occL r = [occY r r.1] := by
 unfold occL
 rw [show (r.2.1 - r.1 + 1).toNat = 1 by omega]
 simp [List.range_succ]
theorem Qhs (r : zq8) (h : r.2.1 = r.1 + 1) : occL r = [occY r r.1, occY r (r.1 + 1)] := by
 unfold occL
 rw [show (r.2.1 - r.1 + 1).toNat = 2 by omega]
 simp [List.range_succ]
theorem Qmi {n : List UInt8} {off : Int} {r : zq8} (ho : -64800 ≤ off ∧ off ≤ 64800) (h6 : Int.tmod off 60 = 0) (hr : RuleOk r) (hy : r.2.1 = r.1) (hr6 : Int.tmod r.2.2.2.2.2.2 60 = 0)
  (hd : -86400 < r.2.2.2.2.2.2 - off ∧ r.2.2.2.2.2.2 - off < 86400) (ht : 100000 ≤ (occY r r.1).1 ∧ (occY r r.1).1 ≤ 8000000000) : ZoneOk (n, off, [r]) ∧ Q87 (n, off, [r]) = 0 := by
 have e : Q1p [r] = [occY r r.1] := by
  unfold Q1p
  rw [List.flatMap_singleton, Qdg r hy]
 have hz : ZoneOk (n, off, [r]) := ⟨ho, fun x hx => by rw [List.mem_singleton.1 hx]; exact hr, by show (Q1p [r]).length ≤ 12; rw [e]; simp, by simp⟩
 have hs : occS (n, off, [r]) = [occY r r.1] := Qa7 hz (by show (Q1p [r]).Perm _; rw [e]) (List.pairwise_singleton _ _)
 have h6' : ∀ x ∈ (n, off, [r]).2.2, Int.tmod x.2.2.2.2.2.2 60 = 0 := fun x hx => by rw [List.mem_singleton.1 hx]; exact hr6
 by_cases g : (occY r r.1).2 = off
 ·refine ⟨hz, Q7i (s := (off, [])) ?_ h6 h6'⟩
  unfold Q68
  rw [hs]
  unfold walk
  rw [Qls 0 (s := ((n, off, [r]).2.1, [])) g]
  rfl
 ·refine ⟨hz, Q7i (s := ((occY r r.1).2, [((occY r r.1).1 - off, (occY r r.1).2)])) ?_ h6 h6'⟩
  unfold Q68
  rw [hs]
  unfold walk
  rw [Qb5 0 (now := (n, off, [r]).2.1) g hd (by show 0 ≤ _ - off ∧ _ - off ≤ _; omega)]
  rfl
theorem Q46 {α σ ε : Type} {g : Nat → α → σ → ε ⊕ σ} {x : α} {r : List α} {j : Nat} {s s' : σ} (h : g j x s = .inr s') : walk g (x :: r) j s = walk g r (j + 1) s' := by
 rw [walk, h]
theorem alt2 {off dl ta tb : Int} (ho : -43200 ≤ off ∧ off ≤ 45000) (hd : 0 < dl ∧ dl ≤ 14400) (h0 : 100000 ≤ ta) (h1 : ta + 619200 ≤ tb) (h2 : tb ≤ 8000000000) :
  walk Q3d [(ta, off + dl), (tb, off)] 0 (off, []) = .inr (off, [(ta - off, off + dl)] ++ [(tb - (off + dl), off)]) := by
 refine (Q46 (Qb5 0 (o := (ta, off + dl)) (now := off) (by show off + dl ≠ off; omega) (by show -86400 < off + dl - off ∧ off + dl - off < 86400; omega) (by show 0 ≤ ta - off ∧ ta - off ≤ _; omega))).trans ?_
 refine (Q46 (Qa8 (0 + 1) (o := (tb, off)) (now := off + dl) (p := []) (x := (ta - off, off + dl)) (by show off ≠ off + dl; omega) (by show -86400 < off - (off + dl) ∧ off - (off + dl) < 86400; omega) (by show 0 ≤ tb - (off + dl) ∧ tb - (off + dl) ≤ _; omega) (by show ta - off + 604800 ≤ tb - (off + dl); omega))).trans ?_
 rfl
theorem alt4 {off dl ta tb tc td : Int} (ho : -43200 ≤ off ∧ off ≤ 45000) (hd : 0 < dl ∧ dl ≤ 14400) (h0 : 100000 ≤ ta) (h1 : ta + 619200 ≤ tb) (h2 : tb + 619200 ≤ tc) (h3 : tc + 619200 ≤ td) (h4 : td ≤ 8000000000) :
  ∃ l, walk Q3d [(ta, off + dl), (tb, off), (tc, off + dl), (td, off)] 0 (off, []) = .inr (off, l) := by
 refine ⟨([(ta - off, off + dl), (tb - (off + dl), off)] ++ [(tc - off, off + dl)]) ++ [(td - (off + dl), off)], ?_⟩
 refine (Q46 (Qb5 0 (o := (ta, off + dl)) (now := off) (by show off + dl ≠ off; omega) (by show -86400 < off + dl - off ∧ off + dl - off < 86400; omega) (by show 0 ≤ ta - off ∧ ta - off ≤ _; omega))).trans ?_
 refine (Q46 (Qa8 (0 + 1) (o := (tb, off)) (now := off + dl) (p := []) (x := (ta - off, off + dl)) (by show off ≠ off + dl; omega) (by show -86400 < off - (off + dl) ∧ off - (off + dl) < 86400; omega) (by show 0 ≤ tb - (off + dl) ∧ tb - (off + dl) ≤ _; omega) (by show ta - off + 604800 ≤ tb - (off + dl); omega))).trans ?_
 refine (Q46 (Qa8 (0 + 1 + 1) (o := (tc, off + dl)) (now := off) (p := [(ta - off, off + dl)]) (x := (tb - (off + dl), off)) (by show off + dl ≠ off; omega) (by show -86400 < off + dl - off ∧ off + dl - off < 86400; omega) (by show 0 ≤ tc - off ∧ tc - off ≤ _; omega) (by show tb - (off + dl) + 604800 ≤ tc - off; omega))).trans ?_
 refine (Q46 (Qa8 (0 + 1 + 1 + 1) (o := (td, off)) (now := off + dl) (p := [(ta - off, off + dl), (tb - (off + dl), off)]) (x := (tc - off, off + dl)) (by show off ≠ off + dl; omega) (by show -86400 < off - (off + dl) ∧ off - (off + dl) < 86400; omega) (by show 0 ≤ td - (off + dl) ∧ td - (off + dl) ≤ _; omega) (by show tc - off + 604800 ≤ td - (off + dl); omega))).trans ?_
 rfl
theorem Qjx {n : List UInt8} {off dl last : Int} {A B : zq8} (ho : -43200 ≤ off ∧ off ≤ 45000) (h6 : Int.tmod off 60 = 0) (hA : RuleOk A) (hB : RuleOk B) (hA6 : Int.tmod A.2.2.2.2.2.2 60 = 0)
  (a1 : A.1 = 2025) (b1 : B.1 = 2025) (a2 : A.2.1 = last) (b2 : B.2.1 = last) (hl : last = 2025 ∨ last = 2026) (ao : A.2.2.2.2.2.2 = off + dl) (bo : B.2.2.2.2.2.2 = off) (hd : 0 < dl ∧ dl ≤ 14400)
  (t0 : ∀ y, y = 2025 ∨ y = 2026 → 100000 ≤ (occY A y).1) (t1 : ∀ y, y = 2025 ∨ y = 2026 → (occY A y).1 + 619200 ≤ (occY B y).1) (t2 : (occY B 2025).1 + 619200 ≤ (occY A 2026).1) (t3 : ∀ y, y = 2025 ∨ y = 2026 → (occY B y).1 ≤ 8000000000) :
  ZoneOk (n, off, [A, B]) ∧ Q87 (n, off, [A, B]) = 0 := by
 have h6' : ∀ x ∈ (n, off, [A, B]).2.2, Int.tmod x.2.2.2.2.2.2 60 = 0 := by
  intro x hx
  rcases List.mem_cons.1 hx with rfl | hx
  ·exact hA6
  ·rw [List.mem_singleton.1 hx, bo]; exact h6
 have hrs : ∀ x ∈ (n, off, [A, B]).2.2, RuleOk x := by
  intro x hx
  rcases List.mem_cons.1 hx with rfl | hx
  ·exact hA
  ·rw [List.mem_singleton.1 hx]; exact hB
 have s25 := t0 2025 (.inl rfl)
 have s26 := t0 2026 (.inr rfl)
 have u25 := t1 2025 (.inl rfl)
 have u26 := t1 2026 (.inr rfl)
 have v25 := t3 2025 (.inl rfl)
 have v26 := t3 2026 (.inr rfl)
 have eA : ∀ y, (occY A y).2 = off + dl := fun _ => ao
 have eB : ∀ y, (occY B y).2 = off := fun _ => bo
 have qA : ∀ y, occY A y = ((occY A y).1, off + dl) := fun y => Prod.ext rfl (eA y)
 have qB : ∀ y, occY B y = ((occY B y).1, off) := fun y => Prod.ext rfl (eB y)
 rcases hl with rfl | rfl
 ·have e : Q1p [A, B] = [occY A 2025, occY B 2025] := by
   unfold Q1p
   simp only [List.flatMap_cons, List.flatMap_nil]
   rw [Qdg A (by omega), Qdg B (by omega), a1, b1]
   rfl
  have hz : ZoneOk (n, off, [A, B]) := ⟨by show -64800 ≤ off ∧ off ≤ 64800; omega, hrs, by show (Q1p [A, B]).length ≤ 12; rw [e]; simp, by simp⟩
  have hs : occS (n, off, [A, B]) = [occY A 2025, occY B 2025] := Qa7 hz (by show (Q1p [A, B]).Perm _; rw [e]) (by
   refine List.Pairwise.cons (fun x hx => ?_) (List.pairwise_singleton _ _)
   rw [List.mem_singleton.1 hx]; omega)
  refine ⟨hz, Q7i (s := (off, [((occY A 2025).1 - off, off + dl)] ++ [((occY B 2025).1 - (off + dl), off)])) ?_ h6 h6'⟩
  unfold Q68
  rw [hs]
  refine Eq.trans (congrArg (fun l => walk Q3d l 0 (off, [])) ?_) (alt2 ho hd s25 u25 v25)
  rw [qA 2025, qB 2025]
 ·have e : Q1p [A, B] = [occY A 2025, occY A 2026, occY B 2025, occY B 2026] := by
   unfold Q1p
   simp only [List.flatMap_cons, List.flatMap_nil]
   rw [Qhs A (by omega), Qhs B (by omega), a1, b1]
   rfl
  have hz : ZoneOk (n, off, [A, B]) := ⟨by show -64800 ≤ off ∧ off ≤ 64800; omega, hrs, by show (Q1p [A, B]).length ≤ 12; rw [e]; simp, by simp⟩
  have hs : occS (n, off, [A, B]) = [occY A 2025, occY B 2025, occY A 2026, occY B 2026] := Qa7 hz (by show (Q1p [A, B]).Perm _; rw [e]; exact .cons _ (.swap _ _ _)) (by
   simp only [List.pairwise_cons, List.mem_cons, List.not_mem_nil, or_false, forall_eq_or_imp, forall_eq, false_implies, implies_true, List.Pairwise.nil, and_true]
   omega)
  obtain ⟨l, hl⟩ := alt4 ho hd s25 u25 t2 u26 v26
  refine ⟨hz, Q7i (s := (off, l)) ?_ h6 h6'⟩
  unfold Q68
  rw [hs]
  refine Eq.trans (congrArg (fun l => walk Q3d l 0 (off, [])) ?_) hl
  rw [qA 2025, qB 2025, qA 2026, qB 2026]
end
end Go.Lift
namespace Go.Lift
open Go.RowKit Go.IntWalk
noncomputable section
variable [Sl]
set_option linter.unusedSectionVars false
set_option linter.unusedVariables false
set_option linter.unusedSimpArgs false
set_option maxRecDepth 10000
section
variable {β : Type} {G : Option β → Prop}
theorem w_e {A B : Option β} (e : A = B) (h : G B) : G A := e ▸ h
theorem w_c {b : Bool} {A B : Option β} (h1 : b = true → G A) (h2 : b = false → G B) : G (cond b A B) := match b, h1, h2 with | true, h, _ => h rfl | false, _, h => h rfl
theorem w_d {p : Prop} [Decidable p] {A B : Option β} (h1 : p → G A) (h2 : ¬ p → G B) : G (cond (decide p) A B) := w_c (fun h => h1 (of_decide_eq_true h)) (fun h => h2 (of_decide_eq_false h))
theorem w_i {i n : Int} {A B : Option β} (h : 0 ≤ i ∧ i < n) (h1 : G A) : G (cond (decide (0 ≤ i) && decide (i < n)) A B) := w_e (Qo h) h1
theorem w_r {n : Nat} {A B : Option β} (h : n ≤ 140737488355328) (h1 : G A) : G (cond (decide (n ≤ Qa)) A B) := w_e (Q4g h) h1
theorem w_p {p : Prop} [Decidable p] {A B : Option β} (h : p) (h1 : G A) : G (cond (decide p) A B) := w_e (Q1k h) h1
theorem w_n {p : Prop} [Decidable p] {A B : Option β} (h : ¬ p) (h1 : G B) : G (cond (decide p) A B) := w_e (Q1o h) h1
theorem Qd {n : Int} {d : Dice} {k : Int → Dice → Option β} (hd : Qc d) (hn : 1 ≤ n ∧ n ≤ 4611686018427387904) (hk : ∀ x d', 0 ≤ x → x < n → Qc d' → G (k x d')) : G (zq1g n d k) := by
 obtain ⟨x, d', h1, h2, h3, h4⟩ := Qlp hd hn
 exact w_e (h4 k) (hk x d' h1 h2 h3)
theorem Q10 {l : List Int} {d : Dice} {k : Int → Dice → Option β} (hd : Qc d) (hl : 0 < l.length ∧ l.length ≤ 1000000) (hk : ∀ x d', x ∈ l → Qc d' → G (k x d')) : G (zq1o l d k) := by
 unfold zq1o
 rw [Q2]
 unfold zq1n
 refine Qd hd ⟨by omega, by omega⟩ fun x d' h1 h2 h3 => ?_
 refine w_i ⟨h1, h2⟩ ?_
 exact hk _ _ (Q1z (by omega)) h3
theorem Q7j {n : Int} {d : Dice} {k : Bool → Dice → Option β} (hd : Qc d) (hn : 1 ≤ n ∧ n ≤ 1000) (hk : ∀ b d', Qc d' → G (k b d')) : G (zq38 n d k) := by
 unfold zq38
 rw [Q2]
 unfold zq37
 exact Qd hd ⟨by omega, by omega⟩ fun x d' h1 h2 h3 => hk _ _ h3
theorem Q7k {f t m w d s o : Int} (hf : 1970 ≤ f ∧ f ≤ 2240) (ht : f ≤ t ∧ t ≤ 2240) (hm : 1 ≤ m ∧ m ≤ 12) (hw : 1 ≤ w ∧ w ≤ 5) (hd : 0 ≤ d ∧ d ≤ 6) (hs : 0 ≤ s ∧ s ≤ 86399) (ho : -64800 ≤ o ∧ o ≤ 64800) :
  RuleOk (f, t, m, w, d, s, o) := ⟨hf, ht, hm, hw, hd, hs, ho⟩
theorem Qer (q : Int) : Int.tmod (900 * q) 60 = 0 := Int.tmod_eq_zero_of_dvd ⟨15 * q, by omega⟩
theorem Qg7 {o : Int} (h : ∃ q, o = 300 * q) : Int.tmod o 60 = 0 := by
 obtain ⟨q, rfl⟩ := h
 exact Int.tmod_eq_zero_of_dvd ⟨5 * q, by omega⟩
theorem Qmx : Q1d 2025 1 = 20089 := by decide
theorem Qla : Q1d 2026 1 = 20454 := by decide
theorem Qmy : Q1d 2025 2 = 20120 := by decide
theorem Qmz : Q1d 2026 2 = 20485 := by decide
theorem Qir : Q1d 2025 3 = 20148 := by decide
theorem Qes : Q1d 2026 3 = 20513 := by decide
theorem Qg8 : Q1d 2025 10 = 20362 := by decide
theorem Qjy : Q1d 2026 10 = 20727 := by decide
abbrev Qg9 (name : List UInt8) (z : zqa) : Prop := z.1 = name ∧ ZoneOk z ∧ Q87 z = 0
theorem Qlt {x : Int} {d : Dice} {t : zqa} {name : List UInt8} {q : Int} {k : zq2x β} (hd : Qc d) (hq : -47 ≤ q ∧ q ≤ 50) (hx : -64800 ≤ x ∧ x ≤ 64800) (h5 : ∃ p, x = 300 * p) (hc : -86400 < x - 900 * q ∧ x - 900 * q < 86400)
  (hk : ∀ d' l, Qc d' → Qg9 name (name, 900 * q, l) → G (k d' t name (900 * q) l)) : G (zq31 k x d t (name, 900 * q, [])) := by
 unfold zq31
 rw [Q2]
 unfold zq30
 refine Qd hd ⟨by omega, by omega⟩ fun w d1 h1 h2 hd1 => ?_
 refine Qd hd1 ⟨by omega, by omega⟩ fun s d2 h3 h4 hd2 => ?_
 simp (disch := omega) only [i64_in]
 refine hk _ _ hd2 ⟨rfl, Qmi (by omega) (Qer q) (Q7k (by omega) (by omega) (by omega) (by omega) (by omega) (by omega) hx) rfl (Qg7 h5) hc ?_⟩
 have hb := Q3r (y := 2026) (wd := w) (m := 1) (w := 2) (by omega) (by omega)
 rw [Qla] at hb
 show 100000 ≤ nthD 2026 1 2 w * 86400 + 1800 * s ∧ nthD 2026 1 2 w * 86400 + 1800 * s ≤ _
 omega
theorem Qmj {name : List UInt8} {d : Dice} {k : zqa → Dice → Option β} (hd : Qc d) (hk : ∀ z d', Qc d' → Qg9 name z → G (k z d')) : G (zq34 name d k) := by
 unfold zq34
 rw [Q2]
 unfold zq33
 refine Q10 hd (by decide) fun p d1 hp hd1 => ?_
 refine Qd hd1 ⟨by omega, by omega⟩ fun x d2 hx0 hx1 hd2 => ?_
 refine Qd hd2 ⟨by omega, by omega⟩ fun y d3 hy0 hy1 hd3 => ?_
 refine Qd hd3 ⟨by omega, by omega⟩ fun l d4 hl0 hl1 hd4 => ?_
 refine Qd hd4 ⟨by omega, by omega⟩ fun c d5 hc0 hc1 hd5 => ?_
 have hp' : -47 ≤ p ∧ p ≤ 48 := by simp at hp; omega
 have hxy : 0 ≤ x * y ∧ x * y ≤ 2 := by
  rcases (show x = 0 ∨ x = 1 by omega) with rfl | rfl
  ·simp
  ·simp; omega
 simp (disch := omega) only [i64_in]
 generalize hq' : p + x * y = q
 have hq : -47 ≤ q ∧ q ≤ 50 := by omega
 refine w_d (fun h => ?_) (fun _ => ?_)
 ·refine hk _ _ hd5 ⟨rfl, Qjx (dl := 3600) (last := 2025 + l) (by omega) (Qer q) (Q7k (by omega) (by omega) (by omega) (by omega) (by omega) (by omega) (by omega)) (Q7k (by omega) (by omega) (by omega) (by omega) (by omega) (by omega) (by omega))
   (Qg7 ⟨3 * q + 12, by show 900 * q + 3600 = _; omega⟩) rfl rfl rfl rfl (by omega) rfl rfl (by omega) ?_ ?_ ?_ ?_⟩
  ·intro y hy
   have hb := Q3r (y := y) (wd := 6) (m := 3) (w := 5) (by omega) (by omega)
   show 100000 ≤ nthD y 3 5 6 * 86400 + 7200
   rcases hy with rfl | rfl
   ·rw [Qir] at hb; omega
   ·rw [Qes] at hb; omega
  ·intro y hy
   have hb := Q3r (y := y) (wd := 6) (m := 3) (w := 5) (by omega) (by omega)
   have hb2 := Q3r (y := y) (wd := 6) (m := 10) (w := 5) (by omega) (by omega)
   show nthD y 3 5 6 * 86400 + 7200 + 619200 ≤ nthD y 10 5 6 * 86400 + 10800
   rcases hy with rfl | rfl
   ·rw [Qir] at hb; rw [Qg8] at hb2; omega
   ·rw [Qes] at hb; rw [Qjy] at hb2; omega
  ·have hb := Q3r (y := 2026) (wd := 6) (m := 3) (w := 5) (by omega) (by omega)
   have hb2 := Q3r (y := 2025) (wd := 6) (m := 10) (w := 5) (by omega) (by omega)
   show nthD 2025 10 5 6 * 86400 + 10800 + 619200 ≤ nthD 2026 3 5 6 * 86400 + 7200
   rw [Qes] at hb; rw [Qg8] at hb2; omega
  ·intro y hy
   have hb2 := Q3r (y := y) (wd := 6) (m := 10) (w := 5) (by omega) (by omega)
   show nthD y 10 5 6 * 86400 + 10800 ≤ 8000000000
   rcases hy with rfl | rfl
   ·rw [Qg8] at hb2; omega
   ·rw [Qjy] at hb2; omega
 refine w_d (fun h => ?_) (fun _ => ?_)
 ·refine Qd hd5 ⟨by omega, by omega⟩ fun w1 d6 g1 g2 hd6 => ?_
  refine Qd hd6 ⟨by omega, by omega⟩ fun wd1 d7 g3 g4 hd7 => ?_
  refine Qd hd7 ⟨by omega, by omega⟩ fun s1 d8 g5 g6 hd8 => ?_
  refine Qd hd8 ⟨by omega, by omega⟩ fun o1 d9 g7 g8 hd9 => ?_
  refine Qd hd9 ⟨by omega, by omega⟩ fun mm d10 g9 g10 hd10 => ?_
  refine Q10 hd10 (by decide) fun w2 d11 hw2 hd11 => ?_
  refine Qd hd11 ⟨by omega, by omega⟩ fun wd2 d12 g11 g12 hd12 => ?_
  refine Qd hd12 ⟨by omega, by omega⟩ fun s2 d13 g13 g14 hd13 => ?_
  have hw2' : w2 = 2 ∨ w2 = 3 ∨ w2 = 5 := by simpa using hw2
  simp (disch := omega) only [i64_in]
  have hA := fun y => Q3r (y := y) (wd := wd1) (m := 1) (w := 1 + w1) (by omega) (by omega)
  have hB := fun y => Q3r (y := y) (wd := wd2) (m := 2 + mm) (w := w2) (by omega) (by omega)
  have hmm : mm = 0 ∨ mm = 1 := by omega
  have e25 : 20120 ≤ Q1d 2025 (2 + mm) ∧ Q1d 2025 (2 + mm) ≤ 20148 := by
   rcases hmm with rfl | rfl
   ·rw [show (2 : Int) + 0 = 2 from rfl, Qmy]; omega
   ·rw [show (2 : Int) + 1 = 3 from rfl, Qir]; omega
  have e26 : 20485 ≤ Q1d 2026 (2 + mm) ∧ Q1d 2026 (2 + mm) ≤ 20513 := by
   rcases hmm with rfl | rfl
   ·rw [show (2 : Int) + 0 = 2 from rfl, Qmz]; omega
   ·rw [show (2 : Int) + 1 = 3 from rfl, Qes]; omega
  have A25 := hA 2025
  have A26 := hA 2026
  have B25 := hB 2025
  have B26 := hB 2026
  rw [Qmx] at A25
  rw [Qla] at A26
  have B25' : 20127 ≤ nthD 2025 (2 + mm) w2 wd2 := by rcases hw2' with h | h | h <;> omega
  have B26' : 20492 ≤ nthD 2026 (2 + mm) w2 wd2 := by rcases hw2' with h | h | h <;> omega
  refine hk _ _ hd13 ⟨rfl, Qjx (dl := 1800 * (1 + o1)) (last := 2025 + l) (by omega) (Qer q) (Q7k (by omega) (by omega) (by omega) (by omega) (by omega) (by omega) (by omega)) (Q7k (by omega) (by omega) (by omega) (by omega) (by omega) (by omega) (by omega))
   (Qg7 ⟨3 * q + 6 * (1 + o1), by show 900 * q + 1800 * (1 + o1) = _; omega⟩) rfl rfl rfl rfl (by omega) rfl rfl (by omega) ?_ ?_ ?_ ?_⟩
  ·intro y hy
   show 100000 ≤ nthD y 1 (1 + w1) wd1 * 86400 + 3600 * s1
   rcases hy with rfl | rfl <;> omega
  ·intro y hy
   show nthD y 1 (1 + w1) wd1 * 86400 + 3600 * s1 + 619200 ≤ nthD y (2 + mm) w2 wd2 * 86400 + 3600 * s2
   rcases hy with rfl | rfl <;> omega
  ·show nthD 2025 (2 + mm) w2 wd2 * 86400 + 3600 * s2 + 619200 ≤ nthD 2026 1 (1 + w1) wd1 * 86400 + 3600 * s1
   omega
  ·intro y hy
   show nthD y (2 + mm) w2 wd2 * 86400 + 3600 * s2 ≤ 8000000000
   rcases hy with rfl | rfl <;> omega
 refine w_d (fun h => ?_) (fun _ => ?_)
 ·refine Q10 hd5 (by decide) fun p2 d6 hp2 hd6 => ?_
  have hp2' : p2 = 3600 ∨ p2 = -3600 ∨ p2 = 82800 ∨ p2 = -82800 ∨ p2 = 43200 := by simpa using hp2
  simp (disch := omega) only [i64_in]
  have key : ∀ x, (-64800 ≤ x ∧ x ≤ 64800) → (∃ p, x = 300 * p) → (-86400 < x - 900 * q ∧ x - 900 * q < 86400) → G (zq31 (fun b0_ t4 z z2 b3_ => k (z, (z2, b3_)) b0_) x d6 zqn (name, 900 * q, [])) := fun x h1 h2 h3 =>
   Qlt hd6 hq h1 h2 h3 fun d' l hd' hz => hk _ _ hd' hz
  refine w_d (fun h => key 0 (by omega) ⟨0, rfl⟩ (by omega)) (fun h => ?_)
  refine w_d (fun h => key 0 (by omega) ⟨0, rfl⟩ (by omega)) (fun h => ?_)
  refine key _ (by omega) ?_ (by omega)
  rcases hp2' with rfl | rfl | rfl | rfl | rfl
  ·exact ⟨3 * q + 12, by omega⟩
  ·exact ⟨3 * q - 12, by omega⟩
  ·exact ⟨3 * q + 276, by omega⟩
  ·exact ⟨3 * q - 276, by omega⟩
  ·exact ⟨3 * q + 144, by omega⟩
 ·exact hk _ _ hd5 ⟨rfl, Qmh (by omega) (Qer q)⟩
end
end
end Go.Lift
namespace Go.Lift
open Go.RowKit Go.IntWalk
noncomputable section
variable [Sl]
set_option linter.unusedSectionVars false
set_option linter.unusedVariables false
set_option linter.unusedSimpArgs false
set_option maxRecDepth 10000
theorem Qga {α : Type} {g : Nat → α → Unit → Int ⊕ Unit} {xs : List α} (d : α) (h : ∀ i, i < xs.length → g i (xs.getD i d) () = .inr ()) : walk g xs 0 () = .inr () := by
 have key : ∀ (r : List α) (j : Nat), xs.drop j = r → walk g r j () = .inr () := by
  intro r
  induction r with
  | nil => intro j _; rfl
  | cons x r ih =>
   intro j hj
   have h3 : j < xs.length := by
    rcases Nat.lt_or_ge j xs.length with h3 | h3
    ·exact h3
    ·rw [List.drop_eq_nil_of_le h3] at hj; cases hj
   rw [List.drop_eq_getElem_cons h3] at hj
   injection hj with hd1 hd2
   have hx := h j h3
   rw [show xs.getD j d = x by simp [List.getD, h3, hd1]] at hx
   rw [walk, hx]
   exact ih (j + 1) hd2
 exact key xs 0 rfl
def Qlb (l : List (Int × Int)) (at_ : Int) : Prop := l.Pairwise (fun x y => x.2 ≤ y.1) ∧ ∀ x ∈ l, (0 ≤ x.1 ∧ x.1 < x.2) ∧ x.2 ≤ at_ ∧ x.2 ≤ 604800
theorem Qa9 {l : List (Int × Int)} {t : Int} (h : Qlb l t) (hl : l.length ≤ 14) : Q35 l = 0 := by
 unfold Q35
 rw [decide_eq_false (by omega), Qga (0, 0) fun i hi => ?_]
 ·rfl
 obtain ⟨h1, h2, h3⟩ := h.2 _ (Q1z (d := ((0, 0) : Int × Int)) hi)
 unfold Ql9
 rw [decide_eq_false (show ¬ (l.getD i (0, 0)).1 < 0 by omega), decide_eq_false (show ¬ (l.getD i (0, 0)).2 ≤ (l.getD i (0, 0)).1 by omega), decide_eq_false (show ¬ 604800 < (l.getD i (0, 0)).2 by omega)]
 by_cases h0 : (0 : Int) < i
 ·have := List.pairwise_iff_getElem.1 h.1 (i - 1) i (by omega) hi (by omega)
  have e1 : (l.getD i (0, 0)) = l[i] := by simp [List.getD, hi]
  have e2 : (l.getD (i - 1) (0, 0)) = l[i - 1] := by simp [List.getD, show i - 1 < l.length by omega]
  rw [decide_eq_true h0, e1, e2, decide_eq_false (show ¬ l[i].1 < l[i - 1].2 by omega)]
  rfl
 ·rw [decide_eq_false h0]; rfl
section
variable {β : Type} {G : Option β → Prop}
theorem Qjz {k : Dice → List (Int × Int) → Option β} (hk : ∀ d' l, Qc d' → Q35 l = 0 → G (k d' l)) : ∀ (j m : Nat) (t : Int) (d : Dice) (out : List (Int × Int)), j < m → Qc d → Qlb out t → (0 ≤ t ∧ t ≤ 604800) → out.length + j ≤ 14 →
  G (zq3g m (fun b o => k b o) t (j : Int) d out) := by
 intro j
 induction j with
 | zero =>
  intro m t d out hm hd hw ht hl
  obtain ⟨m, rfl⟩ : ∃ m', m = m' + 1 := ⟨m - 1, by omega⟩
  simp only [zq3h, zq3f]
  exact w_n (by simp) (hk _ _ hd (Qa9 hw (by omega)))
 | succ j ih =>
  intro m t d out hm hd hw ht hl
  obtain ⟨m, rfl⟩ : ∃ m', m = m' + 1 := ⟨m - 1, by omega⟩
  simp only [zq3h, zq3f]
  refine w_p (by omega) ?_
  refine Qd hd ⟨by omega, by omega⟩ fun x d1 h1 h2 hd1 => ?_
  refine Qd hd1 ⟨by omega, by omega⟩ fun y d2 h3 h4 hd2 => ?_
  refine Q10 hd2 (by decide) fun z d3 hz hd3 => ?_
  have hz' : 1 ≤ z ∧ z ≤ 86400 := by simp at hz; omega
  simp (disch := omega) only [i64_in]
  refine w_d (fun _ => hk _ _ hd3 (Qa9 hw (by omega))) (fun h => ?_)
  have hr : (out.length + 1) * 16 ≤ 140737488355328 := by omega
  refine w_r hr ?_
  rw [show ((j + 1 : Nat) : Int) - 1 = (j : Int) by omega]
  refine ih m _ d3 _ (by omega) hd3 ⟨?_, ?_⟩ (by omega) (by simp; omega)
  ·rw [List.pairwise_append]
   refine ⟨hw.1, List.pairwise_singleton _ _, fun a ha b hb => ?_⟩
   rw [List.mem_singleton.1 hb]
   have := (hw.2 a ha).2.1
   show a.2 ≤ t + 3600 * x + 60 * y
   omega
  ·intro a ha
   rcases List.mem_append.1 ha with ha | ha
   ·have := hw.2 a ha
    omega
   ·rw [List.mem_singleton.1 ha]
    simp only
    omega
theorem Qe4 {d : Dice} {k : Dice → List (Int × Int) → Option β} (hd : Qc d) (hk : ∀ d' l, Qc d' → Q35 l = 0 → G (k d' l)) : G (zq3l d k) := by
 unfold zq3l
 rw [Q2]
 unfold zq3k
 refine Qd hd ⟨by omega, by omega⟩ fun x d1 h1 h2 hd1 => ?_
 unfold zq3i
 rw [Q2]
 obtain ⟨j, rfl⟩ : ∃ j : Nat, x = j := ⟨x.toNat, by omega⟩
 exact Qjz hk j fuel 0 d1 [] (Qn (by omega)) hd1 ⟨List.Pairwise.nil, fun x hx => absurd hx List.not_mem_nil⟩ (by omega) (by simp; omega)
theorem Qk0 {d : Dice} {k : Int → Dice → Option β} (hd : Qc d) (hk : ∀ x d', 1767100000 ≤ x → x ≤ 1770000000 → Qc d' → G (k x d')) : G (zq3p d k) := by
 unfold zq3p
 rw [Q2]
 unfold zq3o
 refine Qd hd ⟨by omega, by omega⟩ fun x d1 h1 h2 hd1 => ?_
 refine Q7j hd1 ⟨by omega, by omega⟩ fun b d2 hd2 => ?_
 simp (disch := omega) only [i64_in]
 refine w_c (fun _ => ?_) (fun _ => hk _ _ (by omega) (by omega) hd2)
 refine Q10 hd2 (by decide) fun p d3 hp hd3 => ?_
 have hp' : -1 ≤ p ∧ p ≤ 3599 := by simp at hp; omega
 simp (disch := omega) only [i64_in]
 exact hk _ _ (by omega) (by omega) hd3
theorem Q6m {i n : Int} (h : 0 ≤ i ∧ i < n) : ixI i n = true := by
 unfold ixI
 rw [decide_eq_true h.1, decide_eq_true h.2]; rfl
theorem Qgb {n : Int} (h : 0 ≤ n ∧ n < 98981) : dayI n = true := by
 unfold dayI
 rw [decide_eq_true h.1, decide_eq_true h.2]; rfl
theorem Q88 {f t : Int} (hf : 1767100000 ≤ f ∧ f ≤ 1770000000) (ht : 1 ≤ t ∧ t ≤ 300000) (a b c : Int) : e1V (decide (f < 0) || (decide (f + t < 0) || !dayI (IntKind.i64.wrap (Int.tdiv (f + t) 86400)))) (a, b, c, f, f + t) = 0 := by
 have h1 : 0 ≤ Int.tdiv (f + t) 86400 ∧ Int.tdiv (f + t) 86400 < 98981 := by
  rw [Int.tdiv_eq_ediv_of_nonneg (by omega)]
  omega
 rw [i64_in _ (by omega), Qgb h1, decide_eq_false (by omega), decide_eq_false (by omega)]
 unfold e1V
 rw [decide_eq_false (show ¬ (f + t ≤ f) by omega)]
 rfl
theorem Qgc {np a f t : Int} (ha : 0 ≤ a ∧ a < np) (hf : 1767100000 ≤ f ∧ f ≤ 1770000000) (ht : 1 ≤ t ∧ t ≤ 300000) {K : Int} (hK : K = 0 ∨ K = 1) : Q36 np (K, a, 0, f, f + t) = 0 := by
 unfold Q36 e4V e3V e2V
 simp only
 rw [Q88 hf ht, Q6m ha]
 rcases hK with rfl | rfl <;> rfl
theorem Qmk {np f t : Int} (hf : 1767100000 ≤ f ∧ f ≤ 1770000000) (ht : 1 ≤ t ∧ t ≤ 300000) : Q36 np (1, -1, 0, f, f + t) = 0 := by
 unfold Q36 e4V e3V e2V
 simp only
 rw [Q88 hf ht]
 cases ixI (-1) np <;> rfl
theorem Qml {np a b f t : Int} (ha : 0 ≤ a ∧ a < np) (hb : 0 ≤ b ∧ b < np) (hab : a ≠ b) (hf : 1767100000 ≤ f ∧ f ≤ 1770000000) (ht : 1 ≤ t ∧ t ≤ 300000) : Q36 np (2, a, b, f, f + t) = 0 := by
 unfold Q36 e4V e3V e2V
 simp only
 rw [Q88 hf ht, Q6m ha, Q6m hb, decide_eq_false hab]
 rfl
theorem Qlu {np a f t : Int} {d : Dice} {t4 : Ed} {K : Int} {k : zqc0 β} (hd : Qc d) (ha : 0 ≤ a ∧ a < np) (hf : 1767100000 ≤ f ∧ f ≤ 1770000000) (ht : 1 ≤ t ∧ t ≤ 300000) (hK : K = 0 ∨ K = 1)
  (hk : ∀ d' x, Qc d' → Q36 np x = 0 → G (k d' x)) : G (zqc4 k d t4 (K, a, 0, f, f + t)) := by
 unfold zqc4
 rw [Q2]
 unfold zqc3
 refine w_d (fun h => ?_) (fun _ => hk _ _ hd (Qgc ha hf ht hK))
 obtain rfl : K = 1 := h
 refine Q7j hd ⟨by omega, by omega⟩ fun b d1 hd1 => ?_
 exact w_c (fun _ => hk _ _ hd1 (Qmk hf ht)) (fun _ => hk _ _ hd1 (Qgc ha hf ht hK))
theorem Qk1 {zs : List zqa} {ps : List zqe} {cs : List zq0} {d : Dice} {k : Ed → Dice → Option β} (hd : Qc d) (hp : 1 ≤ ps.length ∧ ps.length ≤ 8) (hk : ∀ x d', Qc d' → Q36 (ps.length : Int) x = 0 → G (k x d')) : G (zqc7 zs ps cs d k) := by
 unfold zqc7
 rw [Q2]
 unfold zqc6
 refine Qd hd ⟨by omega, by omega⟩ fun K d1 hK0 hK1 hd1 => ?_
 refine Qd hd1 ⟨by omega, by omega⟩ fun a d2 ha0 ha1 hd2 => ?_
 refine Qk0 hd2 fun f d3 hf0 hf1 hd3 => ?_
 refine Q10 hd3 (by decide) fun t d4 ht hd4 => ?_
 have ht' : 1 ≤ t ∧ t ≤ 300000 := by simp at ht; omega
 simp (disch := omega) only [i64_in]
 refine w_d (fun h => ?_) (fun h => ?_)
 ·refine w_d (fun _ => hk _ _ hd4 (Qgc ⟨ha0, ha1⟩ ⟨hf0, hf1⟩ ht' (.inl rfl))) (fun g => ?_)
  refine Qd hd4 ⟨by omega, by omega⟩ fun b d5 hb0 hb1 hd5 => ?_
  refine w_e (Q2j (by omega)) ?_
  simp (disch := omega) only [i64_in]
  have hb2 : 0 ≤ Int.tmod (a + 1 + b) (ps.length : Int) ∧ Int.tmod (a + 1 + b) (ps.length : Int) < (ps.length : Int) := ⟨Int.tmod_nonneg _ (by omega), Int.tmod_lt_of_pos _ (by omega)⟩
  have hne : a ≠ Int.tmod (a + 1 + b) (ps.length : Int) := by
   rw [Int.tmod_eq_emod_of_nonneg (by omega)]
   by_cases c : a + 1 + b < (ps.length : Int)
   ·rw [Int.emod_eq_of_lt (by omega) c]; omega
   ·have : (a + 1 + b) % (ps.length : Int) = a + 1 + b - (ps.length : Int) := by
     rw [show a + 1 + b = (a + 1 + b - (ps.length : Int)) + (ps.length : Int) by omega, Int.add_emod_right, Int.emod_eq_of_lt (by omega) (by omega)]
     omega
    omega
  obtain rfl : K = 2 := h
  unfold zqc4
  rw [Q2]
  unfold zqc3
  exact w_n (by show ¬ (2 : Int) = 1; decide) (hk _ _ hd5 (Qml ⟨ha0, ha1⟩ hb2 hne ⟨hf0, hf1⟩ ht'))
 ·exact Qlu hd4 ⟨ha0, ha1⟩ ⟨hf0, hf1⟩ ht' (by omega) fun d' x hd' hx => hk _ _ hd' hx
end
end
end Go.Lift
namespace Go.Lift
open Go.RowKit Go.IntWalk
noncomputable section
variable [Sl]
set_option linter.unusedSectionVars false
set_option linter.unusedVariables false
set_option linter.unusedSimpArgs false
set_option maxRecDepth 10000
section
variable {β : Type}
theorem c_b {b : Bool} {x y : Option β} (h : b = true) : cond b x y = x := by rw [h]; rfl
theorem Qk2 {α γ : Type} (f : α → γ) (xs : List α) (s : List γ) : xs.foldl (fun l i => l ++ [f i]) s = s ++ xs.map f := by
 induction xs generalizing s with
 | nil => simp
 | cons x xs ih => simp [ih, List.append_assoc]
theorem Qkk {α : Type} (xs : List α) (s : List α) : xs.foldl (fun l i => l ++ [i]) s = s ++ xs := by
 have := Qk2 (fun x : α => x) xs s
 simpa using this
theorem Qht (c : zqg) (h1 : c.1.length ≤ 1000000) (h2 : c.2.1.length ≤ 1000000) (h3 : c.2.2.1.length ≤ 1000000) (h4 : c.2.2.2.length ≤ 1000000)
  (h5 : ∀ s ∈ c.2.2.2, s.2.1.length ≤ 1000000 ∧ s.2.2.length ≤ 1000000) (k : List zqa → List zqe → List zq0 → List zq4 → Option β) :
  zq1c c k = k c.1 c.2.1 c.2.2.1 c.2.2.2 := by
 unfold zq1c
 rw [Q2]
 unfold zq1b
 refine (Q4g (by omega)).trans ?_
 refine (Q4g (by omega)).trans ?_
 refine (Q4g (by omega)).trans ?_
 unfold zq19
 rw [Q2]
 refine (Qio (fun i l => l.length = i) (fun m i l => zq17 m (fun _ _ _ _ b6 b7 b8 b9 => k b6 b7 b8 b9) i c [] [] [] [] c.1 c.2.1 c.2.2.1 l) (fun l x => l ++ [x]) (fun l => k c.1 c.2.1 c.2.2.1 l) ([], [], []) c.2.2.2 [] fuel (Qn (by omega)) rfl
  (fun i l hi hl => by simp [hl]) (fun m i l hi hl => ?_) (fun m l hl => ?_)).trans ?_
 ·simp only [zq18, zq16]
  refine (Q1k (by omega)).trans ?_
  refine (Qo (by omega)).trans ?_
  rw [Int.toNat_natCast, i64_in ((i : Int) + 1) (by omega)]
  obtain ⟨g1, g2⟩ := h5 _ (Q1z (d := (([] : List UInt8), (([] : List zq2), ([] : List (Int × (Int × (Int × (Int × Int)))))))) hi)
  refine (Q4g (by omega)).trans ?_
  refine (Q4g (by omega)).trans ?_
  have h : (l.length + 1) * 64 ≤ 140737488355328 := by omega
  exact (congrArg (fun b => cond b _ none) (Bool.true_and _)).trans (Q4g h)
 ·simp only [zq18, zq16]
  exact Q1o (by omega)
 ·rw [Qkk]; rfl
def Q4r : List (List UInt8) → List (List UInt8) → Bool
 | [], _ => true
 | s :: r, l => Qip s && (!decide (s ∈ l) && Q4r r (l ++ [s]))
theorem Qlv {s : List UInt8} {l : List (List UInt8)} (h1 : Qip s = true) (h2 : s ∉ l) : Qck s l = 0 := by
 unfold Qck
 rw [h1, decide_eq_false h2]; rfl
theorem Qe5 {α : Type} (of : α → List UInt8) (chk : α → Int) : ∀ (xs : List α) (j : Nat) (l : List (List UInt8)), Q4r (xs.map of) l = true → (∀ x ∈ xs, chk x = 0) → walk (Q67 of chk) xs j l = .inr (l ++ xs.map of)
 | [], j, l, _, _ => by simp [walk]
 | x :: xs, j, l, h, hc => by
  simp only [List.map_cons, Q4r, Bool.and_eq_true] at h
  obtain ⟨h1, h2, h3⟩ := h
  have h2 : of x ∉ l := by simpa using h2
  have hg : Q67 of chk j x l = .inr (l ++ [of x]) := by
   unfold Q67
   rw [decide_eq_true (Qlv h1 h2), decide_eq_true (hc x (List.mem_cons_self ..))]
   rfl
  unfold walk
  rw [hg]
  show walk (Q67 of chk) xs (j + 1) (l ++ [of x]) = _
  rw [Qe5 of chk xs (j + 1) _ h3 fun y hy => hc y (List.mem_cons_of_mem _ hy)]
  simp
theorem Qkl {α : Type} {of : α → List UInt8} {chk : α → Int} {xs : List α} (h : Q4r (xs.map of) [] = true) (hc : ∀ x ∈ xs, chk x = 0) : Q9j of chk xs = 0 := by
 unfold Q9j
 rw [Qe5 of chk xs 0 [] h hc]; rfl
theorem Qhu (np : Int) : ∀ (xs : List Ed) (j : Nat), (∀ x ∈ xs, Q36 np x = 0) → walk (Qiq np) xs j () = .inr ()
 | [], _, _ => rfl
 | x :: xs, j, h => by
  unfold walk Qiq
  rw [decide_eq_true (h x (List.mem_cons_self ..))]
  exact Qhu np xs (j + 1) fun y hy => h y (List.mem_cons_of_mem _ hy)
end
end
end Go.Lift
namespace Go.Lift
open Go.RowKit Go.IntWalk
noncomputable section
variable [Sl]
set_option linter.unusedSectionVars false
set_option linter.unusedVariables false
set_option linter.unusedSimpArgs false
set_option maxRecDepth 10000
section
variable {β : Type} {G : Option β → Prop}
theorem Qhv {nz np nc zone day sec unit every cal mode : Int} {n : List UInt8} {ms : List Int} {ws : List (Int × Int)} (hz : 0 ≤ zone ∧ zone < nz) (hd : 1 ≤ day ∧ day < 98981) (hs : 0 ≤ sec ∧ sec ≤ 86399) (hu : 0 ≤ unit ∧ unit ≤ 2) (he : 1 ≤ every ∧ every ≤ 400)
  (hm : 1 ≤ ms.length ∧ ms.length ≤ 12) (hmm : ∀ m ∈ ms, 0 ≤ m ∧ m < np) (hw : Q35 ws = 0) (hc : (mode = 0 ∧ cal = 0) ∨ ((1 ≤ mode ∧ mode ≤ 2) ∧ 0 ≤ cal ∧ cal < nc)) :
  Q4i nz np nc (n, zone, (day, sec), unit, every, ms, ws, cal, mode) = 0 := by
 unfold Q4i l2V
 simp only
 rw [Q6m hz, decide_eq_false (show ¬ day < 1 by omega), Qgb (by omega), Qa6 hs, Qa6 hu, Qa6 he, decide_eq_false (show ¬ (ms.length : Int) = 0 by omega), decide_eq_false (show ¬ (12 : Int) < (ms.length : Int) by omega),
  List.all_eq_true.2 fun m h => Q6m (hmm m h), decide_eq_true hw, Qa6 (show 0 ≤ mode ∧ mode ≤ 2 by omega)]
 unfold l1V
 simp only
 rcases hc with ⟨h1, h2⟩ | ⟨h1, h2⟩
 ·rw [decide_eq_true h1, decide_eq_true h2]; rfl
 ·rw [decide_eq_false (show ¬ mode = 0 by omega), Q6m h2]; rfl
theorem Qkm {zs : List zqa} {ps : List zqe} {cs : List zq0} {t6 l1 : List UInt8} {t62 t63 t64 t65 t66 t67 t68 l2 l3 l4 l5 l6 l7 l8 : Int} {b4 : List Int} {b5 b7 : List (Int × Int)} {k : zqbb β} (hp : 1 ≤ ps.length ∧ ps.length ≤ 8)
  (hk : ∀ d' ms, Qc d' → (1 ≤ ms.length ∧ ms.length ≤ 12) → (∀ m ∈ ms, 0 ≤ m ∧ m < (ps.length : Int)) → G (k d' zs ps cs t6 t62 t63 t64 t65 t66 t67 t68 l1 l2 l3 l4 l5 l6 l7 l8 b4 b5 ms b7)) :
  ∀ (j m : Nat) (d : Dice) (ms : List Int), j < m → Qc d → (1 ≤ ms.length + j ∧ ms.length + j ≤ 12) → (∀ x ∈ ms, 0 ≤ x ∧ x < (ps.length : Int)) →
   G (zqbo m k (j : Int) d zs ps cs t6 t62 t63 t64 t65 t66 t67 t68 l1 l2 l3 l4 l5 l6 l7 l8 b4 b5 ms b7) := by
 intro j
 induction j with
 | zero =>
  intro m d ms hm hd hl hx
  obtain ⟨m, rfl⟩ : ∃ m', m = m' + 1 := ⟨m - 1, by omega⟩
  simp only [zqbp, zqbn]
  exact w_n (by simp) (hk _ _ hd (by omega) hx)
 | succ j ih =>
  intro m d ms hm hd hl hx
  obtain ⟨m, rfl⟩ : ∃ m', m = m' + 1 := ⟨m - 1, by omega⟩
  simp only [zqbp, zqbn]
  refine w_p (by omega) ?_
  refine Qd hd ⟨by omega, by omega⟩ fun x d1 h1 h2 hd1 => ?_
  have hr : (ms.length + 1) * 8 ≤ 140737488355328 := by omega
  refine w_r hr ?_
  simp (disch := omega) only [i64_in]
  rw [show ((j + 1 : Nat) : Int) - 1 = (j : Int) by omega]
  refine ih m d1 _ (by omega) hd1 (by simp; omega) fun y hy => ?_
  rcases List.mem_append.1 hy with hy | hy
  ·exact hx y hy
  ·rw [List.mem_singleton.1 hy]; exact ⟨h1, h2⟩
theorem Qgd {zs : List zqa} {ps : List zqe} {cs : List zq0} {d : Dice} {t6 l1 : List UInt8} {t62 t63 t64 t65 t66 t67 t68 l2 l3 l4 l5 l6 : Int} {b4 b6 : List Int} {b5 b7 : List (Int × Int)} {k : zqb8 β} (hd : Qc d) (hc : cs.length ≤ 8)
  (hk : ∀ d' c m, Qc d' → ((m = 0 ∧ c = 0) ∨ ((1 ≤ m ∧ m ≤ 2) ∧ 0 ≤ c ∧ c < (cs.length : Int))) → G (k d' l1 l2 l3 l4 l5 l6 c m b6 b7)) :
  G (zqbl k d zs ps cs t6 t62 t63 t64 t65 t66 t67 t68 l1 l2 l3 l4 l5 l6 0 0 b4 b5 b6 b7) := by
 unfold zqbl
 rw [Q2]
 unfold zqbk
 refine Q7j hd ⟨by omega, by omega⟩ fun b d1 hd1 => ?_
 unfold zqbi
 rw [Q2]
 unfold zqbh
 refine w_c (fun _ => ?_) (fun _ => hk _ _ _ hd1 (.inl ⟨rfl, rfl⟩))
 refine w_d (fun h => ?_) (fun _ => hk _ _ _ hd1 (.inl ⟨rfl, rfl⟩))
 refine Qd hd1 ⟨by omega, by omega⟩ fun x d2 h1 h2 hd2 => ?_
 refine Qd hd2 ⟨by omega, by omega⟩ fun y d3 h3 h4 hd3 => ?_
 simp (disch := omega) only [i64_in]
 exact hk _ _ _ hd3 (.inr ⟨by omega, h1, h2⟩)
theorem Qge {zs : List zqa} {ps : List zqe} {cs : List zq0} {d : Dice} {t6 l1 : List UInt8} {t62 t63 t64 t65 t66 t67 t68 l2 l3 l4 l5 l6 : Int} {b4 : List Int} {b5 : List (Int × Int)} {k : zqbe β} (hd : Qc d) (hp : 1 ≤ ps.length ∧ ps.length ≤ 8) (hc : cs.length ≤ 8)
  (hk : ∀ d' c m ms ws, Qc d' → ((m = 0 ∧ c = 0) ∨ ((1 ≤ m ∧ m ≤ 2) ∧ 0 ≤ c ∧ c < (cs.length : Int))) → (1 ≤ ms.length ∧ ms.length ≤ 12) → (∀ x ∈ ms, 0 ≤ x ∧ x < (ps.length : Int)) → Q35 ws = 0 → G (k d' l1 l2 l3 l4 l5 l6 c m ms ws)) :
  G (zqbt k d zs ps cs t6 t62 t63 t64 t65 t66 t67 t68 l1 l2 l3 l4 l5 l6 0 0 b4 b5 [] []) := by
 unfold zqbt
 rw [Q2]
 unfold zqbs
 refine Qd hd ⟨by omega, by omega⟩ fun x d1 h1 h2 hd1 => ?_
 simp (disch := omega) only [i64_in]
 unfold zqbq
 rw [Q2]
 obtain ⟨j, hj⟩ : ∃ j : Nat, 1 + x = j := ⟨(1 + x).toNat, by omega⟩
 rw [hj]
 refine Qkm hp (fun d2 ms hd2 hm hmm => ?_) j fuel d1 [] (Qn (by omega)) hd1 (by simp; omega) (fun y hy => absurd hy List.not_mem_nil)
 refine Q7j hd2 ⟨by omega, by omega⟩ fun b d3 hd3 => ?_
 refine w_c (fun _ => ?_) (fun _ => ?_)
 ·refine Qe4 hd3 fun d4 ws hd4 hw => ?_
  exact Qgd hd4 hc fun d5 c m hd5 hcm => hk _ _ _ _ _ hd5 hcm hm hmm hw
 ·refine Qgd hd3 hc fun d5 c m hd5 hcm => hk _ _ _ _ _ hd5 hcm hm hmm ?_
  exact Qa9 (t := 0) ⟨List.Pairwise.nil, fun x hx => absurd hx List.not_mem_nil⟩ (by simp)
theorem Qlw {zs : List zqa} {ps : List zqe} {cs : List zq0} {n : List UInt8} {d : Dice} {k : zq2 → Dice → Option β} (hd : Qc d) (hz : 1 ≤ zs.length ∧ zs.length ≤ 8) (hp : 1 ≤ ps.length ∧ ps.length ≤ 8) (hc : cs.length ≤ 8)
  (hk : ∀ l d', Qc d' → l.1 = n → Q4i (zs.length : Int) (ps.length : Int) (cs.length : Int) l = 0 → G (k l d')) : G (zqbw zs ps cs n d k) := by
 unfold zqbw
 rw [Q2]
 unfold zqbv
 refine Qd hd ⟨by omega, by omega⟩ fun z d1 hz0 hz1 hd1 => ?_
 refine Qd hd1 ⟨by omega, by omega⟩ fun y d2 hy0 hy1 hd2 => ?_
 refine Q10 hd2 (by decide) fun s d3 hs hd3 => ?_
 have hs' : 0 ≤ s ∧ s ≤ 86399 := by simp at hs; omega
 refine Qd hd3 ⟨by omega, by omega⟩ fun u d4 hu0 hu1 hd4 => ?_
 refine Qd hd4 ⟨by omega, by omega⟩ fun e d5 he0 he1 hd5 => ?_
 simp (disch := omega) only [i64_in]
 refine w_d (fun _ => ?_) (fun _ => ?_)
 ·refine Q10 hd5 (by decide) fun e2 d6 he2 hd6 => ?_
  have he2' : 1 ≤ e2 ∧ e2 ≤ 400 := by simp at he2; omega
  refine Qge hd6 hp hc fun d' c m ms ws hd' h1 h2 h3 h4 => hk _ _ hd' rfl ?_
  exact Qhv ⟨hz0, hz1⟩ (by omega) hs' (by omega) he2' h2 h3 h4 h1
 ·refine Qge hd5 hp hc fun d' c m ms ws hd' h1 h2 h3 h4 => hk _ _ hd' rfl ?_
  exact Qhv ⟨hz0, hz1⟩ (by omega) hs' (by omega) (by omega) h2 h3 h4 h1
def zNames : List (List UInt8) := [[104, 101, 114, 101], [116, 104, 101, 114, 101]]
def pNames : List (List UInt8) := [[97, 100, 97], [98, 111, 98], [99, 108, 101, 111], [100, 97, 110], [101, 118, 101], [102, 97, 121], [103, 117, 115], [104, 97, 108]]
def cNames : List (List UInt8) := [[100, 97, 121, 115]]
def sNames : List (List UInt8) := [[102, 105, 114, 115, 116], [115, 101, 99, 111, 110, 100], [116, 104, 105, 114, 100]]
def Named {α : Type} (of : α → List UInt8) (L : List (List UInt8)) (xs : List α) : Prop := xs.length ≤ L.length ∧ xs.map of = L.take xs.length
theorem Named.nil {α : Type} {of : α → List UInt8} {L : List (List UInt8)} : Named of L [] := ⟨Nat.zero_le _, by simp⟩
theorem Named.snoc {α : Type} {of : α → List UInt8} {L : List (List UInt8)} {xs : List α} {x : α} (h : Named of L xs) (hl : xs.length < L.length) (hx : of x = L.getD xs.length []) : Named of L (xs ++ [x]) := by
 refine ⟨by simp; omega, ?_⟩
 rw [List.map_append, h.2, List.length_append, List.length_singleton, Qjv [] hl, List.map_singleton, hx]
theorem Named.ok {α : Type} {of : α → List UInt8} {L : List (List UInt8)} {xs : List α} (h : Named of L xs) (hL : ((List.range (L.length + 1)).all fun n => Q4r (L.take n) []) = true) : Q4r (xs.map of) [] = true := by
 rw [h.2]
 exact List.all_eq_true.1 hL xs.length (List.mem_range.2 (by have := h.1; omega))
theorem Q3e {α : Type} {P : α → Prop} {xs : List α} {x : α} (h : ∀ y ∈ xs, P y) (hx : P x) : ∀ y ∈ xs ++ [x], P y := by
 intro y hy
 rcases List.mem_append.1 hy with hy | hy
 ·exact h y hy
 ·rw [List.mem_singleton.1 hy]; exact hx
def Qaa (zs : List zqa) : Prop := Named (·.1) zNames zs ∧ ∀ z ∈ zs, ZoneOk z ∧ Q87 z = 0
def Q89 (nz : Int) (ps : List zqe) : Prop := Named (·.1) pNames ps ∧ ∀ p ∈ ps, Qa5 nz p = 0
def Qcl (nz : Int) (cs : List zq0) : Prop := Named (·.1) cNames cs ∧ ∀ x ∈ cs, calV nz x = 0
theorem Qkn {b3 b7 : List zqa} {b4 b8 : List zqe} {b5 b9 : List zq0} {b6 b10 : List zq4} {k : zq9y β}
  (hk : ∀ d' zs, Qc d' → Qaa zs → 1 ≤ zs.length → G (k d' b3 b4 b5 b6 zs b8 b9 b10)) : ∀ (j m : Nat) (d : Dice) (zs : List zqa), j < m → Qc d → Qaa zs → (1 ≤ zs.length + j ∧ zs.length + j ≤ 2) →
   G (zqae m k (j : Int) d b3 b4 b5 b6 zs b8 b9 b10) := by
 intro j
 induction j with
 | zero =>
  intro m d zs hm hd hz hl
  obtain ⟨m, rfl⟩ : ∃ m', m = m' + 1 := ⟨m - 1, by omega⟩
  simp only [zqaf, zqad]
  exact w_n (by simp) (hk _ _ hd hz (by omega))
 | succ j ih =>
  intro m d zs hm hd hz hl
  obtain ⟨m, rfl⟩ : ∃ m', m = m' + 1 := ⟨m - 1, by omega⟩
  simp only [zqaf, zqad]
  refine w_p (by omega) ?_
  refine w_i (by show 0 ≤ (zs.length : Int) ∧ (zs.length : Int) < 2; omega) ?_
  refine Qmj hd fun z d1 hd1 hz1 => ?_
  have hr : (zs.length + 1) * 48 ≤ 140737488355328 := by omega
  refine w_r hr ?_
  simp (disch := omega) only [i64_in]
  rw [show ((j + 1 : Nat) : Int) - 1 = (j : Int) by omega]
  refine ih m d1 _ (by omega) hd1 ⟨hz.1.snoc (by show zs.length < 2; omega) ?_, Q3e hz.2 hz1.2⟩ (by simp; omega)
  have := hz1.1
  rw [Int.toNat_natCast] at this
  exact this
theorem Qko {nz zone w r : Int} {n : List UInt8} {q : List (Int × Int)} {b : Bool} (hz : 0 ≤ zone ∧ zone < nz) (hq : Q35 q = 0) (hw : w ∈ [(0 : Int), 40, 100, 12]) (hr : r ∈ [(0 : Int), 11, 24, 1]) : Qa5 nz (n, zone, q, 3600 * w, 3600 * r, b) = 0 := by
 unfold Qa5
 simp only
 have h1 : Qcj (3600 * w) = true := by
  simp at hw
  rcases hw with rfl | rfl | rfl | rfl <;> decide
 have h2 : Qcj (3600 * r) = true := by
  simp at hr
  rcases hr with rfl | rfl | rfl | rfl <;> decide
 rw [Q6m hz, decide_eq_true hq, h1, h2]
 rfl
theorem Qkp {b3 b7 : List zqa} {b4 : List zqe} {b5 b9 : List zq0} {b6 b10 : List zq4} {k : zqa1 β} (h7 : 1 ≤ b7.length ∧ b7.length ≤ 8)
  (hk : ∀ d' ps, Qc d' → Q89 (b7.length : Int) ps → (1 ≤ ps.length ∧ ps.length ≤ 8) → G (k d' b3 b4 b5 b6 b7 ps b9 b10)) : ∀ (j m : Nat) (d : Dice) (ps : List zqe), j < m → Qc d → Q89 (b7.length : Int) ps → (1 ≤ ps.length + j ∧ ps.length + j ≤ 8) →
   G (zqam m k (j : Int) d b3 b4 b5 b6 b7 ps b9 b10) := by
 intro j
 induction j with
 | zero =>
  intro m d ps hm hd hz hl
  obtain ⟨m, rfl⟩ : ∃ m', m = m' + 1 := ⟨m - 1, by omega⟩
  simp only [zqan, zqal]
  exact w_n (by simp) (hk _ _ hd hz (by omega))
 | succ j ih =>
  intro m d ps hm hd hz hl
  obtain ⟨m, rfl⟩ : ∃ m', m = m' + 1 := ⟨m - 1, by omega⟩
  simp only [zqan, zqal]
  refine w_p (by omega) ?_
  unfold zq1k
  rw [Q2]
  unfold zq1j
  refine w_i (by show 0 ≤ (ps.length : Int) ∧ (ps.length : Int) < 8; omega) ?_
  refine Qd hd ⟨by omega, by omega⟩ fun z d1 h1 h2 hd1 => ?_
  refine Q7j hd1 ⟨by omega, by omega⟩ fun bc d2 hd2 => ?_
  refine Q7j hd2 ⟨by omega, by omega⟩ fun bq d3 hd3 => ?_
  have key : ∀ (d4 : Dice) (q : List (Int × Int)), Qc d4 → Q35 q = 0 → G (zqaj (fun i_2 d2 b3_2 b4_2 b5_2 b6_2 b7_2 b8_2 b9_2 b10_2 => zqam m k (IntKind.i64.wrap (i_2 - 1)) d2 b3_2 b4_2 b5_2 b6_2 b7_2 b8_2 b9_2 b10_2) ((j + 1 : Nat) : Int) d4
    (List.getD pNames (Int.toNat (ps.length : Int)) []) z 0 0 bc b3 b4 b5 b6 b7 ps b9 b10 q) := by
   intro d4 q hd4 hq
   unfold zqaj
   rw [Q2]
   unfold zqai
   refine Q10 hd4 (by decide) fun w d5 hw hd5 => ?_
   refine Q10 hd5 (by decide) fun r d6 hr hd6 => ?_
   have hw' : 0 ≤ w ∧ w ≤ 100 := by simp at hw; omega
   have hr' : 0 ≤ r ∧ r ≤ 100 := by simp at hr; omega
   have hr : (ps.length + 1) * 72 ≤ 140737488355328 := by omega
   refine w_r hr ?_
   simp (disch := omega) only [i64_in]
   rw [show ((j + 1 : Nat) : Int) - 1 = (j : Int) by omega]
   refine ih m d6 _ (by omega) hd6 ⟨hz.1.snoc (by show ps.length < 8; omega) (by rw [Int.toNat_natCast]), Q3e hz.2 ?_⟩ (by simp; omega)
   exact Qko ⟨h1, h2⟩ hq hw (by assumption)
  refine w_c (fun _ => ?_) (fun _ => ?_)
  ·exact Qe4 hd3 fun d4 q hd4 hq => key d4 q hd4 hq
  ·exact key d3 [] hd3 (Qa9 (t := 0) ⟨List.Pairwise.nil, fun x hx => absurd hx List.not_mem_nil⟩ (by simp))
theorem Qn0 {nz zone : Int} {n : List UInt8} {ds : List Int} (hz : 0 ≤ zone ∧ zone < nz) (hl : ds.length ≤ 64) (hd : ds.Pairwise (· < ·)) (hb : ∀ x ∈ ds, 0 ≤ x ∧ x < 98981) : calV nz (n, zone, ds) = 0 := by
 unfold calV
 simp only
 rw [Q6m hz, decide_eq_false (by omega), List.all_eq_true.2 fun x hx => Qgb (hb x hx), Qga 0 fun i hi => ?_]
 ·rfl
 unfold ascG
 by_cases h0 : (0 : Int) < i
 ·have := List.pairwise_iff_getElem.1 hd (i - 1) i (by omega) hi (by omega)
  have e1 : ds.getD i 0 = ds[i] := by simp [List.getD, hi]
  have e2 : ds.getD (i - 1) 0 = ds[i - 1] := by simp [List.getD, show i - 1 < ds.length by omega]
  rw [decide_eq_true h0, e1, e2, decide_eq_false (show ¬ ds[i] ≤ ds[i - 1] by omega)]
  rfl
 ·rw [decide_eq_false h0]; rfl
theorem Qkq {i z : Int} {n : List UInt8} {b4 b8 : List zqa} {b5 b9 : List zqe} {b6 b10 : List zq0} {b7 b11 : List zq4} {k : zqaa β}
  (hk : ∀ d' ds, Qc d' → ds.length ≤ 64 → ds.Pairwise (· < ·) → (∀ x ∈ ds, 0 ≤ x ∧ x < 98981) → G (k i d' n z b4 b5 b6 b7 b8 b9 b10 b11 ds)) : ∀ (j m : Nat) (day : Int) (d : Dice) (ds : List Int), j < m → Qc d → ds.length + j ≤ 64 → ds.Pairwise (· < ·) →
   (∀ x ∈ ds, 0 ≤ x ∧ x ≤ day) → (0 ≤ day ∧ day + 6 * (j : Int) < 98981) →
   G (zqar m k i (j : Int) day d n z b4 b5 b6 b7 b8 b9 b10 b11 ds) := by
 intro j
 induction j with
 | zero =>
  intro m day d ds hm hd hl hp hb hdy
  obtain ⟨m, rfl⟩ : ∃ m', m = m' + 1 := ⟨m - 1, by omega⟩
  simp only [zqas, zqaq]
  exact w_n (by simp) (hk _ _ hd (by omega) hp fun x hx => by have := hb x hx; omega)
 | succ j ih =>
  intro m day d ds hm hd hl hp hb hdy
  obtain ⟨m, rfl⟩ : ∃ m', m = m' + 1 := ⟨m - 1, by omega⟩
  simp only [zqas, zqaq]
  refine w_p (by omega) ?_
  refine Qd hd ⟨by omega, by omega⟩ fun x d1 h1 h2 hd1 => ?_
  have hr : (ds.length + 1) * 8 ≤ 140737488355328 := by omega
  refine w_r hr ?_
  simp (disch := omega) only [i64_in]
  rw [show ((j + 1 : Nat) : Int) - 1 = (j : Int) by omega]
  refine ih m _ d1 _ (by omega) hd1 (by simp; omega) ?_ ?_ (by omega)
  ·rw [List.pairwise_append]
   refine ⟨hp, List.pairwise_singleton _ _, fun a ha b hb' => ?_⟩
   rw [List.mem_singleton.1 hb']
   have := hb a ha
   omega
  ·intro a ha
   rcases List.mem_append.1 ha with ha | ha
   ·have := hb a ha; omega
   ·rw [List.mem_singleton.1 ha]; omega
theorem Qkr {b3 b7 : List zqa} {b4 b8 : List zqe} {b5 : List zq0} {b6 b10 : List zq4} {k : zqa4 β} (h7 : 1 ≤ b7.length ∧ b7.length ≤ 8)
  (hk : ∀ d' cs, Qc d' → Qcl (b7.length : Int) cs → G (k d' b3 b4 b5 b6 b7 b8 cs b10)) : ∀ (j m : Nat) (d : Dice) (cs : List zq0), j < m → Qc d → Qcl (b7.length : Int) cs → cs.length + j ≤ 1 →
   G (zqaw m k (j : Int) d b3 b4 b5 b6 b7 b8 cs b10) := by
 intro j
 induction j with
 | zero =>
  intro m d cs hm hd hz hl
  obtain ⟨m, rfl⟩ : ∃ m', m = m' + 1 := ⟨m - 1, by omega⟩
  simp only [zqax, zqav]
  exact w_n (by simp) (hk _ _ hd hz)
 | succ j ih =>
  intro m d cs hm hd hz hl
  obtain ⟨m, rfl⟩ : ∃ m', m = m' + 1 := ⟨m - 1, by omega⟩
  simp only [zqax, zqav]
  refine w_p (by omega) ?_
  refine Qd hd ⟨by omega, by omega⟩ fun z d1 h1 h2 hd1 => ?_
  refine Qd hd1 ⟨by omega, by omega⟩ fun t d2 h3 h4 hd2 => ?_
  unfold zqat
  rw [Q2]
  obtain ⟨q, rfl⟩ : ∃ q : Nat, t = q := ⟨t.toNat, by omega⟩
  refine Qkq (fun d3 ds hd3 g1 g2 g3 => ?_) q fuel 20454 d2 [] (Qn (by omega)) hd2 (by simp; omega) List.Pairwise.nil (fun x hx => absurd hx List.not_mem_nil) (by omega)
  have hr : (cs.length + 1) * 48 ≤ 140737488355328 := by omega
  refine w_r hr ?_
  simp (disch := omega) only [i64_in]
  rw [show ((j + 1 : Nat) : Int) - 1 = (j : Int) by omega]
  refine ih m d3 _ (by omega) hd3 ⟨hz.1.snoc (by show cs.length < 1; omega) ?_, Q3e hz.2 (Qn0 ⟨h1, h2⟩ g1 g2 g3)⟩ (by simp; omega)
  rw [show cs.length = 0 by omega]
  rfl
theorem Qlx {d : Dice} {k : List zqa → List zqe → List zq0 → Dice → List zq4 → Option β} (hd : Qc d)
  (hk : ∀ d' zs ps cs, Qc d' → Qaa zs → 1 ≤ zs.length → Q89 (zs.length : Int) ps → (1 ≤ ps.length ∧ ps.length ≤ 8) → Qcl (zs.length : Int) cs → G (k zs ps cs d' [])) : G (zqb1 d k) := by
 unfold zqb1
 rw [Q2]
 unfold zqb0
 refine Qd hd ⟨by omega, by omega⟩ fun x d1 h1 h2 hd1 => ?_
 simp (disch := omega) only [i64_in]
 unfold zqag
 rw [Q2]
 obtain ⟨j, hj⟩ : ∃ j : Nat, 1 + x = j := ⟨(1 + x).toNat, by omega⟩
 rw [hj]
 refine Qkn (b7 := []) (fun d2 zs hd2 hz hzl => ?_) j fuel d1 [] (Qn (by omega)) hd1 ⟨Named.nil, fun z hz => absurd hz List.not_mem_nil⟩ (by simp; omega)
 refine Qd hd2 ⟨by omega, by omega⟩ fun y d3 h3 h4 hd3 => ?_
 simp (disch := omega) only [i64_in]
 unfold zqao
 rw [Q2]
 obtain ⟨q, hq⟩ : ∃ q : Nat, 1 + y = q := ⟨(1 + y).toNat, by omega⟩
 rw [hq]
 have hz8 : zs.length ≤ 8 := by have := hz.1.1; have e : zNames.length = 2 := rfl; omega
 refine Qkp ⟨hzl, hz8⟩ (fun d4 ps hd4 hp hpl => ?_) q fuel d3 [] (Qn (by omega)) hd3 ⟨Named.nil, fun z hz => absurd hz List.not_mem_nil⟩ (by simp; omega)
 refine Qd hd4 ⟨by omega, by omega⟩ fun t d5 h5 h6 hd5 => ?_
 unfold zqay
 rw [Q2]
 obtain ⟨c, rfl⟩ : ∃ c : Nat, t = c := ⟨t.toNat, by omega⟩
 exact Qkr ⟨hzl, hz8⟩ (fun d6 cs hd6 hc => hk _ _ _ _ hd6 hz hzl hp hpl hc) c fuel d5 [] (Qn (by omega)) hd5 ⟨Named.nil, fun z hz => absurd hz List.not_mem_nil⟩ (by simp; omega)
end
end
end Go.Lift
namespace Go.Lift
open Go.RowKit Go.IntWalk
noncomputable section
variable [Sl]
set_option linter.unusedSectionVars false
set_option linter.unusedVariables false
set_option linter.unusedSimpArgs false
set_option maxRecDepth 10000
section
variable {β : Type} {G : Option β → Prop}
def Qb6 (nz np nc : Int) (ls : List zq2) : Prop := Named (·.1) pNames ls ∧ ∀ l ∈ ls, Q4i nz np nc l = 0
def Qb7 (nz np nc : Int) (ss : List zq4) : Prop := Named (·.1) sNames ss ∧ ∀ s ∈ ss, Q7h nz np nc s = 0
theorem Qk3 : ((List.range (pNames.length + 1)).all fun n => Q4r (pNames.take n) []) = true := by kernel_rfl
theorem Qly {nz np nc : Int} {n : List UInt8} {ls : List zq2} {es : List Ed} (hl : Qb6 nz np nc ls) (h6 : ls.length ≤ 6) (he : ∀ x ∈ es, Q36 np x = 0) (h48 : es.length ≤ 48) : Q7h nz np nc (n, ls, es) = 0 := by
 unfold Q7h
 simp only
 rw [decide_eq_false (by omega), decide_eq_false (by omega), decide_eq_true (Qkl (hl.1.ok Qk3) hl.2), Qhu np es 0 he]
 rfl
theorem Qk4 {i : Int} {zs b4 : List zqa} {ps b5 : List zqe} {cs b6 : List zq0} {s : List UInt8} {b7 b8 : List zq4} {es : List Ed} {k : zqg8 β}
  (hz : 1 ≤ zs.length ∧ zs.length ≤ 8) (hp : 1 ≤ ps.length ∧ ps.length ≤ 8) (hc : cs.length ≤ 8)
  (hk : ∀ d' ls, Qc d' → Qb6 (zs.length : Int) (ps.length : Int) (cs.length : Int) ls → ls.length ≤ 6 → G (k i d' zs ps cs s b4 b5 b6 b7 b8 ls es)) : ∀ (j m : Nat) (d : Dice) (ls : List zq2), j < m → Qc d → Qb6 (zs.length : Int) (ps.length : Int) (cs.length : Int) ls → ls.length + j ≤ 6 →
   G (zqgf m k i (j : Int) d zs ps cs s b4 b5 b6 b7 b8 ls es) := by
 intro j
 induction j with
 | zero =>
  intro m d ls hm hd hl h6
  obtain ⟨m, rfl⟩ : ∃ m', m = m' + 1 := ⟨m - 1, by omega⟩
  simp only [zqgg, zqge]
  exact w_n (by simp) (hk _ _ hd hl (by omega))
 | succ j ih =>
  intro m d ls hm hd hl h6
  obtain ⟨m, rfl⟩ : ∃ m', m = m' + 1 := ⟨m - 1, by omega⟩
  simp only [zqgg, zqge]
  refine w_p (by omega) ?_
  unfold zq1k
  rw [Q2]
  unfold zq1j
  refine w_i (by show 0 ≤ (ls.length : Int) ∧ (ls.length : Int) < 8; omega) ?_
  refine Qlw hd hz hp hc fun l d1 hd1 hn hv => ?_
  have hr : (ls.length + 1) * 120 ≤ 140737488355328 := by omega
  refine w_r hr ?_
  simp (disch := omega) only [i64_in]
  rw [show ((j + 1 : Nat) : Int) - 1 = (j : Int) by omega]
  refine ih m d1 _ (by omega) hd1 ⟨hl.1.snoc (by show ls.length < 8; omega) ?_, Q3e hl.2 hv⟩ (by simp; omega)
  rw [Int.toNat_natCast] at hn
  exact hn
theorem Qk5 {i : Int} {zs b4 : List zqa} {ps b5 : List zqe} {cs b6 : List zq0} {s : List UInt8} {b7 b8 : List zq4} {ls : List zq2} {k : zqgb β}
  (hp : 1 ≤ ps.length ∧ ps.length ≤ 8)
  (hk : ∀ d' es, Qc d' → (∀ x ∈ es, Q36 (ps.length : Int) x = 0) → es.length ≤ 48 → G (k i d' zs ps cs s b4 b5 b6 b7 b8 ls es)) : ∀ (j m : Nat) (d : Dice) (es : List Ed), j < m → Qc d → (∀ x ∈ es, Q36 (ps.length : Int) x = 0) → es.length + j ≤ 48 →
   G (zqgk m k i (j : Int) d zs ps cs s b4 b5 b6 b7 b8 ls es) := by
 intro j
 induction j with
 | zero =>
  intro m d es hm hd hl h6
  obtain ⟨m, rfl⟩ : ∃ m', m = m' + 1 := ⟨m - 1, by omega⟩
  simp only [zqgl, zqgj]
  exact w_n (by simp) (hk _ _ hd hl (by omega))
 | succ j ih =>
  intro m d es hm hd hl h6
  obtain ⟨m, rfl⟩ : ∃ m', m = m' + 1 := ⟨m - 1, by omega⟩
  simp only [zqgl, zqgj]
  refine w_p (by omega) ?_
  refine Qk1 hd hp fun x d1 hd1 hv => ?_
  have hr : (es.length + 1) * 40 ≤ 140737488355328 := by omega
  refine w_r hr ?_
  simp (disch := omega) only [i64_in]
  rw [show ((j + 1 : Nat) : Int) - 1 = (j : Int) by omega]
  exact ih m d1 _ (by omega) hd1 (Q3e hl hv) (by simp; omega)
theorem Qk6 {zs b3 : List zqa} {ps b4 : List zqe} {cs b5 : List zq0} {b6 : List zq4} {k : zqg5 β}
  (hz : 1 ≤ zs.length ∧ zs.length ≤ 8) (hp : 1 ≤ ps.length ∧ ps.length ≤ 8) (hc : cs.length ≤ 8)
  (hk : ∀ d' ss, Qc d' → Qb7 (zs.length : Int) (ps.length : Int) (cs.length : Int) ss → 1 ≤ ss.length → G (k d' zs ps cs b3 b4 b5 b6 ss)) : ∀ (j m : Nat) (d : Dice) (ss : List zq4), j < m → Qc d → Qb7 (zs.length : Int) (ps.length : Int) (cs.length : Int) ss → 1 ≤ ss.length + j ∧ ss.length + j ≤ 3 →
   G (zqgp m k (j : Int) d zs ps cs b3 b4 b5 b6 ss) := by
 intro j
 induction j with
 | zero =>
  intro m d ss hm hd hl h6
  obtain ⟨m, rfl⟩ : ∃ m', m = m' + 1 := ⟨m - 1, by omega⟩
  simp only [zqgq, zqgo]
  exact w_n (by simp) (hk _ _ hd hl (by omega))
 | succ j ih =>
  intro m d ss hm hd hl h6
  obtain ⟨m, rfl⟩ : ∃ m', m = m' + 1 := ⟨m - 1, by omega⟩
  simp only [zqgq, zqgo]
  refine w_p (by omega) ?_
  have hm3 : Int.tmod (ss.length : Int) 3 = (ss.length : Int) := by
   rw [Int.tmod_eq_emod_of_nonneg (by omega), Int.emod_eq_of_lt (by omega) (by omega)]
  rw [hm3]
  refine w_i (by show 0 ≤ (ss.length : Int) ∧ (ss.length : Int) < 3; omega) ?_
  refine Qd hd ⟨by omega, by omega⟩ fun x d1 h1 h2 hd1 => ?_
  unfold zqgh
  rw [Q2]
  obtain ⟨q, rfl⟩ : ∃ q : Nat, x = q := ⟨x.toNat, by omega⟩
  refine Qk4 hz hp hc (fun d2 ls hd2 hls hl6 => ?_) q fuel d1 [] (Qn (by omega)) hd1 ⟨Named.nil, fun z hz => absurd hz List.not_mem_nil⟩ (by simp; omega)
  refine Qd hd2 ⟨by omega, by omega⟩ fun y d3 h3 h4 hd3 => ?_
  unfold zqgm
  rw [Q2]
  obtain ⟨p, rfl⟩ : ∃ p : Nat, y = p := ⟨y.toNat, by omega⟩
  refine Qk5 hp (fun d4 es hd4 hes he48 => ?_) p fuel d3 [] (Qn (by omega)) hd3 (fun z hz => absurd hz List.not_mem_nil) (by simp; omega)
  have hr : (ss.length + 1) * 64 ≤ 140737488355328 := by omega
  refine w_r hr ?_
  simp (disch := omega) only [i64_in]
  rw [show ((j + 1 : Nat) : Int) - 1 = (j : Int) by omega]
  refine ih m d4 _ (by omega) hd4 ⟨hl.1.snoc (by show ss.length < 3; omega) ?_, Q3e hl.2 (Qly hls hl6 hes he48)⟩ (by simp; omega)
  rw [Int.toNat_natCast]
  rfl
structure ConfOk (c : zqg) : Prop where
 oz : Qaa c.1
 op : Q89 (c.1.length : Int) c.2.1
 oc : Qcl (c.1.length : Int) c.2.2.1
 os : Qb7 (c.1.length : Int) (c.2.1.length : Int) (c.2.2.1.length : Int) c.2.2.2
theorem Qks {n : Int} {d : Dice} {k : zqg → Dice → Option β} (hd : Qc d) (hn : 1 ≤ n ∧ n ≤ 3) (hk : ∀ c d', Qc d' → ConfOk c → (1 ≤ c.1.length ∧ 1 ≤ c.2.1.length ∧ 1 ≤ c.2.2.2.length) → G (k c d')) : G (zqgu n d k) := by
 unfold zqgu
 rw [Q2]
 unfold zqgt
 refine Qlx hd fun d1 zs ps cs hd1 hz hzl hp hpl hc => ?_
 refine Qd hd1 ⟨by omega, by omega⟩ fun x d2 h1 h2 hd2 => ?_
 simp (disch := omega) only [i64_in]
 unfold zqgr
 rw [Q2]
 obtain ⟨q, hq⟩ : ∃ q : Nat, 1 + x = q := ⟨(1 + x).toNat, by omega⟩
 rw [hq]
 have hz8 : zs.length ≤ 8 := by have := hz.1.1; have e : zNames.length = 2 := rfl; omega
 have hc8 : cs.length ≤ 8 := by have := hc.1.1; have e : cNames.length = 1 := rfl; omega
 refine Qk6 ⟨hzl, hz8⟩ hpl hc8 (fun d3 ss hd3 hs hs1 => ?_) q fuel d2 [] (Qn (by omega)) hd2 ⟨Named.nil, fun z hz => absurd hz List.not_mem_nil⟩ (by simp; omega)
 have hcf : ConfOk (zs, ps, cs, ss) := ⟨hz, hp, hc, hs⟩
 exact hk _ _ hd3 hcf ⟨hzl, hpl.1, hs1⟩
end
end
end Go.Lift
namespace Go.Lift
open Go.RowKit Go.IntWalk
noncomputable section
variable [Sl]
set_option linter.unusedSectionVars false
set_option linter.unusedVariables false
set_option linter.unusedSimpArgs false
set_option maxRecDepth 10000
abbrev LB (n : Nat) : Prop := n ≤ 9223372036854775807
structure SmallL (l : zq2) : Prop where
 m : LB l.2.2.2.2.2.1.length
 w : LB l.2.2.2.2.2.2.1.length
structure SmallS (s : zq4) : Prop where
 l : LB s.2.1.length
 e : LB s.2.2.length
 ls : ∀ x ∈ s.2.1, SmallL x
structure SmallC (c : zqg) : Prop where
 lz : LB c.1.length
 lp : LB c.2.1.length
 lc : LB c.2.2.1.length
 ls : LB c.2.2.2.length
 zs : ∀ x ∈ c.1, LB x.2.2.length
 ps : ∀ x ∈ c.2.1, LB x.2.2.1.length
 cs : ∀ x ∈ c.2.2.1, LB x.2.2.length
 ss : ∀ x ∈ c.2.2.2, SmallS x
theorem Q31 {α : Type} {xs : List α} {i : Nat} {d : α} (h : i < xs.length) : xs.getD i d ∈ xs := by
 rw [List.getD_eq_getElem?_getD, List.getElem?_eq_getElem h]
 exact List.getElem_mem h
def eqD {α : Type} (a b : α) : Bool := @decide (a = b) (Classical.propDecidable _)
theorem Qk {α : Type} {a b : α} : eqD a b = true ↔ a = b := by
 unfold eqD
 exact @decide_eq_true_iff (a = b) (Classical.propDecidable _)
theorem Qhw {α : Type} [DecidableEq α] (a b : α) : decide (a = b) = eqD a b := by
 rw [Bool.eq_iff_iff, Qk, decide_eq_true_eq]
theorem Qkt {α : Type} {a b : List α} (d : α) (h : a.length = b.length) : ((List.range a.length).all fun i => eqD (a.getD i d) (b.getD i d)) = eqD a b := by
 rw [Bool.eq_iff_iff, List.all_eq_true, Qk]
 constructor
 ·intro g
  refine List.ext_getElem h fun i h1 h2 => ?_
  have := Qk.1 (g i (List.mem_range.2 h1))
  simpa [List.getD, h1, h2] using this
 ·intro g i _
  rw [g]; exact Qk.2 rfl
section
variable {β : Type}
theorem Q11 {α : Type} (F : Nat → Int → Option β) (E K : Option β) (d : α) {a b : List α} (hl : a.length = b.length) (n : Nat) (hn : a.length < n)
  (h1 : ∀ (m i : Nat), i < a.length → F (m + 1) (i : Int) = cond (eqD (a.getD i d) (b.getD i d)) (F m ((i : Int) + 1)) E) (h2 : ∀ (m : Nat), F (m + 1) (a.length : Int) = K) : F n 0 = cond (eqD a b) K E := by
 rw [← Qkt d hl]
 refine Qin F (fun i => eqD (a.getD i d) (b.getD i d)) E K 0 (List.range a.length) n (by simpa using hn) (fun m i hi => ?_) (fun m => ?_)
 ·have hi : i < a.length := by simpa using hi
  rw [show (List.range a.length).getD i 0 = i by simp [List.getD, hi]]
  exact h1 m i hi
 ·rw [List.length_range]; exact h2 m
theorem Q3f {α : Type} {a b : List α} (h : ¬ (a.length : Int) = (b.length : Int)) : eqD a b = false := by
 rw [Bool.eq_false_iff]
 intro e
 exact h (by rw [Qk.1 e])
theorem ch_n {p : Prop} [Decidable p] {R : Bool} {k : Bool → Option β} {X : Option β} (h : p → X = k R) : cond (!decide p) (k false) X = k (decide p && R) := by
 by_cases g : p
 ·rw [decide_eq_true g, h g]; rfl
 ·rw [decide_eq_false g]; rfl
theorem ch_p {p : Prop} [Decidable p] {R : Bool} {k : Bool → Option β} {X : Option β} (h : p → X = k R) : cond (decide p) X (k false) = k (decide p && R) := by
 by_cases g : p
 ·rw [decide_eq_true g, h g]; rfl
 ·rw [decide_eq_false g]; rfl
theorem ch_b {c : Bool} {R : Bool} {k : Bool → Option β} {X : Option β} (h : X = k R) : cond c X (k false) = k (c && R) := by
 rw [h]; cases c <;> rfl
theorem Qhx {a b : List Int} (ha : LB a.length) (k : Bool → Option β) : zq2r a b k = k (eqD a b) := by
 unfold zq2r
 rw [Q2]
 unfold zq2q
 by_cases h : (a.length : Int) = (b.length : Int)
 ·refine (Q2z h).trans ?_
  unfold zq2o
  rw [Q2]
  refine (Q11 (a := a) (b := b) (fun m i => zq2m m (fun t => k t) (fun _ => k true) a b i) (k false) (k true) 0 (by omega) fuel (Qn (by omega)) (fun m i hi => ?_) (fun m => ?_)).trans (by cases eqD a b <;> rfl)
  ·simp only [zq2n, zq2l]
   refine (Q1k (by omega)).trans ?_
   refine (Qo (by omega)).trans ?_
   refine (Qo (by omega)).trans ?_
   rw [Int.toNat_natCast, i64_in ((i : Int) + 1) (by omega)]
   rw [Qhw]
   cases eqD (a.getD i 0) (b.getD i 0) <;> rfl
  ·simp only [zq2n, zq2l]
   exact Q1o (by omega)
 ·refine (Q2j h).trans ?_
  rw [Q3f h]
theorem Qab (e f : Int × Int) : (decide (e.1 = f.1) && (decide (e.2 = f.2) && true)) = eqD e f := by
 rw [Bool.eq_iff_iff, Qk]; simp [Prod.ext_iff]
theorem Qhy (e f : zq8) : (decide (e.1 = f.1) && (decide (e.2.1 = f.2.1) && (decide (e.2.2.1 = f.2.2.1) && (decide (e.2.2.2.1 = f.2.2.2.1) && (decide (e.2.2.2.2.1 = f.2.2.2.2.1) && (decide (e.2.2.2.2.2.1 = f.2.2.2.2.2.1) && (decide (e.2.2.2.2.2.2 = f.2.2.2.2.2.2) && true))))))) = eqD e f := by
 rw [Bool.eq_iff_iff, Qk]; simp [Prod.ext_iff]
theorem Qlc (e f : Int × (Int × (Int × (Int × Int)))) : (decide (e.1 = f.1) && (decide (e.2.1 = f.2.1) && (decide (e.2.2.1 = f.2.2.1) && (decide (e.2.2.2.1 = f.2.2.2.1) && (decide (e.2.2.2.2 = f.2.2.2.2) && true))))) = eqD e f := by
 rw [Bool.eq_iff_iff, Qk]; simp [Prod.ext_iff]
theorem Qcm {a b : List (Int × Int)} (ha : LB a.length) (k : Bool → Option β) : zq2e a b k = k (eqD a b) := by
 unfold zq2e
 rw [Q2]
 unfold zq2d
 by_cases h : (a.length : Int) = (b.length : Int)
 ·refine (Q2z h).trans ?_
  unfold zq2b
  rw [Q2]
  refine (Q11 (a := a) (b := b) (fun m i => zq29 m (fun t => k t) (fun _ => k true) a b i) (k false) (k true) (0, 0) (by omega) fuel (Qn (by omega)) (fun m i hi => ?_) (fun m => ?_)).trans (by cases eqD a b <;> rfl)
  ·simp only [zq2a, zq28]
   refine (Q1k (by omega)).trans ?_
   refine (Qo (by omega)).trans ?_
   refine (Qo (by omega)).trans ?_
   rw [Int.toNat_natCast, i64_in ((i : Int) + 1) (by omega), Qab]
   cases eqD (a.getD i (0, 0)) (b.getD i (0, 0)) <;> rfl
  ·simp only [zq2a, zq28]
   exact Q1o (by omega)
 ·refine (Q2j h).trans ?_
  rw [Q3f h]
theorem Qlz {a b : zqa} (ha : LB a.2.2.length) (k : Bool → Option β) : zq21 a b k = k (eqD a b) := by
 unfold zq21
 rw [Q2]
 unfold zq20
 have hfin : (decide (a.1 = b.1) && (decide (a.2.1 = b.2.1) && (decide ((a.2.2.length : Int) = (b.2.2.length : Int)) && eqD a.2.2 b.2.2))) = eqD a b := by
  rw [Bool.eq_iff_iff, Qk]
  simp only [Bool.and_eq_true, decide_eq_true_eq, Qk]
  exact ⟨fun r => Prod.ext r.1 (Prod.ext r.2.1 r.2.2.2), fun r => by subst r; exact ⟨rfl, rfl, rfl, rfl⟩⟩
 refine (ch_n fun h1 => ch_n fun h2 => ch_n (R := eqD a.2.2 b.2.2) fun h => ?_).trans (k_eq hfin)
 unfold zq1y
 rw [Q2]
 refine (Q11 (a := a.2.2) (b := b.2.2) (fun m i => zq1w m (fun t => k t) (fun _ => k true) i a b) (k false) (k true) (0, 0, 0, 0, 0, 0, 0) (by omega) fuel (Qn (by omega)) (fun m i hi => ?_) (fun m => ?_)).trans (by cases eqD a.2.2 b.2.2 <;> rfl)
 ·simp only [zq1x, zq1v]
  refine (Q1k (by omega)).trans ?_
  refine (Qo (by omega)).trans ?_
  refine (Qo (by omega)).trans ?_
  rw [Int.toNat_natCast, i64_in ((i : Int) + 1) (by omega), Qhy]
  cases eqD (a.2.2.getD i (0, 0, 0, 0, 0, 0, 0)) (b.2.2.getD i (0, 0, 0, 0, 0, 0, 0)) <;> rfl
 ·simp only [zq1x, zq1v]
  exact Q1o (by omega)
theorem Qku {a b : zq2} (ha : SmallL a) (k : Bool → Option β) : zq5d a b k = k (eqD a b) := by
 unfold zq5d
 rw [Q2]
 unfold zq5c
 refine (ch_p fun h1 => ch_p fun h2 => ch_b (ch_p fun h4 => ch_p fun h5 => (Qhx ha.m _).trans (ch_b ((Qcm ha.w _).trans (ch_b (ch_p fun h8 => k_eq (y := decide (a.2.2.2.2.2.2.2.2 = b.2.2.2.2.2.2.2.2)) rfl)))))).trans (k_eq ?_)
 rw [Bool.eq_iff_iff, Qk, Qab]
 simp only [Bool.and_eq_true, decide_eq_true_eq, Qk]
 constructor
 ·rintro ⟨r1, r2, r3, r4, r5, r6, r7, r8, r9⟩
  exact Prod.ext r1 (Prod.ext r2 (Prod.ext r3 (Prod.ext r4 (Prod.ext r5 (Prod.ext r6 (Prod.ext r7 (Prod.ext r8 r9)))))))
 ·intro r
  subst r
  exact ⟨rfl, rfl, rfl, rfl, rfl, rfl, rfl, rfl, rfl⟩
theorem Qh6 {a b : zq4} (ha : SmallS a) (k : Bool → Option β) : zqd6 a b k = k (eqD a b) := by
 have g1 := ha.l
 have g2 := ha.e
 unfold zqd6
 rw [Q2]
 unfold zqd5
 have hfin : (decide (a.1 = b.1) && (decide ((a.2.1.length : Int) = (b.2.1.length : Int)) && (decide ((a.2.2.length : Int) = (b.2.2.length : Int)) && (eqD a.2.1 b.2.1 && eqD a.2.2 b.2.2)))) = eqD a b := by
  rw [Bool.eq_iff_iff, Qk]
  simp only [Bool.and_eq_true, decide_eq_true_eq, Qk]
  exact ⟨fun r => Prod.ext r.1 (Prod.ext r.2.2.2.1 r.2.2.2.2), fun r => by subst r; exact ⟨rfl, rfl, rfl, rfl, rfl⟩⟩
 refine (ch_n fun h1 => ch_n fun h2 => ch_n (R := eqD a.2.1 b.2.1 && eqD a.2.2 b.2.2) fun h3 => ?_).trans (k_eq hfin)
 have he : zqd3 (fun t => k t) (fun _ => k true) 0 a b = k (eqD a.2.2 b.2.2) := by
  unfold zqd3
  rw [Q2]
  refine (Q11 (a := a.2.2) (b := b.2.2) (fun m i => zqd1 m (fun t => k t) (fun _ => k true) i a b) (k false) (k true) (0, 0, 0, 0, 0) (by omega) fuel (Qn (by omega)) (fun m i hi => ?_) (fun m => ?_)).trans (by cases eqD a.2.2 b.2.2 <;> rfl)
  ·simp only [zqd2, zqd0]
   refine (Q1k (by omega)).trans ?_
   refine (Qo (by omega)).trans ?_
   refine (Qo (by omega)).trans ?_
   rw [Int.toNat_natCast, i64_in ((i : Int) + 1) (by omega), Qlc]
   cases eqD (a.2.2.getD i (0, 0, 0, 0, 0)) (b.2.2.getD i (0, 0, 0, 0, 0)) <;> rfl
  ·simp only [zqd2, zqd0]
   exact Q1o (by omega)
 unfold zqcy
 rw [Q2]
 refine (Q11 (a := a.2.1) (b := b.2.1) (fun m i => zqcw m (fun t => k t) (fun a b => zqd3 (fun t => k t) (fun _ => k true) 0 a b) i a b) (k false) (k (eqD a.2.2 b.2.2)) zqt (by omega) fuel (Qn (by omega)) (fun m i hi => ?_) (fun m => ?_)).trans ?_
 ·simp only [zqcx, zqcv]
  refine (Q1k (by omega)).trans ?_
  refine (Qo (by omega)).trans ?_
  refine (Qo (by omega)).trans ?_
  rw [Int.toNat_natCast, i64_in ((i : Int) + 1) (by omega)]
  refine (Qku (ha.ls _ (Q31 (d := zqt) hi)) _).trans ?_
  cases eqD (a.2.1.getD i zqt) (b.2.1.getD i zqt) <;> rfl
 ·simp only [zqcx, zqcv]
  refine (Q1o (by omega)).trans ?_
  exact he
 ·exact ch_b rfl
theorem eqb (a b : Bool) : (a == b) = decide (a = b) := by cases a <;> cases b <;> rfl
theorem Qm0 {a b : zqg} (ha : SmallC a) (k : Bool → Option β) : zqih a b k = k (eqD a b) := by
 have g1 := ha.lz
 have g2 := ha.lp
 have g3 := ha.lc
 have g4 := ha.ls
 unfold zqih
 rw [Q2]
 unfold zqig
 have hfin : (decide ((a.1.length : Int) = (b.1.length : Int)) && (decide ((a.2.1.length : Int) = (b.2.1.length : Int)) && (decide ((a.2.2.1.length : Int) = (b.2.2.1.length : Int)) && (decide ((a.2.2.2.length : Int) = (b.2.2.2.length : Int)) && (eqD a.1 b.1 && (eqD a.2.1 b.2.1 && (eqD a.2.2.1 b.2.2.1 && eqD a.2.2.2 b.2.2.2))))))) = eqD a b := by
  rw [Bool.eq_iff_iff, Qk]
  simp only [Bool.and_eq_true, decide_eq_true_eq, Qk]
  exact ⟨fun r => Prod.ext r.2.2.2.2.1 (Prod.ext r.2.2.2.2.2.1 (Prod.ext r.2.2.2.2.2.2.1 r.2.2.2.2.2.2.2)), fun r => by subst r; exact ⟨rfl, rfl, rfl, rfl, rfl, rfl, rfl, rfl⟩⟩
 refine (ch_n fun h1 => ch_n fun h2 => ch_n fun h3 => ch_n (R := eqD a.1 b.1 && (eqD a.2.1 b.2.1 && (eqD a.2.2.1 b.2.2.1 && eqD a.2.2.2 b.2.2.2))) fun h4 => ?_).trans (k_eq hfin)
 have e4 : zqie (fun t => k t) (fun _ => k true) 0 a b = k (eqD a.2.2.2 b.2.2.2) := by
  unfold zqie
  rw [Q2]
  refine (Q11 (a := a.2.2.2) (b := b.2.2.2) (fun m i => zqic m (fun t => k t) (fun _ => k true) i a b) (k false) (k true) zqq (by omega) fuel (Qn (by omega)) (fun m i hi => ?_) (fun m => ?_)).trans (by cases eqD a.2.2.2 b.2.2.2 <;> rfl)
  ·simp only [zqid, zqib]
   refine (Q1k (by omega)).trans ?_
   refine (Qo (by omega)).trans ?_
   refine (Qo (by omega)).trans ?_
   rw [Int.toNat_natCast, i64_in ((i : Int) + 1) (by omega)]
   refine (Qh6 (ha.ss _ (Q31 (d := zqq) hi)) _).trans ?_
   cases eqD (a.2.2.2.getD i zqq) (b.2.2.2.getD i zqq) <;> rfl
  ·simp only [zqid, zqib]
   exact Q1o (by omega)
 have e3 : zqi9 (fun t => k t) (fun a b => zqie (fun t => k t) (fun _ => k true) 0 a b) 0 a b = k (eqD a.2.2.1 b.2.2.1 && eqD a.2.2.2 b.2.2.2) := by
  unfold zqi9
  rw [Q2]
  refine (Q11 (a := a.2.2.1) (b := b.2.2.1) (fun m i => zqi7 m (fun t => k t) (fun a b => zqie (fun t => k t) (fun _ => k true) 0 a b) i a b) (k false) (k (eqD a.2.2.2 b.2.2.2)) zqm (by omega) fuel (Qn (by omega)) (fun m i hi => ?_) (fun m => ?_)).trans (ch_b rfl)
  ·simp only [zqi8, zqi6]
   refine (Q1k (by omega)).trans ?_
   refine (Qo (by omega)).trans ?_
   refine (Qo (by omega)).trans ?_
   rw [Int.toNat_natCast, i64_in ((i : Int) + 1) (by omega)]
   have hx := ha.cs _ (Q31 (d := zqm) hi)
   show _ = cond (eqD (a.2.2.1.getD i zqm) (b.2.2.1.getD i zqm)) _ _
   generalize a.2.2.1.getD i zqm = x at hx
   generalize b.2.2.1.getD i zqm = y
   rw [show eqD x y = (decide (x.1 = y.1) && (decide (x.2.1 = y.2.1) && eqD x.2.2 y.2.2)) by rw [Bool.eq_iff_iff, Qk]; simp [Prod.ext_iff, Qk]]
   cases decide (x.1 = y.1) with
   | false => rfl
   | true =>
    cases decide (x.2.1 = y.2.1) with
    | false => rfl
    | true =>
     refine (Qhx hx _).trans ?_
     cases eqD x.2.2 y.2.2 <;> rfl
  ·simp only [zqi8, zqi6]
   exact (Q1o (by omega)).trans e4
 have e2 : zqi4 (fun t => k t) (fun a b => zqi9 (fun t => k t) (fun a b => zqie (fun t => k t) (fun _ => k true) 0 a b) 0 a b) 0 a b = k (eqD a.2.1 b.2.1 && (eqD a.2.2.1 b.2.2.1 && eqD a.2.2.2 b.2.2.2)) := by
  unfold zqi4
  rw [Q2]
  refine (Q11 (a := a.2.1) (b := b.2.1) (fun m i => zqi2 m (fun t => k t) (fun a b => zqi9 (fun t => k t) (fun a b => zqie (fun t => k t) (fun _ => k true) 0 a b) 0 a b) i a b) (k false) (k (eqD a.2.2.1 b.2.2.1 && eqD a.2.2.2 b.2.2.2)) zqp (by omega) fuel (Qn (by omega)) (fun m i hi => ?_) (fun m => ?_)).trans (ch_b rfl)
  ·simp only [zqi3, zqi1]
   refine (Q1k (by omega)).trans ?_
   refine (Qo (by omega)).trans ?_
   refine (Qo (by omega)).trans ?_
   rw [Int.toNat_natCast, i64_in ((i : Int) + 1) (by omega)]
   have hx := ha.ps _ (Q31 (d := zqp) hi)
   show _ = cond (eqD (a.2.1.getD i zqp) (b.2.1.getD i zqp)) _ _
   generalize a.2.1.getD i zqp = x at hx
   generalize b.2.1.getD i zqp = y
   rw [show eqD x y = (decide (x.1 = y.1) && (decide (x.2.1 = y.2.1) && (eqD x.2.2.1 y.2.2.1 && (decide (x.2.2.2.1 = y.2.2.2.1) && (decide (x.2.2.2.2.1 = y.2.2.2.2.1) && decide (x.2.2.2.2.2 = y.2.2.2.2.2)))))) by rw [Bool.eq_iff_iff, Qk]; simp [Prod.ext_iff, Qk]]
   cases decide (x.1 = y.1) with
   | false => rfl
   | true =>
    cases decide (x.2.1 = y.2.1) with
    | false => rfl
    | true =>
     refine (Qcm hx _).trans ?_
     rw [eqb]
     cases eqD x.2.2.1 y.2.2.1 <;> cases decide (x.2.2.2.1 = y.2.2.2.1) <;> cases decide (x.2.2.2.2.1 = y.2.2.2.2.1) <;> cases decide (x.2.2.2.2.2 = y.2.2.2.2.2) <;> rfl
  ·simp only [zqi3, zqi1]
   exact (Q1o (by omega)).trans e3
 unfold zqhz
 rw [Q2]
 refine (Q11 (a := a.1) (b := b.1) (fun m i => zqhx m (fun t => k t) (fun a b => zqi4 (fun t => k t) (fun a b => zqi9 (fun t => k t) (fun a b => zqie (fun t => k t) (fun _ => k true) 0 a b) 0 a b) 0 a b) i a b) (k false) (k (eqD a.2.1 b.2.1 && (eqD a.2.2.1 b.2.2.1 && eqD a.2.2.2 b.2.2.2))) zqn (by omega) fuel (Qn (by omega)) (fun m i hi => ?_) (fun m => ?_)).trans (ch_b rfl)
 ·simp only [zqhy, zqhw]
  refine (Q1k (by omega)).trans ?_
  refine (Qo (by omega)).trans ?_
  refine (Qo (by omega)).trans ?_
  rw [Int.toNat_natCast, i64_in ((i : Int) + 1) (by omega)]
  refine (Qlz (ha.zs _ (Q31 (d := zqn) hi)) _).trans ?_
  show cond (!eqD (a.1.getD i zqn) (b.1.getD i zqn)) _ _ = cond (eqD (a.1.getD i zqn) (b.1.getD i zqn)) _ _
  cases eqD (a.1.getD i zqn) (b.1.getD i zqn) <;> rfl
 ·simp only [zqhy, zqhw]
  exact (Q1o (by omega)).trans e2
end
end
end Go.Lift
namespace Go.Lift
open Go.RowKit Go.IntWalk
noncomputable section
variable [Sl]
set_option linter.unusedSectionVars false
set_option linter.unusedVariables false
set_option linter.unusedSimpArgs false
set_option maxRecDepth 10000
section
variable {β : Type}
theorem Qm1 {a b : List zq8} (ha : LB a.length) (k : Bool → Option β) : zq42 a b k = k (eqD a b) := by
 unfold zq42
 rw [Q2]
 unfold zq41
 by_cases h : (a.length : Int) = (b.length : Int)
 ·refine (Q2z h).trans ?_
  unfold zq3z
  rw [Q2]
  refine (Q11 (a := a) (b := b) (fun m i => zq3x m (fun t => k t) (fun _ => k true) a b (a.length : Int) i) (k false) (k true) (0, 0, 0, 0, 0, 0, 0) (by omega) fuel (Qn (by omega)) (fun m i hi => ?_) (fun m => ?_)).trans (by cases eqD a b <;> rfl)
  ·simp only [zq3y, zq3w]
   refine (Q1k (by omega)).trans ?_
   refine (Qo (by omega)).trans ?_
   refine (Qo (by omega)).trans ?_
   rw [Int.toNat_natCast, i64_in ((i : Int) + 1) (by omega), Qhy]
   cases eqD (a.getD i (0, 0, 0, 0, 0, 0, 0)) (b.getD i (0, 0, 0, 0, 0, 0, 0)) <;> rfl
  ·simp only [zq3y, zq3w]
   exact Q1o (by omega)
 ·refine (Q2j h).trans ?_
  rw [Q3f h]
theorem Qe6 {a b : List (Int × Int)} (ha : LB a.length) (k : Bool → Option β) : zq4f a b k = k (eqD a b) := by
 unfold zq4f
 rw [Q2]
 unfold zq4e
 by_cases h : (a.length : Int) = (b.length : Int)
 ·refine (Q2z h).trans ?_
  unfold zq4c
  rw [Q2]
  refine (Q11 (a := a) (b := b) (fun m i => zq4a m (fun t => k t) (fun _ => k true) a b (a.length : Int) i) (k false) (k true) (0, 0) (by omega) fuel (Qn (by omega)) (fun m i hi => ?_) (fun m => ?_)).trans (by cases eqD a b <;> rfl)
  ·simp only [zq4b, zq49]
   refine (Q1k (by omega)).trans ?_
   refine (Qo (by omega)).trans ?_
   refine (Qo (by omega)).trans ?_
   rw [Int.toNat_natCast, i64_in ((i : Int) + 1) (by omega), Qab]
   cases eqD (a.getD i (0, 0)) (b.getD i (0, 0)) <;> rfl
  ·simp only [zq4b, zq49]
   exact Q1o (by omega)
 ·refine (Q2j h).trans ?_
  rw [Q3f h]
theorem Qk7 {a b : List Int} (ha : LB a.length) (k : Bool → Option β) : zq4s a b k = k (eqD a b) := by
 unfold zq4s
 rw [Q2]
 unfold zq4r
 by_cases h : (a.length : Int) = (b.length : Int)
 ·refine (Q2z h).trans ?_
  unfold zq4p
  rw [Q2]
  refine (Q11 (a := a) (b := b) (fun m i => zq4n m (fun t => k t) (fun _ => k true) a b (a.length : Int) i) (k false) (k true) 0 (by omega) fuel (Qn (by omega)) (fun m i hi => ?_) (fun m => ?_)).trans (by cases eqD a b <;> rfl)
  ·simp only [zq4o, zq4m]
   refine (Q1k (by omega)).trans ?_
   refine (Qo (by omega)).trans ?_
   refine (Qo (by omega)).trans ?_
   rw [Int.toNat_natCast, i64_in ((i : Int) + 1) (by omega), Qhw]
   cases eqD (a.getD i 0) (b.getD i 0) <;> rfl
  ·simp only [zq4o, zq4m]
   exact Q1o (by omega)
 ·refine (Q2j h).trans ?_
  rw [Q3f h]
theorem Qm2 {a b : List (Int × (Int × (Int × (Int × Int))))} (ha : LB a.length) (k : Bool → Option β) : zq59 a b k = k (eqD a b) := by
 unfold zq59
 rw [Q2]
 unfold zq58
 by_cases h : (a.length : Int) = (b.length : Int)
 ·refine (Q2z h).trans ?_
  unfold zq56
  rw [Q2]
  refine (Q11 (a := a) (b := b) (fun m i => zq54 m (fun t => k t) (fun _ => k true) a b (a.length : Int) i) (k false) (k true) (0, 0, 0, 0, 0) (by omega) fuel (Qn (by omega)) (fun m i hi => ?_) (fun m => ?_)).trans (by cases eqD a b <;> rfl)
  ·simp only [zq55, zq53]
   refine (Q1k (by omega)).trans ?_
   refine (Qo (by omega)).trans ?_
   refine (Qo (by omega)).trans ?_
   rw [Int.toNat_natCast, i64_in ((i : Int) + 1) (by omega), Qlc]
   cases eqD (a.getD i (0, 0, 0, 0, 0)) (b.getD i (0, 0, 0, 0, 0)) <;> rfl
  ·simp only [zq55, zq53]
   exact Q1o (by omega)
 ·refine (Q2j h).trans ?_
  rw [Q3f h]
theorem Qmm {a b : zqa} (ha : LB a.2.2.length) (k : Bool → Option β) : zqcb a b k = k (eqD a b) := by
 unfold zqcb
 rw [Q2]
 unfold zqca
 refine (ch_p fun _ => ch_p fun _ => Qm1 ha _).trans (k_eq ?_)
 rw [Bool.eq_iff_iff, Qk]; simp [Prod.ext_iff, Qk]
theorem Qkv {a b : zqe} (ha : LB a.2.2.1.length) (k : Bool → Option β) : zqcf a b k = k (eqD a b) := by
 unfold zqcf
 rw [Q2]
 unfold zqce
 refine (ch_p fun _ => ch_p fun _ => (Qe6 ha _).trans (ch_b (ch_p fun _ => ch_p fun _ => k_eq (y := a.2.2.2.2.2 == b.2.2.2.2.2) rfl))).trans (k_eq ?_)
 rw [Bool.eq_iff_iff, Qk, eqb]; simp [Prod.ext_iff, Qk]
theorem Qis {a b : zq0} (ha : LB a.2.2.length) (k : Bool → Option β) : zqcj a b k = k (eqD a b) := by
 unfold zqcj
 rw [Q2]
 unfold zqci
 refine (ch_p fun _ => ch_p fun _ => Qk7 ha _).trans (k_eq ?_)
 rw [Bool.eq_iff_iff, Qk]; simp [Prod.ext_iff, Qk]
theorem Qm3 {a b : zq2} (ha : SmallL a) (k : Bool → Option β) : zq4w a b k = k (eqD a b) := by
 unfold zq4w
 rw [Q2]
 unfold zq4v
 refine (ch_p fun h1 => ch_p fun h2 => ch_b (ch_p fun h4 => ch_p fun h5 => (Qk7 ha.m _).trans (ch_b ((Qe6 ha.w _).trans (ch_b (ch_p fun h8 => k_eq (y := decide (a.2.2.2.2.2.2.2.2 = b.2.2.2.2.2.2.2.2)) rfl)))))).trans (k_eq ?_)
 rw [Bool.eq_iff_iff, Qk, Qab]
 simp only [Bool.and_eq_true, decide_eq_true_eq, Qk]
 constructor
 ·rintro ⟨r1, r2, r3, r4, r5, r6, r7, r8, r9⟩
  exact Prod.ext r1 (Prod.ext r2 (Prod.ext r3 (Prod.ext r4 (Prod.ext r5 (Prod.ext r6 (Prod.ext r7 (Prod.ext r8 r9)))))))
 ·intro r
  subst r
  exact ⟨rfl, rfl, rfl, rfl, rfl, rfl, rfl, rfl, rfl⟩
theorem Qkw {a b : List zq2} (ha : LB a.length) (hs : ∀ x ∈ a, SmallL x) (k : Bool → Option β) : zqfy a b k = k (eqD a b) := by
 unfold zqfy
 rw [Q2]
 unfold zqfx
 by_cases h : (a.length : Int) = (b.length : Int)
 ·refine (Q2z h).trans ?_
  unfold zqfv
  rw [Q2]
  refine (Q11 (a := a) (b := b) (fun m i => zqft m (fun t => k t) (fun _ => k true) b a (a.length : Int) i) (k false) (k true) zqt (by omega) fuel (Qn (by omega)) (fun m i hi => ?_) (fun m => ?_)).trans (by cases eqD a b <;> rfl)
  ·simp only [zqfu, zqfs]
   refine (Q1k (by omega)).trans ?_
   refine (Qo (by omega)).trans ?_
   refine (Qo (by omega)).trans ?_
   rw [Int.toNat_natCast, i64_in ((i : Int) + 1) (by omega)]
   refine (Qm3 (hs _ (Q31 (d := zqt) hi)) _).trans ?_
   show cond (!eqD (a.getD i zqt) (b.getD i zqt)) _ _ = _
   cases eqD (a.getD i zqt) (b.getD i zqt) <;> rfl
  ·simp only [zqfu, zqfs]
   exact Q1o (by omega)
 ·refine (Q2j h).trans ?_
  rw [Q3f h]
theorem Qit {a b : zq4} (ha : SmallS a) (k : Bool → Option β) : zqil a b k = k (eqD a b) := by
 unfold zqil
 rw [Q2]
 unfold zqik
 refine (ch_p fun _ => (Qkw ha.l ha.ls _).trans (ch_b (Qm2 ha.e _))).trans (k_eq ?_)
 rw [Bool.eq_iff_iff, Qk]; simp [Prod.ext_iff, Qk]
theorem Qm4 {a b : List zqa} (ha : LB a.length) (hs : ∀ x ∈ a, (fun x : zqa => LB x.2.2.length) x) (k : Bool → Option β) : zqfk a b k = k (eqD a b) := by
 unfold zqfk
 rw [Q2]
 unfold zqfj
 by_cases h : (a.length : Int) = (b.length : Int)
 ·refine (Q2z h).trans ?_
  unfold zqfh
  rw [Q2]
  refine (Q11 (a := a) (b := b) (fun m i => zqff m (fun t => k t) (fun _ => k true) b a (a.length : Int) i) (k false) (k true) zqn (by omega) fuel (Qn (by omega)) (fun m i hi => ?_) (fun m => ?_)).trans (by cases eqD a b <;> rfl)
  ·simp only [zqfg, zqfe]
   refine (Q1k (by omega)).trans ?_
   refine (Qo (by omega)).trans ?_
   refine (Qo (by omega)).trans ?_
   rw [Int.toNat_natCast, i64_in ((i : Int) + 1) (by omega)]
   refine (Qmm (hs _ (Q31 (d := zqn) hi)) _).trans ?_
   show cond (!eqD (a.getD i zqn) (b.getD i zqn)) _ _ = _
   cases eqD (a.getD i zqn) (b.getD i zqn) <;> rfl
  ·simp only [zqfg, zqfe]
   exact Q1o (by omega)
 ·refine (Q2j h).trans ?_
  rw [Q3f h]
theorem Qkx {a b : List zqe} (ha : LB a.length) (hs : ∀ x ∈ a, (fun x : zqe => LB x.2.2.1.length) x) (k : Bool → Option β) : zqlx a b k = k (eqD a b) := by
 unfold zqlx
 rw [Q2]
 unfold zqlw
 by_cases h : (a.length : Int) = (b.length : Int)
 ·refine (Q2z h).trans ?_
  unfold zqlu
  rw [Q2]
  refine (Q11 (a := a) (b := b) (fun m i => zqls m (fun t => k t) (fun _ => k true) b a (a.length : Int) i) (k false) (k true) zqp (by omega) fuel (Qn (by omega)) (fun m i hi => ?_) (fun m => ?_)).trans (by cases eqD a b <;> rfl)
  ·simp only [zqlt, zqlr]
   refine (Q1k (by omega)).trans ?_
   refine (Qo (by omega)).trans ?_
   refine (Qo (by omega)).trans ?_
   rw [Int.toNat_natCast, i64_in ((i : Int) + 1) (by omega)]
   refine (Qkv (hs _ (Q31 (d := zqp) hi)) _).trans ?_
   show cond (!eqD (a.getD i zqp) (b.getD i zqp)) _ _ = _
   cases eqD (a.getD i zqp) (b.getD i zqp) <;> rfl
  ·simp only [zqlt, zqlr]
   exact Q1o (by omega)
 ·refine (Q2j h).trans ?_
  rw [Q3f h]
theorem Qmn {a b : List zq0} (ha : LB a.length) (hs : ∀ x ∈ a, (fun x : zq0 => LB x.2.2.length) x) (k : Bool → Option β) : zqop a b k = k (eqD a b) := by
 unfold zqop
 rw [Q2]
 unfold zqoo
 by_cases h : (a.length : Int) = (b.length : Int)
 ·refine (Q2z h).trans ?_
  unfold zqom
  rw [Q2]
  refine (Q11 (a := a) (b := b) (fun m i => zqok m (fun t => k t) (fun _ => k true) b a (a.length : Int) i) (k false) (k true) zqm (by omega) fuel (Qn (by omega)) (fun m i hi => ?_) (fun m => ?_)).trans (by cases eqD a b <;> rfl)
  ·simp only [zqol, zqoj]
   refine (Q1k (by omega)).trans ?_
   refine (Qo (by omega)).trans ?_
   refine (Qo (by omega)).trans ?_
   rw [Int.toNat_natCast, i64_in ((i : Int) + 1) (by omega)]
   refine (Qis (hs _ (Q31 (d := zqm) hi)) _).trans ?_
   show cond (!eqD (a.getD i zqm) (b.getD i zqm)) _ _ = _
   cases eqD (a.getD i zqm) (b.getD i zqm) <;> rfl
  ·simp only [zqol, zqoj]
   exact Q1o (by omega)
 ·refine (Q2j h).trans ?_
  rw [Q3f h]
theorem Qky {a b : List zq4} (ha : LB a.length) (hs : ∀ x ∈ a, SmallS x) (k : Bool → Option β) : zqqz a b k = k (eqD a b) := by
 unfold zqqz
 rw [Q2]
 unfold zqqy
 by_cases h : (a.length : Int) = (b.length : Int)
 ·refine (Q2z h).trans ?_
  unfold zqqw
  rw [Q2]
  refine (Q11 (a := a) (b := b) (fun m i => zqqu m (fun t => k t) (fun _ => k true) b a (a.length : Int) i) (k false) (k true) zqq (by omega) fuel (Qn (by omega)) (fun m i hi => ?_) (fun m => ?_)).trans (by cases eqD a b <;> rfl)
  ·simp only [zqqv, zqqt]
   refine (Q1k (by omega)).trans ?_
   refine (Qo (by omega)).trans ?_
   refine (Qo (by omega)).trans ?_
   rw [Int.toNat_natCast, i64_in ((i : Int) + 1) (by omega)]
   refine (Qit (hs _ (Q31 (d := zqq) hi)) _).trans ?_
   show cond (!eqD (a.getD i zqq) (b.getD i zqq)) _ _ = _
   cases eqD (a.getD i zqq) (b.getD i zqq) <;> rfl
  ·simp only [zqqv, zqqt]
   exact Q1o (by omega)
 ·refine (Q2j h).trans ?_
  rw [Q3f h]
theorem Qmo {a b : zqg} (ha : SmallC a) (k : Bool → Option β) : zqr3 a b k = k (eqD a b) := by
 unfold zqr3
 rw [Q2]
 unfold zqr2
 refine ((Qm4 ha.lz ha.zs _).trans (ch_b ((Qkx ha.lp ha.ps _).trans (ch_b ((Qmn ha.lc ha.cs _).trans (ch_b (Qky ha.ls ha.ss _))))))).trans (k_eq ?_)
 rw [Bool.eq_iff_iff, Qk]; simp [Prod.ext_iff, Qk]
end
end
end Go.Lift
namespace Go.Lift
open Go.RowKit Go.IntWalk
noncomputable section
variable [Sl]
set_option linter.unusedSectionVars false
set_option linter.unusedVariables false
set_option linter.unusedSimpArgs false
set_option maxRecDepth 10000
theorem Q7l {α : Type} {Q : α → Prop} {l : List α} {i : Nat} {x : α} (h : ∀ y ∈ l, Q y) (hx : Q x) : ∀ y ∈ l.set i x, Q y := by
 intro y hy
 rcases List.mem_or_eq_of_mem_set hy with g | g
 ·exact h y g
 ·exact g ▸ hx
theorem Q2n {z : List zqa} {p : List zqe} {c : List zq0} {s : List zq4} (h : SmallC (z, p, c, s)) {j j2 : Nat} {l : zq2} (hj : j < s.length) (hl : SmallL l) :
  SmallC (z, p, c, s.set j ((s.getD j zqq).1, ((s.getD j zqq).2.1.set j2 l, (s.getD j zqq).2.2))) := by
 have hs := h.ss _ (Q1z (d := zqq) hj)
 exact { h with ls := by show LB (List.length (s.set _ _)); rw [List.length_set]; exact h.ls, ss := Q7l h.ss ⟨by show LB (List.length (List.set _ _ _)); rw [List.length_set]; exact hs.l, hs.e, Q7l hs.ls hl⟩ }
theorem Qkz {z : List zqa} {p : List zqe} {c : List zq0} {s : List zq4} (h : SmallC (z, p, c, s)) {j : Nat} {x : Ed} (hj : j < s.length) (he : (s.getD j zqq).2.2.length ≤ 1000) :
  SmallC (z, p, c, s.set j ((s.getD j zqq).1, ((s.getD j zqq).2.1, (s.getD j zqq).2.2 ++ [x]))) := by
 have hs := h.ss _ (Q1z (d := zqq) hj)
 exact { h with ls := by show LB (List.length (s.set _ _)); rw [List.length_set]; exact h.ls, ss := Q7l h.ss ⟨hs.l, by show LB (List.length (_ ++ [x])); rw [List.length_append, List.length_singleton]; omega, hs.ls⟩ }
structure DiceC (c : zqg) : Prop where
 sm : SmallC c
 dz : 1 ≤ c.1.length ∧ c.1.length ≤ 8
 dp : 1 ≤ c.2.1.length ∧ c.2.1.length ≤ 8
 dc : c.2.2.1.length ≤ 8
 ds : 1 ≤ c.2.2.2.length ∧ c.2.2.2.length ≤ 8
 e : ∀ x ∈ c.2.2.2, x.2.2.length ≤ 1000
 l : ∀ x ∈ c.2.2.2, x.2.1.length ≤ 1000
section
variable {β : Type} {G : Option β → Prop}
theorem Qmp {z : List zqa} {p : List zqe} {c : List zq0} {s : List zq4} (h : DiceC (z, p, c, s)) {j : Nat} {d : Dice} {t4 : zqg} {x : Ed} {k : zqgy β} (hj : j < s.length)
  (hk : ∀ s', SmallC (z, p, c, s') → G (k d t4 z p c s')) : G (zqh6 k j d t4 z p c s x) := by
 unfold zqh6
 rw [Q2]
 unfold zqh5
 have he : (s.getD j zqq).2.2.length ≤ 1000 := h.e _ (Q1z (d := zqq) hj)
 refine w_e ((congrArg (fun b => cond b _ none) (Bool.true_and _)).trans (Q4g (show (_ + 1) * 40 ≤ _ by omega))) ?_
 refine w_e (c_b (by simp)) ?_
 exact hk _ (Qkz h.sm hj he)
theorem Qmq {z : List zqa} {p : List zqe} {c : List zq0} {s : List zq4} (h : DiceC (z, p, c, s)) {b : Bool} {d : Dice} {t4 : zqg} {k1 : zqh1 β} {k2 : zqh2 β} (hd : Qc d)
  (h1 : ∀ d' s', Qc d' → SmallC (z, p, c, s') → G (k1 d' t4 z p c s')) (h2 : ∀ d' s', Qc d' → SmallC (z, p, c, s') → G (k2 d' t4 z p c s')) : G (zqh9 k1 k2 b d t4 z p c s) := by
 have hs := h.ds
 have hs8 : 1 ≤ s.length ∧ s.length ≤ 8 := hs
 unfold zqh9
 rw [Q2]
 unfold zqh8
 refine w_c (fun _ => ?_) (fun _ => ?_)
 ·refine Qd hd ⟨by omega, by omega⟩ fun x d1 g1 g2 hd1 => ?_
  refine w_i ⟨g1, g2⟩ ?_
  have hj : x.toNat < s.length := by omega
  have hS := h.sm.ss _ (Q1z (d := zqq) hj)
  refine w_d (fun _ => h1 _ _ hd1 h.sm) (fun hl => ?_)
  have hL : (s.getD x.toNat zqq).2.1.length ≤ 1000 := h.l _ (Q1z (d := zqq) hj)
  have hl' : ¬ ((s.getD x.toNat zqq).2.1.length : Int) = 0 := hl
  refine Qd hd1 ⟨by omega, by omega⟩ fun y d2 g3 g4 hd2 => ?_
  refine w_i ⟨g3, g4⟩ ?_
  have hj2 : y.toNat < (s.getD x.toNat zqq).2.1.length := by omega
  have hY := hS.ls _ (Q1z (d := zqt) hj2)
  refine Qd hd2 ⟨by omega, by omega⟩ fun w d3 _ _ hd3 => ?_
  refine w_c (fun _ => ?_) (fun _ => ?_)
  ·exact Q10 hd3 (by decide) fun q d4 _ hd4 => h2 _ _ hd4 (Q2n h.sm hj ⟨hY.m, hY.w⟩)
  refine w_c (fun _ => ?_) (fun _ => ?_)
  ·exact Q10 hd3 (by decide) fun q d4 _ hd4 => h2 _ _ hd4 (Q2n h.sm hj ⟨hY.m, hY.w⟩)
  refine w_c (fun _ => ?_) (fun _ => ?_)
  ·exact h2 _ _ hd3 (Q2n h.sm hj ⟨Nat.zero_le _, hY.w⟩)
  refine w_c (fun _ => ?_) (fun _ => ?_)
  ·exact Q10 hd3 ⟨by simp, by simp⟩ fun q d4 _ hd4 => h2 _ _ hd4 (Q2n h.sm hj ⟨by show 1 ≤ 9223372036854775807; decide, hY.w⟩)
  refine w_c (fun _ => ?_) (fun _ => ?_)
  ·exact Q10 hd3 (by decide) fun q d4 _ hd4 => h2 _ _ hd4 (Q2n h.sm hj ⟨hY.m, hY.w⟩)
  refine w_c (fun _ => ?_) (fun _ => ?_)
  ·exact Q10 hd3 (by decide) fun q d4 _ hd4 => h2 _ _ hd4 (Q2n h.sm hj ⟨hY.m, hY.w⟩)
  refine w_c (fun _ => ?_) (fun _ => ?_)
  ·exact Q10 hd3 (by decide) fun q d4 _ hd4 => h2 _ _ hd4 (Q2n h.sm hj ⟨hY.m, hY.w⟩)
  refine w_c (fun _ => ?_) (fun _ => h2 _ _ hd3 h.sm)
  refine Qd hd3 ⟨by omega, by omega⟩ fun q d4 g5 g6 hd4 => ?_
  refine w_i ⟨g5, g6⟩ ?_
  exact h2 _ _ hd4 (Q2n h.sm hj ⟨hY.m, hY.w⟩)
 ·refine Qd hd ⟨by omega, by omega⟩ fun x d1 g1 g2 hd1 => ?_
  refine w_i ⟨g1, g2⟩ ?_
  have hj : x.toNat < s.length := by omega
  refine Qk1 hd1 h.dp fun e d2 hd2 _ => ?_
  refine Qd hd2 ⟨by omega, by omega⟩ fun y d3 g3 g4 hd3 => ?_
  have key : ∀ (x' : Ed) (d' : Dice), Qc d' → G (zqh6 (fun b0 t42 o1 o2 o3 b3 => k2 b0 t42 o1 o2 o3 b3) x.toNat d' t4 z p c s x') := fun x' d' hd' => Qmp h hj fun s' hs' => h2 _ _ hd' hs'
  refine w_c (fun _ => key _ _ hd3) (fun _ => ?_)
  refine w_c (fun _ => Q10 hd3 ⟨by simp, by simp⟩ fun q d4 _ hd4 => key _ _ hd4) (fun _ => ?_)
  refine w_c (fun _ => Q10 hd3 ⟨by simp, by simp⟩ fun q d4 _ hd4 => key _ _ hd4) (fun _ => ?_)
  refine w_c (fun _ => Q10 hd3 (by decide) fun q d4 _ hd4 => Q10 hd4 (by decide) fun q2 d5 _ hd5 => key _ _ hd5) (fun _ => ?_)
  exact w_c (fun _ => Q10 hd3 (by decide) fun q d4 _ hd4 => key _ _ hd4) (fun _ => key _ _ hd3)
theorem Qgf {l : List (Int × Int)} (h : Q35 l = 0) : l.length ≤ 14 := by
 unfold Q35 at h
 by_cases g : (14 : Int) < (l.length : Int)
 ·rw [decide_eq_true g] at h; cases h
 ·omega
theorem Qk8 {nz np nc : Int} {l : zq2} (h : Q4i nz np nc l = 0) : SmallL l := by
 unfold Q4i at h
 cases h1 : ixI l.2.1 nz with
 | false => rw [h1] at h; cases h
 | true =>
  rw [h1] at h
  simp only [Bool.not_true, cond_false] at h
  unfold l2V at h
  generalize (decide (l.2.2.1.1 < 1) || ((!dayI l.2.2.1.1) || ((!inI l.2.2.1.2 0 86399) || ((!inI l.2.2.2.1 0 2) || !inI l.2.2.2.2.1 1 400)))) = b at h
  cases b with
  | true => cases h
  | false =>
   simp only [cond_false] at h
   by_cases h2 : (l.2.2.2.2.2.1.length : Int) = 0
   ·rw [decide_eq_true h2] at h; cases h
   rw [decide_eq_false h2] at h
   by_cases h3 : (12 : Int) < (l.2.2.2.2.2.1.length : Int)
   ·rw [decide_eq_true h3] at h; cases h
   rw [decide_eq_false h3] at h
   simp only [cond_false] at h
   cases h4 : l.2.2.2.2.2.1.all fun m => ixI m np with
   | false => rw [h4] at h; cases h
   | true =>
    rw [h4] at h
    simp only [Bool.not_true, cond_false] at h
    by_cases h5 : Q35 l.2.2.2.2.2.2.1 = 0
    ·have := Qgf h5
     exact ⟨by show l.2.2.2.2.2.1.length ≤ _; omega, by show l.2.2.2.2.2.2.1.length ≤ _; omega⟩
    ·rw [decide_eq_false h5] at h; cases h
theorem Q9k {nz np nc : Int} {s : zq4} (h : Q7h nz np nc s = 0) : s.2.1.length ≤ 6 ∧ s.2.2.length ≤ 48 := by
 unfold Q7h at h
 by_cases h1 : (6 : Int) < (s.2.1.length : Int)
 ·rw [decide_eq_true h1] at h; cases h
 rw [decide_eq_false h1] at h
 by_cases h2 : (48 : Int) < (s.2.2.length : Int)
 ·rw [decide_eq_true h2] at h; cases h
 omega
end
end
end Go.Lift
namespace Go.Lift
open Go.RowKit Go.IntWalk
noncomputable section
variable [Sl]
set_option linter.unusedSectionVars false
set_option linter.unusedVariables false
set_option linter.unusedSimpArgs false
set_option maxRecDepth 10000
theorem Qe7 {α : Type} {of : α → List UInt8} {chk : α → Int} : ∀ {xs : List α} {j : Nat} {l : List (List UInt8)}, errV (walk (Q67 of chk) xs j l) = 0 → ∀ x ∈ xs, chk x = 0
 | [], _, _, _ => fun x hx => absurd hx List.not_mem_nil
 | y :: xs, j, l, h => by
  unfold walk Q67 at h
  by_cases h1 : Qck (of y) l = 0
  ·rw [decide_eq_true h1] at h
   by_cases h2 : chk y = 0
   ·rw [decide_eq_true h2] at h
    intro x hx
    rcases List.mem_cons.1 hx with e | hx
    ·rw [e]; exact h2
    ·exact Qe7 h x hx
   ·rw [decide_eq_false h2] at h
    exact absurd h h2
  ·rw [decide_eq_false h1] at h
   exact absurd h h1
theorem Qmr {c : zqg} (h : ConfOk c) (h1 : 1 ≤ c.1.length ∧ 1 ≤ c.2.1.length ∧ 1 ≤ c.2.2.2.length) : DiceC c := by
 have e1 : zNames.length = 2 := rfl
 have e2 : pNames.length = 8 := rfl
 have e3 : cNames.length = 1 := rfl
 have e4 : sNames.length = 3 := rfl
 have l1 := h.oz.1.1
 have l2 := h.op.1.1
 have l3 := h.oc.1.1
 have l4 := h.os.1.1
 have hq : ∀ x ∈ c.2.1, x.2.2.1.length ≤ 14 := by
  intro x hx
  have := h.op.2 x hx
  unfold Qa5 at this
  cases g1 : ixI x.2.1 (c.1.length : Int) with
  | false => rw [g1] at this; cases this
  | true =>
   rw [g1] at this
   simp only [Bool.not_true, cond_false] at this
   by_cases g2 : Q35 x.2.2.1 = 0
   ·exact Qgf g2
   ·rw [decide_eq_false g2] at this; cases this
 have hd : ∀ x ∈ c.2.2.1, x.2.2.length ≤ 64 := by
  intro x hx
  have := h.oc.2 x hx
  unfold calV at this
  cases g1 : ixI x.2.1 (c.1.length : Int) with
  | false => rw [g1] at this; cases this
  | true =>
   rw [g1] at this
   simp only [Bool.not_true, cond_false] at this
   by_cases g2 : (64 : Int) < (x.2.2.length : Int)
   ·rw [decide_eq_true g2] at this; cases this
   ·omega
 have hs : ∀ x ∈ c.2.2.2, SmallS x := by
  intro x hx
  have hv := h.os.2 x hx
  have hl := Q9k hv
  refine ⟨by show x.2.1.length ≤ _; omega, by show x.2.2.length ≤ _; omega, fun l hl' => ?_⟩
  unfold Q7h at hv
  rw [decide_eq_false (by omega), decide_eq_false (by omega)] at hv
  simp only [cond_false] at hv
  by_cases g : Q9j (·.1) (Q4i (c.1.length : Int) (c.2.1.length : Int) (c.2.2.1.length : Int)) x.2.1 = 0
  ·exact Qk8 (Qe7 g l hl')
  ·rw [decide_eq_false g] at hv
   exact absurd hv g
 refine ⟨⟨?_, ?_, ?_, ?_, fun x hx => ?_, fun x hx => ?_, fun x hx => ?_, hs⟩, by omega, by omega, by omega, by omega, fun x hx => ?_, fun x hx => ?_⟩
 ·show c.1.length ≤ _; omega
 ·show c.2.1.length ≤ _; omega
 ·show c.2.2.1.length ≤ _; omega
 ·show c.2.2.2.length ≤ _; omega
 ·have := (h.oz.2 x hx).1.l
  show x.2.2.length ≤ _; omega
 ·have := hq x hx
  show x.2.2.1.length ≤ _; omega
 ·have := hd x hx
  show x.2.2.length ≤ _; omega
 ·have := Q9k (h.os.2 x hx); omega
 ·have := Q9k (h.os.2 x hx); omega
section
variable {β : Type} {G : Option β → Prop}
theorem Qn1 {c : zqg} {d : Dice} {k : zqg → Dice → Option β} (hd : Qc d) (h : DiceC c) (hk : ∀ x d', Qc d' → SmallC x → G (k x d')) : G (zqhc c d k) := by
 obtain ⟨z, p, c, s⟩ := c
 have sm := h.sm
 have hz : 1 ≤ z.length ∧ z.length ≤ 8 := h.dz
 have hp : 1 ≤ p.length ∧ p.length ≤ 8 := h.dp
 have hc : c.length ≤ 8 := h.dc
 have hs : 1 ≤ s.length ∧ s.length ≤ 8 := h.ds
 have qz : List.length (z, p, c, s).1 = z.length := rfl
 have qp : List.length (z, p, c, s).2.1 = p.length := rfl
 have qc : List.length (z, p, c, s).2.2.1 = c.length := rfl
 have qs : List.length (z, p, c, s).2.2.2 = s.length := rfl
 unfold zqhc
 rw [Q2]
 unfold zqhb
 refine w_e (Qht _ (by show z.length ≤ _; omega) (by show p.length ≤ _; omega) (by show c.length ≤ _; omega) (by show s.length ≤ _; omega) (fun x hx => ?_) _) ?_
 ·have g1 := h.e x hx
  have g2 := h.l x hx
  omega
 have put_z : ∀ (i : Nat) (v : Int), i < z.length → SmallC (z.set i ((z.getD i zqn).1, (v, (z.getD i zqn).2.2)), p, c, s) := fun i v hi =>
  { sm with lz := by show LB (List.length (z.set _ _)); rw [List.length_set]; exact sm.lz, zs := Q7l sm.zs (show LB _ from sm.zs (z.getD i zqn) (Q1z (d := zqn) hi)) }
 have put_p : ∀ (i : Nat) (x : zqe), LB x.2.2.1.length → SmallC (z, p.set i x, c, s) := fun i x hx =>
  { sm with lp := by show LB (List.length (p.set _ _)); rw [List.length_set]; exact sm.lp, ps := Q7l sm.ps hx }
 have hq : ∀ i, i < p.length → LB (p.getD i zqp).2.2.1.length := fun i hi => sm.ps _ (Q1z (d := zqp) hi)
 refine Qd hd ⟨by omega, by omega⟩ fun t d1 _ _ hd1 => ?_
 refine w_c (fun _ => ?_) (fun _ => ?_)
 ·refine Qd hd1 ⟨by omega, by omega⟩ fun x d2 g1 g2 hd2 => ?_
  refine Q10 hd2 (by decide) fun v d3 _ hd3 => ?_
  refine w_i ⟨g1, g2⟩ ?_
  exact hk _ _ hd3 (put_z _ _ (by omega))
 refine w_c (fun _ => ?_) (fun _ => ?_)
 ·refine Qd hd1 ⟨by omega, by omega⟩ fun x d2 g1 g2 hd2 => ?_
  refine Q10 hd2 ⟨by simp, by simp⟩ fun v d3 _ hd3 => ?_
  refine w_i ⟨g1, g2⟩ ?_
  exact hk _ _ hd3 (put_p _ _ (hq _ (by omega)))
 refine w_c (fun _ => ?_) (fun _ => ?_)
 ·refine Qd hd1 ⟨by omega, by omega⟩ fun x d2 g1 g2 hd2 => ?_
  refine Qd hd2 ⟨by omega, by omega⟩ fun v d3 g3 g4 hd3 => ?_
  refine w_i ⟨g3, g4⟩ ?_
  refine w_i ⟨g1, g2⟩ ?_
  exact hk _ _ hd3 (put_p _ _ (hq _ (by omega)))
 refine w_c (fun _ => ?_) (fun _ => ?_)
 ·refine Qd hd1 ⟨by omega, by omega⟩ fun x d2 g1 g2 hd2 => ?_
  refine Q10 hd2 (by decide) fun v d3 _ hd3 => ?_
  refine w_i ⟨g1, g2⟩ ?_
  exact hk _ _ hd3 (put_p _ _ (hq _ (by omega)))
 refine w_c (fun _ => ?_) (fun _ => ?_)
 ·refine Qd hd1 ⟨by omega, by omega⟩ fun x d2 g1 g2 hd2 => ?_
  refine Q10 hd2 (by decide) fun v d3 _ hd3 => ?_
  refine Q10 hd3 (by decide) fun v2 d4 _ hd4 => ?_
  refine w_i ⟨g1, g2⟩ ?_
  exact hk _ _ hd4 (put_p _ _ (by show 1 ≤ 9223372036854775807; decide))
 refine w_c (fun _ => ?_) (fun _ => ?_)
 ·refine Qd hd1 ⟨by omega, by omega⟩ fun x d2 g1 g2 hd2 => ?_
  refine w_i ⟨g1, g2⟩ ?_
  refine Q10 hd2 (by decide) fun v d3 _ hd3 => ?_
  refine Q10 hd3 (by decide) fun v2 d4 _ hd4 => ?_
  refine w_r (show (c.length + 1) * 48 ≤ _ by omega) ?_
  exact hk _ _ hd4 { sm with lc := by show LB (List.length (c ++ [_])); rw [List.length_append, List.length_singleton]; show _ ≤ _; omega, cs := Q3e sm.cs (by show 2 ≤ 9223372036854775807; decide) }
 refine w_c (fun _ => ?_) (fun _ => ?_)
 ·refine Qd hd1 ⟨by omega, by omega⟩ fun x d2 g1 g2 hd2 => ?_
  refine w_i ⟨g1, g2⟩ ?_
  refine w_e ((congrArg (fun b => cond b _ none) (Bool.true_and _)).trans (Q4g (show (s.length + 1) * 64 ≤ _ by omega))) ?_
  exact hk _ _ hd2 { sm with ls := by show LB (List.length (s ++ [_])); rw [List.length_append, List.length_singleton]; show _ ≤ _; omega, ss := Q3e sm.ss ⟨Nat.zero_le _, Nat.zero_le _, fun l hl => absurd hl List.not_mem_nil⟩ }
 have key : ∀ b : Bool, G (zqh9 (fun b0 _ b3 b4 b5 b6 => k (b3, (b4, (b5, b6))) b0) (fun b0 _ o1 o2 o3 b3 => k (o1, (o2, (o3, b3))) b0) b d1 zqr z p c s) := fun b =>
  Qmq h hd1 (fun d' s' hd' hs' => hk _ _ hd' hs') (fun d' s' hd' hs' => hk _ _ hd' hs')
 refine w_c (fun e => ?_) (fun _ => ?_)
 ·rw [e]; exact key _
 refine w_c (fun e => ?_) (fun _ => ?_)
 ·rw [e]; exact key _
 exact key _
theorem Qm5 {k1 : zqsb β} {k2 : zqsc β} {t : (zqg × zqg) × (zqg × zqg) × (zqg × zqg) × (zqg × zqg) × (zqg × zqg)} (h : ∀ x ∈ [t.1, t.2.1, t.2.2.1, t.2.2.2.1, t.2.2.2.2], SmallC x.1) :
  zqsi k1 k2 t 0 = k2 () := by
 unfold zqsi
 rw [Q2]
 refine Qjt (fun m i (_ : Unit) => zqsg m k1 k2 t i) (fun _ _ => ()) (fun _ => k2 ()) (zqr, zqr) [t.1, t.2.1, t.2.2.1, t.2.2.2.1, t.2.2.2.2] () fuel (Qn (by simp)) (fun m i _ hi => ?_) (fun m _ => ?_)
 ·have hi5 : i < 5 := by simpa using hi
  have hx := h _ (Q1z (d := (zqr, zqr)) hi)
  simp only [zqsh, zqsf]
  refine (Q1k (by omega)).trans ?_
  refine (Qo (by show (0 : Int) ≤ i ∧ (i : Int) < 5; omega)).trans ?_
  rw [Int.toNat_natCast, i64_in ((i : Int) + 1) (by omega)]
  refine (Qmo hx _).trans ?_
  refine (Qm0 hx _).trans ?_
  rw [beq_self_eq_true]
  rfl
 ·simp only [zqsh, zqsf]
  exact Q1o (by simp)
def Q8a [Sl] : Prop := ∀ {β : Type} (k : Bool → Option β), zqs7 k = k true
theorem printSame (F : Q8a) (t : List Int) (raw other : zqg) (hr : SmallC raw) (k : Bool → Option β) : zqsl t raw other k = k true := by
 unfold zqsl
 rw [Q2]
 unfold zqsk
 refine (Qkj _ _).trans ?_
 by_cases h0 : ¬ (t.length : Int) ≤ 500
 ·rw [decide_eq_false h0]
  exact F _
 have h1 : (t.length : Int) ≤ 500 := by omega
 refine (Q2z h1).trans ?_
 refine (Qln _ _).trans ?_
 refine Qks (G := fun A => A = k true) (Qlo h1) (by decide) fun c d hd hc h1 => ?_
 have hD := Qmr hc h1
 refine Qn1 (G := fun A => A = k true) hd hD fun x d' hd' hx => ?_
 have e1 := hD.dz
 have e2 := hD.dp
 have e3 := hD.dc
 have e4 := hD.ds
 refine (Qht c (by omega) (by omega) (by omega) (by omega) (fun s hs => by have := hD.e s hs; have := hD.l s hs; omega) _).trans ?_
 refine (Qm5 fun y hy => ?_).trans (F _)
 simp only [List.mem_cons, List.not_mem_nil, or_false] at hy
 rcases hy with rfl | rfl | rfl | rfl | rfl
 ·exact hD.sm
 ·exact hx
 ·exact hD.sm
 ·exact hr
 ·exact hr
end
end
end Go.Lift
namespace Go.Lift
noncomputable section
set_option maxRecDepth 100000
theorem Ql0 {c : zqh.den} (h : Wf zqh c) : SmallC c := by
 obtain ⟨⟨z1, z2⟩, ⟨p1, p2⟩, ⟨c1, c2⟩, ⟨s1, s2⟩⟩ := h
 refine ⟨z1, p1, c1, s1, fun x hx => (z2 x hx).2.2.1, fun x hx => (p2 x hx).2.2.1.1, fun x hx => (c2 x hx).2.2.1, fun x hx => ?_⟩
 obtain ⟨_, ⟨l1, l2⟩, ⟨e1, _⟩⟩ := s2 x hx
 refine ⟨l1, e1, fun l hl => ?_⟩
 have := l2 l hl
 exact ⟨this.2.2.2.2.2.1.1, this.2.2.2.2.2.2.1.1⟩
theorem Qiu : @Q8a ⟨0⟩ := fun k => by kernel_rfl
end
end Go.Lift
