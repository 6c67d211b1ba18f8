/- The functions of package span in plain Lean: sets and what is made of two of them. -/
import Derived.Test.YtijaefnfpfnbnaaPart4
namespace Go.Lift
open Go.RowKit Go.IntWalk
noncomputable section
set_option linter.unusedVariables false
set_option linter.unusedSimpArgs false
set_option maxRecDepth 10000

/-! ### Normal -/
def badB (s : Sp) : Bool := decide (s.1 < s.2) && (decide (s.1 < 0) || decide (8589934592 < s.2))
theorem badB_no {s : Sp} (h : badB s = false) : rangeS s := by
  intro hlt
  unfold badB at h
  rw [decide_eq_true hlt, Bool.true_and, Bool.or_eq_false_iff] at h
  have := of_decide_eq_false h.1
  have := of_decide_eq_false h.2
  omega
theorem norm_loop {β : Type} (k1 : zqe4 β) (k2 : zqe5 β) (l : List Sp) (hl : l.length ≤ 4096) : ∀ (r : List Sp) (j N : Nat), l.drop j = r → r.length < N →
    zqef N k1 k2 l l (l.length : Int) (j : Int) = cond (r.any badB) (k1 1 []) (k2 l)
  | [], j, 0, _, h => absurd h (Nat.not_lt_zero _)
  | _ :: _, j, 0, _, h => absurd h (Nat.not_lt_zero _)
  | [], j, N + 1, hd, h => by
    have : l.length ≤ j := by simpa using hd
    rw [zqeg]
    unfold zqe9
    exact c_neg (by omega)
  | s :: r, j, N + 1, hd, h => by
    obtain ⟨hj, hg, hd'⟩ := drop_cons hd ((0 : Int), (0 : Int))
    simp only [List.length_cons] at h
    have ew : IntKind.i64.wrap ((j : Int) + 1) = ((j + 1 : Nat) : Int) := by rw [wr (by omega) (by omega)]; omega
    have ih := norm_loop k1 k2 l hl r (j + 1) N hd' (by omega)
    rw [zqeg]
    unfold zqe9
    simp only [Int.toNat_natCast, hg, ew]
    refine (c_pos (by omega)).trans ?_
    refine (c_inb (by omega)).trans ?_
    have e : (s :: r).any badB = (badB s || r.any badB) := rfl
    rw [e]
    unfold badB
    by_cases h1 : s.1 < s.2
    · refine (c_pos h1).trans ?_
      rw [decide_eq_true h1, Bool.true_and]
      by_cases h2 : s.1 < 0
      · refine (c_pos h2).trans ?_
        rw [decide_eq_true h2]; rfl
      · refine (c_neg h2).trans ?_
        rw [decide_eq_false h2, Bool.false_or]
        by_cases h3 : 8589934592 < s.2
        · refine (c_pos h3).trans ?_
          rw [decide_eq_true h3]; rfl
        · refine (c_neg h3).trans ?_
          rw [decide_eq_false h3, Bool.false_or]
          exact ih
    · refine (c_neg h1).trans ?_
      rw [decide_eq_false h1, Bool.false_and, Bool.false_or]
      exact ih

theorem normal_s {β : Type} (l : List Sp) (k : Int → List Sp → Option β) : zqej l k = cond (decide (4096 < l.length)) (k 5 []) (cond (l.any badB) (k 1 []) (zqdm l (fun r => k 0 r))) := by
  show zqec zqdm zqeh l k = _
  unfold zqec
  by_cases h : 4096 < l.length
  · refine (c_pos (by omega)).trans ?_
    exact (c_pos h).symm
  · refine (c_neg (by omega)).trans ?_
    refine Eq.trans ?_ (c_neg h).symm
    have e := norm_loop (fun (t3 : Int) (t2 : List Sp) => k t3 t2) (fun l2 => zqdm l2 (fun r => k 0 r)) l (by omega) l 0 fuel rfl (lt_fuel (by omega))
    rw [Int.natCast_zero] at e
    exact e

theorem normal_ok {l : List Sp} (hl : l.length ≤ 4096) (hr : ∀ s ∈ l, badB s = false) :
    ∃ out, (NFa (-1) out ∧ (∀ x, hasS out x ↔ hasS l x)) ∧ ∀ {β : Type} (k : Int → List Sp → Option β), zqej l k = k 0 out := by
  obtain ⟨out, h, hf⟩ := merge_eq (l := l) (by omega) (fun s hs hlt => by have := badB_no (hr s hs) hlt; omega)
  refine ⟨out, h, fun k => ?_⟩
  rw [normal_s, decide_eq_false (by omega)]
  refine c_f.trans ?_
  rw [List.any_eq_false.2 (fun s hs => by rw [hr s hs]; simp)]
  refine c_f.trans ?_
  exact hf _

/-! ### Two lists as one -/
theorem grow_eq {β : Type} {n : Int} (h0 : 0 ≤ n) (h1 : n ≤ 1000000) (k : List Sp → Option β) : zq8v n k = k [] := by
  show zq8s n k = _
  unfold zq8s
  refine (c_neg (by omega)).trans ?_
  have e0 : IntKind.i64.wrap ((0 : Int) - 0) = 0 := by rw [wr (by omega) (by omega)]; rfl
  have e1 : IntKind.i64.wrap (n - 0) = n := by rw [wr (by omega) (by omega)]; omega
  simp only [e0, e1]
  by_cases h : 0 < n
  · refine (c_pos h).trans ?_
    refine Eq.trans (c_t (b := none)) ?_
    have t1 : (decide (0 ≤ n) && decide (n.toNat * 16 ≤ roomMax)) = true := by
      rw [decide_eq_true h0, decide_eq_true (show n.toNat * 16 ≤ roomMax by simp only [roomMax]; omega)]; rfl
    rw [t1]
    refine c_t.trans ?_
    refine (show cond (decide (0 ≤ (0 : Int)) && decide ((0 : Int) ≤ ((List.replicate n.toNat ((0 : Int), (0 : Int))).length : Int))) (k ((List.replicate n.toNat ((0 : Int), (0 : Int))).take (Int.toNat 0))) none = _ from ?_)
    rw [decide_eq_true (by omega : (0 : Int) ≤ 0), decide_eq_true (by omega : (0 : Int) ≤ ((List.replicate n.toNat ((0 : Int), (0 : Int))).length : Int))]
    refine c_t.trans ?_
    rfl
  · exact c_neg h

theorem concat_eq {a b : List Sp} (ha : a.length ≤ 100000) (hb : b.length ≤ 100000) {β : Type} (k : List Sp → Option β) : zqak [a, b] k = k (a ++ b) := by
  show zqa9 zq8v zqae zqai [a, b] k = _
  unfold zqa9
  obtain ⟨N, hN⟩ : ∃ N, fuel = N + 1 + 1 + 1 := ⟨18446744073709551613, rfl⟩
  have p1 : ∀ {β : Type} (k1 : zq9v β), zqae k1 [a, b] 0 [a, b] (([a, b] : List (List Sp)).length : Int) 0 = k1 [a, b] ((a.length : Int) + b.length) := by
    intro β k1
    show zqac fuel k1 [a, b] 0 [a, b] 2 0 = _
    have w1 : IntKind.i64.wrap ((0 : Int) + 1) = 1 := by rw [wr (by omega) (by omega)]; rfl
    have w2 : IntKind.i64.wrap ((1 : Int) + 1) = 2 := by rw [wr (by omega) (by omega)]; rfl
    have g0 : ([a, b] : List (List Sp)).getD (Int.toNat 0) [] = a := rfl
    have g1 : ([a, b] : List (List Sp)).getD (Int.toNat 1) [] = b := rfl
    have wa : IntKind.i64.wrap ((0 : Int) + (a.length : Int)) = (a.length : Int) := by rw [wr (by omega) (by omega)]; omega
    have wb : IntKind.i64.wrap ((a.length : Int) + (b.length : Int)) = (a.length : Int) + b.length := by rw [wr (by omega) (by omega)]
    rw [hN, zqad]
    unfold zqa3
    simp only [g0, w1, wa]
    refine (c_pos (by omega)).trans ?_
    refine (c_inb (by simp)).trans ?_
    refine (c_neg (by omega)).trans ?_
    rw [zqad]
    unfold zqa3
    simp only [g1, w2, wb]
    refine (c_pos (by omega)).trans ?_
    refine (c_inb (by simp)).trans ?_
    refine (c_neg (by omega)).trans ?_
    rw [zqad]
    unfold zqa3
    exact c_neg (by omega)
  have p2 : ∀ {β : Type} (k1 : zq9z β), zqai k1 [a, b] (([a, b] : List (List Sp)).length : Int) 0 [] = k1 (a ++ b) := by
    intro β k1
    show zqag fuel k1 [a, b] 2 0 [] = _
    have w1 : IntKind.i64.wrap ((0 : Int) + 1) = 1 := by rw [wr (by omega) (by omega)]; rfl
    have w2 : IntKind.i64.wrap ((1 : Int) + 1) = 2 := by rw [wr (by omega) (by omega)]; rfl
    have g0 : ([a, b] : List (List Sp)).getD (Int.toNat 0) [] = a := rfl
    have g1 : ([a, b] : List (List Sp)).getD (Int.toNat 1) [] = b := rfl
    rw [hN, zqah]
    unfold zqa6
    simp only [g0, w1]
    refine (c_pos (by omega)).trans ?_
    refine (c_inb (by simp)).trans ?_
    refine (c_room (by simp; omega)).trans ?_
    rw [zqah]
    unfold zqa6
    simp only [g1, w2]
    refine (c_pos (by omega)).trans ?_
    refine (c_inb (by simp)).trans ?_
    refine (c_room (by simp; omega)).trans ?_
    rw [zqah]
    unfold zqa6
    exact c_neg (by omega)
  refine (p1 _).trans ?_
  refine (grow_eq (by omega) (by omega) _).trans ?_
  exact p2 _

/-! ### What is made of two sets -/
theorem union_ok {a b : List Sp} (ha : VS a) (hb : VS b) :
    ∃ out, (NFa (-1) out ∧ (∀ x, hasS out x ↔ hasS a x ∨ hasS b x)) ∧ ∀ {β : Type} (k : Int → List Sp → Option β), zqeq a b k = cond (decide (4096 < out.length)) (k 5 []) (k 0 out) := by
  have ra := ha.range
  have rb := hb.range
  have la := ha.len
  have lb := hb.len
  obtain ⟨out, ⟨h1, h2⟩, hf⟩ := merge_eq (l := a ++ b) (by simp; omega) (fun s hs hlt => by
    rcases List.mem_append.1 hs with q | q
    · have := ra s q; omega
    · have := rb s q; omega)
  refine ⟨out, ⟨h1, fun x => by rw [h2, hasS_append]⟩, fun k => ?_⟩
  show zqen zqe0 a b k = _
  unfold zqen
  show zqdx zqdt zq1e a b _ = _
  unfold zqdx
  refine (valid_eq a _).trans ?_
  rw [validB_iff.2 ha]
  refine c_f.trans ?_
  refine (valid_eq b _).trans ?_
  rw [validB_iff.2 hb]
  refine c_f.trans ?_
  show zqdq zqak zqdm a b _ = _
  unfold zqdq
  refine (concat_eq (by omega) (by omega) _).trans ?_
  refine (hf _).trans ?_
  have : decide ((4096 : Int) < (out.length : Int)) = decide (4096 < out.length) := by
    by_cases h : 4096 < out.length
    · rw [decide_eq_true h, decide_eq_true (by omega)]
    · rw [decide_eq_false h, decide_eq_false (by omega)]
  rw [← this]

theorem meet_ok {a b : List Sp} (ha : VS a) (hb : VS b) :
    ∃ out, (NFa (-1) out ∧ (∀ x, hasS out x ↔ hasS a x ∧ hasS b x)) ∧ ∀ {β : Type} (k : Int → List Sp → Option β), zq9k a b k = cond (decide (4096 < out.length)) (k 5 []) (k 0 out) := by
  have la := ha.len
  have lb := hb.len
  obtain ⟨h1, h2⟩ := commonS_ok (a.length + b.length) a b (-1) (-1) (Nat.le_refl _) ha.nf hb.nf
  refine ⟨commonS (a.length + b.length) a b, ⟨h2.mono (by omega), h1⟩, fun k => ?_⟩
  show zq9h zq8h a b k = _
  unfold zq9h
  show zq8e zq38 zq1e a b _ = _
  unfold zq8e
  refine (valid_eq a _).trans ?_
  rw [validB_iff.2 ha]
  refine c_f.trans ?_
  refine (valid_eq b _).trans ?_
  rw [validB_iff.2 hb]
  refine c_f.trans ?_
  refine (common_eq (by omega) (by omega) _).trans ?_
  generalize commonS (a.length + b.length) a b = out
  have : decide ((4096 : Int) < (out.length : Int)) = decide (4096 < out.length) := by
    by_cases h : 4096 < out.length
    · rw [decide_eq_true h, decide_eq_true (by omega)]
    · rw [decide_eq_false h, decide_eq_false (by omega)]
  rw [← this]

theorem minus_ok {a b : List Sp} (ha : VS a) (hb : VS b) :
    ∃ out, (NFa (-1) out ∧ (∀ x, hasS out x ↔ hasS a x ∧ ¬ hasS b x)) ∧ ∀ {β : Type} (k : Int → List Sp → Option β), zq9r a b k = cond (decide (4096 < out.length)) (k 5 []) (k 0 out) := by
  have la := ha.len
  have lb := hb.len
  obtain ⟨h1, h2⟩ := withoutS_ok hb.nf a (-1) ha.nf
  refine ⟨withoutS a b, ⟨h2, h1⟩, fun k => ?_⟩
  show zq9o zq8o a b k = _
  unfold zq9o
  show zq8l zq1e zq4c a b _ = _
  unfold zq8l
  refine (valid_eq a _).trans ?_
  rw [validB_iff.2 ha]
  refine c_f.trans ?_
  refine (valid_eq b _).trans ?_
  rw [validB_iff.2 hb]
  refine c_f.trans ?_
  refine (without_eq (by omega) (by omega) ha.nf (fun t ht => (hb.range t ht).2.1) _).trans ?_
  generalize withoutS a b = out
  have : decide ((4096 : Int) < (out.length : Int)) = decide (4096 < out.length) := by
    by_cases h : 4096 < out.length
    · rw [decide_eq_true h, decide_eq_true (by omega)]
    · rw [decide_eq_false h, decide_eq_false (by omega)]
  rw [← this]

theorem clip_ok {a : List Sp} (ha : VS a) {lo hi : Int} (h : lo < hi) :
    ∃ out, (NFa (-1) out ∧ (∀ x, hasS out x ↔ hasS a x ∧ (lo ≤ x ∧ x < hi))) ∧ ∀ {β : Type} (k : Int → List Sp → Option β), zq6p a lo hi k = k 0 out := by
  have la := ha.len
  obtain ⟨h1, h2⟩ := commonS_ok (a.length + 1) a [(lo, hi)] (-1) (lo - 1) (Nat.le_refl _) ha.nf ⟨by simp only; omega, h, trivial⟩
  refine ⟨commonS (a.length + 1) a [(lo, hi)], ⟨h2.mono (by omega), fun x => ?_⟩, fun k => ?_⟩
  · rw [h1, hasS_cons]
    have : ¬ hasS [] x := hasS_nil
    simp only [this, or_false]
  · show zq6m zq38 zq1e a lo hi k = _
    unfold zq6m
    refine (valid_eq a _).trans ?_
    rw [validB_iff.2 ha]
    refine c_f.trans ?_
    refine (c_neg (by omega)).trans ?_
    exact common_eq (by omega) (by simp) _

/-! ### Equal lists -/
theorem same_loop {β : Type} (k1 : zqg β) (k2 : zqh β) (l : List Sp) (hl : l.length ≤ 100000) : ∀ (r : List Sp) (j N : Nat), l.drop j = r → r.length < N →
    zqr N k1 k2 l l (l.length : Int) (j : Int) = k2 ()
  | [], j, 0, _, h => absurd h (Nat.not_lt_zero _)
  | _ :: _, j, 0, _, h => absurd h (Nat.not_lt_zero _)
  | [], j, N + 1, hd, h => by
    have : l.length ≤ j := by simpa using hd
    rw [zqs]
    unfold zql
    exact c_neg (by omega)
  | s :: r, j, N + 1, hd, h => by
    obtain ⟨hj, hg, hd'⟩ := drop_cons hd ((0 : Int), (0 : Int))
    simp only [List.length_cons] at h
    have ew : IntKind.i64.wrap ((j : Int) + 1) = ((j + 1 : Nat) : Int) := by rw [wr (by omega) (by omega)]; omega
    rw [zqs]
    unfold zql
    simp only [Int.toNat_natCast, hg, ew]
    refine (c_pos (by omega)).trans ?_
    refine (c_inb (by omega)).trans ?_
    refine (c_inb (by omega)).trans ?_
    have hb : (!(decide True && (decide True && true))) = false := rfl
    rw [hb]
    refine c_f.trans ?_
    exact same_loop k1 k2 l hl r (j + 1) N hd' (by omega)

theorem same_eq {a b : List Sp} (hl : a.length ≤ 100000) (h : a = b) {β : Type} (k : Bool → Option β) : zqv a b k = k true := by
  subst h
  show zqo zqt a a k = _
  unfold zqo
  refine (c_npos rfl).trans ?_
  have e := same_loop (fun b => k b) (fun _ => k true) a hl a 0 fuel rfl (lt_fuel (by omega))
  rw [Int.natCast_zero] at e
  exact e

/-! ### Sets of small numbers -/
structure S80 (l : List Sp) : Prop where
  nf : NFa (-1) l
  le : ∀ s ∈ l, s.2 ≤ 80
theorem nf_len {M : Int} : ∀ {l : List Sp} {a : Int}, NFa a l → (∀ s ∈ l, s.2 ≤ M) → a ≤ M → 2 * (l.length : Int) ≤ M - a
  | [], a, _, _, h => by simp; omega
  | s :: l, a, ⟨h1, h2, h3⟩, hm, h => by
    have := nf_len h3 (fun t ht => hm t (by simp [ht])) (hm s (by simp))
    simp only [List.length_cons]
    omega
theorem S80.len {l : List Sp} (h : S80 l) : l.length ≤ 40 := by
  have := nf_len h.nf h.le (by omega)
  omega
theorem S80.vs {l : List Sp} (h : S80 l) : VS l := ⟨by have := h.len; omega, h.nf, fun s hs => by have := h.le s hs; omega⟩
theorem S80.lt {l : List Sp} (h : S80 l) {x : Int} (hx : hasS l x) : 0 ≤ x ∧ x < 80 := by
  have := h.nf.lt hx
  obtain ⟨s, hs, h1, h2⟩ := hx
  have := h.le s hs
  omega
theorem S80.of {l : List Sp} (h : NFa (-1) l) (hx : ∀ x, hasS l x → x < 80) : S80 l := ⟨h, below_of_has h hx⟩

theorem union80 {a b : List Sp} (ha : S80 a) (hb : S80 b) : ∃ out, (S80 out ∧ ∀ x, hasS out x ↔ hasS a x ∨ hasS b x) ∧ ∀ {β : Type} (k : Int → List Sp → Option β), zqeq a b k = k 0 out := by
  obtain ⟨out, ⟨h1, h2⟩, hf⟩ := union_ok ha.vs hb.vs
  have hs : S80 out := S80.of h1 fun x hx => by
    rcases (h2 x).1 hx with q | q
    · exact (ha.lt q).2
    · exact (hb.lt q).2
  have hl := hs.len
  exact ⟨out, ⟨hs, h2⟩, fun k => (hf k).trans (c_neg (by omega))⟩
theorem meet80 {a b : List Sp} (ha : S80 a) (hb : S80 b) : ∃ out, (S80 out ∧ ∀ x, hasS out x ↔ hasS a x ∧ hasS b x) ∧ ∀ {β : Type} (k : Int → List Sp → Option β), zq9k a b k = k 0 out := by
  obtain ⟨out, ⟨h1, h2⟩, hf⟩ := meet_ok ha.vs hb.vs
  have hs : S80 out := S80.of h1 fun x hx => (ha.lt ((h2 x).1 hx).1).2
  have hl := hs.len
  exact ⟨out, ⟨hs, h2⟩, fun k => (hf k).trans (c_neg (by omega))⟩
theorem minus80 {a b : List Sp} (ha : S80 a) (hb : S80 b) : ∃ out, (S80 out ∧ ∀ x, hasS out x ↔ hasS a x ∧ ¬ hasS b x) ∧ ∀ {β : Type} (k : Int → List Sp → Option β), zq9r a b k = k 0 out := by
  obtain ⟨out, ⟨h1, h2⟩, hf⟩ := minus_ok ha.vs hb.vs
  have hs : S80 out := S80.of h1 fun x hx => (ha.lt ((h2 x).1 hx).1).2
  have hl := hs.len
  exact ⟨out, ⟨hs, h2⟩, fun k => (hf k).trans (c_neg (by omega))⟩

/-! ### A set made by the dice -/
theorem set_loop {d : Dice} : ∀ (i N : Nat) (d : Dice) (l : List Sp), i < N → DiceOk d → (∀ s ∈ l, 0 ≤ s.1 ∧ s.1 < s.2 ∧ s.2 ≤ 80) → l.length + i ≤ 100 →
    ∃ d' l', (DiceOk d' ∧ (∀ s ∈ l', 0 ≤ s.1 ∧ s.1 < s.2 ∧ s.2 ≤ 80) ∧ l'.length ≤ l.length + i) ∧ ∀ {β : Type} (k1 : zq8z β), zq99 N k1 (i : Int) d.1 d.2 l = k1 d'.1 d'.2 l'
  | i, 0, _, _, h, _, _, _ => absurd h (Nat.not_lt_zero _)
  | 0, N + 1, d, l, h, hd, hl, hlen => by
    refine ⟨d, l, ⟨hd, hl, by omega⟩, fun k1 => ?_⟩
    rw [zq9a]
    unfold zq93
    exact c_neg (by omega)
  | i + 1, N + 1, d, l, h, hd, hl, hlen => by
    obtain ⟨x, d1, x0, x1, hd1, f1⟩ := next_ok (n := 60) hd (by omega)
    obtain ⟨y, d2, y0, y1, hd2, f2⟩ := next_ok (n := 9) hd1 (by omega)
    have ew : IntKind.i64.wrap (((i + 1 : Nat) : Int) - 1) = (i : Int) := by rw [wr (by omega) (by omega)]; omega
    have e1 : IntKind.i64.wrap (x + y) = x + y := wr (by omega) (by omega)
    have e2 : IntKind.i64.wrap (x + y - 1) = x + y - 1 := wr (by omega) (by omega)
    have hsp : ∀ {β : Type} (k : Sp → Dice → Option β), zq2a d k = k (x, x + y - 1) d2 := by
      intro β k
      show zq27 zq23 d k = _
      unfold zq27
      refine (f1 _).trans ?_
      refine (f2 _).trans ?_
      rw [e1, e2]
    by_cases hc : x < x + y - 1
    · obtain ⟨d', l', hq, hf⟩ := set_loop (d := d) i N d2 (l ++ [(x, x + y - 1)]) (by omega) hd2 (by
        intro s hs
        rcases List.mem_append.1 hs with q | q
        · exact hl s q
        · simp only [List.mem_singleton] at q
          rw [q]
          simp only
          omega) (by simp; omega)
      refine ⟨d', l', ⟨hq.1, hq.2.1, by have := hq.2.2; simp at this; omega⟩, fun k1 => ?_⟩
      rw [zq9a]
      unfold zq93
      refine (c_pos (by omega)).trans ?_
      refine (hsp _).trans ?_
      refine (c_pos hc).trans ?_
      refine (c_room (by simp; omega)).trans ?_
      rw [ew]
      exact hf k1
    · obtain ⟨d', l', hq, hf⟩ := set_loop (d := d) i N d2 l (by omega) hd2 hl (by omega)
      refine ⟨d', l', ⟨hq.1, hq.2.1, by have := hq.2.2; omega⟩, fun k1 => ?_⟩
      rw [zq9a]
      unfold zq93
      refine (c_pos (by omega)).trans ?_
      refine (hsp _).trans ?_
      refine (c_neg hc).trans ?_
      rw [ew]
      exact hf k1

theorem set_ok {d : Dice} (hd : DiceOk d) : ∃ s d', (S80 s ∧ DiceOk d') ∧ ∀ {β : Type} (k : Dice → List Sp → Option β), zq9d d k = k d' s := by
  obtain ⟨n, d1, n0, n1, hd1, f1⟩ := next_ok (n := 7) hd (by omega)
  obtain ⟨d2, l, ⟨hd2, hl, hlen⟩, f2⟩ := set_loop (d := d) n.toNat fuel d1 [] (lt_fuel (by omega)) hd1 (by simp) (by simp; omega)
  have hn : ((n.toNat : Nat) : Int) = n := Int.toNat_of_nonneg n0
  rw [hn] at f2
  simp only [List.length_nil, Nat.zero_add] at hlen
  obtain ⟨out, ⟨h1, h2⟩, f3⟩ := ref_normal (l := l) (by omega) (fun s hs _ => by have := hl s hs; omega)
  refine ⟨out, d2, ⟨S80.of h1 fun x hx => ?_, hd2⟩, fun k => ?_⟩
  · obtain ⟨s, hs, _, h4⟩ := (h2 x).1 hx
    have := hl s hs
    omega
  · show zq96 zq23 zq8a zq9b d k = _
    unfold zq96
    refine (f1 _).trans ?_
    refine (f2 _).trans ?_
    exact f3 _

/-! ### The example -/
theorem sane03 {β : Type} (k : Bool → Option β) : zqex k = k true := by
  obtain ⟨n, ⟨n1, n2⟩, f1⟩ := normal_ok (l := [(5, 9), (1, 3), (3, 4), (7, 6)]) (by simp) (by
    intro s hs
    simp only [List.mem_cons, List.not_mem_nil, or_false] at hs
    rcases hs with rfl | rfl | rfl | rfl <;> rfl)
  have hn : n = [(1, 4), (5, 9)] := by
    refine n1.uniq (b := -1) ⟨by decide, by decide, by decide, by decide, trivial⟩ fun x => ?_
    rw [n2]
    simp only [hasS_cons, hasS_nil, or_false]
    omega
  have v1 : VS [(0, 10)] := ⟨by simp, ⟨by decide, by decide, trivial⟩, by simp⟩
  have v2 : VS [(2, 3), (5, 20)] := ⟨by simp, ⟨by decide, by decide, by decide, by decide, trivial⟩, by simp⟩
  obtain ⟨m, ⟨m1, m2⟩, f2⟩ := minus_ok v1 v2
  have hm : m = [(0, 2), (3, 5)] := by
    refine m1.uniq (b := -1) ⟨by decide, by decide, by decide, by decide, trivial⟩ fun x => ?_
    rw [m2]
    simp only [hasS_cons, hasS_nil, or_false]
    omega
  subst hn hm
  show zqeu zqv zq6i zq9r zqej k = _
  unfold zqeu
  refine (f1 _).trans ?_
  refine (f2 _).trans ?_
  refine (c_neg (by simp)).trans ?_
  refine (c_pos rfl).trans ?_
  refine (c_pos rfl).trans ?_
  refine (same_eq (by simp) rfl _).trans ?_
  refine c_t.trans ?_
  refine (same_eq (by simp) rfl _).trans ?_
  refine c_t.trans ?_
  refine (gap_eq _ _ _).trans ?_
  rw [validB_iff.2 v1, if_pos rfl]
  rfl
end
end Go.Lift

/- SpanNext and SpanPoints in plain Lean. -/
namespace Go.Lift
open Go.RowKit Go.IntWalk
noncomputable section
set_option linter.unusedVariables false
set_option linter.unusedSimpArgs false
set_option maxRecDepth 10000

theorem has80 {l : List Sp} (h : S80 l) (x : Int) {β : Type} (k : Bool → Option β) : zqcm l x k = k (hasB l x) := by
  refine (has_eq l x k).trans ?_
  rw [validB_iff.2 h.vs, Bool.true_and]

/-! ### SpanNext -/
/-! ### SpanPoints -/
theorem pts_step {c : zqch} {β : Type} (rec : Int → List Sp → List Sp → List Sp → List Sp → List Sp → List Sp → Option β) (k1 : zqf1 β) (k2 : zqf2 β) {n : Int} (a b u m x d : List Sp) (p q : Bool) (hn : 0 ≤ n ∧ n < 80)
    (ha : ∀ {β : Type} (k : Bool → Option β), c a n k = k p) (hb : ∀ {β : Type} (k : Bool → Option β), c b n k = k q) (hu : ∀ {β : Type} (k : Bool → Option β), c u n k = k (p || q)) (hm : ∀ {β : Type} (k : Bool → Option β), c m n k = k (p && q))
    (hx : ∀ {β : Type} (k : Bool → Option β), c x n k = k (p && !q)) (hd : ∀ {β : Type} (k : Bool → Option β), c d n k = k (p && (decide (10 ≤ n) && decide (n < 40)))) :
    zqf6 c rec k1 k2 n a b u m x d = rec (n + 1) a b u m x d := by
  unfold zqf6
  rw [decide_eq_true hn.2]
  have ew : IntKind.i64.wrap (n + 1) = n + 1 := wr (by omega) (by omega)
  simp only [ew]
  refine c_t.trans ?_
  refine (ha _).trans ?_
  refine (hb _).trans ?_
  refine (hu _).trans ?_
  cases p with
  | false =>
    cases q with
    | false =>
      refine c_f.trans ?_
      refine c_f.trans ?_
      refine (hm _).trans ?_
      refine c_f.trans ?_
      refine c_f.trans ?_
      refine (hx _).trans ?_
      refine c_f.trans ?_
      refine c_f.trans ?_
      refine (hd _).trans ?_
      refine c_f.trans ?_
      exact c_f
    | true =>
      refine c_f.trans ?_
      refine c_f.trans ?_
      refine (hm _).trans ?_
      refine c_f.trans ?_
      refine c_f.trans ?_
      refine (hx _).trans ?_
      refine c_f.trans ?_
      refine c_f.trans ?_
      refine (hd _).trans ?_
      refine c_f.trans ?_
      exact c_f
  | true =>
    cases q with
    | false =>
      refine c_t.trans ?_
      refine c_f.trans ?_
      refine (hm _).trans ?_
      refine c_t.trans ?_
      refine c_f.trans ?_
      refine (hx _).trans ?_
      refine c_t.trans ?_
      refine c_f.trans ?_
      refine (hd _).trans ?_
      refine c_t.trans ?_
      by_cases h1 : 10 ≤ n
      · refine (c_pos h1).trans ?_
        rw [decide_eq_true h1]
        cases decide (n < 40) <;> rfl
      · refine (c_neg h1).trans ?_
        rw [decide_eq_false h1]
        rfl
    | true =>
      refine c_t.trans ?_
      refine c_f.trans ?_
      refine (hm _).trans ?_
      refine c_t.trans ?_
      refine c_f.trans ?_
      refine (hx _).trans ?_
      refine c_t.trans ?_
      refine c_f.trans ?_
      refine (hd _).trans ?_
      refine c_t.trans ?_
      by_cases h1 : 10 ≤ n
      · refine (c_pos h1).trans ?_
        rw [decide_eq_true h1]
        cases decide (n < 40) <;> rfl
      · refine (c_neg h1).trans ?_
        rw [decide_eq_false h1]
        rfl

theorem pts_loop {a b u m x d : List Sp} (ha : S80 a) (hb : S80 b) (hu : S80 u) (hm : S80 m) (hx : S80 x) (hd : S80 d) (eu : ∀ y, hasB u y = (hasB a y || hasB b y)) (em : ∀ y, hasB m y = (hasB a y && hasB b y)) (ex : ∀ y, hasB x y = (hasB a y && !hasB b y))
    (ed : ∀ y, hasB d y = (hasB a y && (decide (10 ≤ y) && decide (y < 40)))) {β : Type} (k1 : zqf1 β) (k2 : zqf2 β) :
    ∀ (r N : Nat) (n : Int), r < N → n + r = 80 → 0 ≤ n → zqfc N k1 k2 n a b u m x d = k2 a b u m x
  | r, 0, _, h, _, _ => absurd h (Nat.not_lt_zero _)
  | 0, N + 1, n, h, hn, h0 => by
    rw [zqfd]
    unfold zqf6
    exact c_neg (by omega)
  | r + 1, N + 1, n, h, hn, h0 => by
    rw [zqfd]
    refine (pts_step _ k1 k2 a b u m x d (hasB a n) (hasB b n) (by omega) (fun k => has80 ha n k) (fun k => has80 hb n k) (fun k => by rw [← eu]; exact has80 hu n k) (fun k => by rw [← em]; exact has80 hm n k) (fun k => by rw [← ex]; exact has80 hx n k) (fun k => by rw [← ed]; exact has80 hd n k)).trans ?_
    exact pts_loop ha hb hu hm hx hd eu em ex ed k1 k2 r N (n + 1) (by omega) (by omega) (by omega)

theorem len80 {l : List Sp} (h : S80 l) {β : Type} (k : Int → Option β) : zq1w l k = k (cntS l 80) := by
  refine (length_eq _ _).trans ?_
  rw [validB_iff.2 h.vs, if_pos rfl, length_cnt (N := 80) h.nf h.le]
theorem cnt80 {l : List Sp} (h : S80 l) : 0 ≤ cntS l 80 ∧ cntS l 80 ≤ 81 := by
  have := lengthS_bound h.nf h.le (by omega)
  rw [length_cnt (N := 80) h.nf h.le] at this
  omega

theorem spanPoints (t : List Int) {β : Type} (k : Bool → Option β) : zqfg t k = k true := by
  show zqf9 zqex zq9d zq5 zqc zq6p zq1w zq9k zq9r zqeq zq1e zqfe t k = _
  unfold zqf9
  refine (light_eq _ _).trans ?_
  by_cases hl : (t.length : Int) ≤ 500
  · refine (c_npos hl).trans ?_
    refine (roll_eq _ _).trans ?_
    obtain ⟨a, d1, ⟨ha, hd1⟩, f1⟩ := set_ok (roll_ok hl)
    obtain ⟨b, d2, ⟨hb, hd2⟩, f2⟩ := set_ok hd1
    obtain ⟨u, ⟨s1, e1⟩, g1⟩ := union80 ha hb
    obtain ⟨m, ⟨s2, e2⟩, g2⟩ := meet80 ha hb
    obtain ⟨x, ⟨s3, e3⟩, g3⟩ := minus80 ha hb
    obtain ⟨d, ⟨c1, e4⟩, g4⟩ := clip_ok ha.vs (lo := 10) (hi := 40) (by omega)
    have s4 : S80 d := S80.of c1 fun y hy => (ha.lt ((e4 y).1 hy).1).2
    have eu : ∀ y, hasB u y = (hasB a y || hasB b y) := fun y => by
      rw [Bool.eq_iff_iff, Bool.or_eq_true, hasB_iff, hasB_iff, hasB_iff]; exact e1 y
    have em : ∀ y, hasB m y = (hasB a y && hasB b y) := fun y => by
      rw [Bool.eq_iff_iff, Bool.and_eq_true, hasB_iff, hasB_iff, hasB_iff]; exact e2 y
    have ex : ∀ y, hasB x y = (hasB a y && !hasB b y) := fun y => by
      rw [Bool.eq_iff_iff, Bool.and_eq_true, hasB_iff, hasB_iff, e3 y, Bool.not_eq_true', ← Bool.not_eq_true, hasB_iff]
    have ed : ∀ y, hasB d y = (hasB a y && (decide (10 ≤ y) && decide (y < 40))) := fun y => by
      rw [Bool.eq_iff_iff, Bool.and_eq_true, Bool.and_eq_true, decide_eq_true_eq, decide_eq_true_eq, hasB_iff, hasB_iff]; exact e4 y
    refine (f1 _).trans ?_
    refine (f2 _).trans ?_
    refine (g1 _).trans ?_
    refine (g2 _).trans ?_
    refine (g3 _).trans ?_
    refine (g4 _).trans ?_
    refine (c_npos rfl).trans ?_
    refine (c_npos rfl).trans ?_
    refine (c_npos rfl).trans ?_
    refine (c_npos rfl).trans ?_
    refine (valid_eq _ _).trans ?_
    rw [validB_iff.2 s1.vs]
    refine c_f.trans ?_
    refine (valid_eq _ _).trans ?_
    rw [validB_iff.2 s2.vs]
    refine c_f.trans ?_
    refine (valid_eq _ _).trans ?_
    rw [validB_iff.2 s3.vs]
    refine c_f.trans ?_
    refine (valid_eq _ _).trans ?_
    rw [validB_iff.2 s4.vs]
    refine c_f.trans ?_
    refine (pts_loop ha hb s1 s2 s3 s4 eu em ex ed _ _ 80 fuel 0 (lt_fuel (by omega)) (by omega) (by omega)).trans ?_
    have ca := cnt80 ha
    have cb := cnt80 hb
    have cu := cnt80 s1
    have cm := cnt80 s2
    have cx := cnt80 s3
    have q1 := cnt_union eu em 80
    have q2 := cnt_minus ex em 80
    refine (len80 s1 _).trans ?_
    refine (len80 s2 _).trans ?_
    refine (len80 ha _).trans ?_
    refine (len80 hb _).trans ?_
    rw [wr (x := cntS u 80 + cntS m 80) (by omega) (by omega), wr (x := cntS a 80 + cntS b 80) (by omega) (by omega)]
    refine (c_pos q1).trans ?_
    refine (len80 s3 _).trans ?_
    refine (len80 s2 _).trans ?_
    refine (len80 ha _).trans ?_
    rw [wr (x := cntS x 80 + cntS m 80) (by omega) (by omega)]
    refine (c_pos q2).trans ?_
    exact sane03 _
  · refine (c_nneg hl).trans ?_
    exact sane03 _
end
end Go.Lift

