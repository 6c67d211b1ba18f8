/- OrderCausal in plain Lean. -/
import Derived.Test.YtamnjokpncjbfaaFn2
import Derived.Test.YtamnjokpncjbfaaLSort
namespace Go.Lift
open Go.RowKit Go.IntWalk
noncomputable section
set_option linter.unusedVariables false
set_option linter.unusedSimpArgs false
set_option maxRecDepth 10000

def sumL (l : List Link) : Int := (l.map fun x => x.2.2).sum
/-- A chain of links between hosts of their own. -/
structure Chain (i : Nat) (sum : Int) (r : Rec) : Prop where
  hosts : r.1 = List.replicate i ([104], 0)
  events : r.2.2.1 = (List.range i).map fun (j : Nat) => ((j : Int), ((50 : Int), [120]))
  fewS : r.2.1.length ≤ i
  syncs : ∀ s ∈ r.2.1, ∃ h : Nat, h < i ∧ s = ((h : Int), ((50 : Int), (864000 + 9 * (h : Int) - 9, 864000 + 9 * (h : Int) + 9)))
  lenL : r.2.2.2.length = i - 1
  links : ∀ j, j < r.2.2.2.length → ∃ m : Int, 1 ≤ m ∧ m ≤ 9 ∧ r.2.2.2.getD j (0, 0, 0) = ((j : Int), ((j : Int) + 1, m))
  sum : sum = sumL r.2.2.2

theorem Chain.nE {i : Nat} {sum : Int} {r : Rec} (h : Chain i sum r) : Go.Lift.nE r = i := by unfold Go.Lift.nE; rw [h.events]; simp
theorem Chain.ev {i : Nat} {sum : Int} {r : Rec} (h : Chain i sum r) {j : Nat} (hj : j < i) : evAt r j = ((j : Int), ((50 : Int), [120])) := by
  unfold evAt
  rw [h.events]
  simp [List.getD, hj]
theorem Chain.sum_le {i : Nat} {sum : Int} {r : Rec} (h : Chain i sum r) : 0 ≤ sum ∧ sum ≤ 9 * (r.2.2.2.length : Int) := by
  have key : ∀ (l : List Link), (∀ x ∈ l, 1 ≤ x.2.2 ∧ x.2.2 ≤ 9) → 0 ≤ sumL l ∧ sumL l ≤ 9 * (l.length : Int) := by
    intro l
    induction l with
    | nil => intro _; simp [sumL]
    | cons x l ih =>
      intro hx
      have h1 := hx x (by simp)
      have h2 := ih (fun y hy => hx y (by simp [hy]))
      have e : sumL (x :: l) = x.2.2 + sumL l := by simp [sumL]
      rw [e, List.length_cons]
      omega
  rw [h.sum]
  refine key _ (fun x hx => ?_)
  obtain ⟨j, hj, rfl⟩ := List.getElem_of_mem hx
  obtain ⟨m, h1, h2, h3⟩ := h.links j hj
  have e : r.2.2.2.getD j (0, 0, 0) = r.2.2.2[j] := by simp [List.getD, hj]
  rw [← e, h3]
  exact ⟨h1, h2⟩

theorem Chain.link_mem {i : Nat} {sum : Int} {r : Rec} (h : Chain i sum r) {l : Link} (hl : l ∈ r.2.2.2) : ∃ (j : Nat) (m : Int), j + 1 < i ∧ 1 ≤ m ∧ m ≤ 9 ∧ l = ((j : Int), ((j : Int) + 1, m)) := by
  obtain ⟨j, hj, rfl⟩ := List.getElem_of_mem hl
  obtain ⟨m, h1, h2, h3⟩ := h.links j hj
  have e : r.2.2.2.getD j (0, 0, 0) = r.2.2.2[j] := by simp [List.getD, hj]
  have := h.lenL
  exact ⟨j, m, by omega, h1, h2, by rw [← e, h3]⟩

theorem Chain.valid {i : Nat} (hi : i ≤ 5) {sum : Int} {r : Rec} (h : Chain i sum r) : Go.Lift.valid r = true := by
  have hl := h.lenL
  have hs := h.fewS
  have hE := h.nE
  have hh : r.1.length = i := by rw [h.hosts]; simp
  refine valid_mk (by omega) (by omega) (by unfold Go.Lift.nE at hE; omega) (by omega) (fun x hx => ?_) (fun s hs => ?_) (fun e he => ?_) (fun l hl => ?_)
  · rw [h.hosts] at hx
    rw [List.eq_of_mem_replicate hx]
    omega
  · obtain ⟨g, hg, rfl⟩ := h.syncs s hs
    refine ⟨by simp only; omega, by simp only; omega, ?_⟩
    simp only [okSync, Bool.and_eq_true, inN_iff, decide_eq_true_eq]
    omega
  · rw [h.events] at he
    simp only [List.mem_map, List.mem_range] at he
    obtain ⟨j, hj, rfl⟩ := he
    simp only
    omega
  · obtain ⟨j, m, h1, h2, h3, rfl⟩ := h.link_mem hl
    simp only
    omega

/-- Times that fit. -/
def chainX (j : Nat) : Int := if j = 0 then 0 else 864000 + 9 * ((j : Int) - 1)
theorem chainX_succ (j : Nat) : chainX (j + 1) = 864000 + 9 * (j : Int) := by unfold chainX; rw [if_neg (by omega)]; omega

theorem Chain.when {i : Nat} (hi : i ≤ 5) {sum : Int} {r : Rec} (h : Chain i sum r) {j : Nat} (hj : j < i) : (whenAt r j).2 = true ∧ (whenAt r j).1.1 ≤ 864000 + 9 * (j : Int) ∧ 864000 + 9 * (j : Int) ≤ (whenAt r j).1.2 := by
  have hin : (whenR r (evAt r j).1 (evAt r j).2.1).1 ≤ 864000 + 9 * (j : Int) ∧ 864000 + 9 * (j : Int) ≤ (whenR r (evAt r j).1 (evAt r j).2.1).2 := by
    rw [whenR_eq, h.ev hj]
    refine foldl_meet_in (by simp only; omega) (fun f hf => ?_)
    simp only [froms, List.mem_map, List.mem_filter, decide_eq_true_eq] at hf
    obtain ⟨s, ⟨hs, he⟩, rfl⟩ := hf
    obtain ⟨g, hg, rfl⟩ := h.syncs s hs
    simp only at he
    have e : g = j := by omega
    subst e
    have hd : (r.1.getD ((g : Int)).toNat ([], 0)).2 = 0 := by
      rw [h.hosts]
      simp [List.getD, hj]
    rw [fromS_eq (by rw [hd]; omega) (by simp only [okSync, Bool.and_eq_true, inN_iff, decide_eq_true_eq]; omega) (by omega)]
    rw [if_pos (by simp only; omega)]
    simp only [Int.sub_self, elapsed_zero]
    omega
  rw [whenAt_eq (h.valid hi) (by rw [h.nE]; exact hj)]
  refine ⟨?_, hin.1, hin.2⟩
  simp only [Bool.not_eq_true', decide_eq_false_iff_not]
  omega

theorem Chain.sol {i : Nat} (hi : i ≤ 5) {sum : Int} {r : Rec} (h : Chain i sum r) : SolR r chainX := by
  refine ⟨fun j hj => ?_, fun j k hj hk hjk hh _ => ?_, fun l hl => ?_⟩
  · rw [h.nE] at hj
    have := h.when hi hj
    rw [chainX_succ, show chainX 0 = 0 from rfl]
    omega
  · rw [h.nE] at hj hk
    rw [h.ev hj, h.ev hk] at hh
    simp only at hh
    omega
  · obtain ⟨j, m, h1, h2, h3, rfl⟩ := h.link_mem hl
    simp only
    rw [show ((j : Int) + 1).toNat = j + 1 by omega, Int.toNat_natCast, chainX_succ, chainX_succ]
    omega

theorem Chain.closed {i : Nat} (hi : i ≤ 5) {sum : Int} {r : Rec} (h : Chain i sum r) : ∃ m, ClosedR r m :=
  closed_some (h.valid hi) (whensOk_iff.2 fun j hj => (h.when hi (by rw [h.nE] at hj; exact hj)).1) (by rw [h.nE]; omega) (h.sol hi)

theorem Chain.step {i : Nat} {sum : Int} {r : Rec} (h : Chain i sum r) {x : Nat → Int} (s : SolR r x) {j : Nat} (hj : j + 1 < i) : (r.2.2.2.getD j (0, 0, 0)).2.2 ≤ x (j + 2) - x (j + 1) ∧ 1 ≤ (r.2.2.2.getD j (0, 0, 0)).2.2 := by
  have hl := h.lenL
  have hj' : j < r.2.2.2.length := by omega
  obtain ⟨m, h1, h2, h3⟩ := h.links j hj'
  have hm : r.2.2.2.getD j (0, 0, 0) ∈ r.2.2.2 := getD_mem hj'
  rw [h3] at hm ⊢
  have := s.link _ hm
  simp only at this
  rw [show ((j : Int) + 1).toNat = j + 1 by omega, Int.toNat_natCast] at this
  exact ⟨this, h1⟩

theorem Chain.lt {i : Nat} {sum : Int} {r : Rec} (h : Chain i sum r) {x : Nat → Int} (s : SolR r x) : ∀ (c a : Nat), a + c + 1 < i → x (a + 1) < x (a + c + 2)
  | 0, a, ha => by
    have := h.step s (j := a) (by omega)
    simp only [Nat.add_zero]
    omega
  | c + 1, a, ha => by
    have h1 := h.lt s c a (by omega)
    have h2 := h.step s (j := a + c + 1) (by omega)
    rw [show a + c + 1 + 2 = a + (c + 1) + 2 by omega, show a + c + 1 + 1 = a + c + 2 by omega] at h2
    omega

theorem Chain.bef {i : Nat} {sum : Int} {r : Rec} (h : Chain i sum r) {m : Mat} (hm : ClosedR r m) {a b : Nat} (hab : a < b) (hb : b < i) : Go.Lift.bef m a b = true := by
  rw [hm.bef (by rw [h.nE]; omega) (by rw [h.nE]; exact hb)]
  intro x s
  have := h.lt s (b - a - 1) a (by omega)
  rw [show a + (b - a - 1) + 2 = b + 1 by omega] at this
  exact this

theorem Chain.far {i : Nat} {sum : Int} {r : Rec} (h : Chain i sum r) {x : Nat → Int} (s : SolR r x) : ∀ (c : Nat), c < i → sumL (r.2.2.2.take c) ≤ x (c + 1) - x 1
  | 0, _ => by simp [sumL]
  | c + 1, hc => by
    have h1 := h.far s c (by omega)
    have h2 := h.step s (j := c) (by omega)
    have hl := h.lenL
    have hc' : c < r.2.2.2.length := by omega
    have e : r.2.2.2.getD c (0, 0, 0) = r.2.2.2[c] := by simp [List.getD, hc']
    have e2 : sumL (r.2.2.2.take (c + 1)) = sumL (r.2.2.2.take c) + r.2.2.2[c].2.2 := by
      rw [List.take_succ_eq_append_getElem hc']
      unfold sumL
      rw [List.map_append, List.sum_append]
      simp only [List.map_cons, List.map_nil, List.sum_cons, List.sum_nil, Int.add_zero]
    rw [e2, ← e, show c + 1 + 1 = c + 2 by omega]
    omega

theorem Chain.gap {i : Nat} {sum : Int} {r : Rec} (h : Chain i sum r) (h2 : 2 ≤ i) {m : Mat} (hm : ClosedR r m) : sum ≤ (gapN m 0 (i - 1)).1 := by
  have hl := h.lenL
  have : at2 m (i - 1 + 1) (0 + 1) ≤ -sum := by
    rw [hm.le_iff (by rw [h.nE]; omega) (by rw [h.nE]; omega)]
    intro x s
    have := h.far s (i - 1) (by omega)
    rw [← hl, List.take_length, ← h.sum, hl] at this
    rw [Nat.zero_add]
    omega
  unfold gapN
  simp only
  omega

/-- Where all is certain there is one order. -/
theorem chain_sorted {n : Nat} {m : Mat} (hb : ∀ a b, a < b → b < n → bef m a b = true) {l : List Int} (ha : allowsW n m l = true) : l = (List.range n).map fun (j : Nat) => (j : Int) := by
  obtain ⟨h0, h1, h2⟩ := allows_iff.1 ha
  have lt : ∀ k i, k < i → i < n → l.getD k 0 < l.getD i 0 := by
    intro k i hk hi
    obtain ⟨h3, h4⟩ := h2 k i hk hi
    have a1 := h1 i hi
    have a2 := h1 k (by omega)
    refine Classical.byContradiction fun hc => ?_
    have := hb (l.getD i 0).toNat (l.getD k 0).toNat (by omega) (by omega)
    rw [h4] at this
    cases this
  have ge : ∀ i, i < n → (i : Int) ≤ l.getD i 0 := by
    intro i
    induction i with
    | zero => intro hi; have := h1 0 hi; omega
    | succ i ih =>
      intro hi
      have := ih (by omega)
      have := lt i (i + 1) (by omega) hi
      omega
  have le : ∀ c i, i + c + 1 = n → l.getD i 0 ≤ (i : Int) := by
    intro c
    induction c with
    | zero => intro i hi; have := h1 i (by omega); omega
    | succ c ih =>
      intro i hi
      have := ih (i + 1) (by omega)
      have := lt i (i + 1) (by omega) (by omega)
      omega
  apply List.ext_getElem
  · simp [h0]
  · intro i h3 h4
    have hi : i < n := by omega
    have e : l.getD i 0 = l[i] := by simp [List.getD, h3]
    have := ge i hi
    have := le (n - i - 1) i (by omega)
    simp only [List.getElem_map, List.getElem_range]
    rw [← e]
    omega

section
variable {β : Type}
theorem same_self (l : List Int) (hl : l.length ≤ 100000) (k : Bool → Option β) : ref25_Same l l k = k true := by
  unfold ref25_Same ref25_Same_s
  refine (c_npos rfl).trans ?_
  unfold ref25_Same_p1
  refine pass_loop l.length (fun f j => ref25_Same_p1_n f (fun t => k t) (fun _ => k true) l l j) (k true) fuel (lt_fuel (by omega)) (fun f j hj => ?_) (fun f => ?_)
  · have e1 : IntKind.i64.wrap ((j : Int) + 1) = j + 1 := i64_in _ (by omega)
    rw [ref25_Same_p1_step]
    unfold ref25_Same_p1_s
    simp only [Int.toNat_natCast, e1]
    refine (c_pos (by omega)).trans ?_
    refine (c_inb (by omega)).trans ?_
    refine (c_inb (by omega)).trans ?_
    exact c_npos trivial
  · rw [ref25_Same_p1_step]
    unfold ref25_Same_p1_s
    exact c_neg (by omega)

theorem causal_p3 {n : Nat} (hn : n ≤ 100) (k1 : law40_OrderCausal_p3_K1 β) (sum : Int) (ok : Bool) (x : Int) (is still : Bool) (l : List Int) (g g2 : Int) (b4 : List Host) (b5 : List Sync) (b6 : List Event) (b7 : List Link) :
    law40_OrderCausal_p3 k1 sum (n : Int) ok x is still 0 l g g2 [] b4 b5 b6 b7 = k1 sum ok x is still l g g2 ((List.range n).map fun (j : Nat) => (j : Int)) b4 b5 b6 b7 := by
  have key := range_state n (fun i => (List.range i).map fun (j : Nat) => (j : Int)) (fun f j s => law40_OrderCausal_p3_n f k1 sum (n : Int) ok x is still j l g g2 s b4 b5 b6 b7)
    (k1 sum ok x is still l g g2 ((List.range n).map fun (j : Nat) => (j : Int)) b4 b5 b6 b7) fuel (lt_fuel (by omega))
    (fun f j hj => by
      have e1 : IntKind.i64.wrap ((j : Int) + 1) = j + 1 := i64_in _ (by omega)
      rw [law40_OrderCausal_p3_step]
      unfold law40_OrderCausal_p3_s
      simp only [e1]
      refine (c_pos (by omega)).trans ?_
      refine (c_room (by simp only [List.length_cons, List.length_nil, List.length_map, List.length_range]; omega)).trans ?_
      rw [List.range_succ, List.map_append]
      rfl)
    (fun f => by
      rw [law40_OrderCausal_p3_step]
      unfold law40_OrderCausal_p3_s
      exact c_neg (by omega))
  unfold law40_OrderCausal_p3
  exact key

theorem chain_next {i : Nat} {sum : Int} {hosts : List Host} {syncs : List Sync} {evs : List Event} {links : List Link} (h : Chain i sum (hosts, syncs, evs, links)) {syncs' : List Sync}
    (hs : syncs' = syncs ∨ syncs' = syncs ++ [((i : Int), ((50 : Int), (864000 + 9 * (i : Int) - 9, 864000 + 9 * (i : Int) + 9)))]) {links' : List Link} {sum' : Int}
    (hl : (i = 0 ∧ links' = links ∧ sum' = sum) ∨ ∃ m, 1 ≤ m ∧ m ≤ 9 ∧ 1 ≤ i ∧ links' = links ++ [((i : Int) - 1, ((i : Int), m))] ∧ sum' = sum + m) :
    Chain (i + 1) sum' (hosts ++ [([104], 0)], syncs', evs ++ [((i : Int), ((50 : Int), [120]))], links') := by
  have h1 := h.hosts
  have h2 := h.events
  have h3 := h.fewS
  have h4 := h.lenL
  have h7 := h.links
  have h8 := h.sum
  simp only at h1 h2 h3 h4 h7 h8
  refine ⟨?_, ?_, ?_, fun s hs' => ?_, ?_, fun j hj => ?_, ?_⟩
  · simp only
    rw [h1, List.replicate_succ']
  · simp only
    rw [h2, List.range_succ, List.map_append]
    rfl
  · rcases hs with rfl | rfl
    · simp only; omega
    · simp only [List.length_append, List.length_cons, List.length_nil]; omega
  · have old : ∀ s ∈ syncs, ∃ h : Nat, h < i + 1 ∧ s = ((h : Int), ((50 : Int), (864000 + 9 * (h : Int) - 9, 864000 + 9 * (h : Int) + 9))) := fun s hm => by
      obtain ⟨g, hg, e⟩ := h.syncs s hm
      exact ⟨g, by omega, e⟩
    rcases hs with rfl | rfl
    · exact old s hs'
    · rcases List.mem_append.1 hs' with hm | hm
      · exact old s hm
      · simp only [List.mem_cons, List.not_mem_nil, or_false] at hm
        exact ⟨i, by omega, hm⟩
  · rcases hl with ⟨h0, rfl, rfl⟩ | ⟨m, m1, m2, m3, rfl, rfl⟩
    · simp only; omega
    · simp only [List.length_append, List.length_cons, List.length_nil]; omega
  · rcases hl with ⟨h0, rfl, rfl⟩ | ⟨m, m1, m2, m3, rfl, rfl⟩
    · exact h7 j hj
    · simp only [List.length_append, List.length_cons, List.length_nil] at hj
      simp only
      by_cases hj' : j < links.length
      · rw [getD_append hj']
        exact h7 j hj'
      · have e : j = links.length := by omega
        rw [e, getD_last]
        refine ⟨m, m1, m2, ?_⟩
        have : (links.length : Int) = (i : Int) - 1 := by omega
        rw [this]
        congr 1
        congr 1
        omega
  · rcases hl with ⟨h0, rfl, rfl⟩ | ⟨m, m1, m2, m3, rfl, rfl⟩
    · exact h8
    · simp only [sumL, List.map_append, List.sum_append, List.map_cons, List.map_nil, List.sum_cons, List.sum_nil] at h8 ⊢
      omega

theorem causal_p2 (k1 : law40_OrderCausal_p2_K1 β) : ∀ (c i f : Nat) (sum : Int) (d : Dice) (hosts : List Host) (syncs : List Sync) (evs : List Event) (links : List Link), i + c = 5 → c < f → DiceOk d → Chain i sum (hosts, syncs, evs, links) →
    ∃ n sum' r, (2 ≤ n ∧ n ≤ 5 ∧ Chain n sum' r) ∧ law40_OrderCausal_p2_n f k1 (864000 + 9 * (i : Int)) sum (i : Int) d.1 d.2 hosts syncs evs links = k1 sum' r.1 r.2.1 r.2.2.1 r.2.2.2 := by
  intro c
  induction c with
  | zero =>
    intro i f sum d hosts syncs evs links hi hf hd h
    obtain ⟨f, rfl⟩ : ∃ m, f = m + 1 := ⟨f - 1, by omega⟩
    obtain ⟨x, d1, hx0, hx1, hd1, f1⟩ := next_ok (n := 4) hd (by omega)
    have e1 : IntKind.i64.wrap (2 + x) = 2 + x := i64_in _ (by omega)
    refine ⟨i, sum, (hosts, syncs, evs, links), ⟨by omega, by omega, h⟩, ?_⟩
    rw [law40_OrderCausal_p2_step]
    unfold law40_OrderCausal_p2_s
    refine (f1 _).trans ?_
    rw [e1]
    exact c_neg (by omega)
  | succ c ih =>
    intro i f sum d hosts syncs evs links hi hf hd h
    obtain ⟨f, rfl⟩ : ∃ m, f = m + 1 := ⟨f - 1, by omega⟩
    obtain ⟨x, d1, hx0, hx1, hd1, f1⟩ := next_ok (n := 4) hd (by omega)
    have e1 : IntKind.i64.wrap (2 + x) = 2 + x := i64_in _ (by omega)
    by_cases hlt : (i : Int) < 2 + x
    · have hh : hosts.length = i := by have := h.hosts; simp only at this; rw [this]; simp
      have hE : evs.length = i := h.nE
      have hS : syncs.length ≤ i := h.fewS
      have hL : links.length = i - 1 := h.lenL
      have hsum := h.sum_le
      simp only at hsum
      obtain ⟨y, d2, hy0, hy1, hd2, f2⟩ := next_ok (n := 2) hd1 (by omega)
      have e2 : IntKind.i64.wrap (864000 + 9 * (i : Int) - 9) = 864000 + 9 * (i : Int) - 9 := i64_in _ (by omega)
      have e3 : IntKind.i64.wrap (864000 + 9 * (i : Int) + 9) = 864000 + 9 * ((i + 1 : Nat) : Int) := (i64_in _ (by omega)).trans (by omega)
      have e3' : 864000 + 9 * ((i + 1 : Nat) : Int) = 864000 + 9 * (i : Int) + 9 := by omega
      have e4 : IntKind.i64.wrap ((i : Int) + 1) = ((i + 1 : Nat) : Int) := i64_in _ (by omega)
      -- the rest of a round
      have rest : ∀ (syncs' : List Sync), (syncs' = syncs ∨ syncs' = syncs ++ [((i : Int), ((50 : Int), (864000 + 9 * (i : Int) - 9, 864000 + 9 * (i : Int) + 9)))]) →
          ∃ n sum' r, (2 ≤ n ∧ n ≤ 5 ∧ Chain n sum' r) ∧ (law40_OrderCausal_p1 (fun (at_2 : Int) (sum2 : Int) (i_2 : Int) (d3 : List Int) (d4 : Int) (b2_2 : List Host) (b3_2 : List Sync) (b4_2 : List Event) (b5_2 : List Link) =>
            law40_OrderCausal_p2_n f k1 at_2 sum2 (IntKind.i64.wrap (i_2 + (1 : Int))) d3 d4 b2_2 b3_2 b4_2 b5_2) (864000 + 9 * (i : Int)) sum (i : Int) d2.1 d2.2 (hosts ++ [([104], 0)]) syncs' evs links : Option β) = k1 sum' r.1 r.2.1 r.2.2.1 r.2.2.2 := by
        intro syncs' hs
        unfold law40_OrderCausal_p1 law40_OrderCausal_p1_u law40_OrderCausal_p1_s
        by_cases h0 : 0 < (i : Int)
        · obtain ⟨z, d3, hz0, hz1, hd3, f3⟩ := next_ok (n := 9) hd2 (by omega)
          have e5 : IntKind.i64.wrap (1 + z) = 1 + z := i64_in _ (by omega)
          have e6 : IntKind.i64.wrap ((i : Int) - 1) = (i : Int) - 1 := i64_in _ (by omega)
          have e7 : IntKind.i64.wrap (sum + (1 + z)) = sum + (1 + z) := i64_in _ (by omega)
          obtain ⟨n, sum', r, h1, h2⟩ := ih (i + 1) f (sum + (1 + z)) d3 (hosts ++ [([104], 0)]) syncs' (evs ++ [((i : Int), ((50 : Int), [120]))]) (links ++ [((i : Int) - 1, ((i : Int), 1 + z))]) (by omega) (by omega) hd3
            (chain_next h hs (.inr ⟨1 + z, by omega, by omega, by omega, rfl, rfl⟩))
          refine ⟨n, sum', r, h1, ?_⟩
          refine (c_room (by simp only [List.length_cons, List.length_nil]; omega)).trans ?_
          refine (c_pos h0).trans ?_
          refine (f3 _).trans ?_
          simp only [e3, e4, e5, e6, e7]
          refine (c_room (by simp only [List.length_cons, List.length_nil]; omega)).trans ?_
          exact h2
        · obtain ⟨n, sum', r, h1, h2⟩ := ih (i + 1) f sum d2 (hosts ++ [([104], 0)]) syncs' (evs ++ [((i : Int), ((50 : Int), [120]))]) links (by omega) (by omega) hd2
            (chain_next h hs (.inl ⟨by omega, rfl, rfl⟩))
          refine ⟨n, sum', r, h1, ?_⟩
          refine (c_room (by simp only [List.length_cons, List.length_nil]; omega)).trans ?_
          refine (c_neg h0).trans ?_
          simp only [e3, e4]
          exact h2
      by_cases hy : y = 0
      · obtain ⟨n, sum', r, h1, h2⟩ := rest _ (.inr rfl)
        refine ⟨n, sum', r, h1, ?_⟩
        rw [law40_OrderCausal_p2_step]
        unfold law40_OrderCausal_p2_s
        refine (f1 _).trans ?_
        rw [e1]
        refine (c_pos hlt).trans ?_
        refine (c_room (by simp only [List.length_cons, List.length_nil]; omega)).trans ?_
        refine (f2 _).trans ?_
        refine (c_pos hy).trans ?_
        simp only [e2, e3, e3']
        refine (c_room (by simp only [List.length_cons, List.length_nil]; omega)).trans ?_
        exact h2
      · obtain ⟨n, sum', r, h1, h2⟩ := rest _ (.inl rfl)
        refine ⟨n, sum', r, h1, ?_⟩
        rw [law40_OrderCausal_p2_step]
        unfold law40_OrderCausal_p2_s
        refine (f1 _).trans ?_
        rw [e1]
        refine (c_pos hlt).trans ?_
        refine (c_room (by simp only [List.length_cons, List.length_nil]; omega)).trans ?_
        refine (f2 _).trans ?_
        refine (c_neg hy).trans ?_
        exact h2
    · refine ⟨i, sum, (hosts, syncs, evs, links), ⟨by omega, by omega, h⟩, ?_⟩
      rw [law40_OrderCausal_p2_step]
      unfold law40_OrderCausal_p2_s
      refine (f1 _).trans ?_
      rw [e1]
      exact c_neg (by omega)

theorem orderCausal {t : List Int} (k : Bool → Option β) : law40_OrderCausal t k = k true := by
  unfold law40_OrderCausal law40_OrderCausal_s
  refine (light_eq _ _).trans ?_
  by_cases hl : (t.length : Int) ≤ 500
  · refine (c_npos hl).trans ?_
    refine (roll_eq _ _).trans ?_
    unfold law40_OrderCausal_p2
    obtain ⟨n, sum, r, ⟨n1, n2, h⟩, e⟩ := causal_p2 (β := β) _ 5 0 fuel 0 (t, 0) [] [] [] [] (by omega) (lt_fuel (by omega)) (roll_ok hl) ⟨rfl, rfl, by simp, by simp, rfl, by simp, rfl⟩
    refine e.trans ?_
    obtain ⟨m, hm⟩ := h.closed n2
    have hE := h.nE
    have hn : nE r ≤ 7 := by omega
    have hnE : r.2.2.1.length = nE r := rfl
    have hb : ∀ a b, a < b → b < nE r → Go.Lift.bef m a b = true := fun a b h1 h2 => h.bef hm h1 (by omega)
    have e1 : IntKind.i64.wrap ((r.2.2.1.length : Int) - 1) = ((nE r - 1 : Nat) : Int) := (i64_in _ (by omega)).trans (by omega)
    simp only [e1]
    refine (Consistent_some hm.eq (hm.matB hn) _).trans ?_
    refine c_nt.trans ?_
    refine (Sort_eq hm.eq (hm.matB hn) _).trans ?_
    rw [chain_sorted hb hm.sort_allowed]
    have hc := Compare_eq (β := β) hm.eq (hm.matB hn) (a := 0) (b := nE r - 1) (by omega) (by omega)
    have hg := Gap_eq (β := β) hm.eq (hm.matB hn) (a := 0) (b := nE r - 1) (by omega) (by omega)
    refine (hc _).trans ?_
    refine (hg _).trans ?_
    rw [hnE]
    refine (causal_p3 (by omega) _ _ _ _ _ _ _ _ _ _ _ _ _).trans ?_
    refine c_t.trans ?_
    refine (same_self _ (by simp; omega) _).trans ?_
    refine c_t.trans ?_
    refine c_t.trans ?_
    refine c_t.trans ?_
    refine (c_pos (cmpN_before.2 (hb 0 (nE r - 1) (by omega) (by omega)))).trans ?_
    have hgap := h.gap n1 hm
    rw [← hE] at hgap
    refine (c_pos hgap).trans ?_
    refine (Open_eq hm.eq (hm.matB hn) _).trans ?_
    have ho : openW (nE r) m = [] := by
      rw [List.eq_nil_iff_forall_not_mem]
      intro p hp
      obtain ⟨a, b, h1, h2, h3, -⟩ := mem_openW.1 hp
      unfold opn at h3
      rw [hb a b h1 h2] at h3
      simp at h3
    rw [ho]
    refine (c_pos rfl).trans ?_
    exact sane40_eq _
  · refine (c_nneg hl).trans ?_
    exact sane40_eq _
end
end
end Go.Lift
