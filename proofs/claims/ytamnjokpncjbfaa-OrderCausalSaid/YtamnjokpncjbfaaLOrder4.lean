/- Records that are changed in their links. -/
import Derived.Test.YtamnjokpncjbfaaFn2
import Derived.Test.YtamnjokpncjbfaaLOrder3
namespace Go.Lift
open Go.RowKit Go.IntWalk
noncomputable section
set_option linter.unusedVariables false
set_option linter.unusedSimpArgs false
set_option maxRecDepth 10000

theorem c_beq {β : Type} {a b : Bool} {x y : Option β} (h : a = b) : cond (a == b) x y = x := by subst h; cases a <;> rfl
theorem c_nbeq {β : Type} {a b : Bool} {x y : Option β} (h : a = b) : cond (!(a == b)) x y = y := by subst h; cases a <;> rfl

theorem valid_mk {r : Rec} (h0 : r.1.length ≤ 8) (h1 : r.2.1.length ≤ 64) (h2 : r.2.2.1.length ≤ 40) (h3 : r.2.2.2.length ≤ 64) (h4 : ∀ h ∈ r.1, 0 ≤ h.2 ∧ h.2 ≤ 500000)
    (h5 : ∀ s ∈ r.2.1, 0 ≤ s.1 ∧ s.1 < r.1.length ∧ okSync s = true) (h6 : ∀ e ∈ r.2.2.1, 0 ≤ e.1 ∧ e.1 < r.1.length ∧ 0 ≤ e.2.1 ∧ e.2.1 ≤ 8589934592)
    (h7 : ∀ l ∈ r.2.2.2, 0 ≤ l.1 ∧ l.1 < nE r ∧ 0 ≤ l.2.1 ∧ l.2.1 < nE r ∧ l.1 ≠ l.2.1 ∧ 0 ≤ l.2.2 ∧ l.2.2 ≤ 8589934592) : valid r = true := by
  unfold valid small
  simp only [Bool.and_eq_true, List.all_eq_true, Bool.not_eq_true', decide_eq_false_iff_not]
  refine ⟨⟨by omega, by omega, by omega, by omega⟩, fun x hx => inN_mk (h4 x hx), fun x hx => ?_, fun x hx => ?_, fun x hx => ?_⟩
  · have := h5 x hx
    simp only [vSync, Bool.and_eq_true, inN_iff]
    exact ⟨by omega, this.2.2⟩
  · have := h6 x hx
    simp only [vEvent, Bool.and_eq_true, inN_iff]
    omega
  · have := h7 x hx
    unfold nE at this
    simp only [vLink, Bool.and_eq_true, inN_iff, Bool.not_eq_true', decide_eq_false_iff_not]
    omega

def withLinks (r : Rec) (l : List Link) : Rec := (r.1, r.2.1, r.2.2.1, l)
theorem nE_withLinks (r : Rec) (l : List Link) : nE (withLinks r l) = nE r := rfl
theorem valid_withLinks {r : Rec} (hv : valid r = true) {l : List Link} (hl : l.length ≤ 64) (h : ∀ x ∈ l, 0 ≤ x.1 ∧ x.1 < nE r ∧ 0 ≤ x.2.1 ∧ x.2.1 < nE r ∧ x.1 ≠ x.2.1 ∧ 0 ≤ x.2.2 ∧ x.2.2 ≤ 8589934592) : valid (withLinks r l) = true := by
  have hb := valid_bd hv
  have hp := valid_parts hv
  exact valid_mk hb.1 hb.2.1 hb.2.2.1 hl hp.1 hp.2.1 hp.2.2.1 h

theorem whenAt_withLinks {r : Rec} (hv : valid r = true) {l : List Link} (hv' : valid (withLinks r l) = true) (i : Nat) : whenAt (withLinks r l) i = whenAt r i := by
  unfold whenAt Go.Lift.when?
  rw [hv, hv']
  rfl

theorem whens_withLinks {r : Rec} (hv : valid r = true) {l : List Link} (hv' : valid (withLinks r l) = true) : whensOk (withLinks r l) = whensOk r := by
  unfold whensOk
  rw [nE_withLinks]
  congr 1
  funext i
  rw [whenAt_withLinks hv hv']

theorem sol_withLinks {r : Rec} (hv : valid r = true) {l : List Link} (hv' : valid (withLinks r (r.2.2.2 ++ l)) = true) (x : Nat → Int) :
    SolR (withLinks r (r.2.2.2 ++ l)) x ↔ SolR r x ∧ ∀ y ∈ l, y.2.2 ≤ x (y.2.1.toNat + 1) - x (y.1.toNat + 1) := by
  constructor
  · intro s
    refine ⟨⟨fun i hi => ?_, s.pair, fun y hy => s.link y (List.mem_append_left _ hy)⟩, fun y hy => s.link y (List.mem_append_right _ hy)⟩
    rw [← whenAt_withLinks hv hv']
    exact s.ev i hi
  · rintro ⟨s, h⟩
    refine ⟨fun i hi => ?_, s.pair, fun y hy => ?_⟩
    · rw [whenAt_withLinks hv hv']
      exact s.ev i hi
    · rcases List.mem_append.1 hy with hy | hy
      · exact s.link y hy
      · exact h y hy

theorem consistent_iff {r : Rec} (hv : valid r = true) (hw : whensOk r = true) (hn : nE r ≤ 7) : (closedW r).isSome = true ↔ ∃ x, SolR r x := by
  constructor
  · intro h
    obtain ⟨m, e⟩ := Option.isSome_iff_exists.1 h
    exact ⟨_, (closed_ok hn e).row (i := 0) (by omega)⟩
  · rintro ⟨x, s⟩
    obtain ⟨m, h⟩ := closed_some hv hw hn s
    rw [h.eq]
    rfl

/-- One more link, of no length. -/
theorem ClosedR.linked {r : Rec} {m : Mat} (hm : ClosedR r m) (hn : nE r ≤ 7) (hl : r.2.2.2.length ≤ 63) {a b : Nat} (ha : a < nE r) (hb : b < nE r) (hab : a ≠ b) :
    (closedW (withLinks r (r.2.2.2 ++ [((a : Int), ((b : Int), (0 : Int)))]))).isSome = !Go.Lift.bef m b a := by
  have hv' : Go.Lift.valid (withLinks r (r.2.2.2 ++ [((a : Int), ((b : Int), (0 : Int)))])) = true := by
    refine valid_withLinks hm.valid (by simp; omega) (fun x hx => ?_)
    rcases List.mem_append.1 hx with hx | hx
    · exact (valid_parts hm.valid).2.2.2 x hx
    · simp only [List.mem_cons, List.not_mem_nil, or_false] at hx
      subst hx
      simp only
      omega
  have hw' := whens_withLinks hm.valid hv'
  rw [hm.whens] at hw'
  rw [Bool.eq_iff_iff, consistent_iff hv' hw' hn]
  constructor
  · rintro ⟨x, s⟩
    obtain ⟨s1, s2⟩ := (sol_withLinks hm.valid hv' x).1 s
    have h2 := s2 _ (List.mem_cons_self ..)
    simp only [Int.toNat_natCast] at h2
    cases hb' : Go.Lift.bef m b a with
    | false => rfl
    | true =>
      have := (hm.bef hb ha).1 hb' x s1
      omega
  · intro h
    refine ⟨fun j => at2 m (a + 1) j, (sol_withLinks hm.valid hv' _).2 ⟨hm.row (by omega), fun y hy => ?_⟩⟩
    simp only [List.mem_cons, List.not_mem_nil, or_false] at hy
    subst hy
    simp only [Int.toNat_natCast]
    have z := hm.ok.zero (a + 1) (by omega)
    have h1 : ¬ at2 m (a + 1) (b + 1) ≤ -1 := by
      intro h1
      unfold Go.Lift.bef at h
      rw [decide_eq_true h1] at h
      cases h
    omega

theorem opn_comm (m : Mat) (a b : Nat) : opn m a b = opn m b a := Bool.and_comm _ _

theorem mem_openW {n : Nat} {m : Mat} {p : Int × Int} : p ∈ openW n m ↔ ∃ a b : Nat, a < b ∧ b < n ∧ opn m a b = true ∧ p = ((a : Int), (b : Int)) := by
  unfold openW openL
  simp only [List.mem_flatMap, List.mem_range, List.mem_map, List.mem_filter, List.mem_range'_1]
  constructor
  · rintro ⟨a, ha, b, ⟨hb, ho⟩, rfl⟩
    exact ⟨a, b, by omega, by omega, ho, rfl⟩
  · rintro ⟨a, b, h1, h2, ho, rfl⟩
    exact ⟨a, by omega, b, ⟨by omega, ho⟩, rfl⟩

theorem openW_any {n : Nat} {m : Mat} {a b : Nat} (ha : a < n) (hb : b < n) (hab : a ≠ b) :
    (openW n m).any (fun p => decide (p.1 = (if (b : Int) < a then (b : Int) else a)) && (decide (p.2 = (if (b : Int) > a then (b : Int) else a)) && true)) = opn m a b := by
  rw [Bool.eq_iff_iff, List.any_eq_true]
  constructor
  · rintro ⟨p, hp, h⟩
    obtain ⟨c, d, h1, h2, ho, rfl⟩ := mem_openW.1 hp
    simp only [Bool.and_true, Bool.and_eq_true, decide_eq_true_eq] at h
    by_cases hlt : b < a
    · rw [if_pos (by omega), if_neg (by omega)] at h
      have e1 : c = b := by omega
      have e2 : d = a := by omega
      rw [opn_comm, ← e1, ← e2]
      exact ho
    · rw [if_neg (by omega), if_pos (by omega)] at h
      have e1 : c = a := by omega
      have e2 : d = b := by omega
      rw [← e1, ← e2]
      exact ho
  · intro ho
    by_cases hlt : b < a
    · refine ⟨((b : Int), (a : Int)), mem_openW.2 ⟨b, a, hlt, ha, by rw [opn_comm]; exact ho, rfl⟩, ?_⟩
      rw [if_pos (by omega), if_neg (by omega)]
      simp
    · refine ⟨((a : Int), (b : Int)), mem_openW.2 ⟨a, b, by omega, hb, ho, rfl⟩, ?_⟩
      rw [if_neg (by omega), if_pos (by omega)]
      simp
theorem openW_len (n : Nat) (m : Mat) : (openW n m).length ≤ n * n := by
  have h := flat_len (openL n m) n (List.range n) (fun a _ => openL_len n m a)
  rw [List.length_range] at h
  exact h
end
end Go.Lift
