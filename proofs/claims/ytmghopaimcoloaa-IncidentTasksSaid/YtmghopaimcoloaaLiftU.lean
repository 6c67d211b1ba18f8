/- The lifter, part U: lists of types, specs and cuts. -/
import Derived.Test.YtmghopaimcoloaaLiftT
import Derived.KernelRfl
namespace Go.Lift
open Go.RowKit

def pick1 {α : Type 1} : List (Nat × α) → Nat → Option α
  | [], _ => none
  | (j, x) :: r, i => bif Nat.beq i j then some x else pick1 r i

theorem look_mem {α : Type} : ∀ {l : List (Nat × α)} {i : Nat} {x : α}, look l i = some x → (i, x) ∈ l
  | [], _, _, h => by simp [look] at h
  | (j, y) :: r, i, x, h => by
    simp only [look] at h
    cases hb : Nat.beq i j with
    | true =>
      rw [hb, cond_true] at h
      injection h with h
      rw [Nat.eq_of_beq_eq_true hb, h]
      exact List.mem_cons_self
    | false =>
      rw [hb, cond_false] at h
      exact List.mem_cons_of_mem _ (look_mem h)

theorem TOk_of {P : Program} {tab : List (Nat × TI)} (h : tab.map (fun p => tiOf P p.1) = tab.map (fun p => some p.2)) : TOk P (look tab) := by
  intro t ti ht
  have hm := look_mem ht
  have key : ∀ {l : List (Nat × TI)}, l.map (fun p => tiOf P p.1) = l.map (fun p => some p.2) → ∀ p ∈ l, tiOf P p.1 = some p.2 := by
    intro l
    induction l with
    | nil => intro _ p hp; simp at hp
    | cons q l ih =>
      intro h p hp
      simp only [List.map_cons, List.cons.injEq] at h
      rcases List.mem_cons.1 hp with e | hp
      · rw [e]; exact h.1
      · exact ih h.2 p hp
  exact key h _ hm

theorem ΓOk_nil {P : Program} : ΓOk P (pick1 []) := fun _ _ h => by simp [pick1] at h

theorem ΓOk_cons {P : Program} {f : Nat} {S : Spec} {l : List (Nat × Spec)} (h : SpecOk P f S) (hl : ΓOk P (pick1 l)) : ΓOk P (pick1 ((f, S) :: l)) := by
  intro g S' hg
  simp only [pick1] at hg
  cases hb : Nat.beq g f with
  | true =>
    rw [hb, cond_true] at hg
    injection hg with hg
    have hgf := Nat.eq_of_beq_eq_true hb
    rw [hgf, ← hg]
    exact h
  | false =>
    rw [hb, cond_false] at hg
    exact hl g S' hg

def CutsOk (P : Program) (n m p : Nat) (c : Code) (Λ : Nat → Option Cut) : Prop := ∀ q cut, Λ q = some cut → ∀ c' ∈ find q p c, CutOk P n m c' cut

theorem CutsOk_nil {P : Program} {n m p : Nat} {c : Code} : CutsOk P n m p c (pick1 []) := fun _ _ h => by simp [pick1] at h

theorem CutsOk_cons {P : Program} {n m p : Nat} {c c' : Code} {q : Nat} {v : View} {outs : List (AExit × View)} {G : {β : Type} → v.den → Outs.K β outs → Option β} {l : List (Nat × Cut)}
    (hf : find q p c = [c']) (hv : v.m = m) (h : PieceOk P n m c' v outs G) (hl : CutsOk P n m p c (pick1 l)) : CutsOk P n m p c (pick1 ((q, pieceCut v outs G) :: l)) := by
  intro q' cut hq c2 hc2
  simp only [pick1] at hq
  cases hb : Nat.beq q' q with
  | true =>
    rw [hb, cond_true] at hq
    injection hq with hq
    have hqq := Nat.eq_of_beq_eq_true hb
    rw [hqq, hf] at hc2
    simp only [List.mem_singleton] at hc2
    rw [hc2, ← hq]
    intro β σ k r hr
    exact pieceCut_ok hv h σ k r hr
  | false =>
    rw [hb, cond_false] at hq
    exact hl q' cut hq c2 hc2

def bodyOf (fn : Func) : Code := fn.body.getD .skip
def codeAt (q : Nat) (c : Code) : Code :=
  match find q 1 c with
  | c' :: _ => c'
  | [] => .skip
def loopBody : Code → Code
  | .loop c => c
  | _ => .skip
end Go.Lift
