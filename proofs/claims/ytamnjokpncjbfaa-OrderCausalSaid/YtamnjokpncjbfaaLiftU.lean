/- The lifter, part U: lists of types, specs and cuts. -/
import Derived.Test.YtamnjokpncjbfaaLiftT
import Derived.KernelRfl
namespace Go.Lift
open Go.RowKit

def pick1 {α : Type 1} : List (Nat × α) → Nat → Option α
  | [], _ => none
  | (j, x) :: r, i => bif Nat.beq i j then some x else pick1 r i

theorem look_mem {α : Type} : ∀ {l : List (Nat × α)} {i : Nat} {x : α}, look l i = some x → (i, x) ∈ l
  | [], _, _, h => by simp [look] at h
  | (j, y) :: r, i, x, h => by
    simp only [look] at h
    cases hb : Nat.beq i j with
    | true =>
      rw [hb, cond_true] at h
      injection h with h
      rw [Nat.eq_of_beq_eq_true hb, h]
      exact List.mem_cons_self
    | false =>
      rw [hb, cond_false] at h
      exact List.mem_cons_of_mem _ (look_mem h)

theorem TOk_of {P : Program} {tab : List (Nat × TI)} (h : tab.map (fun p => tiOf P p.1) = tab.map (fun p => some p.2)) : TOk P (look tab) := by
  intro t ti ht
  have hm := look_mem ht
  have key : ∀ {l : List (Nat × TI)}, l.map (fun p => tiOf P p.1) = l.map (fun p => some p.2) → ∀ p ∈ l, tiOf P p.1 = some p.2 := by
    intro l
    induction l with
    | nil => intro _ p hp; simp at hp
    | cons q l ih =>
      intro h p hp
      simp only [List.map_cons, List.cons.injEq] at h
      rcases List.mem_cons.1 hp with e | hp
      · rw [e]; exact h.1
      · exact ih h.2 p hp
  exact key h _ hm

theorem SpecOk.never {P : Program} {f : FuncId} {S : Spec} (hf : ∃ fn, P.funcs[f]? = some fn ∧ (fn.name == "runtime.NumGoroutine") = false ∧ fn.body.isNone = false)
    (h : ∀ {β : Type} (x : ST.dens S.params × BT.dens S.ins) (k : ST.dens S.res × BT.dens S.outs → Option β), S.run x k = none) : SpecOk P f S :=
  ⟨hf, fun x k r hr => by rw [h x k] at hr; cases hr⟩

theorem ΓOk_nil {P : Program} : ΓOk P (pick1 []) := ⟨fun _ _ h => by simp [pick1] at h, fun _ _ h => by simp [pick1] at h⟩

theorem ΓOk_cons {P : Program} {f : Nat} {S : Spec} {l : List (Nat × Fun)} (h : SpecOk P f S) (hl : ΓOk P (pick1 l)) : ΓOk P (pick1 ((f, .spec S) :: l)) := by
  constructor
  all_goals
    intro g S' hg
    simp only [pick1] at hg
    cases hb : Nat.beq g f with
    | true =>
      rw [hb, cond_true] at hg
      first
      | (simp only [Option.some.injEq, Fun.spec.injEq] at hg
         have hgf := Nat.eq_of_beq_eq_true hb
         rw [hgf, ← hg]
         exact h)
      | cases hg
    | false =>
      rw [hb, cond_false] at hg
      first | exact hl.spec g S' hg | exact hl.rows g S' hg

theorem ΓOk_row {P : Program} {f : Nat} {F : RowF} {l : List (Nat × Fun)} (h : RowOk P f F) (hl : ΓOk P (pick1 l)) : ΓOk P (pick1 ((f, .rows F) :: l)) := by
  constructor
  all_goals
    intro g S' hg
    simp only [pick1] at hg
    cases hb : Nat.beq g f with
    | true =>
      rw [hb, cond_true] at hg
      first
      | (simp only [Option.some.injEq, Fun.rows.injEq] at hg
         have hgf := Nat.eq_of_beq_eq_true hb
         rw [hgf, ← hg]
         exact h)
      | cases hg
    | false =>
      rw [hb, cond_false] at hg
      first | exact hl.spec g S' hg | exact hl.rows g S' hg

def CutsOk (P : Program) (n m p : Nat) (c : Code) (Λ : Nat → Option Cut) : Prop := ∀ q cut, Λ q = some cut → ∀ c' ∈ find q p c, CutOk P n m c' cut

theorem CutsOk_nil {P : Program} {n m p : Nat} {c : Code} : CutsOk P n m p c (pick1 []) := fun _ _ h => by simp [pick1] at h

theorem CutsOk_cons {P : Program} {n m p : Nat} {c c' : Code} {q : Nat} {v : View} {outs : List (AExit × View)} {G : {β : Type} → v.den → Outs.K β outs → Option β} {l : List (Nat × Cut)}
    (hf : find q p c = [c']) (hv : v.m = m) (h : PieceOk P n m c' v outs G) (hl : CutsOk P n m p c (pick1 l)) : CutsOk P n m p c (pick1 ((q, pieceCut v outs G) :: l)) := by
  intro q' cut hq c2 hc2
  simp only [pick1] at hq
  cases hb : Nat.beq q' q with
  | true =>
    rw [hb, cond_true] at hq
    injection hq with hq
    have hqq := Nat.eq_of_beq_eq_true hb
    rw [hqq, hf] at hc2
    simp only [List.mem_singleton] at hc2
    rw [hc2, ← hq]
    intro β σ k r hr
    exact pieceCut_ok hv h σ k r hr
  | false =>
    rw [hb, cond_false] at hq
    exact hl q' cut hq c2 hc2

/-- A piece with two or more views. -/
def altCut (v : View) (outs : List (AExit × View)) (G : {β : Type} → v.den → Outs.K β outs → Option β) (rest : Cut) : Cut :=
  ⟨fun σ k =>
    match v.read σ with
    | some d => G d (mkK k outs)
    | none => rest.run σ k⟩

theorem altCut_ok {P : Program} {n m : Nat} {c : Code} {v : View} {outs : List (AExit × View)} {G : {β : Type} → v.den → Outs.K β outs → Option β} {rest : Cut} (hv : v.m = m) (h : PieceOk P n m c v outs G) (hr : CutOk P n m c rest) :
    CutOk P n m c (altCut v outs G rest) := by
  intro β σ k r hk
  simp only [altCut] at hk
  split at hk
  · rename_i d hd
    refine pieceCut_ok hv h σ k r ?_
    simp only [pieceCut, hd]
    exact hk
  · exact hr σ k r hk

theorem CutsOk_cut {P : Program} {n m p : Nat} {c c' : Code} {q : Nat} {cut0 : Cut} {l : List (Nat × Cut)}
    (hf : find q p c = [c']) (h : CutOk P n m c' cut0) (hl : CutsOk P n m p c (pick1 l)) : CutsOk P n m p c (pick1 ((q, cut0) :: l)) := by
  intro q' cut hq c2 hc2
  simp only [pick1] at hq
  cases hb : Nat.beq q' q with
  | true =>
    rw [hb, cond_true] at hq
    injection hq with hq
    have hqq := Nat.eq_of_beq_eq_true hb
    rw [hqq, hf] at hc2
    simp only [List.mem_singleton] at hc2
    rw [hc2, ← hq]
    intro β σ k r hr
    exact h σ k r hr
  | false =>
    rw [hb, cond_false] at hq
    exact hl q' cut hq c2 hc2

theorem CutsOk_two {P : Program} {n m p : Nat} {c c' : Code} {q : Nat} {v : View} {outs : List (AExit × View)} {G : {β : Type} → v.den → Outs.K β outs → Option β} {v2 : View} {outs2 : List (AExit × View)}
    {G2 : {β : Type} → v2.den → Outs.K β outs2 → Option β} {l : List (Nat × Cut)} (hf : find q p c = [c']) (hv : v.m = m) (h : PieceOk P n m c' v outs G) (hv2 : v2.m = m) (h2 : PieceOk P n m c' v2 outs2 G2)
    (hl : CutsOk P n m p c (pick1 l)) : CutsOk P n m p c (pick1 ((q, altCut v outs G (pieceCut v2 outs2 G2)) :: l)) :=
  CutsOk_cut hf (fun {_} σ k r hr => altCut_ok hv h (fun {_} σ k r hr => pieceCut_ok hv2 h2 σ k r hr) σ k r hr) hl

def bodyOf (fn : Func) : Code := fn.body.getD .skip
def codeAt (q : Nat) (c : Code) : Code :=
  match find q 1 c with
  | c' :: _ => c'
  | [] => .skip
def loopBody : Code → Code
  | .loop c => c
  | _ => .skip
end Go.Lift
