/- Part4: LiftY. -/
import Derived.Test.YthliedaegjdljaaGreatPart3
set_option linter.unusedVariables false
set_option linter.unusedSimpArgs false
namespace Go.Lift
open Go.RowKit
abbrev clone1S (et : TypeId) (e : Ty) (bytes : Nat) : Spec :=
 { params := [(false, [.lsome e])], ins := [], res := [(false, [.rowh 0])], outs := [.row et e], run := fun x k => cond (decide ((([] : List e.den).length + x.1.1.1.length) * bytes ≤ roomMax)) (k (((), ()), (([] : List e.den) ++ x.1.1.1, ()))) none }
abbrev clone2S (et : TypeId) (e : Ty) : Spec :=
 { params := [(false, [.nilc])], ins := [], res := [(false, [.rowh 0])], outs := [.row et e], run := fun _ k => k (((), ()), (([] : List e.den), ())) }
abbrev cloneS (et : TypeId) (e : Ty) (run : {β : Type} → List e.den → (List e.den → Option β) → Option β) : Spec :=
 { params := [(false, [.data (.slice e)])], ins := [], res := [(false, [.rowh 0])], outs := [.row et e], run := fun x k => run x.1.1.1 (fun y => k (((), ()), (y, ()))) }
@[reducible] def cloneF (e : Ty) (bytes : Nat) {β : Type} (l : List e.den) (k : List e.den → Option β) : Option β :=
 cond (decide (l.length * bytes ≤ roomMax)) (k l) none
theorem clone_ok {P : Program} {f : FuncId} {et : TypeId} {e : Ty} {bytes : Nat} (hs : Nat.blt 0 e.size = true) (h1 : SpecOk P f (clone1S et e bytes)) (h2 : SpecOk P f (clone2S et e)) :
  SpecOk P f (cloneS et e (cloneF e bytes)) := by
 refine ⟨h1.fn, fun {β} x k r hr => ?_⟩
 obtain ⟨⟨⟨l, u⟩, u2⟩, u3⟩ := x
 have hc : l.length * bytes ≤ roomMax ∧ k (((), ()), (l, ())) = some r := by
  simp only [cloneF] at hr
  by_cases h : l.length * bytes ≤ roomMax
  ·simp only [h, decide_true, cond_true] at hr
   exact ⟨h, hr⟩
  ·simp [h] at hr
 obtain ⟨hle, hk⟩ := hc
 refine ⟨(((), ()), (l, ())), hk, fun ok0 pl w args hrel hargs => ?_⟩
 obtain ⟨v, vs', eargs, ⟨us, hus, hv⟩, ht⟩ := hargs
 subst eargs
 simp only [Bool.false_eq_true, if_false] at hv
 subst hv
 obtain ⟨v', vs2, e2, hv, hn⟩ := hus
 simp only [List.cons.injEq] at e2
 obtain ⟨rfl, rfl⟩ := e2
 have hd : DRep _ _ (.slice e) l [v] := hv
 by_cases hnil : ∀ n c, v ≠ .slice none n c
 ·obtain ⟨y, hy, hcall⟩ := h1.ok (((l, ()), ()), ()) (fun z => some z) (((), ()), (([] : List e.den) ++ l, ())) (by simp [hle])
  simp only [Option.some.injEq] at hy
  subst hy
  have hvs : vs' = [] := ht
  subst hvs
  refine hcall ok0 pl w [v] hrel ⟨v, [], rfl, ⟨[v], ⟨v, [], rfl, ⟨hd, hnil⟩, rfl⟩, rfl⟩, rfl⟩
 ·have hex : ∃ n c, v = .slice none n c := by
   refine Classical.byContradiction fun hh => hnil fun n c he => hh ⟨n, c, he⟩
  obtain ⟨n, c, rfl⟩ := hex
  simp only [DRep] at hd
  obtain ⟨A, c', xs, e1, hl, hcm, hdl, hx⟩ := hd
  simp only [List.cons.injEq, and_true, Value.slice.injEq] at e1
  obtain ⟨rfl, rfl, rfl⟩ := e1
  have hxs : xs = [] := by
   cases xs with
   | nil => rfl
   | cons a as => obtain ⟨ad, h, _⟩ := hx 0 a rfl; cases h
  have hl0 : l.length = 0 := by
   have := DList.length hdl
   rw [hxs] at this
   have hpos : 0 < e.size := blt_lt hs
   simp only [List.length_nil] at this
   rcases Nat.mul_eq_zero.1 this.symm with h | h
   ·exact h
   ·omega
  have hl1 : l = [] := List.eq_nil_of_length_eq_zero hl0
  subst hl1
  obtain ⟨y, hy, hcall⟩ := h2.ok (((), ()), ()) (fun z => some z) (((), ()), (([] : List e.den), ())) rfl
  simp only [Option.some.injEq] at hy
  subst hy
  have hvs : vs' = [] := ht
  subst hvs
  refine hcall ok0 pl w _ hrel ⟨.slice none 0 c, [], rfl, ⟨[.slice none 0 c], ⟨.slice none 0 c, [], rfl, ⟨c, rfl⟩, rfl⟩, rfl⟩, rfl⟩
end Go.Lift
