/- The lifter, part V: from a spec to the call. -/
import Derived.Test.YtamnjokpncjbfaaLiftU
import Derived.Below
namespace Go.Lift
open Go.RowKit

/-- Where a call begins that lends no block. -/
def env0 (w : World) : Env := envOf (fun _ => True) w.heap.size (fun _ => none) (fun _ => none) w

theorem SpecOk.call0 {P : Program} {f : FuncId} {S : Spec} (h : SpecOk P f S) (hi : S.ins = []) (x : ST.dens S.params × BT.dens S.ins) (y : ST.dens S.res × BT.dens S.outs)
    (hy : S.run x (fun z => some z) = some y) (w : World) (args : List Value)
    (hargs : TReps (env0 w) (mkS [] S.params x.1) args) :
    Calls P f args.toArray w fun e w' => ∃ vals pl', e = .returned (retVal vals) ∧ Below w.heap.size w w' ∧
      TReps (envOf (fun _ => True) w.heap.size pl' (fnBl (mkB (upFrom 0 S.outs.length) S.outs y.2)) w') (mkS (upFrom 0 S.outs.length) S.res y.1) vals := by
  obtain ⟨y', hy', hcall⟩ := h.ok x (fun z => some z) y hy
  simp only [Option.some.injEq] at hy'
  subst hy'
  have hlen : S.ins.length = 0 := by rw [hi]; rfl
  have hmk : mkB (upFrom 0 S.ins.length) S.ins x.2 = [] := by
    have := length_mkB (ids := upFrom 0 S.ins.length) (l := S.ins) (y := x.2)
    rw [hlen] at this
    exact List.eq_nil_of_length_eq_zero (by rw [hlen]; exact this)
  have hbl : fnBl (mkB (upFrom 0 S.ins.length) S.ins x.2) = fun _ => none := by
    rw [hmk]; funext b; simp [fnBl]
  have hids : upFrom 0 S.ins.length = [] := by rw [hlen]; rfl
  have hrel : RelB (fun _ => True) w.heap.size (fun _ => none) (fun _ => none) w :=
    ⟨Nat.le_refl _, fun i B h => (by cases h), fun i j B C p q g _ h => (by cases h), fun _ _ => rfl⟩
  have := hcall (fun _ => True) (fun _ => none) w args (by rw [hbl]; exact hrel) (by rw [hbl, hids]; exact hargs)
  refine this.mono fun e w' ⟨vals, pl', he, _, hst, ht⟩ => ⟨vals, pl', he, ⟨hst.os, hst.tape, hst.output, hst.size, fun k hk => ?_⟩, ht⟩
  refine (hst.out k hk ?_).1
  rintro ⟨i, B, p, hB, _⟩
  rw [hbl] at hB
  cases hB

theorem TReps.bool {E : Env} {b : Bool} {vals : List Value} (h : TReps E [(false, [.bool b])] vals) : vals = [.bool b] := by
  obtain ⟨v, vs, e, ⟨us, ⟨u, us', e1, h1, h2⟩, h3⟩, h4⟩ := h
  simp only [TReps] at h4
  simp only [CReps] at h2
  simp only [CRep] at h1
  simp only [Bool.false_eq_true, if_false] at h3
  subst h4 h2 h1 e1
  simp only [List.cons.injEq, and_true] at h3
  subst h3
  exact e

theorem TReps.int {E : Env} {k : IntKind} {n : Int} {ts : List (Bool × List C)} {vals : List Value} (h : TReps E ts vals) : TReps E ((false, [.int k n]) :: ts) (.int k n :: vals) :=
  ⟨_, _, rfl, ⟨[_], ⟨_, _, rfl, rfl, rfl⟩, by simp⟩, h⟩

theorem TReps.data1 {E : Env} {τ : Ty} {x : τ.den} {v : Value} {ts : List (Bool × List C)} {vals : List Value} (hd : DRep E.w E.ok τ x [v]) (h : TReps E ts vals) : TReps E ((false, cells τ x ++ []) :: ts) (v :: vals) :=
  ⟨_, _, rfl, ⟨[v], by rw [List.append_nil]; exact cells_rep hd, by simp⟩, h⟩
end Go.Lift
