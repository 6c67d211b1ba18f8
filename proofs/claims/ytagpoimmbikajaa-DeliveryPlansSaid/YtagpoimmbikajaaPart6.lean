/- The lifter, part Tr: a function that is handed a row of its caller's own and hands it back, as one that works on a row in its place. -/
import Derived.Test.YtagpoimmbikajaaPart5
namespace Go.Lift
open Go.RowKit

@[reducible] def rowParams (fn : Option FuncId) : List (Bool × List CT) :=
  (false, [.rowh 0]) :: (match fn with | none => [] | some g => [(false, [.fn g []])])

@[reducible] def rowS (t : TypeId) (e : Ty) (fn : Option FuncId) (c : {β : Type} → List e.den → (List e.den → Option β) → Option β) : Spec :=
  ⟨rowParams fn, [.row t e], [(false, [.rowh 0])], [.row t e], fun x k => c x.2.1 (fun r => k (((), ()), (r, ())))⟩

def fnExtra (fn : Option FuncId) : List Value := match fn with | none => [] | some g => [.func (.func g) #[] #[]]

theorem rowParams_rep {E : Env} {fn : Option FuncId} {sv : Value} (h : CRep E (.row 0 0) sv) (x : ST.dens (rowParams fn)) :
    TReps E (mkS (upFrom 0 1) (rowParams fn) x) (sv :: fnExtra fn) := by
  cases fn with
  | none => exact ⟨sv, [], rfl, ⟨[sv], ⟨sv, [], rfl, h, rfl⟩, rfl⟩, rfl⟩
  | some g => exact ⟨sv, _, rfl, ⟨[sv], ⟨sv, [], rfl, h, rfl⟩, rfl⟩, ⟨_, [], rfl, ⟨[.func (.func g) #[] #[]], ⟨_, [], rfl, ⟨[], rfl, rfl⟩, rfl⟩, rfl⟩, rfl⟩⟩

def rowParams_dft (fn : Option FuncId) : ST.dens (rowParams fn) :=
  match fn with
  | none => ((), ())
  | some _ => ((), ((), ()))

theorem SpecOkB.toRow {P : Program} {f : FuncId} {t : TypeId} {e : Ty} {fn : Option FuncId} {c : {β : Type} → List e.den → (List e.den → Option β) → Option β} (he : e.flat = true) (h : SpecOkB P f (rowS t e fn c))
    {dom : List e.den → Bool} {run : List e.den → List e.den} (hdr : ∀ l, dom l = true → c l some = some (run l)) : RowOk P f ⟨t, e, true, dom, run, fn⟩ := by
  refine ⟨h.fn, he, fun h => (by cases h), fun w base sv l xs hdom hbase hglob hd hown => ?_⟩
  have hrun : (rowS t e fn c).run (rowParams_dft fn, (l, ())) (fun y => some y.2.1) = some (run l) := hdr l hdom
  obtain ⟨y, hy, hc⟩ := h.ok (rowParams_dft fn, (l, ())) (fun y => some y.2.1) (run l) hrun
  simp only [Option.some.injEq] at hy
  have hone : sv.oneCell' = true := by
    rcases hown.2 with ⟨h, _⟩ | ⟨g, cap, cur, h, _⟩ <;> rw [h] <;> rfl
  let pl : Nat → Option Pl := fun i => if i = 0 then some (.row sv []) else none
  let bl : Nat → Option Blk := fnBl (mkB (upFrom 0 1) [.row t e] (l, ()))
  have hbl0 : bl 0 = some (.row t e 0 l) := rfl
  have hbls : ∀ i B, bl i = some B → i = 0 ∧ B = .row t e 0 l := by
    intro i B hB
    have hB : ([Blk.row t e 0 l] : List Blk)[i]? = some B := hB
    cases i with
    | zero => simp at hB; exact ⟨rfl, hB.symm⟩
    | succ i => simp at hB
  have hOwn : ∀ g, Own pl bl g → sv.ownBlock = some g := by
    rintro g ⟨i, B, q, hB, _, hq, hqg⟩
    obtain ⟨rfl, rfl⟩ := hbls i B hB
    have hq : some (Pl.row sv []) = some q := hq
    injection hq with hq
    subst hq
    exact Pl.has_row hqg
  have hrel : RelB (P := P) ⟨fun _ => True⟩ base pl bl w := by
    refine ⟨hbase, fun i B hB => ?_, fun i j B C p q g hij hB hC => ?_, fun i hi => ?_, hglob.glob hOwn⟩
    · obtain ⟨rfl, rfl⟩ := hbls i B hB
      exact ⟨.row sv [], rfl, rfl, xs, hd.mono fun x u hu => hu.flat he, hown⟩
    · obtain ⟨rfl, _⟩ := hbls i B hB
      obtain ⟨rfl, _⟩ := hbls j C hC
      exact absurd rfl hij
    · show (if i = 0 then some (Pl.row sv []) else none) = none
      cases i with
      | zero => rw [hbl0] at hi; cases hi
      | succ i => rfl
  have hargs := rowParams_rep (E := envOf (P := P) ⟨fun _ => True⟩ base pl bl w) (fn := fn) (sv := sv) ⟨hone, sv, [], rfl, fun t1 e1 ver' l1 hb => by
    have hb : bl 0 = some (.row t1 e1 ver' l1) := hb
    rw [hbl0] at hb
    injection hb with hb
    injection hb with q1 q2 q3 q4
    exact ⟨Nat.zero_le _, fun _ => rfl⟩⟩ (rowParams_dft fn)
  have hex : (RowF.mk t e true dom run fn).extra = fnExtra fn := rfl
  rw [hex]
  refine (hc ⟨fun _ => True⟩ base pl w _ hbase hrel hargs).mono fun e2 w' ⟨vals, pl', he2, hrel', hst, hres⟩ => ?_
  obtain ⟨v, vs', hv, ⟨us, hus, hus2⟩, hnil⟩ := hres
  have hnil : vs' = [] := hnil
  subst hnil hv
  obtain ⟨u, us', hu1, hrep, hn⟩ := hus
  have hn : us' = [] := hn
  subst hn hu1
  simp only [Bool.false_eq_true, if_false, List.cons.injEq, and_true] at hus2
  subst hus2
  obtain ⟨_, sv', svs', hpl', hcur⟩ := hrep
  have hpl' : pl' 0 = some (.row sv' svs') := hpl'
  have hbl' : fnBl (mkB (upFrom 0 1) [.row t e] y.2) 0 = some (.row t e 0 (run l)) := by rw [← hy]; rfl
  have hvs := (hcur t e 0 (run l) hbl').2 rfl
  subst hvs
  obtain ⟨p, hp, hB⟩ := hrel'.blks 0 _ hbl'
  have : p = .row u svs' := by rw [hp] at hpl'; injection hpl'
  subst this
  obtain ⟨h0, xs', hd', hown'⟩ := hB
  refine ⟨u, he2, ⟨hst.os, hst.tape, hst.output, hst.size, fun g hlt hne => (hst.out g hlt fun ho => hne (hOwn g ho).symm).1⟩, fun h => (by cases h), ?_, xs', hd'.mono fun x z hz => hz.flat he, hown'⟩
  by_cases hob : u.ownBlock = sv.ownBlock
  · exact .inl hob
  · refine .inr fun g hg => Nat.le_of_not_lt fun hlt => ?_
    refine (hst.out g hlt fun ho => hob (hg.trans (hOwn g ho).symm)).2 ⟨0, _, _, hbl', rfl, hp, .inl hg⟩
end Go.Lift
