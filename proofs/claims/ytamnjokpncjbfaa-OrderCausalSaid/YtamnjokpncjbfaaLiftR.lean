/- The lifter, part R: views of a state. -/
import Derived.Test.YtamnjokpncjbfaaLiftQ
namespace Go.Lift
open Go.RowKit

/-! ### Views -/
structure View where
  m : Nat                                   -- the blocks that keep their numbers
  slots : List Nat
  params : List (Bool × List CT)
  ins : List BT

abbrev View.den (v : View) : Type := ST.dens v.params × BT.dens v.ins

def idsB (bl : Nat → Option Blk) (nx : Nat) : List BT → Nat → List (Nat × Nat) → Option (List Nat)
  | [], _, _ => some []
  | t :: r, j, ps =>
    match look ps j with
    | some i =>
      match t, bl i with
      | .cells _ l, some (.cells _ cs) =>
        match idsB bl nx r (j + 1) (ps ++ idsOf l cs) with
        | some is => some (i :: is)
        | none => none
      | _, _ =>
        match idsB bl nx r (j + 1) ps with
        | some is => some (i :: is)
        | none => none
    | none =>
      match idsB bl (nx + 1) r (j + 1) ps with
      | some is => some (nx :: is)
      | none => none

/-- The blocks, rows too. -/
def readBR (bl : Nat → Option Blk) (ids : List Nat) : (l : List BT) → List Nat → Option (BT.dens l)
  | [], [] => some ()
  | .cells t l :: r, i :: is =>
    match bl i with
    | some (.cells t' cs) =>
      bif Nat.beq t t' then
        match readC bl ids l cs with
        | none => none
        | some y =>
          match readBR bl ids r is with
          | none => none
          | some z => some (y, z)
      else none
    | _ => none
  | .row t e :: r, i :: is =>
    match bl i with
    | some (.row t' e' _ l) =>
      bif Nat.beq t t' then
        if h : e' = e then
          match readBR bl ids r is with
          | none => none
          | some z => some ((h ▸ l : List e.den), z)
        else none
      else none
    | none =>
      match readBR bl ids r is with
      | none => none
      | some z => some (([] : List e.den), z)
    | _ => none
  | .map t k v vg :: r, i :: is =>
    match bl i with
    | some (.map t' k' v' vg' l) =>
      bif Nat.beq t t' && (vg == vg') then
        if h : k' = k then
          if h2 : v' = v then
            match readBR bl ids r is with
            | none => none
            | some z => some ((h ▸ (h2 ▸ l : List (k'.den × v.den)) : List (k.den × v.den)), z)
          else none
        else none
      else none
    | _ => none
  | .mat t et e :: r, i :: is =>
    match bl i with
    | some (.mat t' et' e' _ _ none l) =>
      bif Nat.beq t t' && Nat.beq et et' then
        if h : e' = e then
          match readBR bl ids r is with
          | none => none
          | some z => some ((h ▸ l : List (List e.den)), z)
        else none
      else none
    | none =>
      match readBR bl ids r is with
      | none => none
      | some z => some (([] : List (List e.den)), z)
    | _ => none
  | _, _ => none

/-- The rows that are read as data. -/
def datRows : List CT → List C → List Nat
  | .data τ :: l, cs => rowIds (cs.take τ.size) ++ datRows l (cs.drop τ.size)
  | _ :: l, _ :: cs => datRows l cs
  | _, _ => []

def datRowsS : List (Bool × List CT) → List V → List Nat
  | t :: l, v :: vs =>
    match v.cells with
    | some cs => datRows t.2 cs ++ datRowsS l vs
    | none => datRowsS l vs
  | _, _ => []

def datRowsB (bl : Nat → Option Blk) : List BT → List Nat → List Nat
  | .cells _ l :: r, i :: is =>
    match bl i with
    | some (.cells _ cs) => datRows l cs ++ datRowsB bl r is
    | _ => datRowsB bl r is
  | _ :: r, _ :: is => datRowsB bl r is
  | _, _ => []

def lookAll (tm : List (Nat × V)) : List Nat → Option (List V)
  | [] => some []
  | t :: r =>
    match look tm t with
    | some v =>
      match lookAll tm r with
      | some vs => some (v :: vs)
      | none => none
    | none => none

def idPairs (m : Nat) : List (Nat × Nat) := (upFrom 0 m).zip (upFrom 0 m)

def listEq : List Nat → List Nat → Bool
  | [], [] => true
  | x :: r, y :: s => Nat.beq x y && listEq r s
  | _, _ => false

def View.read (v : View) (σ : St) : Option v.den :=
  match lookAll σ.tm v.slots with
  | none => none
  | some vs =>
    match idsB (look σ.bl) σ.nx v.ins 0 (idPairs v.m ++ idsOfs v.params vs) with
    | none => none
    | some ids =>
      match readS (look σ.bl) ids v.params vs with
      | none => none
      | some x =>
        match readBR (look σ.bl) ids v.ins ids with
        | none => none
        | some y =>
          bif Nat.ble v.m v.ins.length && (listEq (ids.take v.m) (upFrom 0 v.m) && (nodupB ids && !meet (datRowsS v.params vs ++ datRowsB (look σ.bl) v.ins ids) ids)) then some (x, y) else none

def mkT (ids : List Nat) : List Nat → (l : List (Bool × List CT)) → ST.dens l → List (Nat × V)
  | s :: ss, t :: l, x => (s, V.mk t.1 (mkC ids t.2 x.1)) :: mkT ids ss l x.2
  | _, _, _ => []

def numberedB : Nat → List Blk → List (Nat × Blk)
  | _, [] => []
  | i, b :: r => (i, b) :: numberedB (i + 1) r

def View.mk' (v : View) (d : v.den) : St :=
  ⟨mkT (upFrom 0 v.ins.length) v.slots v.params d.1, numberedB 0 (mkB (upFrom 0 v.ins.length) v.ins d.2), v.ins.length⟩

theorem look_numberedB : ∀ (l : List Blk) (s i : Nat), look (numberedB s l) i = if s ≤ i then l[i - s]? else none
  | [], s, i => by simp [numberedB, look]
  | b :: l, s, i => by
    simp only [numberedB, look]
    by_cases h : s = i
    · subst h; simp
    · rw [beq_ne (fun e => h e.symm), cond_false, look_numberedB]
      by_cases h2 : s ≤ i
      · have h3 : s + 1 ≤ i := by omega
        have h4 : i - s = (i - (s + 1)) + 1 := by omega
        simp [h2, h3, h4]
      · have h3 : ¬ s + 1 ≤ i := by omega
        simp [h2, h3]

theorem look_mk_bl (v : View) (d : v.den) : look (v.mk' d).bl = fnBl (mkB (upFrom 0 v.ins.length) v.ins d.2) := by
  funext i
  simp [View.mk', look_numberedB, fnBl]

/-! ### Reading, once more: the rows among the data alone -/
theorem pack_local {bl : Nat → Option Blk} : ∀ {τ : Ty} {cs : List C} {x : τ.den} {r : List C}, pack bl τ cs = some (x, r) → ∃ ds, cs = ds ++ r ∧ ds.length = τ.size ∧ pack bl τ ds = some (x, [])
  | .bool, cs, x, r, h => by
    cases cs with
    | nil => simp [pack] at h
    | cons c cs =>
      cases c <;> simp only [pack] at h <;> try (cases h; done)
      simp only [Option.some.injEq, Prod.mk.injEq] at h
      obtain ⟨h1, h2⟩ := h
      subst h1 h2
      exact ⟨[_], rfl, rfl, rfl⟩
  | .int k, cs, x, r, h => by
    cases cs with
    | nil => simp [pack] at h
    | cons c cs =>
      cases c <;> simp only [pack] at h <;> try (cases h; done)
      split at h
      · rename_i hk
        subst hk
        simp only [Option.some.injEq, Prod.mk.injEq] at h
        obtain ⟨h1, h2⟩ := h
        subst h1 h2
        exact ⟨[_], rfl, rfl, by simp [pack]⟩
      · cases h
  | .str, cs, x, r, h => by
    cases cs with
    | nil => simp [pack] at h
    | cons c cs =>
      cases c <;> simp only [pack] at h <;> try (cases h; done)
      simp only [Option.some.injEq, Prod.mk.injEq] at h
      obtain ⟨h1, h2⟩ := h
      subst h1 h2
      exact ⟨[_], rfl, rfl, rfl⟩
  | .unit, cs, x, r, h => by
    simp only [pack, Option.some.injEq, Prod.mk.injEq] at h
    obtain ⟨_, h2⟩ := h
    subst h2
    exact ⟨[], rfl, rfl, rfl⟩
  | .prod a b, cs, x, r, h => by
    simp only [pack] at h
    split at h
    · cases h
    · rename_i x1 r1 h1
      split at h
      · cases h
      · rename_i x2 r2 h2
        simp only [Option.some.injEq, Prod.mk.injEq] at h
        obtain ⟨e1, e2⟩ := h
        subst e1 e2
        obtain ⟨ds, e3, e4, e5⟩ := pack_local h1
        obtain ⟨es, e6, e7, e8⟩ := pack_local h2
        refine ⟨ds ++ es, by rw [e3, e6, List.append_assoc], by simp [e4, e7, Ty.size], ?_⟩
        have := pack_append e5 (s := es)
        simp only [pack, this, List.nil_append, e8]
  | .slice e, cs, x, r, h => by
    cases cs with
    | nil => simp [pack] at h
    | cons c cs =>
      cases c <;> simp only [pack] at h <;> try (cases h; done)
      · split at h
        · rename_i e' l he
          subst he
          simp only [Option.some.injEq, Prod.mk.injEq] at h
          obtain ⟨h1, h2⟩ := h
          subst h1 h2
          exact ⟨[_], rfl, rfl, by simp [pack]⟩
        · cases h
      · simp only [Option.some.injEq, Prod.mk.injEq] at h
        obtain ⟨h1, h2⟩ := h
        subst h1 h2
        exact ⟨[_], rfl, rfl, rfl⟩
      · split at h
        · cases h
        · rename_i l hl
          simp only [Option.some.injEq, Prod.mk.injEq] at h
          obtain ⟨h1, h2⟩ := h
          subst h1 h2
          exact ⟨[_], rfl, rfl, by simp [pack, hl]⟩
      · split at h
        · cases h
        · rename_i l hl
          simp only [Option.some.injEq, Prod.mk.injEq] at h
          obtain ⟨h1, h2⟩ := h
          subst h1 h2
          exact ⟨[_], rfl, rfl, by simp [pack, hl]⟩
      · split at h
        · cases h
        · rename_i l hl
          simp only [Option.some.injEq, Prod.mk.injEq] at h
          obtain ⟨h1, h2⟩ := h
          subst h1 h2
          exact ⟨[_], rfl, rfl, by simp [pack, hl]⟩
  where
  pack_append {bl : Nat → Option Blk} : ∀ {τ : Ty} {cs : List C} {x : τ.den} {r s : List C}, pack bl τ cs = some (x, r) → pack bl τ (cs ++ s) = some (x, r ++ s)
  | .bool, cs, x, r, s, h => by
    cases cs with
    | nil => simp [pack] at h
    | cons c cs => cases c <;> simp only [pack, List.cons_append] at h ⊢ <;> first | (cases h; done) | (simp_all; done)
  | .int k, cs, x, r, s, h => by
    cases cs with
    | nil => simp [pack] at h
    | cons c cs =>
      cases c <;> simp only [pack, List.cons_append] at h ⊢ <;> try (cases h; done)
      split at h
      · rename_i hk; subst hk; simp_all
      · cases h
  | .str, cs, x, r, s, h => by
    cases cs with
    | nil => simp [pack] at h
    | cons c cs => cases c <;> simp only [pack, List.cons_append] at h ⊢ <;> first | (cases h; done) | (simp_all; done)
  | .unit, cs, x, r, s, h => by simp only [pack] at h ⊢; simp_all
  | .prod a b, cs, x, r, s, h => by
    simp only [pack] at h ⊢
    split at h
    · cases h
    · rename_i x1 r1 h1
      split at h
      · cases h
      · rename_i x2 r2 h2
        rw [pack_append h1]
        simp only
        rw [pack_append h2]
        simp_all
  | .slice e, cs, x, r, s, h => by
    cases cs with
    | nil => simp [pack] at h
    | cons c cs =>
      cases c <;> simp only [pack, List.cons_append] at h ⊢ <;> try (cases h; done)
      · split at h
        · rename_i e' l he; subst he; simp_all
        · cases h
      · simp_all
      · split at h
        · cases h
        · simp_all
      · split at h
        · cases h
        · simp_all
      · split at h
        · cases h
        · simp_all
end Go.Lift
