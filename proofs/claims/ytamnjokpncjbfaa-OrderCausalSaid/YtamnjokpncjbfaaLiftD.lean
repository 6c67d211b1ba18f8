/- The lifter, part D: the operations, one by one. -/
import Derived.Test.YtamnjokpncjbfaaLiftC
namespace Go.Lift
open Go.RowKit

/-! ### Facts on types, off the program's table -/
def aggOf (P : Program) (t : TypeId) : Bool :=
  match P.underlying t with
  | some (.struct _) | some (.array _ _) => true
  | _ => false

def tyOf (P : Program) : Nat → TypeId → Option Ty
  | 0, _ => none
  | n + 1, t =>
    match P.underlying t with
    | some .bool => some .bool
    | some (.int k) => some (.int k)
    | some .string => some .str
    | some (.slice e) => (tyOf P n e).map .slice
    | some (.struct fs) => many (fs.toList.map fun f => tyOf P n f.type)
    | some (.array m e) => many (List.replicate m (tyOf P n e))
    | _ => none
  where
  many : List (Option Ty) → Option Ty
    | [] => some .unit
    | [t] => t
    | some t :: r => (many r).map (.prod t)
    | none :: _ => none

def zeroC (v : Value) : C :=
  match C.ofValue v with
  | some c => c
  | none => .junk

def basic (P : Program) (t : TypeId) : Option BK :=
  match P.underlying t with
  | some .bool => some .b
  | some (.int _) => some .i
  | some .string => some .s
  | _ => none

def eqsStruct (P : Program) : Nat → List Field → Option (List BK)
  | _, [] => some []
  | i, f :: fs =>
    bif f.name != "_" && Nat.beq f.offset i then
      match basic P f.type, eqsStruct P (i + 1) fs with
      | some k, some ks => some (k :: ks)
      | _, _ => none
    else none

def eqsOf (P : Program) (t : TypeId) : Option (List BK) :=
  match P.underlying t with
  | some (.struct fs) => bif P.stoodInHeld t || P.eqGuardType P.depth t then none else eqsStruct P 0 fs.toList
  | some (.array n e) =>
    match basic P e with
    | some k => bif Nat.beq (P.cellsOf e) 1 && !P.eqGuardType P.depth t then some (List.replicate n k) else none
    | none => none
  | _ => none

def fldsD (P : Program) : TypeDesc → List (Nat × Nat × Bool)
  | .struct fs => fs.toList.map fun f => (f.offset, P.cellsOf f.type, aggOf P f.type)
  | _ => []
def elemD : TypeDesc → Option TypeId
  | .slice e => some e
  | .array _ e => some e
  | _ => none
def lenD : TypeDesc → Option Nat
  | .array n _ => some n
  | _ => none
def kindD : TypeDesc → Option IntKind
  | .int k => some k
  | _ => none

def knownD (P : Program) : TypeDesc → Bool
  | .struct fs => fs.toList.all fun f => (P.info? f.type).isSome && (P.underlying f.type).isSome
  | .slice e => (P.info? e).isSome && (P.underlying e).isSome
  | .array _ e => (P.info? e).isSome && (P.underlying e).isSome
  | _ => true

def mpD : TypeDesc → Option (TypeId × TypeId)
  | .map k v => some (k, v)
  | _ => none

def isStrD : TypeDesc → Bool
  | .string => true
  | _ => false
def isBoolD : TypeDesc → Bool
  | .bool => true
  | _ => false

def zIsAgg : Value → Bool
  | .agg _ => true
  | _ => false

def tiOf (P : Program) (t : TypeId) : Option TI :=
  match P.info? t, P.underlying t with
  | some i, some d =>
    match i.zero with
    | some z =>
      bif z.cells.toList.all (·.oneCell') && (Nat.beq z.cells.toList.length i.size && (knownD P d && (zIsAgg z == aggOf P t))) then
        some {
          agg := aggOf P t
          size := i.size
          bytes := i.bytes
          zero := z.cells.toList.map zeroC
          flds := fldsD P d
          elem := elemD d
          len := lenD d
          ty := tyOf P 12 t
          kind := kindD d
          isBool := isBoolD d
          isStr := isStrD d
          eqs := eqsOf P t
          mp := mpD d }
      else none
    | none => none
  | _, _ => none

/-- The evaluator's table is the program's. -/
def TOk (P : Program) (T : TypeId → Option TI) : Prop := ∀ t ti, T t = some ti → tiOf P t = some ti

structure TFacts (P : Program) (t : TypeId) (ti : TI) (i : TypeInfo) (d : TypeDesc) (z : Value) : Prop where
  info : P.info? t = some i
  under : P.underlying t = some d
  zero : i.zero = some z
  agg : ti.agg = aggOf P t
  size : ti.size = i.size
  bytes : ti.bytes = i.bytes
  zeroC : ti.zero = z.cells.toList.map zeroC
  one : z.cells.toList.all (·.oneCell') = true
  len : z.cells.toList.length = i.size
  known : knownD P d = true
  flds : ti.flds = fldsD P d
  elem : ti.elem = elemD d
  alen : ti.len = lenD d
  kind : ti.kind = kindD d
  isBool : ti.isBool = isBoolD d
  isStr : ti.isStr = isStrD d
  eqs : ti.eqs = eqsOf P t
  mp : ti.mp = mpD d
  ty : ti.ty = tyOf P 12 t
  zagg : zIsAgg z = aggOf P t

theorem TOk.facts {P : Program} {T : TypeId → Option TI} (h : TOk P T) {t : TypeId} {ti : TI} (ht : T t = some ti) : ∃ i d z, TFacts P t ti i d z := by
  have h1 := h t ti ht
  unfold tiOf at h1
  split at h1
  · rename_i i d hi hd
    split at h1
    · rename_i z hz
      cases hb : (z.cells.toList.all (·.oneCell') && (Nat.beq z.cells.toList.length i.size && (knownD P d && (zIsAgg z == aggOf P t)))) with
      | false => rw [hb] at h1; cases h1
      | true =>
        simp only [hb, cond_true, Option.some.injEq] at h1
        subst h1
        simp only [Bool.and_eq_true] at hb
        exact ⟨i, d, z, hi, hd, hz, rfl, rfl, rfl, rfl, hb.1, Nat.eq_of_beq_eq_true hb.2.1, hb.2.2.1, rfl, rfl, rfl, rfl, rfl, rfl, rfl, rfl, rfl, by simpa using hb.2.2.2⟩
    · cases h1
  · cases h1

theorem C.ofValue_rep {E : Env} {v : Value} {c : C} (h : C.ofValue v = some c) : CRep E c v := by
  unfold C.ofValue at h
  split at h <;> first
    | (simp only [Option.some.injEq] at h; subst h; rfl)
    | cases h

theorem zeroC_rep {E : Env} {v : Value} (h : v.oneCell' = true) : CRep E (zeroC v) v := by
  unfold zeroC
  cases hc : C.ofValue v with
  | none => exact h
  | some c => exact C.ofValue_rep hc

theorem zeroCs_rep {E : Env} : ∀ {vs : List Value}, vs.all (·.oneCell') = true → CReps E (vs.map zeroC) vs
  | [], _ => rfl
  | v :: vs, h => by
    simp only [List.all_cons, Bool.and_eq_true] at h
    exact ⟨v, vs, rfl, zeroC_rep h.1, zeroCs_rep h.2⟩

theorem C.ofValues_rep {E : Env} : ∀ {vs : List Value} {cs : List C}, C.ofValues vs = some cs → CReps E cs vs
  | [], cs, h => by simp only [C.ofValues, Option.some.injEq] at h; subst h; rfl
  | v :: vs, cs, h => by
    simp only [C.ofValues] at h
    split at h
    · rename_i x xs hx hxs
      simp only [Option.some.injEq] at h
      subst h
      exact ⟨v, vs, rfl, C.ofValue_rep hx, C.ofValues_rep hxs⟩
    · cases h

theorem V.ofValue_rep {E : Env} (v : Value) : VRep E (V.ofValue v) v := by
  unfold V.ofValue
  split
  · rename_i cs
    split
    · rename_i l hl
      exact ⟨cs.toList, C.ofValues_rep hl, by simp⟩
    · exact trivial
  · split
    · rename_i x hx
      exact C.ofValue_rep hx
    · exact trivial

/-! ### Cells of abstract values -/
section
variable {E : Env}

theorem CReps.append : ∀ {cs ds : List C} {vs us : List Value}, CReps E cs vs → CReps E ds us → CReps E (cs ++ ds) (vs ++ us)
  | [], _, _, _, h, k => by simp only [CReps] at h; subst h; simpa using k
  | _ :: _, _, _, _, ⟨v, vs', e, h, ht⟩, k => ⟨v, vs' ++ _, by rw [e]; rfl, h, CReps.append ht k⟩

theorem CReps.drop : ∀ {cs : List C} {vs : List Value} (n : Nat), CReps E cs vs → CReps E (cs.drop n) (vs.drop n)
  | [], _, n, h => by simp only [CReps] at h; subst h; simp [CReps]
  | _ :: _, _, 0, h => by simpa using h
  | _ :: _, _, n + 1, ⟨v, vs', e, h, ht⟩ => by subst e; simpa using CReps.drop n ht

theorem CReps.take : ∀ {cs : List C} {vs : List Value} (n : Nat), CReps E cs vs → CReps E (cs.take n) (vs.take n)
  | [], _, n, h => by simp only [CReps] at h; subst h; simp [CReps]
  | _ :: _, _, 0, h => by simp [CReps]
  | _ :: _, _, n + 1, ⟨v, vs', e, h, ht⟩ => by subst e; exact ⟨v, vs'.take n, by simp, h, CReps.take n ht⟩

theorem CReps.split : ∀ {cs ds : List C} {vs : List Value}, CReps E (cs ++ ds) vs → ∃ us ws, vs = us ++ ws ∧ CReps E cs us ∧ CReps E ds ws
  | [], _, vs, h => ⟨[], vs, rfl, rfl, h⟩
  | _ :: cs, _, _, ⟨v, vs', e, h, ht⟩ => by
    obtain ⟨us, ws, e', h1, h2⟩ := CReps.split (cs := cs) ht
    exact ⟨v :: us, ws, by rw [e, e']; rfl, ⟨v, us, rfl, h, h1⟩, h2⟩

theorem CReps.oneCell : ∀ {cs : List C} {vs : List Value}, CReps E cs vs → ∀ v ∈ vs, v.oneCell' = true
  | [], _, h, v, hv => by simp only [CReps] at h; subst h; simp at hv
  | _ :: _, _, ⟨u, vs', e, h, ht⟩, v, hv => by
    subst e
    rcases List.mem_cons.1 hv with rfl | hv
    · exact CRep.oneCell h
    · exact CReps.oneCell ht v hv

theorem VRep.cells_of {x : V} {cs : List C} {v : Value} (hx : x.cells = some cs) (h : VRep E x v) : CReps E cs v.cells.toList := by
  cases x with
  | c c =>
    simp only [V.cells, Option.some.injEq] at hx
    subst hx
    have h1 := CRep.oneCell h
    refine ⟨v, [], ?_, h, rfl⟩
    cases v <;> first | rfl | simp [Value.oneCell'] at h1
  | agg ds =>
    simp only [V.cells, Option.some.injEq] at hx
    subst hx
    obtain ⟨vs, h1, h2⟩ := h
    simp only [if_true] at h2
    subst h2
    simpa [Value.cells] using h1
  | junk => simp [V.cells] at hx
  | tup _ => simp [V.cells] at hx
  | eptr _ _ _ _ => simp [V.cells] at hx
  | lptr _ _ _ => simp [V.cells] at hx
  | mcell _ _ _ => simp [V.cells] at hx
  | mptr _ _ _ _ _ => simp [V.cells] at hx

theorem VRep.mk {agg : Bool} {cs : List C} {v : Value} (h : SRep E agg cs v) : VRep E (V.mk agg cs) v := by
  unfold V.mk
  cases agg with
  | true => exact h
  | false =>
    simp only [cond_false]
    split
    · rename_i x
      obtain ⟨vs, h1, h2⟩ := h
      simp only [Bool.false_eq_true, if_false] at h2
      subst h2
      obtain ⟨u, us, e, h3, h4⟩ := h1
      simp only [List.cons.injEq] at e
      rw [e.1]
      exact h3
    · exact trivial

/-- A datum's cells. -/
theorem cells_rep : ∀ {τ : Ty} {x : τ.den} {vs : List Value}, DRep E.w E.ok τ x vs → CReps E (cells τ x) vs
  | .bool, _, _, h => ⟨_, [], h, rfl, rfl⟩
  | .int _, _, _, h => ⟨_, [], h, rfl, rfl⟩
  | .str, _, _, h => ⟨_, [], h, rfl, rfl⟩
  | .unit, _, _, h => h
  | .prod a b, _, _, h => by
    simp only [DRep] at h
    obtain ⟨u, v, e, h1, h2⟩ := h
    rw [e]
    exact (cells_rep h1).append (cells_rep h2)
  | .slice e, l, vs, h => by
    have h' := h
    simp only [DRep] at h'
    obtain ⟨A, c, xs, e1, _⟩ := h'
    subst e1
    exact ⟨_, [], rfl, h, rfl⟩

theorem length_cells : ∀ (τ : Ty) (x : τ.den), (cells τ x).length = τ.size
  | .bool, _ => rfl
  | .int _, _ => rfl
  | .str, _ => rfl
  | .unit, _ => rfl
  | .prod a b, x => by simp [cells, Ty.size, length_cells a, length_cells b]
  | .slice _, _ => rfl

theorem sub_rep {cs : List C} {vs : List Value} {o n : Nat} {r : List C} (h : CReps E cs vs) (hs : sub cs o n = some r) : CReps E r ((vs.drop o).take n) ∧ ((vs.drop o).take n).length = n ∧ o + n ≤ vs.length := by
  unfold sub at hs
  cases hb : Nat.ble (o + n) cs.length with
  | false => simp [hb] at hs
  | true =>
    simp only [hb, cond_true, Option.some.injEq] at hs
    subst hs
    have hle : o + n ≤ cs.length := Nat.le_of_ble_eq_true hb
    have hl := h.length
    exact ⟨(h.drop o).take n, by simp; omega, by omega⟩

theorem over_rep : ∀ {cs : List C} {vs : List Value} {o : Nat} {new : List C} {us : List Value} {r : List C}, CReps E cs vs → CReps E new us → over cs o new = some r →
    CReps E r (vs.take o ++ us ++ vs.drop (o + us.length)) ∧ o + us.length ≤ vs.length
  | cs, vs, 0, new, us, r, h, hn, ho => by
    unfold over at ho
    cases hb : Nat.ble new.length cs.length with
    | false => simp [hb] at ho
    | true =>
      simp only [hb, cond_true, Option.some.injEq] at ho
      subst ho
      have hle : new.length ≤ cs.length := Nat.le_of_ble_eq_true hb
      have h1 := h.length
      have h2 := hn.length
      refine ⟨?_, by omega⟩
      simp only [List.take_zero, List.nil_append, Nat.zero_add]
      rw [h2]
      exact hn.append (h.drop _)
  | [], _, o + 1, _, _, _, _, _, ho => by simp [over] at ho
  | c :: cs, vs, o + 1, new, us, r, ⟨v, vs', e, h, ht⟩, hn, ho => by
    simp only [over] at ho
    split at ho
    · rename_i r' hr'
      simp only [Option.some.injEq] at ho
      subst ho e
      obtain ⟨h1, h2⟩ := over_rep ht hn hr'
      refine ⟨⟨v, _, ?_, h, h1⟩, by simp; omega⟩
      have : o + 1 + us.length = (o + us.length) + 1 := by omega
      rw [this]
      simp
    · cases ho
end
end Go.Lift
