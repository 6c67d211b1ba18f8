/- The lifter, part B: the evaluator. -/
import Derived.Test.YtamnjokpncjbfaaLiftA
namespace Go.Lift

/-! ### Tables kept by number -/
def look {α : Type} : List (Nat × α) → Nat → Option α
  | [], _ => none
  | (j, x) :: r, i => bif Nat.beq i j then some x else look r i

def put {α : Type} : List (Nat × α) → Nat → α → List (Nat × α)
  | [], i, x => [(i, x)]
  | (j, y) :: r, i, x => bif Nat.blt i j then (i, x) :: (j, y) :: r else bif Nat.beq i j then (i, x) :: r else (j, y) :: put r i x

def puts {α : Type} : List (Nat × α) → List (Nat × α) → List (Nat × α)
  | l, [] => l
  | l, (i, x) :: r => puts (put l i x) r

theorem beq_ne {i j : Nat} (h : ¬ i = j) : Nat.beq i j = false := by
  cases hb : Nat.beq i j with
  | false => rfl
  | true => exact absurd (Nat.eq_of_beq_eq_true hb) h
theorem beq_self (i : Nat) : Nat.beq i i = true := Nat.beq_refl i

theorem look_put {α : Type} (l : List (Nat × α)) (i : Nat) (x : α) (j : Nat) : look (put l i x) j = if j = i then some x else look l j := by
  induction l with
  | nil =>
    simp only [put, look]
    by_cases h : j = i
    · subst h; simp
    · simp [h, beq_ne h]
  | cons p r ih =>
    obtain ⟨k, y⟩ := p
    simp only [put]
    cases h1 : Nat.blt i k
    · cases h2 : Nat.beq i k
      · simp only [cond_false, look, ih]
        by_cases h : j = i
        · subst h; simp [h2]
        · simp [h]
      · have : i = k := Nat.eq_of_beq_eq_true h2
        subst this
        simp only [cond_false, cond_true, look]
        by_cases h : j = i
        · subst h; simp
        · simp [h, beq_ne h]
    · simp only [cond_true, look]
      by_cases h : j = i
      · subst h; simp
      · simp [h, beq_ne h]

/-! ### What the evaluator knows of a type -/
/-- What '==' on one cell compares. -/
inductive BK where
  | b | i | s

structure TI where
  agg : Bool
  size : Nat
  bytes : Nat
  zero : List C
  flds : List (Nat × Nat × Bool)      -- a struct's fields: where, how many cells, struct or array
  elem : Option TypeId                -- a slice's or an array's element
  len : Option Nat                    -- an array's length
  ty : Option Ty                      -- as pure data
  kind : Option IntKind
  isBool : Bool
  isStr : Bool
  eqs : Option (List BK)              -- '==' goes cell by cell: bools, integers, strings
  mp : Option (TypeId × TypeId)       -- a map's key and element

/-! ### Templates: what a part of a state looks like, with typed data at the holes -/
inductive CT where
  | data (τ : Ty)
  | ptr (b o : Nat)
  | rowh (b : Nat)
  | fn (f : FuncId) (caps : List Nat)
  | maph (b : Nat)
  | math (b : Nat)
  | nilc
  | lsome (e : Ty)
  | junk

inductive BT where
  | cells (t : TypeId) (l : List CT)
  | row (t : TypeId) (e : Ty)
  | map (t : TypeId) (k v : Ty) (vg : Bool)
  | mat (t et : TypeId) (e : Ty)

@[reducible] def CT.dens : List CT → Type
  | [] => Unit
  | .data τ :: r => τ.den × CT.dens r
  | .lsome e :: r => List e.den × CT.dens r
  | .ptr _ _ :: r | .rowh _ :: r | .fn _ _ :: r | .maph _ :: r | .math _ :: r | .nilc :: r | .junk :: r => CT.dens r

@[reducible] def ST.dens : List (Bool × List CT) → Type
  | [] => Unit
  | t :: r => CT.dens t.2 × ST.dens r

@[reducible] def BT.dens : List BT → Type
  | [] => Unit
  | .cells _ l :: r => CT.dens l × BT.dens r
  | .row _ e :: r => List e.den × BT.dens r
  | .map _ k v _ :: r => List (k.den × v.den) × BT.dens r
  | .mat _ _ e :: r => List (List e.den) × BT.dens r

structure Spec where
  params : List (Bool × List CT)
  ins : List BT
  res : List (Bool × List CT)
  outs : List BT
  run : {β : Type} → ST.dens params × BT.dens ins → (ST.dens res × BT.dens outs → Option β) → Option β

/-- What a function makes of a row in its place: of the library's. -/
structure RowF where
  t : TypeId
  e : Ty
  cut : Bool                          -- it hands the row back; else it keeps the row's length and value
  max : Nat                           -- of rows shorter than this
  run : List e.den → List e.den

inductive Fun where
  | spec (S : Spec)
  | rows (F : RowF)

structure Ctx where
  T : TypeId → Option TI
  Γ : FuncId → Option Fun
  M : Bool                            -- slices of slices that it makes are its own, with all rows

/-! ### Cells -/
def cells : (τ : Ty) → τ.den → List C
  | .bool, b => [.bool b]
  | .int k, n => [.int k n]
  | .str, s => [.str s]
  | .unit, _ => []
  | .prod a b, x => cells a x.1 ++ cells b x.2
  | .slice e, l => [.list e l]

/-- The content of the row that a handle stands for, if the handle is of the row's present state. -/
def rowOf (bl : Nat → Option Blk) (b ver : Nat) (e : Ty) : Option (List e.den) :=
  match bl b with
  | some (.row _ e' ver' l) => bif Nat.beq ver ver' then (if h : e' = e then some (h ▸ l) else none) else none
  | _ => none

/-- The content of a slice of slices. -/
def matOf (bl : Nat → Option Blk) (b ver : Nat) (e : Ty) : Option (List (List e.den)) :=
  match bl b with
  | some (.mat _ _ e' ver' _ none l) => bif Nat.beq ver ver' then (if h : e' = e then some (h ▸ l) else none) else none
  | _ => none

def matAs (bl : Nat → Option Blk) (b ver : Nat) : (e : Ty) → Option (List e.den)
  | .slice e => matOf bl b ver e
  | _ => none

/-- Cells read as a datum; what is left. -/
def pack (bl : Nat → Option Blk) : (τ : Ty) → List C → Option (τ.den × List C)
  | .bool, .bool b :: r => some (b, r)
  | .int k, .int k' n :: r => if k = k' then some (n, r) else none
  | .str, .str s :: r => some (s, r)
  | .unit, r => some ((), r)
  | .prod a b, r =>
    match pack bl a r with
    | none => none
    | some (x, r1) =>
      match pack bl b r1 with
      | none => none
      | some (y, r2) => some ((x, y), r2)
  | .slice e, .nils :: r => some (([] : List e.den), r)
  | .slice e, .list e' l :: r => if h : e' = e then some ((h ▸ l : List e.den), r) else none
  | .slice e, .row b ver :: r =>
    match rowOf bl b ver e with
    | none => none
    | some l => some (l, r)
  | .slice e, .sub b ver i j :: r =>
    match rowOf bl b ver e with
    | none => none
    | some l => some ((l.take j).drop i, r)
  | .slice e, .mat b ver :: r =>
    match matAs bl b ver e with
    | none => none
    | some l => some (l, r)
  | _, _ => none

def pack1 (bl : Nat → Option Blk) (τ : Ty) (cs : List C) : Option τ.den :=
  match pack bl τ cs with
  | some (x, []) => some x
  | _ => none

/-- The rows that cells name. -/
def rowIds : List C → List Nat
  | [] => []
  | .row b _ :: r => b :: rowIds r
  | .sub b _ _ _ :: r => b :: rowIds r
  | .mat b _ :: r => b :: rowIds r
  | _ :: r => rowIds r

def V.cells : V → Option (List C)
  | .c x => some [x]
  | .agg cs => some cs
  | _ => none

def V.mk (agg : Bool) (cs : List C) : V :=
  bif agg then .agg cs else
    match cs with
    | [x] => .c x
    | _ => .junk

def C.ofValue : Value → Option C
  | .bool b => some (.bool b)
  | .int k n => some (.int k n)
  | .string s => some (.str s.data.toList)
  | .slice none 0 0 => some .nils
  | .pointer none => some .nilp
  | .nilFunc => some .nilfn
  | _ => none

def C.ofValues : List Value → Option (List C)
  | [] => some []
  | v :: r =>
    match C.ofValue v, C.ofValues r with
    | some x, some xs => some (x :: xs)
    | _, _ => none

def V.ofValue : Value → V
  | .agg cs =>
    match C.ofValues cs.toList with
    | some l => .agg l
    | none => .junk
  | v =>
    match C.ofValue v with
    | some x => .c x
    | none => .junk

/-- Cells written over others, from a place on. -/
def over : List C → Nat → List C → Option (List C)
  | cs, 0, new => bif Nat.ble new.length cs.length then some (new ++ cs.drop new.length) else none
  | [], _ + 1, _ => none
  | c :: cs, o + 1, new =>
    match over cs o new with
    | some r => some (c :: r)
    | none => none

/-- A part of the cells, if it is there whole. -/
def sub (cs : List C) (o n : Nat) : Option (List C) :=
  bif Nat.ble (o + n) cs.length then some ((cs.drop o).take n) else none

/-! ### One operation -/
def ival : V → Option (IntKind × Int)
  | .c (.int k n) => some (k, n)
  | _ => none

section
variable {β : Type}

abbrev K (β : Type) := V → List Nat → List (Nat × Blk) → Option β

/-- Only if. -/
def given (c : Bool) (x : Option β) : Option β := cond c x none

def bitsOf (op : BinOp) (k : IntKind) (a b : Int) : Int :=
  match op with
  | .and => k.wrap ((BitVec.ofInt k.bits a &&& BitVec.ofInt k.bits b).toNat : Int)
  | .or => k.wrap ((BitVec.ofInt k.bits a ||| BitVec.ofInt k.bits b).toNat : Int)
  | .xor => k.wrap ((BitVec.ofInt k.bits a ^^^ BitVec.ofInt k.bits b).toNat : Int)
  | _ => k.wrap ((BitVec.ofInt k.bits a &&& ~~~BitVec.ofInt k.bits b).toNat : Int)

def shiftOf (op : BinOp) (k : IntKind) (a b : Int) : Int :=
  match op with
  | .shl => k.wrap (a * 2 ^ (min b.toNat k.bits))
  | _ => a.fdiv (2 ^ (min b.toNat k.bits))

def isShift : BinOp → Bool
  | .shl | .shr => true
  | _ => false

def binInt (op : BinOp) (k : IntKind) (a b : Int) (kk : K β) : Option β :=
  match op with
  | .add => kk (.c (.int k (k.wrap (a + b)))) [] []
  | .sub => kk (.c (.int k (k.wrap (a - b)))) [] []
  | .mul => kk (.c (.int k (k.wrap (a * b)))) [] []
  | .quo => given (!decide (b = 0)) (kk (.c (.int k (k.wrap (a.tdiv b)))) [] [])
  | .rem => given (!decide (b = 0)) (kk (.c (.int k (a.tmod b))) [] [])
  | .eql => kk (.c (.bool (decide (a = b)))) [] []
  | .neq => kk (.c (.bool (!decide (a = b)))) [] []
  | .lss => kk (.c (.bool (decide (a < b)))) [] []
  | .leq => kk (.c (.bool (decide (a ≤ b)))) [] []
  | .gtr => kk (.c (.bool (decide (b < a)))) [] []
  | .geq => kk (.c (.bool (decide (b ≤ a)))) [] []
  | .and => kk (.c (.int k (bitsOf .and k a b))) [] []
  | .or => kk (.c (.int k (bitsOf .or k a b))) [] []
  | .xor => kk (.c (.int k (bitsOf .xor k a b))) [] []
  | .andNot => kk (.c (.int k (bitsOf .andNot k a b))) [] []
  | _ => none

def binStr (op : BinOp) (a b : List UInt8) (kk : K β) : Option β :=
  match op with
  | .add => given (decide (a.length + b.length ≤ 9223372036854775807)) (kk (.c (.str (a ++ b))) [] [])
  | .eql => kk (.c (.bool (decide (a = b)))) [] []
  | .neq => kk (.c (.bool (!decide (a = b)))) [] []
  | .lss => kk (.c (.bool (Op.bytesLess a b))) [] []
  | .leq => kk (.c (.bool (Op.bytesLess a b || decide (a = b)))) [] []
  | .gtr => kk (.c (.bool (!(Op.bytesLess a b || decide (a = b))))) [] []
  | .geq => kk (.c (.bool (!Op.bytesLess a b))) [] []
  | _ => none

/-- '==' cell by cell. -/
def eqCells : List BK → List C → List C → Option Bool
  | [], [], [] => some true
  | .b :: k, .bool a :: r, .bool b :: s =>
    match eqCells k r s with
    | some q => some ((a == b) && q)
    | none => none
  | .i :: k, .int ka a :: r, .int kb b :: s =>
    if ka = kb then
      match eqCells k r s with
      | some q => some (decide (a = b) && q)
      | none => none
    else none
  | .s :: k, .str a :: r, .str b :: s =>
    match eqCells k r s with
    | some q => some (decide (a = b) && q)
    | none => none
  | _, _, _ => none

/-- A slice against nil. -/
def nilTest (T : TypeId → Option TI) (op : BinOp) (t : TypeId) (b : Bool) (kk : K β) : Option β :=
  match T t with
  | some ti =>
    match ti.elem, ti.len, op with
    | some _, none, .eql => kk (.c (.bool b)) [] []
    | some _, none, .neq => kk (.c (.bool (!b))) [] []
    | _, _, _ => none
  | none => none

def binRun (T : TypeId → Option TI) (op : BinOp) (t : TypeId) (x y : V) (kk : K β) : Option β :=
  match x, y with
  | .c (.int k a), .c (.int k' b) =>
    bif isShift op then given (decide (0 ≤ b)) (kk (.c (.int k (shiftOf op k a b))) [] []) else
    if k = k' then binInt op k a b kk else none
  | .c (.str a), .c (.str b) => binStr op a b kk
  | .c (.bool a), .c (.bool b) =>
    match T t with
    | some ti =>
      bif ti.isBool then
        match op with
        | .eql => kk (.c (.bool (a == b))) [] []
        | .neq => kk (.c (.bool (!(a == b)))) [] []
        | _ => none
      else none
    | none => none
  | .agg a, .agg b =>
    match T t with
    | some ti =>
      match ti.eqs with
      | some ks =>
        match op, eqCells ks a b with
        | .eql, some r => kk (.c (.bool r)) [] []
        | .neq, some r => kk (.c (.bool (!r))) [] []
        | _, _ => none
      | none => none
    | none => none
  | .c .nilc, .c .nils => nilTest T op t true kk
  | .c (.lsome _ _), .c .nils => nilTest T op t false kk
  | _, _ => none

def fillC (cells : List C) : List (Nat × List C) → Option (List C)
  | [] => some cells
  | (o, new) :: r =>
    match over cells o new with
    | some cs => fillC cs r
    | none => none

/-- A struct's or an array's parts: each with its place. -/
def placed (ti : TI) (T : TypeId → Option TI) : List (Nat × V) → Option (List (Nat × List C))
  | [] => some []
  | (i, v) :: r =>
    match v.cells, placed ti T r with
    | some cs, some rest =>
      match ti.len, ti.elem with
      | some _, some e =>
        match T e with
        | some te => bif Nat.beq cs.length te.size then some ((i * te.size, cs) :: rest) else none
        | none => none
      | _, _ =>
        match ti.flds[i]? with
        | some (o, n, _) => bif Nat.beq cs.length n then some ((o, cs) :: rest) else none
        | none => none
    | _, _ => none

def repC (n : Nat) (cs : List C) : List C :=
  match n with
  | 0 => []
  | n + 1 => cs ++ repC n cs

/-- Cells as a list of data of one type. -/
def packs (bl : Nat → Option Blk) (e : Ty) : Nat → List C → Option (List e.den)
  | 0, [] => some []
  | 0, _ :: _ => none
  | n + 1, cs =>
    match pack bl e cs with
    | some (x, r) =>
      match packs bl e n r with
      | some l => some (x :: l)
      | none => none
    | none => none

def loadRun (T : TypeId → Option TI) (bl : Nat → Option Blk) (t : TypeId) (p : V) (kk : K β) : Option β :=
  match T t with
  | none => none
  | some ti =>
    bif ti.agg || Nat.beq ti.size 1 then
    match p with
    | .c (.ptr b o) =>
      match bl b with
      | some (.cells _ cs) =>
        match sub cs o ti.size with
        | some r => kk (V.mk ti.agg r) [b] []
        | none => none
      | _ => none
    | .eptr b ver i o =>
      match bl b with
      | some (.row _ e ver' l) =>
        bif Nat.beq ver ver' then
          match sub (cells e (l.getD i e.dflt)) o ti.size with
          | some r => kk (V.mk ti.agg r) [b] []
          | none => none
        else none
      | _ => none
    | .lptr e x o =>
      match sub (cells e x) o ti.size with
      | some r => kk (V.mk ti.agg r) [] []
      | none => none
    | .mcell b ver i =>
      match bl b with
      | some (.mat _ _ _ ver' iver none _) => bif Nat.beq ver ver' && !ti.agg then kk (.c (.mrow b iver i)) [b] [] else none
      | _ => none
    | .mptr b iver i j o =>
      match bl b with
      | some (.mat _ _ e _ iver' _ l) =>
        bif Nat.beq iver iver' then
          match sub (cells e ((l.getD i []).getD j e.dflt)) o ti.size with
          | some r => kk (V.mk ti.agg r) [b] []
          | none => none
        else none
      | _ => none
    | _ => none
    else none

def storeRun (T : TypeId → Option TI) (bl : Nat → Option Blk) (t : TypeId) (p v : V) (kk : K β) : Option β :=
  match T t, v.cells with
  | some ti, some new =>
    bif Nat.beq new.length ti.size then
      match p with
      | .c (.ptr b o) =>
        match bl b with
        | some (.cells t0 cs) =>
          match over cs o new with
          | some r => kk .junk [b] [(b, .cells t0 r)]
          | none => none
        | _ => none
      | .eptr b ver i o =>
        match bl b with
        | some (.row t0 e ver' l) =>
          bif Nat.beq ver ver' then
            match over (cells e (l.getD i e.dflt)) o new with
            | some r =>
              match pack1 (fun _ => none) e r with
              | some x => kk .junk [b] [(b, .row t0 e ver' (l.set i x))]
              | none => none
            | none => none
          else none
        | _ => none
      | .mptr b iver i j o =>
        match bl b with
        | some (.mat t0 et0 e ver iver' hole l) =>
          bif Nat.beq iver iver' then
            match over (cells e ((l.getD i []).getD j e.dflt)) o new with
            | some r =>
              match pack1 (fun _ => none) e r with
              | some x => kk .junk [b] [(b, .mat t0 et0 e ver iver' hole (l.set i ((l.getD i []).set j x)))]
              | none => none
            | none => none
          else none
        | _ => none
      | .mcell b ver i =>
        match v with
        | .c (.row r rv) =>
          match bl b, bl r with
          | some (.mat t0 et0 e ver' iver hole l), some (.row et1 e1 rv' x) =>
            bif Nat.beq ver ver' && (Nat.beq rv rv' && Nat.beq et0 et1) then
              if h : e1 = e then
                given (match hole with | none => true | some i' => decide (i = i')) (kk .junk [b, r] [(r, .dead), (b, .mat t0 et0 e ver' (iver + 1) none (l.set i (h ▸ x)))])
              else none
            else none
          | _, _ => none
        | _ => none
      | _ => none
    else none
  | _, _ => none

def fieldAddrRun (T : TypeId → Option TI) (t : TypeId) (p : V) (f : Nat) (kk : K β) : Option β :=
  match T t with
  | none => none
  | some ti =>
    match ti.flds[f]? with
    | none => none
    | some (off, n, _) =>
      bif Nat.beq n 0 then none else
      match p with
      | .c (.ptr b o) => kk (.c (.ptr b (o + off))) [] []
      | .eptr b ver i o => kk (.eptr b ver i (o + off)) [] []
      | .lptr e x o => kk (.lptr e x (o + off)) [] []
      | .mptr b iver i j o => kk (.mptr b iver i j (o + off)) [] []
      | _ => none

/-- One case for each place of an array. -/
def splitIx (i : Int) (kk : Nat → Option β) : Nat → Nat → Option β
  | _, 0 => none
  | j, m + 1 => cond (decide (i = (j : Int))) (kk j) (splitIx i kk (j + 1) m)

def indexAddrRun (T : TypeId → Option TI) (bl : Nat → Option Blk) (t : TypeId) (x ix : V) (kk : K β) : Option β :=
  match ival ix with
  | none => none
  | some (_, i) =>
    match T t with
    | none => none
    | some ti =>
      match ti.elem, ti.len with
      | some et, none =>
        match T et with
        | none => none
        | some te =>
          match x with
          | .c (.list e l) =>
            bif Nat.beq e.size te.size && Nat.blt 0 te.size then given (decide (0 ≤ i) && decide (i < (l.length : Int))) (kk (.lptr e (l.getD i.toNat e.dflt) 0) [] []) else none
          | .c (.row b ver) =>
            match bl b with
            | some (.row _ e ver' l) =>
              bif Nat.beq ver ver' && (Nat.beq e.size te.size && Nat.blt 0 te.size) then given (decide (0 ≤ i) && decide (i < (l.length : Int))) (kk (.eptr b ver i.toNat 0) [b] []) else none
            | _ => none
          | .c (.sub b ver lo hi) =>
            match bl b with
            | some (.row _ e ver' _) =>
              bif Nat.beq ver ver' && (Nat.beq e.size te.size && Nat.blt 0 te.size) then given (decide (0 ≤ i) && decide (i < ((hi - lo : Nat) : Int))) (kk (.eptr b ver (lo + i.toNat) 0) [b] []) else none
            | _ => none
          | .c (.mat b ver) =>
            match bl b with
            | some (.mat _ _ _ ver' _ _ l) =>
              bif Nat.beq ver ver' && Nat.beq 1 te.size then given (decide (0 ≤ i) && decide (i < (l.length : Int))) (kk (.mcell b ver i.toNat) [b] []) else none
            | _ => none
          | .c (.mrow b iver r) =>
            match bl b with
            | some (.mat _ _ e _ iver' _ l) =>
              bif Nat.beq iver iver' && (Nat.beq e.size te.size && Nat.blt 0 te.size) then given (decide (0 ≤ i) && decide (i < ((l.getD r []).length : Int))) (kk (.mptr b iver r i.toNat 0) [b] []) else none
            | _ => none
          | _ => none
      | some et, some n =>
        match x with
        | .c (.ptr b o) =>
          match T et with
          | some te => splitIx i (fun j => kk (.c (.ptr b (o + j * te.size))) [] []) 0 n
          | none => none
        | _ => none
      | _, _ => none

def boundV (v : Option V) (d : Int) : Option Int :=
  match v with
  | none => some d
  | some v =>
    match ival v with
    | some (_, n) => some n
    | none => none

def sliceRun (T : TypeId → Option TI) (bl : Nat → Option Blk) (t : TypeId) (x : V) (lo hi : Option V) (kk : K β) : Option β :=
  match T t with
  | none => none
  | some ti =>
    match x with
    | .c (.str s) =>
      bif ti.isStr then
        match boundV lo 0, boundV hi (s.length : Int) with
        | some a, some b => given (decide (0 ≤ a) && (decide (a ≤ b) && decide (b ≤ (s.length : Int)))) (kk (.c (.str ((s.take b.toNat).drop a.toNat))) [] [])
        | _, _ => none
      else none
    | .c (.list e l) =>
      match ti.elem, ti.len with
      | some et, none =>
        match T et with
        | none => none
        | some te =>
          bif Nat.beq e.size te.size && Nat.blt 0 te.size then
            match boundV lo 0, boundV hi (l.length : Int) with
            | some a, some b => given (decide (0 ≤ a) && (decide (a ≤ b) && decide (b ≤ (l.length : Int)))) (kk (.c (.list e ((l.take b.toNat).drop a.toNat))) [] [])
            | _, _ => none
          else none
      | _, _ => none
    | .c (.row bb ver) =>
      match ti.elem, ti.len with
      | some et, none =>
        match T et with
        | none => none
        | some te =>
          match bl bb with
          | some (.row _ e ver' l) =>
            bif Nat.beq ver ver' && (Nat.beq e.size te.size && Nat.blt 0 te.size) then
              match boundV lo 0, boundV hi (l.length : Int) with
              | some a, some b => given (decide (0 ≤ a) && (decide (a ≤ b) && decide (b ≤ (l.length : Int)))) (kk (.c (.sub bb ver a.toNat b.toNat)) [bb] [])
              | _, _ => none
            else none
          | _ => none
      | _, _ => none
    | .c (.sub bb ver i j) =>
      match ti.elem, ti.len with
      | some et, none =>
        match T et with
        | none => none
        | some te =>
          match bl bb with
          | some (.row _ e ver' _) =>
            bif Nat.beq ver ver' && (Nat.beq e.size te.size && Nat.blt 0 te.size) then
              match boundV lo 0, boundV hi ((j - i : Nat) : Int) with
              | some a, some b => given (decide (0 ≤ a) && (decide (a ≤ b) && decide (b ≤ ((j - i : Nat) : Int)))) (kk (.c (.sub bb ver (i + a.toNat) (i + b.toNat))) [bb] [])
              | _, _ => none
            else none
          | _ => none
      | _, _ => none
    | .c .nils =>
      match ti.elem, ti.len with
      | some et, none =>
        match T et with
        | none => none
        | some _ =>
          match boundV lo 0, boundV hi 0 with
          | some a, some b => given (decide (0 ≤ a) && (decide (a ≤ b) && decide (b ≤ (0 : Int)))) (kk (.c .nils) [] [])
          | _, _ => none
      | _, _ => none
    | _ => none

def isSlice (ti : TI) : Bool :=
  match ti.elem, ti.len with
  | some _, none => true
  | _, _ => false

def lenRun (T : TypeId → Option TI) (bl : Nat → Option Blk) (t : TypeId) (x : V) (kk : K β) : Option β :=
  match T t with
  | none => none
  | some ti =>
    match x with
    | .c (.str s) => bif ti.isStr then kk (.c (.int .i64 (s.length : Int))) [] [] else none
    | .c (.list _ l) => bif isSlice ti then kk (.c (.int .i64 (l.length : Int))) [] [] else none
    | .c .nils => bif isSlice ti then kk (.c (.int .i64 0)) [] [] else none
    | .c (.row b ver) =>
      match bl b with
      | some (.row _ _ ver' l) => bif Nat.beq ver ver' && isSlice ti then kk (.c (.int .i64 (l.length : Int))) [b] [] else none
      | _ => none
    | .c (.sub b ver i j) =>
      match bl b with
      | some (.row _ _ ver' _) => bif Nat.beq ver ver' && isSlice ti then kk (.c (.int .i64 ((j - i : Nat) : Int))) [b] [] else none
      | _ => none
    | .c (.mat b ver) =>
      match bl b with
      | some (.mat _ _ _ ver' _ _ l) => bif Nat.beq ver ver' && isSlice ti then kk (.c (.int .i64 (l.length : Int))) [b] [] else none
      | _ => none
    | .c (.mrow b iver r) =>
      match bl b with
      | some (.mat _ _ _ _ iver' _ l) => bif Nat.beq iver iver' && isSlice ti then kk (.c (.int .i64 ((l.getD r []).length : Int))) [b] [] else none
      | _ => none
    | .c (.mapv b) =>
      match bl b, ti.mp with
      | some (.map _ _ _ _ l), some _ => kk (.c (.int .i64 (l.length : Int))) [b] []
      | _, _ => none
    | _ => none

/-! ### Maps -/
/-- Keys that are compared cell by cell. -/
def keyTI (tk : TI) : Ty → Bool
  | .bool => tk.isBool
  | .int k => decide (tk.kind = some k)
  | .str => tk.isStr
  | _ => false

def keyEq : (k : Ty) → k.den → k.den → Bool
  | .bool, a, b => a == b
  | .int _, a, b => decide (a = b)
  | .str, a, b => decide (a = b)
  | _, _, _ => false

def keyOf : (k : Ty) → V → Option k.den
  | .bool, .c (.bool b) => some b
  | .int k, .c (.int k' n) => if k = k' then some n else none
  | .str, .c (.str s) => some s
  | _, _ => none

def mGet (k : Ty) {δ : Type} : List (k.den × δ) → k.den → δ → δ
  | [], _, d => d
  | y :: r, x, d => bif keyEq k y.1 x then y.2 else mGet k r x d
def mHas (k : Ty) {δ : Type} : List (k.den × δ) → k.den → Bool
  | [], _ => false
  | y :: r, x => bif keyEq k y.1 x then true else mHas k r x
def mPut (k : Ty) {δ : Type} : List (k.den × δ) → k.den → δ → List (k.den × δ)
  | [], x, v => [(x, v)]
  | y :: r, x, v => bif keyEq k y.1 x then (x, v) :: r else y :: mPut k r x v

def indexArrRun (T : TypeId → Option TI) (ti : TI) (cs : List C) (i : Int) (kk : K β) : Option β :=
  match ti.elem, ti.len with
  | some et, some n =>
    match T et with
    | some te =>
      match te.ty with
      | some e =>
        match packs (fun _ => none) e n cs with
        | some l => bif Nat.beq e.size te.size && (te.agg || Nat.beq te.size 1) then given (decide (0 ≤ i) && decide (i < (l.length : Int))) (kk (V.mk te.agg (cells e (l.getD i.toNat e.dflt))) [] []) else none
        | none => none
      | none => none
    | none => none
  | _, _ => none

def makeMapRun (T : TypeId → Option TI) (bl : Nat → Option Blk) (nx : Nat) (t : TypeId) (kk : K β) : Option β :=
  match T t with
  | none => none
  | some ti =>
    match ti.mp with
    | none => none
    | some (kt, vt) =>
      match T kt, T vt with
      | some tk, some tv =>
        match tk.ty, tv.ty, bl nx with
        | some k, some v, none => bif keyTI tk k then kk (.c (.mapv nx)) [nx] [(nx, .map t k v tv.agg [])] else none
        | _, _, _ => none
      | _, _ => none

def lookupRun (T : TypeId → Option TI) (bl : Nat → Option Blk) (t : TypeId) (x ix : V) (commaOk : Bool) (kk : K β) : Option β :=
  match T t with
  | none => none
  | some ti =>
    match ti.mp with
    | none => none
    | some (kt, vt) =>
      match T kt, T vt with
      | some tk, some tv =>
        match x with
        | .c (.mapv b) =>
          match bl b with
          | some (.map _ k v vg l) =>
            bif keyTI tk k && (vg || Nat.beq v.size 1) && (vg == tv.agg) then
              match keyOf k ix, pack1 (fun _ => none) v tv.zero with
              | some key, some z =>
                kk (bif commaOk then .tup [(vg, cells v (mGet k l key z)), (false, [.bool (mHas k l key)])] else V.mk vg (cells v (mGet k l key z))) [b] []
              | _, _ => none
            else none
          | _ => none
        | _ => none
      | _, _ => none

def isAggV : V → Option Bool
  | .c _ => some false
  | .agg _ => some true
  | _ => none

def updateRun (T : TypeId → Option TI) (bl : Nat → Option Blk) (t : TypeId) (x ix y : V) (kk : K β) : Option β :=
  match T t with
  | none => none
  | some ti =>
    match ti.mp with
    | none => none
    | some (kt, _) =>
      match T kt with
      | none => none
      | some tk =>
        match x, y.cells with
        | .c (.mapv b), some cs =>
          match bl b with
          | some (.map t' k v vg l) =>
            bif keyTI tk k && decide (isAggV y = some vg) then
              match keyOf k ix, pack1 (fun _ => none) v cs with
              | some key, some z => kk .junk [b] [(b, .map t' k v vg (mPut k l key z))]
              | _, _ => none
            else none
          | _ => none
        | _, _ => none

/-- The greatest number of bytes that a grown row may take. -/
def roomMax : Nat := 140737488355328

def srcOf (bl : Nat → Option Blk) (e : Ty) : V → Option (List e.den × List Nat)
  | .c .nils => some ([], [])
  | .c (.list e' l) => if h : e' = e then some (h ▸ l, []) else none
  | .c (.lsome e' l) => if h : e' = e then some (h ▸ l, []) else none
  | .c (.row b ver) => (rowOf bl b ver e).map fun l => (l, [b])
  | .c (.sub b ver i j) => (rowOf bl b ver e).map fun l => ((l.take j).drop i, [b])
  | _ => none

/-- 'copy' onto a row of one's own, or a part of it. -/
def copyRun (T : TypeId → Option TI) (bl : Nat → Option Blk) (t : TypeId) (x y : V) (kk : K β) : Option β :=
  match T t with
  | none => none
  | some ti =>
    match ti.elem, ti.len with
    | some et, none =>
      match T et with
      | none => none
      | some te =>
        match te.ty with
        | none => none
        | some e =>
          bif Nat.beq e.size te.size && Nat.blt 0 te.size then
          match srcOf bl e y with
          | none => none
          | some (new, rd) =>
            match x with
            | .c (.sub b ver i j) =>
              match bl b with
              | some (.row t0 e0 ver' l) =>
                bif Nat.beq ver ver' then
                  if h : e0 = e then
                    kk (.c (.int .i64 ((Nat.min new.length (j - i) : Nat) : Int))) (b :: rd) [(b, .row t0 e ver' ((h ▸ l : List e.den).take i ++ (new.take (j - i) ++ (h ▸ l : List e.den).drop (i + Nat.min new.length (j - i)))))]
                  else none
                else none
              | _ => none
            | .c (.row b ver) =>
              match bl b with
              | some (.row t0 e0 ver' l) =>
                bif Nat.beq ver ver' then
                  if h : e0 = e then
                    kk (.c (.int .i64 ((Nat.min new.length l.length : Nat) : Int))) (b :: rd) [(b, .row t0 e ver' (new.take l.length ++ (h ▸ l : List e.den).drop (Nat.min new.length l.length)))]
                  else none
                else none
              | _ => none
            | _ => none
          else none
    | _, _ => none

def appendRun (T : TypeId → Option TI) (bl : Nat → Option Blk) (nx : Nat) (t : TypeId) (x y : V) (kk : K β) : Option β :=
  match T t with
  | none => none
  | some ti =>
    match ti.elem, ti.len with
    | some et, none =>
      match T et with
      | none => none
      | some te =>
        match te.ty with
        | none => none
        | some e =>
          bif Nat.beq e.size te.size && (Nat.blt 0 te.size && Nat.blt 0 te.bytes) then
          match srcOf bl e y with
          | none => none
          | some (new, rd) =>
            match x with
            | .c .nils =>
              match bl nx with
              | none => given (decide (new.length * te.bytes ≤ roomMax)) (kk (.c (.row nx 0)) (nx :: rd) [(nx, .row et e 0 new)])
              | some _ => none
            | .c (.row b ver) =>
              match bl b with
              | some (.row t0 e0 ver' l) =>
                bif Nat.beq ver ver' && Nat.beq t0 et then
                  if h : e0 = e then given (decide (((l.length + new.length) * te.bytes) ≤ roomMax)) (kk (.c (.row b (ver + 1))) (b :: rd) [(b, .row t0 e (ver + 1) ((h ▸ l) ++ new))])
                  else none
                else none
              | _ => none
            | .c (.mrow b iver i) =>
              match bl b, bl nx with
              | some (.mat t0 et0 e0 ver iver' none l), none =>
                bif Nat.beq iver iver' && Nat.beq et0 et then
                  if h : e0 = e then given (decide ((((l.getD i []).length + new.length) * te.bytes) ≤ roomMax)) (kk (.c (.row nx 0)) (nx :: b :: rd) [(b, .mat t0 et0 e0 ver (iver' + 1) (some i) l), (nx, .row et e 0 ((h ▸ l.getD i []) ++ new))])
                  else none
                else none
              | _, _ => none
            | _ => none
          else none
    | _, _ => none

/-- Whether a type is one of slices of slices. -/
def isMatT (T : TypeId → Option TI) (t : TypeId) : Bool :=
  match T t with
  | none => false
  | some ti =>
    match ti.elem, ti.len with
    | some et, none =>
      match T et with
      | none => false
      | some te =>
        match te.ty with
        | some (.slice _) => true
        | _ => false
    | _, _ => false

/-- append of slices that are one's own onto a slice of slices. -/
def appendMatRun (T : TypeId → Option TI) (bl : Nat → Option Blk) (nx : Nat) (t : TypeId) (x y : V) (kk : K β) : Option β :=
  match T t with
  | none => none
  | some ti =>
    match ti.elem, ti.len with
    | some et, none =>
      match T et with
      | none => none
      | some te =>
        bif Nat.beq 1 te.size && Nat.blt 0 te.bytes then
        match y with
        | .c (.mat b2 ver2) =>
          match bl b2 with
          | some (.mat t2 et2 e ver2' _ none new) =>
            bif Nat.beq ver2 ver2' && Nat.beq t2 et then
              match x with
              | .c .nils =>
                match bl nx with
                | none => given (decide (new.length * te.bytes ≤ roomMax)) (kk (.c (.mat nx 0)) [nx, b2] [(b2, .dead), (nx, .mat et et2 e 0 0 none new)])
                | some _ => none
              | .c (.mat b ver) =>
                match bl b with
                | some (.mat t0 et0 e0 ver' iver none l) =>
                  bif Nat.beq ver ver' && (Nat.beq t0 et && (Nat.beq et0 et2 && !Nat.beq b b2)) then
                    if h : e0 = e then given (decide (((l.length + new.length) * te.bytes) ≤ roomMax)) (kk (.c (.mat b (ver + 1))) [b, b2] [(b2, .dead), (b, .mat et et2 e (ver + 1) (iver + 1) none ((h ▸ l) ++ new))])
                    else none
                  else none
                | _ => none
              | _ => none
            else none
          | _ => none
        | _ => none
        else none
    | _, _ => none

def buildMatRun (T : TypeId → Option TI) (bl : Nat → Option Blk) (nx : Nat) (t : TypeId) (n : Nat) (parts : List (Nat × V)) (kk : K β) : Option β :=
  match parts with
  | [(0, .c (.row r rv))] =>
    match T t with
    | none => none
    | some ti =>
      match ti.elem, ti.len with
      | some et, none =>
        match T et with
        | none => none
        | some te =>
          match te.elem, te.len, bl r, bl nx with
          | some eet, none, some (.row et1 e rv' x), none =>
            bif Nat.beq n 1 && (Nat.beq te.size 1 && (Nat.beq rv rv' && Nat.beq et1 eet)) then kk (.c (.mat nx 0)) [r, nx] [(r, .dead), (nx, .mat et eet e 0 0 none [x])] else none
          | _, _, _, _ => none
      | _, _ => none
  | _ => none

def makeMatRun (T : TypeId → Option TI) (bl : Nat → Option Blk) (nx : Nat) (t : TypeId) (n c : V) (kk : K β) : Option β :=
  match T t, ival n, ival c with
  | some ti, some (_, i), some (_, j) =>
    match ti.elem, ti.len with
    | some et, none =>
      match T et with
      | none => none
      | some te =>
        match te.ty, te.elem, te.len, bl nx, te.zero with
        | some (.slice e), some eet, none, none, [.nils] =>
          bif Nat.beq te.size 1 then
            given (decide (0 ≤ i) && (decide (i = j) && (decide (i.toNat * te.bytes ≤ roomMax) && decide (i ≤ 9223372036854775807)))) (kk (.c (.mat nx 0)) [nx] [(nx, .mat et eet e 0 0 none (List.replicate i.toNat []))])
          else none
        | _, _, _, _, _ => none
    | _, _ => none
  | _, _, _ => none

def minmaxFrom (isMax : Bool) (k : IntKind) : Int → List V → Option V
  | a, [] => some (.c (.int k a))
  | a, .c (.int k' b) :: r => if k = k' then minmaxFrom isMax k (bif isMax then (if b > a then b else a) else (if b < a then b else a)) r else none
  | _, _ :: _ => none

def minmax (isMax : Bool) : List V → Option V
  | .c (.int k a) :: r => minmaxFrom isMax k a r
  | _ => none

/-! ### Calls -/
/-- Which blocks the template's blocks stand for. -/
def idsOf : List CT → List C → List (Nat × Nat)
  | .data τ :: l, cs => idsOf l (cs.drop τ.size)
  | .ptr b _ :: l, .ptr b' _ :: cs => (b, b') :: idsOf l cs
  | .rowh b :: l, .row b' _ :: cs => (b, b') :: idsOf l cs
  | .fn _ caps :: l, .fn _ caps' :: cs => caps.zip caps' ++ idsOf l cs
  | .maph b :: l, .mapv b' :: cs => (b, b') :: idsOf l cs
  | .math b :: l, .mat b' _ :: cs => (b, b') :: idsOf l cs
  | _ :: l, _ :: cs => idsOf l cs
  | _, _ => []

def idsOfs : List (Bool × List CT) → List V → List (Nat × Nat)
  | t :: ts, v :: vs =>
    match v.cells with
    | some cs => idsOf t.2 cs ++ idsOfs ts vs
    | none => idsOfs ts vs
  | _, _ => []

def idList (ps : List (Nat × Nat)) : Nat → Nat → Option (List Nat)
  | _, 0 => some []
  | j, n + 1 =>
    match look ps j, idList ps (j + 1) n with
    | some b, some r => some (b :: r)
    | _, _ => none

def memB (x : Nat) : List Nat → Bool
  | [] => false
  | y :: r => Nat.beq x y || memB x r

def nodupB : List Nat → Bool
  | [] => true
  | x :: r => !memB x r && nodupB r

/-- Cells read by a template. -/
def readC (bl : Nat → Option Blk) (ids : List Nat) : (l : List CT) → List C → Option (CT.dens l)
  | [], [] => some ()
  | .data τ :: l, cs =>
    match pack bl τ cs with
    | none => none
    | some (x, r) =>
      match readC bl ids l r with
      | none => none
      | some y => some (x, y)
  | .ptr b o :: l, .ptr b' o' :: cs =>
    match ids[b]? with
    | some i => bif Nat.beq i b' && Nat.beq o o' then readC bl ids l cs else none
    | none => none
  | .rowh b :: l, .row b' ver :: cs =>
    match ids[b]? with
    | some i =>
      bif Nat.beq i b' then
        match bl b' with
        | some (.row _ _ ver' _) => bif Nat.beq ver ver' then readC bl ids l cs else none
        | _ => none
      else none
    | none => none
  | .rowh b :: l, .nils :: cs =>
    match ids[b]? with
    | some i =>
      match bl i with
      | none => readC bl ids l cs
      | some _ => none
    | none => none
  | .fn f caps :: l, .fn f' caps' :: cs => bif Nat.beq f f' && decide (caps.map (ids[·]?) = caps'.map some) then readC bl ids l cs else none
  | .maph b :: l, .mapv b' :: cs =>
    match ids[b]? with
    | some i => bif Nat.beq i b' then readC bl ids l cs else none
    | none => none
  | .math b :: l, .mat b' ver :: cs =>
    match ids[b]? with
    | some i =>
      bif Nat.beq i b' then
        match bl b' with
        | some (.mat _ _ _ ver' _ none _) => bif Nat.beq ver ver' then readC bl ids l cs else none
        | _ => none
      else none
    | none => none
  | .math b :: l, .nils :: cs =>
    match ids[b]? with
    | some i =>
      match bl i with
      | none => readC bl ids l cs
      | some _ => none
    | none => none
  | .junk :: l, _ :: cs => readC bl ids l cs
  | _, _ => none

def readS (bl : Nat → Option Blk) (ids : List Nat) : (l : List (Bool × List CT)) → List V → Option (ST.dens l)
  | [], [] => some ()
  | t :: l, v :: vs =>
    match v, t.1 with
    | .c x, false =>
      match readC bl ids t.2 [x] with
      | none => none
      | some y =>
        match readS bl ids l vs with
        | none => none
        | some z => some (y, z)
    | .agg cs, true =>
      match readC bl ids t.2 cs with
      | none => none
      | some y =>
        match readS bl ids l vs with
        | none => none
        | some z => some (y, z)
    | _, _ => none
  | _, _ => none

/-- The borrowed blocks. -/
def readB (bl : Nat → Option Blk) (ids : List Nat) : (l : List BT) → List Nat → Option (BT.dens l)
  | [], [] => some ()
  | .cells t l :: r, i :: is =>
    match bl i with
    | some (.cells t' cs) =>
      bif Nat.beq t t' then
        match readC bl ids l cs with
        | none => none
        | some y =>
          match readB bl ids r is with
          | none => none
          | some z => some (y, z)
      else none
    | _ => none
  | _, _ => none

/-- A template filled. -/
def mkC (ids : List Nat) : (l : List CT) → CT.dens l → List C
  | [], _ => []
  | .data τ :: l, x => cells τ x.1 ++ mkC ids l x.2
  | .ptr b o :: l, x => .ptr (ids.getD b 0) o :: mkC ids l x
  | .rowh b :: l, x => .row (ids.getD b 0) 0 :: mkC ids l x
  | .fn f caps :: l, x => .fn f (caps.map fun b => ids.getD b 0) :: mkC ids l x
  | .maph b :: l, x => .mapv (ids.getD b 0) :: mkC ids l x
  | .math b :: l, x => .mat (ids.getD b 0) 0 :: mkC ids l x
  | .nilc :: l, x => .nilc :: mkC ids l x
  | .lsome e :: l, x => .lsome e x.1 :: mkC ids l x.2
  | .junk :: l, x => .junk :: mkC ids l x

def mkS (ids : List Nat) : (l : List (Bool × List CT)) → ST.dens l → List (Bool × List C)
  | [], _ => []
  | t :: l, x => (t.1, mkC ids t.2 x.1) :: mkS ids l x.2

def mkB (ids : List Nat) : (l : List BT) → BT.dens l → List Blk
  | [], _ => []
  | .cells t l :: r, x => .cells t (mkC ids l x.1) :: mkB ids r x.2
  | .row t e :: r, x => .row t e 0 x.1 :: mkB ids r x.2
  | .map t k v vg :: r, x => .map t k v vg x.1 :: mkB ids r x.2
  | .mat t et e :: r, x => .mat t et e 0 0 none x.1 :: mkB ids r x.2

def resV : List (Bool × List C) → V
  | [t] => V.mk t.1 t.2
  | ts => .tup ts

def CT.flat : List CT → Bool
  | [] => true
  | .data τ :: r => τ.flat && CT.flat r
  | .lsome _ :: _ => false
  | _ :: r => CT.flat r

def ST.flat : List (Bool × List CT) → Bool
  | [] => true
  | t :: r => CT.flat t.2 && ST.flat r

def BT.flat : List BT → Bool
  | [] => true
  | .cells _ l :: r => CT.flat l && BT.flat r
  | .row _ e :: r => e.flat && BT.flat r
  | .map _ k v _ :: r => k.flat && (v.flat && BT.flat r)
  | .mat _ _ e :: r => e.flat && BT.flat r

def rowsOfV : List V → List Nat
  | [] => []
  | v :: vs =>
    match v.cells with
    | some cs => rowIds cs ++ rowsOfV vs
    | none => rowsOfV vs

def upFrom : Nat → Nat → List Nat
  | _, 0 => []
  | i, n + 1 => i :: upFrom (i + 1) n

def allFree (bl : Nat → Option Blk) : List Nat → Bool
  | [] => true
  | i :: r =>
    match bl i with
    | none => allFree bl r
    | some _ => false

def rowsOfB (bl : Nat → Option Blk) : List Nat → List Nat
  | [] => []
  | i :: r =>
    match bl i with
    | some (.cells _ cs) => rowIds cs ++ rowsOfB bl r
    | _ => rowsOfB bl r

/-- The template names no block beyond the first m. -/
def CT.bnd (m : Nat) : List CT → Bool
  | [] => true
  | .ptr b _ :: r | .rowh b :: r | .maph b :: r | .math b :: r => Nat.blt b m && CT.bnd m r
  | .fn _ caps :: r => caps.all (fun b => Nat.blt b m) && CT.bnd m r
  | .data _ :: r | .nilc :: r | .lsome _ :: r | .junk :: r => CT.bnd m r

def ST.bnd (m : Nat) : List (Bool × List CT) → Bool
  | [] => true
  | t :: r => CT.bnd m t.2 && ST.bnd m r

def BT.bnd (m : Nat) : List BT → Bool
  | [] => true
  | .cells _ l :: r => CT.bnd m l && BT.bnd m r
  | .row _ _ :: r => BT.bnd m r
  | .map _ _ _ _ :: r => BT.bnd m r
  | .mat _ _ _ :: r => BT.bnd m r

/-- The rows that a call keeps: if its answer may share them, they are nobody's from then on. -/
def killsOf (S : Spec) (bl : Nat → Option Blk) (rds : List Nat) : List (Nat × Blk) :=
  bif ST.flat S.res && BT.flat S.outs then [] else
    rds.filterMap fun b =>
      match bl b with
      | some (.row _ _ _ _) => some (b, .dead)
      | _ => none

def callOk (S : Spec) (bl : Nat → Option Blk) (ids new : List Nat) : Bool :=
  nodupB ids && ((allFree bl new && (Nat.ble S.ins.length S.outs.length && (ST.bnd S.outs.length S.res && BT.bnd S.outs.length S.outs))))

def rowRun (F : RowF) (bl : Nat → Option Blk) (args : List V) (kk : K β) : Option β :=
  match args with
  | [.c (.row b ver)] =>
    match bl b with
    | some (.row t e ver' l) =>
      bif Nat.beq ver ver' && Nat.beq t F.t then
        if h : e = F.e then
          given (decide (l.length < F.max))
            (bif F.cut then kk (.c (.row b (ver + 1))) [b] [(b, .row t F.e (ver + 1) (F.run (h ▸ l)))] else kk (.tup []) [b] [(b, .row t F.e ver (F.run (h ▸ l)))])
        else none
      else none
    | _ => none
  | _ => none

/-- Slices of slices are not handed over. -/
def hideM (bl : Nat → Option Blk) : Nat → Option Blk := fun i =>
  match bl i with
  | some (.mat _ _ _ _ _ _ _) => none
  | B => B

def callRun (X : Ctx) (bl : Nat → Option Blk) (nx : Nat) (f : FuncId) (args : List V) (kk : K β) : Option β :=
  match X.Γ f with
  | none => none
  | some (.rows F) => rowRun F bl args kk
  | some (.spec S) =>
    match idList (idsOfs S.params args) 0 S.ins.length with
    | none => none
    | some ids =>
      match readS (hideM bl) ids S.params args, readB (hideM bl) ids S.ins ids with
      | some x, some y =>
        bif callOk S bl ids (upFrom nx (S.outs.length - S.ins.length)) then
          S.run (x, y) fun z =>
            kk (resV (mkS (ids ++ upFrom nx (S.outs.length - S.ins.length)) S.res z.1)) (ids ++ ((rowsOfV args ++ rowsOfB bl ids) ++ upFrom nx (S.outs.length - S.ins.length)))
              (killsOf S bl (rowsOfV args ++ rowsOfB bl ids) ++ (ids ++ upFrom nx (S.outs.length - S.ins.length)).zip (mkB (ids ++ upFrom nx (S.outs.length - S.ins.length)) S.outs z.2))
        else none
      | _, _ => none

/-! ### Rows that become data -/
/-- A row's handle, read as its content. -/
def frzC (bl : Nat → Option Blk) : C → C
  | .row b ver =>
    match bl b with
    | some (.row _ e ver' l) => bif Nat.beq ver ver' then .list e l else .row b ver
    | _ => .row b ver
  | .sub b ver i j =>
    match bl b with
    | some (.row _ e ver' l) => bif Nat.beq ver ver' then .list e ((l.take j).drop i) else .sub b ver i j
    | _ => .sub b ver i j
  | c => c

def frzV (bl : Nat → Option Blk) : V → V
  | .c x => .c (frzC bl x)
  | .agg cs => .agg (cs.map (frzC bl))
  | v => v

def killRows (bl : Nat → Option Blk) : List Nat → List (Nat × Blk)
  | [] => []
  | b :: r =>
    match bl b with
    | some (.row _ _ _ _) => (b, .dead) :: killRows bl r
    | _ => killRows bl r

def over_ (bl : Nat → Option Blk) : List (Nat × Blk) → Nat → Option Blk
  | [], i => bl i
  | (j, x) :: r, i => over_ (fun k => bif Nat.beq k j then some x else bl k) r i

/-- The rows 'rds' are nobody's from here on. -/
def frzRun (bl : Nat → Option Blk) (rds : List Nat) (run : (Nat → Option Blk) → K β → Option β) (kk : K β) : Option β :=
  run (over_ bl (killRows bl rds)) fun v rd wr => kk v (rds ++ rd) (killRows bl rds ++ wr)

/-! ### One operation -/
def strOf (l : List Int) : List UInt8 := l.map fun n => UInt8.ofNat n.toNat

/-- Bytes as a string. -/
def bytesRun (T : TypeId → Option TI) (bl : Nat → Option Blk) (si ti : TI) (y : V) (kk : K β) : Option β :=
  match si.elem, si.len with
  | some et, none =>
    match T et with
    | none => none
    | some te =>
      match te.kind with
      | some .u8 =>
        bif ti.isStr then
          match srcOf bl (.int .u8) y with
          | some (l, rd) => kk (.c (.str (strOf l))) rd []
          | none => none
        else none
      | _ => none
  | _, _ => none

def calleeOf (ρ : Operand → V) : Callee → Option (FuncId × List V)
  | .value x =>
    match ρ x with
    | .c (.fn f caps) => some (f, caps.map fun b => .c (.ptr b 0))
    | _ => none
  | _ => none

def allocRun (bl : Nat → Option Blk) (nx : Nat) (t : TypeId) (cs : List C) (kk : K β) : Option β :=
  match bl nx with
  | none => kk (.c (.ptr nx 0)) [nx] [(nx, .cells t cs)]
  | some _ => none

def buildSliceRun (T : TypeId → Option TI) (bl : Nat → Option Blk) (nx : Nat) (t : TypeId) (n : Nat) (parts : List (Nat × V)) (kk : K β) : Option β :=
  match T t with
  | none => none
  | some ti =>
    match ti.elem, ti.len with
    | some et, none =>
      match T et with
      | none => none
      | some te =>
        match te.ty with
        | none => none
        | some e =>
          bif Nat.beq e.size te.size && (Nat.ble (n * te.size) 16777216 && Nat.blt 0 te.size) then
            match placed { te with elem := some et, len := some n } T parts with
            | none => none
            | some ps =>
              match fillC (repC n te.zero) ps with
              | none => none
              | some cs =>
                match packs (fun _ => none) e n cs, bl nx with
                | some l, none => kk (.c (.row nx 0)) [nx] [(nx, .row et e 0 l)]
                | _, _ => none
          else none
    | _, _ => none

def makeRun (T : TypeId → Option TI) (bl : Nat → Option Blk) (nx : Nat) (t : TypeId) (n c : V) (kk : K β) : Option β :=
  match T t, ival n, ival c with
  | some ti, some (_, i), some (_, j) =>
    match ti.elem, ti.len with
    | some et, none =>
      match T et with
      | none => none
      | some te =>
        match te.ty with
        | none => none
        | some e =>
          match pack1 (fun _ => none) e te.zero, bl nx with
          | some z, none =>
            bif Nat.beq e.size te.size && Nat.blt 0 te.size then
              given (decide (0 ≤ i) && (decide (i = j) && (decide (i.toNat * te.bytes ≤ roomMax) && decide (i ≤ 9223372036854775807)))) (kk (.c (.row nx 0)) [nx] [(nx, .row et e 0 (List.replicate i.toNat z))])
            else none
          | _, _ => none
    | _, _ => none
  | _, _, _ => none

def ptrsOf : List V → Option (List Nat)
  | [] => some []
  | .c (.ptr b 0) :: r =>
    match ptrsOf r with
    | some l => some (b :: l)
    | none => none
  | _ :: _ => none

def opRun (X : Ctx) (o : Oper) (ρ : Operand → V) (bl : Nat → Option Blk) (nx : Nat) (kk : K β) : Option β :=
  match o.op with
  | .move x | .assign x => kk (ρ x) [] []
  | .pick c a b =>
    match ρ c with
    | .c (.bool g) => cond g (kk (ρ a) [] []) (kk (ρ b) [] [])
    | _ => none
  | .alloc t =>
    match X.T t with
    | some ti => allocRun bl nx t ti.zero kk
    | none => none
  | .box t x =>
    match (ρ x).cells with
    | some cs => allocRun bl nx t cs kk
    | none => none
  | .build t parts =>
    match X.T t with
    | some ti =>
      bif ti.agg then
        match placed ti X.T (parts.toList.map fun p => (p.1, ρ p.2)) with
        | some ps =>
          match fillC ti.zero ps with
          | some cs => kk (.agg cs) [] []
          | none => none
        | none => none
      else none
    | none => none
  | .buildSlice t n parts => bif X.M && isMatT X.T t then buildMatRun X.T bl nx t n (parts.toList.map fun p => (p.1, ρ p.2)) kk else frzRun bl (rowsOfV (parts.toList.map fun p => ρ p.2)) (fun bl' kk' => buildSliceRun X.T bl' nx t n (parts.toList.map fun p => (p.1, frzV bl (ρ p.2))) kk') kk
  | .load t a => loadRun X.T bl t (ρ a) kk
  | .store t a x =>
    match ρ a with
    | .eptr _ _ _ _ => frzRun bl (rowsOfV [ρ a, ρ x]) (fun bl' kk' => storeRun X.T bl' t (frzV bl (ρ a)) (frzV bl (ρ x)) kk') kk
    | _ => storeRun X.T bl t (ρ a) (ρ x) kk
  | .nilCheck x =>
    match ρ x with
    | .c (.ptr b o) => kk (.c (.ptr b o)) [] []
    | .eptr b ver i o => kk (.eptr b ver i o) [] []
    | .lptr e x o => kk (.lptr e x o) [] []
    | .mcell b ver i => kk (.mcell b ver i) [] []
    | .mptr b iver i j o => kk (.mptr b iver i j o) [] []
    | .c (.fn f caps) => kk (.c (.fn f caps)) [] []
    | _ => none
  | .binOp op t x y _ => binRun X.T op t (ρ x) (ρ y) kk
  | .unOp op _ x =>
    match op, ρ x with
    | .not, .c (.bool b) => kk (.c (.bool (!b))) [] []
    | .neg, .c (.int k n) => kk (.c (.int k (k.wrap (0 - n)))) [] []
    | _, _ => none
  | .convert s t x =>
    match X.T s, X.T t, ρ x with
    | some _, some ti, .c (.int _ n) =>
      match ti.kind with
      | some k => kk (.c (.int k (k.wrap n))) [] []
      | none => none
    | some _, some ti, .c (.str s) => bif ti.isStr then kk (.c (.str s)) [] [] else none
    | some si, some ti, y => bytesRun X.T bl si ti y kk
    | _, _, _ => none
  | .makeFunc (.func f) first caps =>
    match first.toList with
    | [] =>
      match ptrsOf (caps.toList.map ρ) with
      | some bs => kk (.c (.fn f bs)) [] []
      | none => none
    | _ :: _ => none
  | .makeSlice t n c => bif X.M && isMatT X.T t then makeMatRun X.T bl nx t (ρ n) (ρ c) kk else makeRun X.T bl nx t (ρ n) (ρ c) kk
  | .makeMap t none => makeMapRun X.T bl nx t kk
  | .lookup t x i commaOk => lookupRun X.T bl t (ρ x) (ρ i) commaOk kk
  | .mapUpdate t m i v => frzRun bl (rowsOfV [ρ m, ρ i, ρ v]) (fun bl' kk' => updateRun X.T bl' t (frzV bl (ρ m)) (frzV bl (ρ i)) (frzV bl (ρ v)) kk') kk
  | .slice t x lo hi none => sliceRun X.T bl t (ρ x) (lo.map ρ) (hi.map ρ) kk
  | .fieldAddr t x f => fieldAddrRun X.T t (ρ x) f kk
  | .field t x f =>
    match X.T t, ρ x with
    | some ti, .agg cs =>
      match ti.flds[f]? with
      | some (o, n, g) =>
        bif g || Nat.beq n 1 then
          match sub cs o n with
          | some r => kk (V.mk g r) [] []
          | none => none
        else none
      | none => none
    | _, _ => none
  | .indexAddr t x i => indexAddrRun X.T bl t (ρ x) (ρ i) kk
  | .index t x i =>
    match X.T t, ρ x, ival (ρ i) with
    | some ti, .c (.str s), some (_, i) => bif ti.isStr then given (decide (0 ≤ i) && decide (i < (s.length : Int))) (kk (.c (.int .u8 ((s.getD i.toNat 0).toNat : Int))) [] []) else none
    | some ti, .agg cs, some (_, i) => indexArrRun X.T ti cs i kk
    | _, _, _ => none
  | .extract x i =>
    match ρ x with
    | .tup ts =>
      match ts[i]? with
      | some t => kk (V.mk t.1 t.2) [] []
      | none => none
    | _ => none
  | .call c =>
    match c.callee with
    | .builtin .len =>
      match c.args.toList.map ρ, c.argTypes.toList with
      | [x], [t] => lenRun X.T bl t x kk
      | _, _ => none
    | .builtin .min =>
      match minmax false (c.args.toList.map ρ) with
      | some v => kk v [] []
      | none => none
    | .builtin .max =>
      match minmax true (c.args.toList.map ρ) with
      | some v => kk v [] []
      | none => none
    | .builtin .append =>
      match c.args.toList.map ρ, c.argTypes.toList with
      | [x, y], [t, t'] => bif Nat.beq t t' then (bif X.M && isMatT X.T t then appendMatRun X.T bl nx t x y kk else appendRun X.T bl nx t x y kk) else none
      | _, _ => none
    | .builtin .copy =>
      match c.args.toList.map ρ, c.argTypes.toList with
      | [x, y], [t, t'] => bif Nat.beq t t' then copyRun X.T bl t x y kk else none
      | _, _ => none
    | .builtin _ => none
    | callee =>
      match calleeOf ρ callee with
      | some (f, caps) => callRun X bl nx f (c.args.toList.map ρ ++ caps) kk
      | none => none
  | _ => none

/-! ### Regions -/
structure LogE where
  i : Nat
  dst : Option Nat
  v : V
  tin : List Nat
  rd : List Nat
  wr : List (Nat × Blk)

structure St where
  tm : List (Nat × V)
  bl : List (Nat × Blk)
  nx : Nat

def evalV (tm : List (Nat × V)) : Operand → V
  | .tmp t =>
    match look tm t with
    | some v => v
    | none => .junk
  | .const v => V.ofValue v
  | .global _ => .junk
  | .func f => .c (.fn f [])

def tmpsOf : List Operand → List Nat
  | [] => []
  | .tmp t :: r => t :: tmpsOf r
  | _ :: r => tmpsOf r

def guardTmp (ops : Array Oper) (o : Oper) : Option (Nat × Bool) :=
  match o.guard with
  | none => none
  | some (j, want) => ((ops[j]?).bind (·.dst)).map fun t => (t, want)

def putD (tm : List (Nat × V)) (dst : Option Nat) (v : V) : List (Nat × V) :=
  match dst with
  | some d => put tm d v
  | none => tm

def nextId : Nat → List (Nat × Blk) → Nat
  | nx, [] => nx
  | nx, (i, _) :: r => nextId (bif Nat.ble nx i then i + 1 else nx) r

def dstOk (n : Nat) : Option Nat → Bool
  | none => true
  | some d => Nat.blt d n

def regRun (X : Ctx) (n : Nat) (all : Array Oper) : List (Nat × Oper) → St → List LogE → (St → List LogE → Option β) → Option β
  | [], σ, log, k => k σ log
  | (i, o) :: rest, σ, log, k =>
    let tin := tmpsOf o.op.operands.toList
    let go (σ : St) (tin : List Nat) : Option β :=
      opRun X o (evalV σ.tm) (look σ.bl) σ.nx fun v rd wr =>
        regRun X n all rest ⟨putD σ.tm o.dst v, puts σ.bl wr, nextId σ.nx wr⟩ (⟨i, o.dst, v, tin, rd, wr⟩ :: log) k
    bif dstOk n o.dst then
      match o.guard with
      | none => go σ tin
      | some _ =>
        match guardTmp all o with
        | none => none
        | some (t, want) =>
          match look σ.tm t with
          | some (.tup []) => regRun X n all rest ⟨putD σ.tm o.dst (.tup []), σ.bl, σ.nx⟩ (⟨i, o.dst, .tup [], [t], [], []⟩ :: log) k
          | some (.c (.bool g)) =>
            let skip : Option β := regRun X n all rest ⟨putD (put σ.tm t (.c (.bool (!want)))) o.dst (.tup []), σ.bl, σ.nx⟩ (⟨i, o.dst, .tup [], [t], [], []⟩ :: log) k
            let take : Option β := go { σ with tm := put σ.tm t (.c (.bool want)) } (t :: tin)
            match want with
            | true => cond g take skip
            | false => cond g skip take
          | _ => none
    else none

/-- Who comes before, whatever the order: a bit for each. -/
def maskOf (ms : List Nat) : List Edge → Nat
  | [] => 0
  | e :: r => (bif Region.binds .any e then Nat.lor (Nat.shiftLeft 1 e.on) (ms.getD e.on 0) else 0) |> Nat.lor (maskOf ms r)

/-- The masks, the first operation's first. -/
def masks : List Oper → List Nat → List Nat
  | [], acc => acc
  | o :: r, acc => masks r (acc ++ [maskOf acc o.after.toList])

def edgesBack : List (Nat × Oper) → Bool
  | [] => true
  | (i, o) :: r => o.after.toList.all (fun e => !Region.binds .any e || Nat.blt e.on i) && edgesBack r

def meet (a b : List Nat) : Bool :=
  match a with
  | [] => false
  | x :: r => memB x b || meet r b

def wids : List (Nat × Blk) → List Nat
  | [] => []
  | (i, _) :: r => i :: wids r

/-- Two operations that may not change places. x comes first in the text. -/
def clash (x y : LogE) : Bool :=
  (match x.dst with
   | some d => memB d y.tin || (match y.dst with | some d' => Nat.beq d d' | none => false)
   | none => false) ||
  (match y.dst with
   | some d => memB d x.tin
   | none => false) ||
  meet (wids x.wr) (y.rd ++ wids y.wr) || meet (wids y.wr) x.rd

/-- 'y' against those before it in the text. -/
def fine1 (m : Nat) (y : LogE) : List LogE → Bool
  | [] => true
  | x :: r => (!clash x y || Nat.testBit m x.i) && fine1 m y r

/-- The log, the last operation first. -/
def fine (ms : List Nat) : List LogE → Bool
  | [] => true
  | y :: r => fine1 (ms.getD y.i 0) y r && fine ms r

/-! ### Code -/
inductive AExit where
  | normal
  | exit (id : Nat)
  | ret

abbrev Kx (β : Type) := AExit → St → Option β

structure Cut where
  run : {β : Type} → St → (AExit → St → Option β) → Option β

def numbered : Nat → List Oper → List (Nat × Oper)
  | _, [] => []
  | i, o :: r => (i, o) :: numbered (i + 1) r

/-- 'p': where in the code we are; 'Λ': the cuts by place. -/
def exec (X : Ctx) (n : Nat) (Λ : Nat → Option Cut) (p : Nat) (c : Code) (σ : St) (k : Kx β) : Option β :=
  match Λ p with
  | some cut => cut.run σ k
  | none =>
    match c with
    | .skip => k .normal σ
    | .region _ ops draw =>
      let l := numbered 0 ops.toList
      regRun X n ops l σ [] fun σ' log =>
        bif !draw || (edgesBack l && fine (masks ops.toList []) log) then k .normal σ' else none
    | .seq a b =>
      exec X n Λ (2 * p) a σ fun e σ' =>
        match e with
        | .normal => exec X n Λ (2 * p + 1) b σ' k
        | e => k e σ'
    | .cond x a b =>
      match evalV σ.tm x with
      | .c (.bool g) => cond g (exec X n Λ (2 * p) a σ k) (exec X n Λ (2 * p + 1) b σ k)
      | _ => none
    | .block id a =>
      exec X n Λ (2 * p) a σ fun e σ' =>
        match e with
        | .exit id' => bif Nat.beq id' id then k .normal σ' else k (.exit id') σ'
        | e => k e σ'
    | .exit id => k (.exit id) σ
    | .ret => k .ret σ
    | _ => none
end
end Go.Lift
