/- The lifter, part A: pure data, abstract values and blocks, and how they stand in a world of the model. -/
import Derived.Laws.AppendOwn
import Derived.Below
namespace Go.Lift

/-! ### Pure data -/
inductive Ty where
  | bool | int (k : IntKind) | str | unit
  | prod (a b : Ty) | slice (e : Ty)
  deriving DecidableEq

@[reducible] def Ty.den : Ty → Type
  | .bool => Bool
  | .int _ => Int
  | .str => List UInt8
  | .unit => Unit
  | .prod a b => a.den × b.den
  | .slice e => List e.den

def Ty.dflt : (τ : Ty) → τ.den
  | .bool => false
  | .int _ => (0 : Int)
  | .str => ([] : List UInt8)
  | .unit => ()
  | .prod a b => (a.dflt, b.dflt)
  | .slice e => ([] : List e.den)

def Ty.size : Ty → Nat
  | .bool | .int _ | .str | .slice _ => 1
  | .unit => 0
  | .prod a b => a.size + b.size

/-- A list laid out element by element. -/
def DList {α : Type} (R : α → List Value → Prop) : List α → List Value → Prop
  | [], xs => xs = []
  | x :: l, xs => ∃ u v, xs = u ++ v ∧ R x u ∧ DList R l v

/-- The cells 'vs' read as the datum x; all memory behind them lies in blocks that 'ok' names. -/
def DRep (w : World) (ok : Nat → Prop) : (τ : Ty) → τ.den → List Value → Prop
  | .bool, b, vs => vs = [.bool b]
  | .int k, n, vs => vs = [.int k n]
  | .str, s, vs => vs = [.string ⟨s.toArray⟩]
  | .unit, _, vs => vs = []
  | .prod a b, x, vs => ∃ u v, vs = u ++ v ∧ DRep w ok a x.1 u ∧ DRep w ok b x.2 v
  | .slice e, l, vs => ∃ A c xs, vs = [.slice A l.length c] ∧ l.length ≤ c ∧ c ≤ maxLen ∧ DList (fun x u => DRep w ok e x u) l xs ∧
      ∀ j v, xs[j]? = some v → ∃ ad, A = some ad ∧ ok ad.block ∧ w.cell? (ad.add j) = some v

theorem DList.mono {α : Type} {R R' : α → List Value → Prop} (h : ∀ x u, R x u → R' x u) : ∀ {l xs}, DList R l xs → DList R' l xs
  | [], _, hx => hx
  | _ :: _, _, ⟨u, v, e, hr, ht⟩ => ⟨u, v, e, h _ _ hr, DList.mono h ht⟩

theorem DList.append {α : Type} {R : α → List Value → Prop} : ∀ {l l' xs ys}, DList R l xs → DList R l' ys → DList R (l ++ l') (xs ++ ys)
  | [], _, _, _, hx, hy => by simp only [DList] at hx; subst hx; simpa using hy
  | _ :: _, _, _, _, ⟨u, v, e, hr, ht⟩, hy => ⟨u, v ++ _, by rw [e, List.append_assoc], hr, DList.append ht hy⟩

theorem DRep.length {w : World} {ok : Nat → Prop} : ∀ {τ : Ty} {x : τ.den} {vs : List Value}, DRep w ok τ x vs → vs.length = τ.size
  | .bool, _, _, h => by simp only [DRep] at h; simp [h, Ty.size]
  | .int _, _, _, h => by simp only [DRep] at h; simp [h, Ty.size]
  | .str, _, _, h => by simp only [DRep] at h; simp [h, Ty.size]
  | .unit, _, _, h => by simp only [DRep] at h; simp [h, Ty.size]
  | .prod a b, _, _, h => by
    simp only [DRep] at h
    obtain ⟨u, v, rfl, h1, h2⟩ := h
    simp [Ty.size, DRep.length h1, DRep.length h2]
  | .slice _, _, _, h => by
    simp only [DRep] at h
    obtain ⟨A, c, xs, rfl, _⟩ := h
    simp [Ty.size]

theorem DRep.oneCell {w : World} {ok : Nat → Prop} : ∀ {τ : Ty} {x : τ.den} {vs : List Value}, DRep w ok τ x vs → ∀ v ∈ vs, v.oneCell' = true
  | .bool, _, _, h, v, hv => by simp only [DRep] at h; subst h; simp at hv; subst hv; rfl
  | .int _, _, _, h, v, hv => by simp only [DRep] at h; subst h; simp at hv; subst hv; rfl
  | .str, _, _, h, v, hv => by simp only [DRep] at h; subst h; simp at hv; subst hv; rfl
  | .unit, _, _, h, v, hv => by simp only [DRep] at h; subst h; simp at hv
  | .prod a b, _, _, h, v, hv => by
    simp only [DRep] at h
    obtain ⟨x, y, rfl, h1, h2⟩ := h
    rcases List.mem_append.1 hv with hv | hv
    · exact DRep.oneCell h1 v hv
    · exact DRep.oneCell h2 v hv
  | .slice _, _, _, h, v, hv => by
    simp only [DRep] at h
    obtain ⟨A, c, xs, rfl, _⟩ := h
    simp at hv; subst hv; rfl

theorem DList.length {w : World} {ok : Nat → Prop} {e : Ty} : ∀ {l : List e.den} {xs : List Value}, DList (fun x u => DRep w ok e x u) l xs → xs.length = l.length * e.size
  | [], _, h => by simp only [DList] at h; simp [h]
  | _ :: l, _, ⟨u, v, e1, hr, ht⟩ => by rw [e1, List.length_append, DRep.length hr, DList.length ht, List.length_cons, Nat.succ_mul, Nat.add_comm]

theorem DList.oneCell {w : World} {ok : Nat → Prop} {e : Ty} : ∀ {l : List e.den} {xs : List Value}, DList (fun x u => DRep w ok e x u) l xs → ∀ v ∈ xs, v.oneCell' = true
  | [], _, h, v, hv => by simp only [DList] at h; subst h; simp at hv
  | _ :: l, _, ⟨x, y, e1, hr, ht⟩, v, hv => by
    subst e1
    rcases List.mem_append.1 hv with hv | hv
    · exact DRep.oneCell hr v hv
    · exact DList.oneCell ht v hv

/-- The cells of one element. -/
theorem DList.get {w : World} {ok : Nat → Prop} {e : Ty} : ∀ {l : List e.den} {xs : List Value} {i : Nat} (d : e.den), DList (fun x u => DRep w ok e x u) l xs → i < l.length →
    ∃ u p q, xs = p ++ (u ++ q) ∧ p.length = i * e.size ∧ DRep w ok e (l.getD i d) u
  | [], _, i, _, _, h => by simp at h
  | x :: l, xs, 0, d, ⟨u, v, e1, hr, ht⟩, _ => ⟨u, [], v, by simp [e1], by simp, by simpa using hr⟩
  | x :: l, xs, i + 1, d, ⟨u, v, e1, hr, ht⟩, h => by
    obtain ⟨u', p, q, hv, hp, hd⟩ := DList.get (i := i) d ht (by simpa using h)
    refine ⟨u', u ++ p, q, by rw [e1, hv, List.append_assoc], ?_, by simpa using hd⟩
    rw [List.length_append, DRep.length hr, hp, Nat.succ_mul, Nat.add_comm]

/-- One element written. -/
theorem DList.set {w : World} {ok : Nat → Prop} {e : Ty} : ∀ {l : List e.den} {xs : List Value} {i : Nat} (x' : e.den) (u' : List Value), DList (fun x u => DRep w ok e x u) l xs → i < l.length → DRep w ok e x' u' →
    ∃ p u q, xs = p ++ (u ++ q) ∧ p.length = i * e.size ∧ u.length = e.size ∧ DList (fun x u => DRep w ok e x u) (l.set i x') (p ++ (u' ++ q))
  | [], _, i, _, _, _, h, _ => by simp at h
  | x :: l, xs, 0, x', u', ⟨u, v, e1, hr, ht⟩, _, h' => ⟨[], u, v, by simp [e1], by simp, DRep.length hr, ⟨u', v, by simp, h', ht⟩⟩
  | x :: l, xs, i + 1, x', u', ⟨u, v, e1, hr, ht⟩, h, h' => by
    obtain ⟨p, u0, q, hv, hp, hu, hd⟩ := DList.set (i := i) x' u' ht (by simpa using h) h'
    refine ⟨u ++ p, u0, q, by rw [e1, hv, List.append_assoc], ?_, hu, ⟨u, p ++ (u' ++ q), by rw [List.append_assoc], hr, by simpa using hd⟩⟩
    rw [List.length_append, DRep.length hr, hp, Nat.succ_mul, Nat.add_comm]

/-- What does not turn under the reading's feet. -/
def Keeps (w : World) (ok : Nat → Prop) (w' : World) (ok' : Nat → Prop) : Prop := ∀ g, ok g → g < w.heap.size → ok' g ∧ w'.heap[g]? = w.heap[g]?

theorem Keeps.cell {w w' : World} {ok ok' : Nat → Prop} (h : Keeps w ok w' ok') {a : Addr} {v : Value} (ho : ok a.block) (hc : w.cell? a = some v) : ok' a.block ∧ w'.cell? a = some v := by
  obtain ⟨h1, h2⟩ := h _ ho (World.block_lt_of_cell? w a hc)
  exact ⟨h1, (World.cell?_of_block h2).trans hc⟩

theorem block_of_add (a : Addr) (n : Nat) : (a.add n).block = a.block := by unfold Addr.add; split <;> rfl
theorem add_of_add (a : Addr) (i j : Nat) : (a.add i).add j = a.add (i + j) := by
  unfold Addr.add
  by_cases hi : i = 0 <;> by_cases hj : j = 0 <;> simp [hi, hj, Nat.add_assoc]

theorem DRep.mono {w w' : World} {ok ok' : Nat → Prop} (hk : Keeps w ok w' ok') : ∀ {τ : Ty} {x : τ.den} {vs : List Value}, DRep w ok τ x vs → DRep w' ok' τ x vs
  | .bool, _, _, h => h
  | .int _, _, _, h => h
  | .str, _, _, h => h
  | .unit, _, _, h => h
  | .prod a b, _, _, h => by
    simp only [DRep] at h ⊢
    obtain ⟨u, v, e, h1, h2⟩ := h
    exact ⟨u, v, e, DRep.mono hk h1, DRep.mono hk h2⟩
  | .slice e, _, _, h => by
    simp only [DRep] at h ⊢
    obtain ⟨A, c, xs, e1, hl, hc, hd, hx⟩ := h
    refine ⟨A, c, xs, e1, hl, hc, hd.mono fun x u hu => DRep.mono hk hu, fun j v hj => ?_⟩
    obtain ⟨ad, ha, ho, hcell⟩ := hx j v hj
    have hb : ok (ad.add j).block := by rw [block_of_add]; exact ho
    obtain ⟨o', c'⟩ := hk.cell hb hcell
    rw [block_of_add] at o'
    exact ⟨ad, ha, o', c'⟩

/-- A datum without slices reads so in every world. -/
def Ty.flat : Ty → Bool
  | .slice _ => false
  | .prod a b => a.flat && b.flat
  | _ => true

theorem DRep.flat {w w' : World} {ok ok' : Nat → Prop} : ∀ {τ : Ty} {x : τ.den} {vs : List Value}, τ.flat = true → DRep w ok τ x vs → DRep w' ok' τ x vs
  | .bool, _, _, _, h => h
  | .int _, _, _, _, h => h
  | .str, _, _, _, h => h
  | .unit, _, _, _, h => h
  | .prod a b, _, _, hf, h => by
    simp only [Ty.flat, Bool.and_eq_true] at hf
    simp only [DRep] at h ⊢
    obtain ⟨u, v, e, h1, h2⟩ := h
    exact ⟨u, v, e, DRep.flat hf.1 h1, DRep.flat hf.2 h2⟩
  | .slice _, _, _, hf, _ => by simp [Ty.flat] at hf

/-! ### Abstract values -/
/-- One cell. -/
inductive C where
  | bool (b : Bool)
  | int (k : IntKind) (n : Int)
  | str (s : List UInt8)
  | list (e : Ty) (l : List e.den)
  | nils
  | nilc
  | lsome (e : Ty) (l : List e.den)
  | nilp
  | ptr (b o : Nat)
  | row (b ver : Nat)
  | fn (f : FuncId) (caps : List Nat)
  | nilfn
  | mapv (b : Nat)
  | mat (b ver : Nat)
  | mrow (b iver i : Nat)
  | sub (b ver i j : Nat)
  | junk

inductive V where
  | junk
  | c (x : C)
  | agg (cs : List C)
  | tup (ts : List (Bool × List C))
  | eptr (b ver i o : Nat)
  | lptr (e : Ty) (x : e.den) (o : Nat)
  | mcell (b ver i : Nat)
  | mptr (b iver i j o : Nat)

inductive Blk where
  | cells (t : TypeId) (cs : List C)
  | row (t : TypeId) (e : Ty) (ver : Nat) (l : List e.den)
  | map (t : TypeId) (k v : Ty) (vg : Bool) (l : List (k.den × v.den))
  | mat (t et : TypeId) (e : Ty) (ver iver : Nat) (hole : Option Nat) (l : List (List e.den))
  | dead

/-- Where an abstract block lies. -/
inductive Pl where
  | cells (g : Nat)
  | row (sv : Value) (svs : List (Option Value))

/-- The blocks of memory at a place. -/
def Pl.has : Pl → Nat → Prop
  | .cells g', g => g' = g
  | .row sv svs, g => sv.ownBlock = some g ∨ ∃ (i : Nat) (s : Value), svs[i]? = some (some s) ∧ s.ownBlock = some g

theorem Pl.has_row {sv : Value} {g : Nat} (h : (Pl.row sv []).has g) : sv.ownBlock = some g := by
  rcases h with h | ⟨i, s, h, _⟩
  · exact h
  · simp at h

structure Env where
  w : World
  ok : Nat → Prop
  base : Nat
  pl : Nat → Option Pl
  bl : Nat → Option Blk

def CRep (E : Env) : C → Value → Prop
  | .bool b, v => v = .bool b
  | .int k n, v => v = .int k n
  | .str s, v => v = .string ⟨s.toArray⟩
  | .list e l, v => DRep E.w E.ok (.slice e) l [v]
  | .nils, v => v = .slice none 0 0
  | .nilc, v => ∃ c, v = .slice none 0 c
  | .lsome e l, v => DRep E.w E.ok (.slice e) l [v] ∧ ∀ n c, v ≠ .slice none n c
  | .nilp, v => v = .pointer none
  | .ptr b o, v => ∃ g, E.pl b = some (.cells g) ∧ v = .pointer (some ⟨g, o, none⟩)
  | .row b ver, v => v.oneCell' = true ∧ ∃ sv svs, E.pl b = some (.row sv svs) ∧ ∀ t e ver' l, E.bl b = some (.row t e ver' l) → ver ≤ ver' ∧ (ver = ver' → v = sv)
  | .fn f caps, v => ∃ gs : List Nat, caps.map E.pl = gs.map (fun g => some (.cells g)) ∧ v = .func (.func f) #[] (gs.map fun g => .pointer (some ⟨g, 0, none⟩)).toArray
  | .nilfn, v => v = .nilFunc
  | .mapv b, v => ∃ g, E.pl b = some (.cells g) ∧ v = .map (some g)
  | .mat b ver, v => v.oneCell' = true ∧ ∃ sv svs, E.pl b = some (.row sv svs) ∧ ∀ t et e ver' iver hole l, E.bl b = some (.mat t et e ver' iver hole l) → ver ≤ ver' ∧ (ver = ver' → v = sv)
  | .mrow b iver i, v => v.oneCell' = true ∧ ∃ sv svs, E.pl b = some (.row sv svs) ∧ ∀ t et e ver iver' hole l, E.bl b = some (.mat t et e ver iver' hole l) → iver ≤ iver' ∧ (iver = iver' → i < l.length ∧ svs[i]? = some (some v))
  | .sub b ver i j, v => v.oneCell' = true ∧ ∃ sv svs, E.pl b = some (.row sv svs) ∧ ∀ t e ver' l, E.bl b = some (.row t e ver' l) → ver ≤ ver' ∧ (ver = ver' → i ≤ j ∧ j ≤ l.length ∧
      ∃ A A' n c, sv = .slice A n c ∧ v = .slice A' (j - i) (c - i) ∧ (i < j → A' = A.map (·.add (i * e.size))) ∧ (i = 0 → A' = A))
  | .junk, v => v.oneCell' = true

def CReps (E : Env) : List C → List Value → Prop
  | [], vs => vs = []
  | c :: cs, vs => ∃ v vs', vs = v :: vs' ∧ CRep E c v ∧ CReps E cs vs'

def SRep (E : Env) (agg : Bool) (cs : List C) (v : Value) : Prop :=
  ∃ vs, CReps E cs vs ∧ if agg then v = .agg vs.toArray else vs = [v]

def TReps (E : Env) : List (Bool × List C) → List Value → Prop
  | [], vs => vs = []
  | t :: ts, vs => ∃ v vs', vs = v :: vs' ∧ SRep E t.1 t.2 v ∧ TReps E ts vs'

def VRep (E : Env) : V → Value → Prop
  | .junk, _ => True
  | .c x, v => CRep E x v
  | .agg cs, v => SRep E true cs v
  | .tup ts, v => ∃ vs, v = .tuple vs.toArray ∧ TReps E ts vs
  | .eptr b ver i o, v => ∃ sv svs ad, E.pl b = some (.row sv svs) ∧ v = .pointer (some ad) ∧ ∀ t e ver' l, E.bl b = some (.row t e ver' l) → ver ≤ ver' ∧
      (ver = ver' → i < l.length ∧ ∃ g n c, sv = .slice (some ⟨g, 0, none⟩) n c ∧ ad = ⟨g, i * e.size + o, none⟩)
  | .mcell b ver i, v => ∃ sv svs ad, E.pl b = some (.row sv svs) ∧ v = .pointer (some ad) ∧ ∀ t et e ver' iver hole l, E.bl b = some (.mat t et e ver' iver hole l) → ver ≤ ver' ∧
      (ver = ver' → i < l.length ∧ ∃ g n c, sv = .slice (some ⟨g, 0, none⟩) n c ∧ ad = ⟨g, i, none⟩)
  | .mptr b iver i j o, v => ∃ sv svs ad, E.pl b = some (.row sv svs) ∧ v = .pointer (some ad) ∧ ∀ t et e ver iver' hole l, E.bl b = some (.mat t et e ver iver' hole l) → iver ≤ iver' ∧
      (iver = iver' → ∃ s x, l[i]? = some x ∧ svs[i]? = some (some s) ∧ j < x.length ∧ ∃ g n c, s = .slice (some ⟨g, 0, none⟩) n c ∧ ad = ⟨g, j * e.size + o, none⟩)
  | .lptr e x o, v => ∃ xs ad, DRep E.w E.ok e x xs ∧ v = .pointer (some ad) ∧ ∀ j u, (xs.drop o)[j]? = some u → E.ok ad.block ∧ E.w.cell? (ad.add j) = some u

/-- The entries of a map, in their order. -/
def MRep (w : World) (ok : Nat → Prop) (k v : Ty) (vg : Bool) : List (k.den × v.den) → List MapEntry → Prop
  | [], es => es = []
  | x :: l, es => ∃ e r, es = e :: r ∧ DRep w ok k x.1 [e.key] ∧ (∃ us, DRep w ok v x.2 us ∧ if vg then e.val = .agg us.toArray else us = [e.val]) ∧ MRep w ok k v vg l r

theorem MRep.mono {w w' : World} {ok ok' : Nat → Prop} {k v : Ty} {vg : Bool} (hk : ∀ x us, DRep w ok k x us → DRep w' ok' k x us) (hv : ∀ x us, DRep w ok v x us → DRep w' ok' v x us) : ∀ {l : List (k.den × v.den)} {es : List MapEntry}, MRep w ok k v vg l es → MRep w' ok' k v vg l es
  | [], _, h => h
  | _ :: _, _, ⟨e, r, h0, h1, ⟨us, h2, h3⟩, h4⟩ => ⟨e, r, h0, hk _ _ h1, ⟨us, hv _ _ h2, h3⟩, MRep.mono hk hv h4⟩

/-- A slice of slices, all of them one's own. -/
structure MatOk (E : Env) (t et : TypeId) (e : Ty) (hole : Option Nat) (l : List (List e.den)) (sv : Value) (svs : List (Option Value)) : Prop where
  outer : ∃ vs : List Value, E.w.ownsRow E.base t 1 sv l.length vs ∧ ∀ (i : Nat) (s : Value), svs[i]? = some (some s) → vs[i]? = some s
  len : svs.length = l.length
  hole : ∀ i : Nat, svs[i]? = some none → hole = some i
  inner : ∀ (i : Nat) (s : Value) (x : List e.den), svs[i]? = some (some s) → l[i]? = some x → ∃ xs, DList (fun x u => DRep E.w E.ok e x u) x xs ∧ E.w.ownsRow E.base et e.size s x.length xs
  sep0 : ∀ (i : Nat) (s : Value) (g : Nat), svs[i]? = some (some s) → sv.ownBlock = some g → s.ownBlock ≠ some g
  sep : ∀ (i j : Nat) (s r : Value) (g : Nat), i ≠ j → svs[i]? = some (some s) → svs[j]? = some (some r) → s.ownBlock = some g → r.ownBlock ≠ some g

def BRep (E : Env) : Blk → Pl → Prop
  | .cells t cs, .cells g => ∃ vs : List Value, E.w.heap[g]? = some (.cells vs.toArray t (0, 0)) ∧ CReps E cs vs
  | .row t e _ l, .row sv svs => svs = [] ∧ ∃ xs, DList (fun x u => DRep E.w E.ok e x u) l xs ∧ E.w.ownsRow E.base t e.size sv l.length xs
  | .mat t et e _ _ hole l, .row sv svs => MatOk E t et e hole l sv svs
  | .map _ k v vg l, .cells g => ∃ (es : Array MapEntry) (clock : Nat), E.w.heap[g]? = some (.map es clock) ∧ MRep E.w E.ok k v vg l es.toList
  | .dead, _ => True
  | _, _ => False

/-! ### From one state to a later one -/
/-- What a row, or a slice of slices, may turn into under the handles' feet. -/
structure KeepR (B B' : Option Blk) (sv : Value) (svs : List (Option Value)) (sv' : Value) (svs' : List (Option Value)) : Prop where
  row : ∀ t e ver' l', B' = some (.row t e ver' l') → ∃ ver l, B = some (.row t e ver l) ∧ ver ≤ ver' ∧ (ver = ver' → sv' = sv ∧ l'.length = l.length)
  mat : ∀ t et e ver' iver' hole' l', B' = some (.mat t et e ver' iver' hole' l') → ∃ ver iver hole l, B = some (.mat t et e ver iver hole l) ∧ ver ≤ ver' ∧ iver ≤ iver' ∧
    (ver = ver' → sv' = sv ∧ l'.length = l.length) ∧ (iver = iver' → svs' = svs ∧ l'.map List.length = l.map List.length)

theorem KeepR.refl (B : Option Blk) (sv : Value) (svs : List (Option Value)) : KeepR B B sv svs sv svs :=
  ⟨fun _ _ ver' l' hb => ⟨ver', l', hb, Nat.le_refl _, fun _ => ⟨rfl, rfl⟩⟩, fun _ _ _ ver' iver' hole' l' hb => ⟨ver', iver', hole', l', hb, Nat.le_refl _, Nat.le_refl _, fun _ => ⟨rfl, rfl⟩, fun _ => ⟨rfl, rfl⟩⟩⟩

theorem KeepR.of_eq {B B' : Option Blk} (h : ∀ C, B' = some C → B = some C) (sv : Value) (svs : List (Option Value)) : KeepR B B' sv svs sv svs :=
  ⟨fun _ _ ver' l' hb => ⟨ver', l', h _ hb, Nat.le_refl _, fun _ => ⟨rfl, rfl⟩⟩, fun _ _ _ ver' iver' hole' l' hb => ⟨ver', iver', hole', l', h _ hb, Nat.le_refl _, Nat.le_refl _, fun _ => ⟨rfl, rfl⟩, fun _ => ⟨rfl, rfl⟩⟩⟩

/-- If the block is live behind the step, it was so before. -/
theorem KeepR.of_live {B B' : Option Blk} (h : ∀ C, B' = some C → C ≠ .dead → B = some C) (sv : Value) (svs : List (Option Value)) : KeepR B B' sv svs sv svs :=
  ⟨fun _ _ ver' l' hb => ⟨ver', l', h _ hb (by simp), Nat.le_refl _, fun _ => ⟨rfl, rfl⟩⟩, fun _ _ _ ver' iver' hole' l' hb => ⟨ver', iver', hole', l', h _ hb (by simp), Nat.le_refl _, Nat.le_refl _, fun _ => ⟨rfl, rfl⟩, fun _ => ⟨rfl, rfl⟩⟩⟩

theorem KeepR.trans {B B1 B2 : Option Blk} {sv sv1 sv2 : Value} {svs svs1 svs2 : List (Option Value)} (h : KeepR B B1 sv svs sv1 svs1) (k : KeepR B1 B2 sv1 svs1 sv2 svs2) : KeepR B B2 sv svs sv2 svs2 := by
  constructor
  · intro t e ver2 l2 hb2
    obtain ⟨ver1, l1, hb1, le1, eq1⟩ := k.row t e ver2 l2 hb2
    obtain ⟨ver0, l0, hb0, le0, eq0⟩ := h.row t e ver1 l1 hb1
    refine ⟨ver0, l0, hb0, Nat.le_trans le0 le1, fun he => ?_⟩
    have e01 : ver0 = ver1 := Nat.le_antisymm le0 (he ▸ le1)
    have e12 : ver1 = ver2 := e01 ▸ he
    exact ⟨(eq1 e12).1.trans (eq0 e01).1, (eq1 e12).2.trans (eq0 e01).2⟩
  · intro t et e ver2 iver2 hole2 l2 hb2
    obtain ⟨ver1, iver1, hole1, l1, hb1, le1, ile1, eq1, ieq1⟩ := k.mat t et e ver2 iver2 hole2 l2 hb2
    obtain ⟨ver0, iver0, hole0, l0, hb0, le0, ile0, eq0, ieq0⟩ := h.mat t et e ver1 iver1 hole1 l1 hb1
    refine ⟨ver0, iver0, hole0, l0, hb0, Nat.le_trans le0 le1, Nat.le_trans ile0 ile1, fun he => ?_, fun he => ?_⟩
    · have e01 : ver0 = ver1 := Nat.le_antisymm le0 (he ▸ le1)
      have e12 : ver1 = ver2 := e01 ▸ he
      exact ⟨(eq1 e12).1.trans (eq0 e01).1, (eq1 e12).2.trans (eq0 e01).2⟩
    · have e01 : iver0 = iver1 := Nat.le_antisymm ile0 (he ▸ ile1)
      have e12 : iver1 = iver2 := e01 ▸ he
      exact ⟨(ieq1 e12).1.trans (ieq0 e01).1, (ieq1 e12).2.trans (ieq0 e01).2⟩

structure Ext (E E' : Env) : Prop where
  base : E'.base ≤ E.base
  heap : Keeps E.w E.ok E'.w E'.ok
  cells : ∀ b g, E.pl b = some (.cells g) → E'.pl b = some (.cells g)
  rows : ∀ b sv svs, E.pl b = some (.row sv svs) → ∃ sv' svs', E'.pl b = some (.row sv' svs') ∧ KeepR (E.bl b) (E'.bl b) sv svs sv' svs'

theorem Ext.refl (E : Env) : Ext E E := ⟨Nat.le_refl _, fun _ h _ => ⟨h, rfl⟩, fun _ _ h => h, fun _ sv svs h => ⟨sv, svs, h, KeepR.refl _ _ _⟩⟩

section
variable {E E' : Env}

theorem map_length_get {α : Type} {l l' : List (List α)} (h : l'.map List.length = l.map List.length) {i : Nat} {x : List α} (hx : l[i]? = some x) : ∃ x', l'[i]? = some x' ∧ x'.length = x.length := by
  have h1 : (l'.map List.length)[i]? = some x.length := by rw [h, List.getElem?_map, hx]; rfl
  rw [List.getElem?_map] at h1
  cases hy : l'[i]? with
  | none => rw [hy] at h1; cases h1
  | some y => rw [hy] at h1; injection h1 with h1; exact ⟨y, rfl, h1⟩

theorem CRep.mono (hx : Ext E E') : ∀ {c : C} {v : Value}, CRep E c v → CRep E' c v
  | .bool _, _, h => h
  | .int _ _, _, h => h
  | .str _, _, h => h
  | .list e l, _, h => DRep.mono (τ := .slice e) hx.heap h
  | .nils, _, h => h
  | .nilc, _, h => h
  | .lsome e l, _, h => ⟨DRep.mono (τ := .slice e) hx.heap h.1, h.2⟩
  | .nilp, _, h => h
  | .nilfn, _, h => h
  | .junk, _, h => h
  | .ptr _ _, _, ⟨g, h, hv⟩ => ⟨g, hx.cells _ _ h, hv⟩
  | .mapv _, _, ⟨g, h, hv⟩ => ⟨g, hx.cells _ _ h, hv⟩
  | .row b ver, _, ⟨h1c, sv, svs, h, hv⟩ => by
    obtain ⟨sv', svs', h', hr⟩ := hx.rows _ _ _ h
    refine ⟨h1c, sv', svs', h', fun t e ver' l' hb => ?_⟩
    obtain ⟨ver0, l, hb0, hle, heq⟩ := hr.row t e ver' l' hb
    obtain ⟨h1, h2⟩ := hv t e ver0 l hb0
    refine ⟨Nat.le_trans h1 hle, fun he => ?_⟩
    have : ver0 = ver' := Nat.le_antisymm hle (he ▸ h1)
    rw [(heq this).1]
    exact h2 (he.trans this.symm)
  | .mat b ver, _, ⟨h1c, sv, svs, h, hv⟩ => by
    obtain ⟨sv', svs', h', hr⟩ := hx.rows _ _ _ h
    refine ⟨h1c, sv', svs', h', fun t et e ver' iver' hole' l' hb => ?_⟩
    obtain ⟨ver0, iver0, hole0, l, hb0, hle, _, heq, _⟩ := hr.mat t et e ver' iver' hole' l' hb
    obtain ⟨h1, h2⟩ := hv t et e ver0 iver0 hole0 l hb0
    refine ⟨Nat.le_trans h1 hle, fun he => ?_⟩
    have : ver0 = ver' := Nat.le_antisymm hle (he ▸ h1)
    rw [(heq this).1]
    exact h2 (he.trans this.symm)
  | .mrow b iver i, _, ⟨h1c, sv, svs, h, hv⟩ => by
    obtain ⟨sv', svs', h', hr⟩ := hx.rows _ _ _ h
    refine ⟨h1c, sv', svs', h', fun t et e ver' iver' hole' l' hb => ?_⟩
    obtain ⟨ver0, iver0, hole0, l, hb0, _, hle, _, heq⟩ := hr.mat t et e ver' iver' hole' l' hb
    obtain ⟨h1, h2⟩ := hv t et e ver0 iver0 hole0 l hb0
    refine ⟨Nat.le_trans h1 hle, fun he => ?_⟩
    have hi : iver0 = iver' := Nat.le_antisymm hle (he ▸ h1)
    obtain ⟨q1, q2⟩ := heq hi
    have q3 : l'.length = l.length := by simpa using congrArg List.length q2
    rw [q1, q3]
    exact h2 (he.trans hi.symm)
  | .sub b ver i j, _, ⟨h1c, sv, svs, h, hv⟩ => by
    obtain ⟨sv', svs', h', hr⟩ := hx.rows _ _ _ h
    refine ⟨h1c, sv', svs', h', fun t e ver' l' hb => ?_⟩
    obtain ⟨ver0, l, hb0, hle, heq⟩ := hr.row t e ver' l' hb
    obtain ⟨h1, h2⟩ := hv t e ver0 l hb0
    refine ⟨Nat.le_trans h1 hle, fun he => ?_⟩
    have : ver0 = ver' := Nat.le_antisymm hle (he ▸ h1)
    rw [(heq this).1, (heq this).2]
    exact h2 (he.trans this.symm)
  | .fn f caps, _, ⟨gs, h, hv⟩ => by
    refine ⟨gs, ?_, hv⟩
    clear hv
    induction caps generalizing gs with
    | nil => cases gs <;> simp_all
    | cons b bs ih =>
      cases gs with
      | nil => simp at h
      | cons g gs =>
        simp only [List.map_cons, List.cons.injEq] at h ⊢
        exact ⟨hx.cells _ _ h.1, ih gs h.2⟩

theorem CReps.mono (hx : Ext E E') : ∀ {cs : List C} {vs : List Value}, CReps E cs vs → CReps E' cs vs
  | [], _, h => h
  | _ :: _, _, ⟨v, vs', e, h, ht⟩ => ⟨v, vs', e, CRep.mono hx h, CReps.mono hx ht⟩

theorem SRep.mono (hx : Ext E E') {agg : Bool} {cs : List C} {v : Value} (h : SRep E agg cs v) : SRep E' agg cs v := by
  obtain ⟨vs, h1, h2⟩ := h
  exact ⟨vs, h1.mono hx, h2⟩

theorem TReps.mono (hx : Ext E E') : ∀ {ts : List (Bool × List C)} {vs : List Value}, TReps E ts vs → TReps E' ts vs
  | [], _, h => h
  | _ :: _, _, ⟨v, vs', e, h, ht⟩ => ⟨v, vs', e, h.mono hx, TReps.mono hx ht⟩

theorem VRep.mono (hx : Ext E E') : ∀ {x : V} {v : Value}, VRep E x v → VRep E' x v
  | .junk, _, _ => trivial
  | .c _, _, h => CRep.mono hx h
  | .agg _, _, h => SRep.mono hx h
  | .tup _, _, ⟨vs, e, h⟩ => ⟨vs, e, h.mono hx⟩
  | .mcell b ver i, _, ⟨sv, svs, ad, h, he, hv⟩ => by
    obtain ⟨sv', svs', h', hr⟩ := hx.rows _ _ _ h
    refine ⟨sv', svs', ad, h', he, fun t et e ver' iver' hole' l' hb => ?_⟩
    obtain ⟨ver0, iver0, hole0, l, hb0, hle, _, heq, _⟩ := hr.mat t et e ver' iver' hole' l' hb
    obtain ⟨h1, h2⟩ := hv t et e ver0 iver0 hole0 l hb0
    refine ⟨Nat.le_trans h1 hle, fun he => ?_⟩
    have : ver0 = ver' := Nat.le_antisymm hle (he ▸ h1)
    obtain ⟨q1, q2⟩ := heq this
    rw [q1, q2]
    exact h2 (he.trans this.symm)
  | .mptr b iver i j o, _, ⟨sv, svs, ad, h, he, hv⟩ => by
    obtain ⟨sv', svs', h', hr⟩ := hx.rows _ _ _ h
    refine ⟨sv', svs', ad, h', he, fun t et e ver' iver' hole' l' hb => ?_⟩
    obtain ⟨ver0, iver0, hole0, l, hb0, _, hle, _, heq⟩ := hr.mat t et e ver' iver' hole' l' hb
    obtain ⟨h1, h2⟩ := hv t et e ver0 iver0 hole0 l hb0
    refine ⟨Nat.le_trans h1 hle, fun he => ?_⟩
    have hi : iver0 = iver' := Nat.le_antisymm hle (he ▸ h1)
    obtain ⟨q1, q2⟩ := heq hi
    obtain ⟨s, x, h3, h4, h5, h6⟩ := h2 (he.trans hi.symm)
    obtain ⟨x', h7, h8⟩ := map_length_get q2 h3
    rw [q1]
    exact ⟨s, x', h7, h4, by rw [h8]; exact h5, h6⟩
  | .eptr b ver i o, _, ⟨sv, svs, ad, h, he, hv⟩ => by
    obtain ⟨sv', svs', h', hr⟩ := hx.rows _ _ _ h
    refine ⟨sv', svs', ad, h', he, fun t e ver' l' hb => ?_⟩
    obtain ⟨ver0, l, hb0, hle, heq⟩ := hr.row t e ver' l' hb
    obtain ⟨h1, h2⟩ := hv t e ver0 l hb0
    refine ⟨Nat.le_trans h1 hle, fun he => ?_⟩
    have : ver0 = ver' := Nat.le_antisymm hle (he ▸ h1)
    obtain ⟨q1, q2⟩ := heq this
    rw [q1, q2]
    exact h2 (he.trans this.symm)
  | .lptr e x o, _, ⟨xs, ad, h, hv, hc⟩ => by
    refine ⟨xs, ad, h.mono hx.heap, hv, fun j u hj => ?_⟩
    obtain ⟨h1, h2⟩ := hc j u hj
    have hb : E.ok (ad.add j).block := by rw [block_of_add]; exact h1
    obtain ⟨o', c'⟩ := hx.heap.cell hb h2
    rw [block_of_add] at o'
    exact ⟨o', c'⟩

theorem ownsRow_mono {w w' : World} {b b' : Nat} {t : TypeId} {size : Nat} {v : Value} {n : Nat} {xs : List Value} (hb : b' ≤ b) (hg : ∀ g, v.ownBlock = some g → w'.heap[g]? = w.heap[g]?) (h : w.ownsRow b t size v n xs) : w'.ownsRow b' t size v n xs := by
  refine ⟨h.1, ?_⟩
  rcases h.2 with h3 | ⟨g, cap, cur, rfl, hb2, hh, r⟩
  · exact .inl h3
  · exact .inr ⟨g, cap, cur, rfl, Nat.le_trans hb hb2, (hg g rfl).trans hh, r⟩

theorem BRep.mono (hx : Ext E E') {B : Blk} {p : Pl} (h : BRep E B p) (hg : ∀ g, p.has g → E'.w.heap[g]? = E.w.heap[g]?) : BRep E' B p := by
  cases B with
  | dead => exact trivial
  | cells t cs =>
    cases p with
    | row _ _ => exact h.elim
    | cells g =>
      obtain ⟨vs, h1, h2⟩ := h
      exact ⟨vs, (hg g rfl).trans h1, h2.mono hx⟩
  | map t k v vg l =>
    cases p with
    | row _ _ => exact h.elim
    | cells g =>
      obtain ⟨es, clock, h1, h2⟩ := h
      exact ⟨es, clock, (hg g rfl).trans h1, h2.mono (fun _ _ h => h.mono hx.heap) (fun _ _ h => h.mono hx.heap)⟩
  | row t e ver l =>
    cases p with
    | cells _ => exact h.elim
    | row sv svs =>
      obtain ⟨h0, xs, h1, h2⟩ := h
      exact ⟨h0, xs, h1.mono fun x u hu => hu.mono hx.heap, ownsRow_mono hx.base (fun g hgg => hg g (.inl hgg)) h2⟩
  | mat t et e ver iver hole l =>
    cases p with
    | cells _ => exact h.elim
    | row sv svs =>
      have h : MatOk E t et e hole l sv svs := h
      obtain ⟨vs, h1, h2⟩ := h.outer
      refine ⟨⟨vs, ownsRow_mono hx.base (fun g hgg => hg g (.inl hgg)) h1, h2⟩, h.len, h.hole, fun i s x hs hl => ?_, h.sep0, h.sep⟩
      obtain ⟨xs, h3, h4⟩ := h.inner i s x hs hl
      exact ⟨xs, h3.mono fun x u hu => hu.mono hx.heap, ownsRow_mono hx.base (fun g hgg => hg g (.inr ⟨i, s, hs, hgg⟩)) h4⟩
end

theorem CReps.length {E : Env} : ∀ {cs : List C} {vs : List Value}, CReps E cs vs → vs.length = cs.length
  | [], _, h => by simp only [CReps] at h; simp [h]
  | _ :: _, _, ⟨_, _, e, _, ht⟩ => by rw [e, List.length_cons, List.length_cons, CReps.length ht]

theorem CRep.oneCell {E : Env} {c : C} {v : Value} (h : CRep E c v) : v.oneCell' = true := by
  cases c with
  | list e l => exact DRep.oneCell h v (by simp)
  | lsome e l => exact DRep.oneCell h.1 v (by simp)
  | nilc => obtain ⟨c, rfl⟩ := h; rfl
  | ptr b o => obtain ⟨g, _, rfl⟩ := h; rfl
  | fn f caps => obtain ⟨gs, _, rfl⟩ := h; rfl
  | mapv b => obtain ⟨g, _, rfl⟩ := h; rfl
  | row b ver => exact h.1
  | mat b ver => exact h.1
  | mrow b iver i => exact h.1
  | sub b ver i j => exact h.1
  | junk => exact h
  | bool _ => simp only [CRep] at h; subst h; rfl
  | int _ _ => simp only [CRep] at h; subst h; rfl
  | str _ => simp only [CRep] at h; subst h; rfl
  | nils => simp only [CRep] at h; subst h; rfl
  | nilp => simp only [CRep] at h; subst h; rfl
  | nilfn => simp only [CRep] at h; subst h; rfl
end Go.Lift
