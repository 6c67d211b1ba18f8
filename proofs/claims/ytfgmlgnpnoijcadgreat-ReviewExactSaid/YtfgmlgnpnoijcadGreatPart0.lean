/- Part0: LiftA, LiftB, LiftC, LiftD, LiftE, LiftF, LiftG, LiftH, LiftI. -/
import Derived.Laws.AppendOwn
import Derived.Below
import Derived.Lib.Join
import Derived.Lib.LaidTab
import Derived.Lib.ItoaNum
import Derived.Lib.Space
import Derived.Lib.SpaceR
import Derived.Orders
import Derived.Laws.Rows
import Derived.Laws.CopyRow
import Derived.Laws.MakeOwn
import Derived.Laws.Build
import Derived.Laws.StructEq
import Derived.Laws.Small
import Derived.Deep.RegionLaw
import Derived.ChangeKeysEq
import Derived.WideLaws
import Derived.MapKept
import Derived.Maps.AppendAt
import Derived.Lib.Strings
set_option linter.unusedVariables false
set_option linter.unusedSimpArgs false
namespace Go.Lift
inductive Ty where
 | bool | int (k : IntKind) | str | unit | err
 | prod (a b : Ty) | slice (e : Ty)
 deriving DecidableEq
@[reducible] def Ty.den : Ty → Type
 | .bool => Bool
 | .int _ => Int
 | .str => List UInt8
 | .unit => Unit
 | .err => Bool
 | .prod a b => a.den × b.den
 | .slice e => List e.den
def Ty.dflt : (τ : Ty) → τ.den
 | .bool => false
 | .int _ => (0 : Int)
 | .str => ([] : List UInt8)
 | .unit => ()
 | .err => true
 | .prod a b => (a.dflt, b.dflt)
 | .slice e => ([] : List e.den)
def Ty.size : Ty → Nat
 | .bool | .int _ | .str | .err | .slice _ => 1
 | .unit => 0
 | .prod a b => a.size + b.size
def DList {α : Type} (R : α → List Value → Prop) : List α → List Value → Prop
 | [], xs => xs = []
 | x :: l, xs => ∃ u v, xs = u ++ v ∧ R x u ∧ DList R l v
def errRep : Bool → Value → Prop
 | true, v => v = .nilIface
 | false, v => ∃ t u, v = .iface t u
theorem errRep.one {b : Bool} {v : Value} (h : errRep b v) : v.oneCell' = true := by
 cases b with
 | true => obtain rfl : v = .nilIface := h; rfl
 | false => obtain ⟨t, u, rfl⟩ := h; rfl
def DRep (w : World) (ok : Nat → Prop) : (τ : Ty) → τ.den → List Value → Prop
 | .bool, b, vs => vs = [.bool b]
 | .int k, n, vs => vs = [.int k n]
 | .str, s, vs => vs = [.string ⟨s.toArray⟩]
 | .err, b, vs => ∃ v, vs = [v] ∧ errRep b v
 | .unit, _, vs => vs = []
 | .prod a b, x, vs => ∃ u v, vs = u ++ v ∧ DRep w ok a x.1 u ∧ DRep w ok b x.2 v
 | .slice e, l, vs => ∃ A c xs, vs = [.slice A l.length c] ∧ l.length ≤ c ∧ c ≤ maxLen ∧ DList (fun x u => DRep w ok e x u) l xs ∧
   ∀ j v, xs[j]? = some v → ∃ ad, A = some ad ∧ ok ad.block ∧ w.cell? (ad.add j) = some v
theorem DList.mono {α : Type} {R R' : α → List Value → Prop} (h : ∀ x u, R x u → R' x u) : ∀ {l xs}, DList R l xs → DList R' l xs
 | [], _, hx => hx
 | _ :: _, _, ⟨u, v, e, hr, ht⟩ => ⟨u, v, e, h _ _ hr, DList.mono h ht⟩
theorem DList.append {α : Type} {R : α → List Value → Prop} : ∀ {l l' xs ys}, DList R l xs → DList R l' ys → DList R (l ++ l') (xs ++ ys)
 | [], _, _, _, hx, hy => by simp only [DList] at hx; subst hx; simpa using hy
 | _ :: _, _, _, _, ⟨u, v, e, hr, ht⟩, hy => ⟨u, v ++ _, by rw [e, List.append_assoc], hr, DList.append ht hy⟩
theorem DRep.length {w : World} {ok : Nat → Prop} : ∀ {τ : Ty} {x : τ.den} {vs : List Value}, DRep w ok τ x vs → vs.length = τ.size
 | .bool, _, _, h => by simp only [DRep] at h; simp [h, Ty.size]
 | .int _, _, _, h => by simp only [DRep] at h; simp [h, Ty.size]
 | .str, _, _, h => by simp only [DRep] at h; simp [h, Ty.size]
 | .err, _, _, h => by simp only [DRep] at h; obtain ⟨v, rfl, _⟩ := h; rfl
 | .unit, _, _, h => by simp only [DRep] at h; simp [h, Ty.size]
 | .prod a b, _, _, h => by
  simp only [DRep] at h
  obtain ⟨u, v, rfl, h1, h2⟩ := h
  simp [Ty.size, DRep.length h1, DRep.length h2]
 | .slice _, _, _, h => by
  simp only [DRep] at h
  obtain ⟨A, c, xs, rfl, _⟩ := h
  simp [Ty.size]
theorem DRep.oneCell {w : World} {ok : Nat → Prop} : ∀ {τ : Ty} {x : τ.den} {vs : List Value}, DRep w ok τ x vs → ∀ v ∈ vs, v.oneCell' = true
 | .bool, _, _, h, v, hv => by simp only [DRep] at h; subst h; simp at hv; subst hv; rfl
 | .int _, _, _, h, v, hv => by simp only [DRep] at h; subst h; simp at hv; subst hv; rfl
 | .str, _, _, h, v, hv => by simp only [DRep] at h; subst h; simp at hv; subst hv; rfl
 | .err, _, _, h, v, hv => by simp only [DRep] at h; obtain ⟨u, rfl, hu⟩ := h; simp at hv; subst hv; exact hu.one
 | .unit, _, _, h, v, hv => by simp only [DRep] at h; subst h; simp at hv
 | .prod a b, _, _, h, v, hv => by
  simp only [DRep] at h
  obtain ⟨x, y, rfl, h1, h2⟩ := h
  rcases List.mem_append.1 hv with hv | hv
  ·exact DRep.oneCell h1 v hv
  ·exact DRep.oneCell h2 v hv
 | .slice _, _, _, h, v, hv => by
  simp only [DRep] at h
  obtain ⟨A, c, xs, rfl, _⟩ := h
  simp at hv; subst hv; rfl
theorem DList.length {w : World} {ok : Nat → Prop} {e : Ty} : ∀ {l : List e.den} {xs : List Value}, DList (fun x u => DRep w ok e x u) l xs → xs.length = l.length * e.size
 | [], _, h => by simp only [DList] at h; simp [h]
 | _ :: l, _, ⟨u, v, e1, hr, ht⟩ => by rw [e1, List.length_append, DRep.length hr, DList.length ht, List.length_cons, Nat.succ_mul, Nat.add_comm]
theorem DList.oneCell {w : World} {ok : Nat → Prop} {e : Ty} : ∀ {l : List e.den} {xs : List Value}, DList (fun x u => DRep w ok e x u) l xs → ∀ v ∈ xs, v.oneCell' = true
 | [], _, h, v, hv => by simp only [DList] at h; subst h; simp at hv
 | _ :: l, _, ⟨x, y, e1, hr, ht⟩, v, hv => by
  subst e1
  rcases List.mem_append.1 hv with hv | hv
  ·exact DRep.oneCell hr v hv
  ·exact DList.oneCell ht v hv
theorem DList.get {w : World} {ok : Nat → Prop} {e : Ty} : ∀ {l : List e.den} {xs : List Value} {i : Nat} (d : e.den), DList (fun x u => DRep w ok e x u) l xs → i < l.length →
  ∃ u p q, xs = p ++ (u ++ q) ∧ p.length = i * e.size ∧ DRep w ok e (l.getD i d) u
 | [], _, i, _, _, h => by simp at h
 | x :: l, xs, 0, d, ⟨u, v, e1, hr, ht⟩, _ => ⟨u, [], v, by simp [e1], by simp, by simpa using hr⟩
 | x :: l, xs, i + 1, d, ⟨u, v, e1, hr, ht⟩, h => by
  obtain ⟨u', p, q, hv, hp, hd⟩ := DList.get (i := i) d ht (by simpa using h)
  refine ⟨u', u ++ p, q, by rw [e1, hv, List.append_assoc], ?_, by simpa using hd⟩
  rw [List.length_append, DRep.length hr, hp, Nat.succ_mul, Nat.add_comm]
theorem DList.set {w : World} {ok : Nat → Prop} {e : Ty} : ∀ {l : List e.den} {xs : List Value} {i : Nat} (x' : e.den) (u' : List Value), DList (fun x u => DRep w ok e x u) l xs → i < l.length → DRep w ok e x' u' →
  ∃ p u q, xs = p ++ (u ++ q) ∧ p.length = i * e.size ∧ u.length = e.size ∧ DList (fun x u => DRep w ok e x u) (l.set i x') (p ++ (u' ++ q))
 | [], _, i, _, _, _, h, _ => by simp at h
 | x :: l, xs, 0, x', u', ⟨u, v, e1, hr, ht⟩, _, h' => ⟨[], u, v, by simp [e1], by simp, DRep.length hr, ⟨u', v, by simp, h', ht⟩⟩
 | x :: l, xs, i + 1, x', u', ⟨u, v, e1, hr, ht⟩, h, h' => by
  obtain ⟨p, u0, q, hv, hp, hu, hd⟩ := DList.set (i := i) x' u' ht (by simpa using h) h'
  refine ⟨u ++ p, u0, q, by rw [e1, hv, List.append_assoc], ?_, hu, ⟨u, p ++ (u' ++ q), by rw [List.append_assoc], hr, by simpa using hd⟩⟩
  rw [List.length_append, DRep.length hr, hp, Nat.succ_mul, Nat.add_comm]
def Keeps (w : World) (ok : Nat → Prop) (w' : World) (ok' : Nat → Prop) : Prop := ∀ g, ok g → g < w.heap.size → ok' g ∧ w'.heap[g]? = w.heap[g]?
theorem Keeps.cell {w w' : World} {ok ok' : Nat → Prop} (h : Keeps w ok w' ok') {a : Addr} {v : Value} (ho : ok a.block) (hc : w.cell? a = some v) : ok' a.block ∧ w'.cell? a = some v := by
 obtain ⟨h1, h2⟩ := h _ ho (World.block_lt_of_cell? w a hc)
 exact ⟨h1, (World.cell?_of_block h2).trans hc⟩
theorem Q1p (a : Addr) (n : Nat) : (a.add n).block = a.block := by unfold Addr.add; split <;> rfl
theorem Q2l (a : Addr) (i j : Nat) : (a.add i).add j = a.add (i + j) := by
 unfold Addr.add
 by_cases hi : i = 0 <;> by_cases hj : j = 0 <;> simp [hi, hj, Nat.add_assoc]
theorem DRep.mono {w w' : World} {ok ok' : Nat → Prop} (hk : Keeps w ok w' ok') : ∀ {τ : Ty} {x : τ.den} {vs : List Value}, DRep w ok τ x vs → DRep w' ok' τ x vs
 | .bool, _, _, h => h
 | .int _, _, _, h => h
 | .str, _, _, h => h
 | .err, _, _, h => h
 | .unit, _, _, h => h
 | .prod a b, _, _, h => by
  simp only [DRep] at h ⊢
  obtain ⟨u, v, e, h1, h2⟩ := h
  exact ⟨u, v, e, DRep.mono hk h1, DRep.mono hk h2⟩
 | .slice e, _, _, h => by
  simp only [DRep] at h ⊢
  obtain ⟨A, c, xs, e1, hl, hc, hd, hx⟩ := h
  refine ⟨A, c, xs, e1, hl, hc, hd.mono fun x u hu => DRep.mono hk hu, fun j v hj => ?_⟩
  obtain ⟨ad, ha, ho, hcell⟩ := hx j v hj
  have hb : ok (ad.add j).block := by rw [Q1p]; exact ho
  obtain ⟨o', c'⟩ := hk.cell hb hcell
  rw [Q1p] at o'
  exact ⟨ad, ha, o', c'⟩
def Ty.flat : Ty → Bool
 | .slice _ | .err => false
 | .prod a b => a.flat && b.flat
 | _ => true
theorem DRep.flat {w w' : World} {ok ok' : Nat → Prop} : ∀ {τ : Ty} {x : τ.den} {vs : List Value}, τ.flat = true → DRep w ok τ x vs → DRep w' ok' τ x vs
 | .bool, _, _, _, h => h
 | .int _, _, _, _, h => h
 | .str, _, _, _, h => h
 | .unit, _, _, _, h => h
 | .prod a b, _, _, hf, h => by
  simp only [Ty.flat, Bool.and_eq_true] at hf
  simp only [DRep] at h ⊢
  obtain ⟨u, v, e, h1, h2⟩ := h
  exact ⟨u, v, e, DRep.flat hf.1 h1, DRep.flat hf.2 h2⟩
 | .slice _, _, _, hf, _ => by simp [Ty.flat] at hf
 | .err, _, _, hf, _ => by simp [Ty.flat] at hf
inductive C where
 | bool (b : Bool)
 | int (k : IntKind) (n : Int)
 | str (s : List UInt8)
 | err (b : Bool)
 | list (e : Ty) (l : List e.den)
 | nils
 | nilc
 | lsome (e : Ty) (l : List e.den)
 | nilp
 | ptr (b o : Nat)
 | row (b ver : Nat)
 | fn (f : FuncId) (caps : List Nat)
 | nilfn
 | mapv (b : Nat)
 | mat (b ver : Nat)
 | mrow (b iver i : Nat)
 | sub (b ver i j : Nat)
 | bself (b : Nat)
 | junk
inductive V where
 | junk
 | c (x : C)
 | agg (cs : List C)
 | tup (ts : List (Bool × List C))
 | eptr (b ver i o : Nat)
 | lptr (e : Ty) (x : e.den) (o : Nat)
 | mcell (b ver i : Nat)
 | mptr (b iver i j o : Nat)
 | arr (b o : Nat) (e : Ty) (n : Nat)
inductive Blk where
 | cells (t : TypeId) (cs : List C)
 | row (t : TypeId) (e : Ty) (ver : Nat) (l : List e.den)
 | map (t : TypeId) (k v : Ty) (vg : Bool) (l : List (k.den × v.den))
 | mat (t et : TypeId) (e : Ty) (ver iver : Nat) (hole : Option Nat) (l : List (List e.den))
 | dead
inductive Pl where
 | cells (g : Nat)
 | row (sv : Value) (svs : List (Option Value))
def Pl.has : Pl → Nat → Prop
 | .cells g', g => g' = g
 | .row sv svs, g => sv.ownBlock = some g ∨ ∃ (i : Nat) (s : Value), svs[i]? = some (some s) ∧ s.ownBlock = some g
theorem Pl.has_row {sv : Value} {g : Nat} (h : (Pl.row sv []).has g) : sv.ownBlock = some g := by
 rcases h with h | ⟨i, s, h, _⟩
 ·exact h
 ·simp at h
structure Env where
 w : World
 ok : Nat → Prop
 base : Nat
 pl : Nat → Option Pl
 bl : Nat → Option Blk
def CRep (E : Env) : C → Value → Prop
 | .bool b, v => v = .bool b
 | .int k n, v => v = .int k n
 | .str s, v => v = .string ⟨s.toArray⟩
 | .err b, v => errRep b v
 | .list e l, v => DRep E.w E.ok (.slice e) l [v]
 | .nils, v => v = .slice none 0 0
 | .nilc, v => ∃ c, v = .slice none 0 c
 | .lsome e l, v => DRep E.w E.ok (.slice e) l [v] ∧ ∀ n c, v ≠ .slice none n c
 | .nilp, v => v = .pointer none
 | .ptr b o, v => ∃ g, E.pl b = some (.cells g) ∧ v = .pointer (some ⟨g, o, none⟩)
 | .row b ver, v => v.oneCell' = true ∧ ∃ sv svs, E.pl b = some (.row sv svs) ∧ ∀ t e ver' l, E.bl b = some (.row t e ver' l) → ver ≤ ver' ∧ (ver = ver' → v = sv)
 | .fn f caps, v => ∃ gs : List Nat, caps.map E.pl = gs.map (fun g => some (.cells g)) ∧ v = .func (.func f) #[] (gs.map fun g => .pointer (some ⟨g, 0, none⟩)).toArray
 | .nilfn, v => v = .nilFunc
 | .mapv b, v => ∃ g, E.pl b = some (.cells g) ∧ v = .map (some g)
 | .mat b ver, v => v.oneCell' = true ∧ ∃ sv svs, E.pl b = some (.row sv svs) ∧ ∀ t et e ver' iver hole l, E.bl b = some (.mat t et e ver' iver hole l) → ver ≤ ver' ∧ (ver = ver' → v = sv)
 | .mrow b iver i, v => v.oneCell' = true ∧ ∃ sv svs, E.pl b = some (.row sv svs) ∧ ∀ t et e ver iver' hole l, E.bl b = some (.mat t et e ver iver' hole l) → iver ≤ iver' ∧ (iver = iver' → i < l.length ∧ svs[i]? = some (some v))
 | .sub b ver i j, v => v.oneCell' = true ∧ ∃ sv svs, E.pl b = some (.row sv svs) ∧ ∀ t e ver' l, E.bl b = some (.row t e ver' l) → ver ≤ ver' ∧ (ver = ver' → i ≤ j ∧ j ≤ l.length ∧
   ∃ A A' n c, sv = .slice A n c ∧ v = .slice A' (j - i) (c - i) ∧ (i < j → A' = A.map (·.add (i * e.size))) ∧ (i = 0 → A' = A))
 | .bself b, v => v = .pointer none ∨ ∃ g, E.pl b = some (.cells g) ∧ v = .pointer (some ⟨g, 0, none⟩)
 | .junk, v => v.oneCell' = true
def CReps (E : Env) : List C → List Value → Prop
 | [], vs => vs = []
 | c :: cs, vs => ∃ v vs', vs = v :: vs' ∧ CRep E c v ∧ CReps E cs vs'
def SRep (E : Env) (agg : Bool) (cs : List C) (v : Value) : Prop :=
 ∃ vs, CReps E cs vs ∧ if agg then v = .agg vs.toArray else vs = [v]
def TReps (E : Env) : List (Bool × List C) → List Value → Prop
 | [], vs => vs = []
 | t :: ts, vs => ∃ v vs', vs = v :: vs' ∧ SRep E t.1 t.2 v ∧ TReps E ts vs'
def VRep (E : Env) : V → Value → Prop
 | .junk, _ => True
 | .c x, v => CRep E x v
 | .agg cs, v => SRep E true cs v
 | .tup ts, v => ∃ vs, v = .tuple vs.toArray ∧ TReps E ts vs
 | .eptr b ver i o, v => ∃ sv svs ad, E.pl b = some (.row sv svs) ∧ v = .pointer (some ad) ∧ ∀ t e ver' l, E.bl b = some (.row t e ver' l) → ver ≤ ver' ∧
   (ver = ver' → i < l.length ∧ ∃ g n c, sv = .slice (some ⟨g, 0, none⟩) n c ∧ ad = ⟨g, i * e.size + o, none⟩)
 | .mcell b ver i, v => ∃ sv svs ad, E.pl b = some (.row sv svs) ∧ v = .pointer (some ad) ∧ ∀ t et e ver' iver hole l, E.bl b = some (.mat t et e ver' iver hole l) → ver ≤ ver' ∧
   (ver = ver' → i < l.length ∧ ∃ g n c, sv = .slice (some ⟨g, 0, none⟩) n c ∧ ad = ⟨g, i, none⟩)
 | .mptr b iver i j o, v => ∃ sv svs ad, E.pl b = some (.row sv svs) ∧ v = .pointer (some ad) ∧ ∀ t et e ver iver' hole l, E.bl b = some (.mat t et e ver iver' hole l) → iver ≤ iver' ∧
   (iver = iver' → ∃ s x, l[i]? = some x ∧ svs[i]? = some (some s) ∧ j < x.length ∧ ∃ g n c, s = .slice (some ⟨g, 0, none⟩) n c ∧ ad = ⟨g, j * e.size + o, none⟩)
 | .arr b o _ n, v => ∃ g, E.pl b = some (.cells g) ∧ v = .slice (some ⟨g, o, none⟩) n n
 | .lptr e x o, v => ∃ xs ad, DRep E.w E.ok e x xs ∧ v = .pointer (some ad) ∧ ∀ j u, (xs.drop o)[j]? = some u → E.ok ad.block ∧ E.w.cell? (ad.add j) = some u
def keyW : Ty → Bool
 | .prod _ _ => true
 | _ => false
def KRep (w : World) (ok : Nat → Prop) (k : Ty) (x : k.den) (u : Value) : Prop :=
 ∃ us, DRep w ok k x us ∧ if keyW k then u = .agg us.toArray else us = [u]
def MRep (w : World) (ok : Nat → Prop) (k v : Ty) (vg : Bool) : List (k.den × v.den) → List MapEntry → Prop
 | [], es => es = []
 | x :: l, es => ∃ e r, es = e :: r ∧ KRep w ok k x.1 e.key ∧ (∃ us, DRep w ok v x.2 us ∧ if vg then e.val = .agg us.toArray else us = [e.val]) ∧ MRep w ok k v vg l r
theorem MRep.mono {w w' : World} {ok ok' : Nat → Prop} {k v : Ty} {vg : Bool} (hk : ∀ x us, DRep w ok k x us → DRep w' ok' k x us) (hv : ∀ x us, DRep w ok v x us → DRep w' ok' v x us) : ∀ {l : List (k.den × v.den)} {es : List MapEntry}, MRep w ok k v vg l es → MRep w' ok' k v vg l es
 | [], _, h => h
 | _ :: _, _, ⟨e, r, h0, ⟨ks, h1, h5⟩, ⟨us, h2, h3⟩, h4⟩ => ⟨e, r, h0, ⟨ks, hk _ _ h1, h5⟩, ⟨us, hv _ _ h2, h3⟩, MRep.mono hk hv h4⟩
structure MatOk (E : Env) (t et : TypeId) (e : Ty) (hole : Option Nat) (l : List (List e.den)) (sv : Value) (svs : List (Option Value)) : Prop where
 outer : ∃ vs : List Value, E.w.ownsRow E.base t 1 sv l.length vs ∧ ∀ (i : Nat) (s : Value), svs[i]? = some (some s) → vs[i]? = some s
 len : svs.length = l.length
 hole : ∀ i : Nat, svs[i]? = some none → hole = some i
 inner : ∀ (i : Nat) (s : Value) (x : List e.den), svs[i]? = some (some s) → l[i]? = some x → ∃ xs, DList (fun x u => DRep E.w E.ok e x u) x xs ∧ E.w.ownsRow E.base et e.size s x.length xs
 sep0 : ∀ (i : Nat) (s : Value) (g : Nat), svs[i]? = some (some s) → sv.ownBlock = some g → s.ownBlock ≠ some g
 sep : ∀ (i j : Nat) (s r : Value) (g : Nat), i ≠ j → svs[i]? = some (some s) → svs[j]? = some (some r) → s.ownBlock = some g → r.ownBlock ≠ some g
def BRep (E : Env) : Blk → Pl → Prop
 | .cells t cs, .cells g => ∃ vs : List Value, E.w.heap[g]? = some (.cells vs.toArray t (0, 0)) ∧ CReps E cs vs
 | .row t e _ l, .row sv svs => svs = [] ∧ ∃ xs, DList (fun x u => DRep E.w E.ok e x u) l xs ∧ E.w.ownsRow E.base t e.size sv l.length xs
 | .mat t et e _ _ hole l, .row sv svs => MatOk E t et e hole l sv svs
 | .map _ k v vg l, .cells g => ∃ (es : Array MapEntry) (clock : Nat), E.w.heap[g]? = some (.map es clock) ∧ MRep E.w E.ok k v vg l es.toList
 | .dead, _ => True
 | _, _ => False
structure KeepR (B B' : Option Blk) (sv : Value) (svs : List (Option Value)) (sv' : Value) (svs' : List (Option Value)) : Prop where
 row : ∀ t e ver' l', B' = some (.row t e ver' l') → ∃ ver l, B = some (.row t e ver l) ∧ ver ≤ ver' ∧ (ver = ver' → sv' = sv ∧ l'.length = l.length)
 mat : ∀ t et e ver' iver' hole' l', B' = some (.mat t et e ver' iver' hole' l') → ∃ ver iver hole l, B = some (.mat t et e ver iver hole l) ∧ ver ≤ ver' ∧ iver ≤ iver' ∧
  (ver = ver' → sv' = sv ∧ l'.length = l.length) ∧ (iver = iver' → svs' = svs ∧ l'.map List.length = l.map List.length)
theorem KeepR.refl (B : Option Blk) (sv : Value) (svs : List (Option Value)) : KeepR B B sv svs sv svs :=
 ⟨fun _ _ ver' l' hb => ⟨ver', l', hb, Nat.le_refl _, fun _ => ⟨rfl, rfl⟩⟩, fun _ _ _ ver' iver' hole' l' hb => ⟨ver', iver', hole', l', hb, Nat.le_refl _, Nat.le_refl _, fun _ => ⟨rfl, rfl⟩, fun _ => ⟨rfl, rfl⟩⟩⟩
theorem KeepR.of_eq {B B' : Option Blk} (h : ∀ C, B' = some C → B = some C) (sv : Value) (svs : List (Option Value)) : KeepR B B' sv svs sv svs :=
 ⟨fun _ _ ver' l' hb => ⟨ver', l', h _ hb, Nat.le_refl _, fun _ => ⟨rfl, rfl⟩⟩, fun _ _ _ ver' iver' hole' l' hb => ⟨ver', iver', hole', l', h _ hb, Nat.le_refl _, Nat.le_refl _, fun _ => ⟨rfl, rfl⟩, fun _ => ⟨rfl, rfl⟩⟩⟩
theorem KeepR.of_live {B B' : Option Blk} (h : ∀ C, B' = some C → C ≠ .dead → B = some C) (sv : Value) (svs : List (Option Value)) : KeepR B B' sv svs sv svs :=
 ⟨fun _ _ ver' l' hb => ⟨ver', l', h _ hb (by simp), Nat.le_refl _, fun _ => ⟨rfl, rfl⟩⟩, fun _ _ _ ver' iver' hole' l' hb => ⟨ver', iver', hole', l', h _ hb (by simp), Nat.le_refl _, Nat.le_refl _, fun _ => ⟨rfl, rfl⟩, fun _ => ⟨rfl, rfl⟩⟩⟩
theorem KeepR.trans {B B1 B2 : Option Blk} {sv sv1 sv2 : Value} {svs svs1 svs2 : List (Option Value)} (h : KeepR B B1 sv svs sv1 svs1) (k : KeepR B1 B2 sv1 svs1 sv2 svs2) : KeepR B B2 sv svs sv2 svs2 := by
 constructor
 ·intro t e ver2 l2 hb2
  obtain ⟨ver1, l1, hb1, le1, eq1⟩ := k.row t e ver2 l2 hb2
  obtain ⟨ver0, l0, hb0, le0, eq0⟩ := h.row t e ver1 l1 hb1
  refine ⟨ver0, l0, hb0, Nat.le_trans le0 le1, fun he => ?_⟩
  have e01 : ver0 = ver1 := Nat.le_antisymm le0 (he ▸ le1)
  have e12 : ver1 = ver2 := e01 ▸ he
  exact ⟨(eq1 e12).1.trans (eq0 e01).1, (eq1 e12).2.trans (eq0 e01).2⟩
 ·intro t et e ver2 iver2 hole2 l2 hb2
  obtain ⟨ver1, iver1, hole1, l1, hb1, le1, ile1, eq1, ieq1⟩ := k.mat t et e ver2 iver2 hole2 l2 hb2
  obtain ⟨ver0, iver0, hole0, l0, hb0, le0, ile0, eq0, ieq0⟩ := h.mat t et e ver1 iver1 hole1 l1 hb1
  refine ⟨ver0, iver0, hole0, l0, hb0, Nat.le_trans le0 le1, Nat.le_trans ile0 ile1, fun he => ?_, fun he => ?_⟩
  ·have e01 : ver0 = ver1 := Nat.le_antisymm le0 (he ▸ le1)
   have e12 : ver1 = ver2 := e01 ▸ he
   exact ⟨(eq1 e12).1.trans (eq0 e01).1, (eq1 e12).2.trans (eq0 e01).2⟩
  ·have e01 : iver0 = iver1 := Nat.le_antisymm ile0 (he ▸ ile1)
   have e12 : iver1 = iver2 := e01 ▸ he
   exact ⟨(ieq1 e12).1.trans (ieq0 e01).1, (ieq1 e12).2.trans (ieq0 e01).2⟩
structure Ext (E E' : Env) : Prop where
 base : E'.base ≤ E.base
 heap : Keeps E.w E.ok E'.w E'.ok
 cells : ∀ b g, E.pl b = some (.cells g) → E'.pl b = some (.cells g)
 rows : ∀ b sv svs, E.pl b = some (.row sv svs) → ∃ sv' svs', E'.pl b = some (.row sv' svs') ∧ KeepR (E.bl b) (E'.bl b) sv svs sv' svs'
theorem Ext.refl (E : Env) : Ext E E := ⟨Nat.le_refl _, fun _ h _ => ⟨h, rfl⟩, fun _ _ h => h, fun _ sv svs h => ⟨sv, svs, h, KeepR.refl _ _ _⟩⟩
section
variable {E E' : Env}
theorem Qc2 {α : Type} {l l' : List (List α)} (h : l'.map List.length = l.map List.length) {i : Nat} {x : List α} (hx : l[i]? = some x) : ∃ x', l'[i]? = some x' ∧ x'.length = x.length := by
 have h1 : (l'.map List.length)[i]? = some x.length := by rw [h, List.getElem?_map, hx]; rfl
 rw [List.getElem?_map] at h1
 cases hy : l'[i]? with
 | none => rw [hy] at h1; cases h1
 | some y => rw [hy] at h1; injection h1 with h1; exact ⟨y, rfl, h1⟩
theorem CRep.mono (hx : Ext E E') : ∀ {c : C} {v : Value}, CRep E c v → CRep E' c v
 | .bool _, _, h => h
 | .int _ _, _, h => h
 | .str _, _, h => h
 | .err _, _, h => h
 | .list e l, _, h => DRep.mono (τ := .slice e) hx.heap h
 | .nils, _, h => h
 | .nilc, _, h => h
 | .lsome e l, _, h => ⟨DRep.mono (τ := .slice e) hx.heap h.1, h.2⟩
 | .nilp, _, h => h
 | .nilfn, _, h => h
 | .junk, _, h => h
 | .ptr _ _, _, ⟨g, h, hv⟩ => ⟨g, hx.cells _ _ h, hv⟩
 | .mapv _, _, ⟨g, h, hv⟩ => ⟨g, hx.cells _ _ h, hv⟩
 | .bself _, _, .inl h => .inl h
 | .bself _, _, .inr ⟨g, h, hv⟩ => .inr ⟨g, hx.cells _ _ h, hv⟩
 | .row b ver, _, ⟨h1c, sv, svs, h, hv⟩ => by
  obtain ⟨sv', svs', h', hr⟩ := hx.rows _ _ _ h
  refine ⟨h1c, sv', svs', h', fun t e ver' l' hb => ?_⟩
  obtain ⟨ver0, l, hb0, hle, heq⟩ := hr.row t e ver' l' hb
  obtain ⟨h1, h2⟩ := hv t e ver0 l hb0
  refine ⟨Nat.le_trans h1 hle, fun he => ?_⟩
  have : ver0 = ver' := Nat.le_antisymm hle (he ▸ h1)
  rw [(heq this).1]
  exact h2 (he.trans this.symm)
 | .mat b ver, _, ⟨h1c, sv, svs, h, hv⟩ => by
  obtain ⟨sv', svs', h', hr⟩ := hx.rows _ _ _ h
  refine ⟨h1c, sv', svs', h', fun t et e ver' iver' hole' l' hb => ?_⟩
  obtain ⟨ver0, iver0, hole0, l, hb0, hle, _, heq, _⟩ := hr.mat t et e ver' iver' hole' l' hb
  obtain ⟨h1, h2⟩ := hv t et e ver0 iver0 hole0 l hb0
  refine ⟨Nat.le_trans h1 hle, fun he => ?_⟩
  have : ver0 = ver' := Nat.le_antisymm hle (he ▸ h1)
  rw [(heq this).1]
  exact h2 (he.trans this.symm)
 | .mrow b iver i, _, ⟨h1c, sv, svs, h, hv⟩ => by
  obtain ⟨sv', svs', h', hr⟩ := hx.rows _ _ _ h
  refine ⟨h1c, sv', svs', h', fun t et e ver' iver' hole' l' hb => ?_⟩
  obtain ⟨ver0, iver0, hole0, l, hb0, _, hle, _, heq⟩ := hr.mat t et e ver' iver' hole' l' hb
  obtain ⟨h1, h2⟩ := hv t et e ver0 iver0 hole0 l hb0
  refine ⟨Nat.le_trans h1 hle, fun he => ?_⟩
  have hi : iver0 = iver' := Nat.le_antisymm hle (he ▸ h1)
  obtain ⟨q1, q2⟩ := heq hi
  have q3 : l'.length = l.length := by simpa using congrArg List.length q2
  rw [q1, q3]
  exact h2 (he.trans hi.symm)
 | .sub b ver i j, _, ⟨h1c, sv, svs, h, hv⟩ => by
  obtain ⟨sv', svs', h', hr⟩ := hx.rows _ _ _ h
  refine ⟨h1c, sv', svs', h', fun t e ver' l' hb => ?_⟩
  obtain ⟨ver0, l, hb0, hle, heq⟩ := hr.row t e ver' l' hb
  obtain ⟨h1, h2⟩ := hv t e ver0 l hb0
  refine ⟨Nat.le_trans h1 hle, fun he => ?_⟩
  have : ver0 = ver' := Nat.le_antisymm hle (he ▸ h1)
  rw [(heq this).1, (heq this).2]
  exact h2 (he.trans this.symm)
 | .fn f caps, _, ⟨gs, h, hv⟩ => by
  refine ⟨gs, ?_, hv⟩
  clear hv
  induction caps generalizing gs with
  | nil => cases gs <;> simp_all
  | cons b bs ih =>
   cases gs with
   | nil => simp at h
   | cons g gs =>
    simp only [List.map_cons, List.cons.injEq] at h ⊢
    exact ⟨hx.cells _ _ h.1, ih gs h.2⟩
theorem CReps.mono (hx : Ext E E') : ∀ {cs : List C} {vs : List Value}, CReps E cs vs → CReps E' cs vs
 | [], _, h => h
 | _ :: _, _, ⟨v, vs', e, h, ht⟩ => ⟨v, vs', e, CRep.mono hx h, CReps.mono hx ht⟩
theorem SRep.mono (hx : Ext E E') {agg : Bool} {cs : List C} {v : Value} (h : SRep E agg cs v) : SRep E' agg cs v := by
 obtain ⟨vs, h1, h2⟩ := h
 exact ⟨vs, h1.mono hx, h2⟩
theorem TReps.mono (hx : Ext E E') : ∀ {ts : List (Bool × List C)} {vs : List Value}, TReps E ts vs → TReps E' ts vs
 | [], _, h => h
 | _ :: _, _, ⟨v, vs', e, h, ht⟩ => ⟨v, vs', e, h.mono hx, TReps.mono hx ht⟩
theorem VRep.mono (hx : Ext E E') : ∀ {x : V} {v : Value}, VRep E x v → VRep E' x v
 | .junk, _, _ => trivial
 | .c _, _, h => CRep.mono hx h
 | .agg _, _, h => SRep.mono hx h
 | .tup _, _, ⟨vs, e, h⟩ => ⟨vs, e, h.mono hx⟩
 | .mcell b ver i, _, ⟨sv, svs, ad, h, he, hv⟩ => by
  obtain ⟨sv', svs', h', hr⟩ := hx.rows _ _ _ h
  refine ⟨sv', svs', ad, h', he, fun t et e ver' iver' hole' l' hb => ?_⟩
  obtain ⟨ver0, iver0, hole0, l, hb0, hle, _, heq, _⟩ := hr.mat t et e ver' iver' hole' l' hb
  obtain ⟨h1, h2⟩ := hv t et e ver0 iver0 hole0 l hb0
  refine ⟨Nat.le_trans h1 hle, fun he => ?_⟩
  have : ver0 = ver' := Nat.le_antisymm hle (he ▸ h1)
  obtain ⟨q1, q2⟩ := heq this
  rw [q1, q2]
  exact h2 (he.trans this.symm)
 | .mptr b iver i j o, _, ⟨sv, svs, ad, h, he, hv⟩ => by
  obtain ⟨sv', svs', h', hr⟩ := hx.rows _ _ _ h
  refine ⟨sv', svs', ad, h', he, fun t et e ver' iver' hole' l' hb => ?_⟩
  obtain ⟨ver0, iver0, hole0, l, hb0, _, hle, _, heq⟩ := hr.mat t et e ver' iver' hole' l' hb
  obtain ⟨h1, h2⟩ := hv t et e ver0 iver0 hole0 l hb0
  refine ⟨Nat.le_trans h1 hle, fun he => ?_⟩
  have hi : iver0 = iver' := Nat.le_antisymm hle (he ▸ h1)
  obtain ⟨q1, q2⟩ := heq hi
  obtain ⟨s, x, h3, h4, h5, h6⟩ := h2 (he.trans hi.symm)
  obtain ⟨x', h7, h8⟩ := Qc2 q2 h3
  rw [q1]
  exact ⟨s, x', h7, h4, by rw [h8]; exact h5, h6⟩
 | .eptr b ver i o, _, ⟨sv, svs, ad, h, he, hv⟩ => by
  obtain ⟨sv', svs', h', hr⟩ := hx.rows _ _ _ h
  refine ⟨sv', svs', ad, h', he, fun t e ver' l' hb => ?_⟩
  obtain ⟨ver0, l, hb0, hle, heq⟩ := hr.row t e ver' l' hb
  obtain ⟨h1, h2⟩ := hv t e ver0 l hb0
  refine ⟨Nat.le_trans h1 hle, fun he => ?_⟩
  have : ver0 = ver' := Nat.le_antisymm hle (he ▸ h1)
  obtain ⟨q1, q2⟩ := heq this
  rw [q1, q2]
  exact h2 (he.trans this.symm)
 | .arr _ _ _ _, _, ⟨g, h, e⟩ => ⟨g, hx.cells _ _ h, e⟩
 | .lptr e x o, _, ⟨xs, ad, h, hv, hc⟩ => by
  refine ⟨xs, ad, h.mono hx.heap, hv, fun j u hj => ?_⟩
  obtain ⟨h1, h2⟩ := hc j u hj
  have hb : E.ok (ad.add j).block := by rw [Q1p]; exact h1
  obtain ⟨o', c'⟩ := hx.heap.cell hb h2
  rw [Q1p] at o'
  exact ⟨o', c'⟩
theorem Qw {w w' : World} {b b' : Nat} {t : TypeId} {size : Nat} {v : Value} {n : Nat} {xs : List Value} (hb : b' ≤ b) (hg : ∀ g, v.ownBlock = some g → w'.heap[g]? = w.heap[g]?) (h : w.ownsRow b t size v n xs) : w'.ownsRow b' t size v n xs := by
 refine ⟨h.1, ?_⟩
 rcases h.2 with h3 | ⟨g, cap, cur, rfl, hb2, hh, r⟩
 ·exact .inl h3
 ·exact .inr ⟨g, cap, cur, rfl, Nat.le_trans hb hb2, (hg g rfl).trans hh, r⟩
theorem BRep.mono (hx : Ext E E') {B : Blk} {p : Pl} (h : BRep E B p) (hg : ∀ g, p.has g → E'.w.heap[g]? = E.w.heap[g]?) : BRep E' B p := by
 cases B with
 | dead => exact trivial
 | cells t cs =>
  cases p with
  | row _ _ => exact h.elim
  | cells g =>
   obtain ⟨vs, h1, h2⟩ := h
   exact ⟨vs, (hg g rfl).trans h1, h2.mono hx⟩
 | map t k v vg l =>
  cases p with
  | row _ _ => exact h.elim
  | cells g =>
   obtain ⟨es, clock, h1, h2⟩ := h
   exact ⟨es, clock, (hg g rfl).trans h1, h2.mono (fun _ _ h => h.mono hx.heap) (fun _ _ h => h.mono hx.heap)⟩
 | row t e ver l =>
  cases p with
  | cells _ => exact h.elim
  | row sv svs =>
   obtain ⟨h0, xs, h1, h2⟩ := h
   exact ⟨h0, xs, h1.mono fun x u hu => hu.mono hx.heap, Qw hx.base (fun g hgg => hg g (.inl hgg)) h2⟩
 | mat t et e ver iver hole l =>
  cases p with
  | cells _ => exact h.elim
  | row sv svs =>
   have h : MatOk E t et e hole l sv svs := h
   obtain ⟨vs, h1, h2⟩ := h.outer
   refine ⟨⟨vs, Qw hx.base (fun g hgg => hg g (.inl hgg)) h1, h2⟩, h.len, h.hole, fun i s x hs hl => ?_, h.sep0, h.sep⟩
   obtain ⟨xs, h3, h4⟩ := h.inner i s x hs hl
   exact ⟨xs, h3.mono fun x u hu => hu.mono hx.heap, Qw hx.base (fun g hgg => hg g (.inr ⟨i, s, hs, hgg⟩)) h4⟩
end
theorem CReps.length {E : Env} : ∀ {cs : List C} {vs : List Value}, CReps E cs vs → vs.length = cs.length
 | [], _, h => by simp only [CReps] at h; simp [h]
 | _ :: _, _, ⟨_, _, e, _, ht⟩ => by rw [e, List.length_cons, List.length_cons, CReps.length ht]
theorem CRep.oneCell {E : Env} {c : C} {v : Value} (h : CRep E c v) : v.oneCell' = true := by
 cases c with
 | list e l => exact DRep.oneCell h v (by simp)
 | lsome e l => exact DRep.oneCell h.1 v (by simp)
 | nilc => obtain ⟨c, rfl⟩ := h; rfl
 | ptr b o => obtain ⟨g, _, rfl⟩ := h; rfl
 | bself b => rcases h with rfl | ⟨g, _, rfl⟩ <;> rfl
 | fn f caps => obtain ⟨gs, _, rfl⟩ := h; rfl
 | mapv b => obtain ⟨g, _, rfl⟩ := h; rfl
 | row b ver => exact h.1
 | mat b ver => exact h.1
 | mrow b iver i => exact h.1
 | sub b ver i j => exact h.1
 | junk => exact h
 | bool _ => simp only [CRep] at h; subst h; rfl
 | int _ _ => simp only [CRep] at h; subst h; rfl
 | str _ => simp only [CRep] at h; subst h; rfl
 | err _ => exact errRep.one h
 | nils => simp only [CRep] at h; subst h; rfl
 | nilp => simp only [CRep] at h; subst h; rfl
 | nilfn => simp only [CRep] at h; subst h; rfl
end Go.Lift
namespace Go.Lift
def look {α : Type} : List (Nat × α) → Nat → Option α
 | [], _ => none
 | (j, x) :: r, i => bif Nat.beq i j then some x else look r i
def put {α : Type} : List (Nat × α) → Nat → α → List (Nat × α)
 | [], i, x => [(i, x)]
 | (j, y) :: r, i, x => bif Nat.blt i j then (i, x) :: (j, y) :: r else bif Nat.beq i j then (i, x) :: r else (j, y) :: put r i x
def puts {α : Type} : List (Nat × α) → List (Nat × α) → List (Nat × α)
 | l, [] => l
 | l, (i, x) :: r => puts (put l i x) r
theorem Q3c {i j : Nat} (h : ¬ i = j) : Nat.beq i j = false := by
 cases hb : Nat.beq i j with
 | false => rfl
 | true => exact absurd (Nat.eq_of_beq_eq_true hb) h
theorem Q3n (i : Nat) : Nat.beq i i = true := Nat.beq_refl i
theorem Qaf {α : Type} (l : List (Nat × α)) (i : Nat) (x : α) (j : Nat) : look (put l i x) j = if j = i then some x else look l j := by
 induction l with
 | nil =>
  simp only [put, look]
  by_cases h : j = i
  ·subst h; simp
  ·simp [h, Q3c h]
 | cons p r ih =>
  obtain ⟨k, y⟩ := p
  simp only [put]
  cases h1 : Nat.blt i k
  ·cases h2 : Nat.beq i k
   ·simp only [cond_false, look, ih]
    by_cases h : j = i
    ·subst h; simp [h2]
    ·simp [h]
   ·have : i = k := Nat.eq_of_beq_eq_true h2
    subst this
    simp only [cond_false, cond_true, look]
    by_cases h : j = i
    ·subst h; simp
    ·simp [h, Q3c h]
  ·simp only [cond_true, look]
   by_cases h : j = i
   ·subst h; simp
   ·simp [h, Q3c h]
inductive BK where
 | b | i | s
structure TI where
 agg : Bool
 size : Nat
 bytes : Nat
 zero : List C
 flds : List (Nat × Nat × Bool)
 elem : Option TypeId
 len : Option Nat
 ty : Option Ty
 kind : Option IntKind
 isBool : Bool
 isStr : Bool
 eqs : Option (List BK)
 mp : Option (TypeId × TypeId)
inductive CT where
 | data (τ : Ty)
 | ptr (b o : Nat)
 | rowh (b : Nat)
 | fn (f : FuncId) (caps : List Nat)
 | maph (b : Nat)
 | math (b : Nat)
 | bself (b : Nat)
 | nilc
 | nils
 | lsome (e : Ty)
 | junk
inductive BT where
 | cells (t : TypeId) (l : List CT)
 | row (t : TypeId) (e : Ty)
 | map (t : TypeId) (k v : Ty) (vg : Bool)
 | mat (t et : TypeId) (e : Ty)
@[reducible] def CT.dens : List CT → Type
 | [] => Unit
 | .data τ :: r => τ.den × CT.dens r
 | .lsome e :: r => List e.den × CT.dens r
 | .ptr _ _ :: r | .rowh _ :: r | .fn _ _ :: r | .maph _ :: r | .math _ :: r | .bself _ :: r | .nilc :: r | .nils :: r | .junk :: r => CT.dens r
@[reducible] def ST.dens : List (Bool × List CT) → Type
 | [] => Unit
 | t :: r => CT.dens t.2 × ST.dens r
@[reducible] def BT.dens : List BT → Type
 | [] => Unit
 | .cells _ l :: r => CT.dens l × BT.dens r
 | .row _ e :: r => List e.den × BT.dens r
 | .map _ k v _ :: r => List (k.den × v.den) × BT.dens r
 | .mat _ _ e :: r => List (List e.den) × BT.dens r
structure Spec where
 params : List (Bool × List CT)
 ins : List BT
 res : List (Bool × List CT)
 outs : List BT
 run : {β : Type} → ST.dens params × BT.dens ins → (ST.dens res × BT.dens outs → Option β) → Option β
structure RowF where
 t : TypeId
 e : Ty
 cut : Bool
 dom : List e.den → Bool
 run : List e.den → List e.den
 fn : Option FuncId := none
def RowF.extra (F : RowF) : List Value := match F.fn with | none => [] | some g => [.func (.func g) #[] #[]]
structure BldF where
 t : TypeId
 te : TypeId
 op : Nat
inductive Fun where
 | spec (S : Spec)
 | rows (F : RowF)
 | bld (F : BldF)
structure Ctx where
 T : TypeId → Option TI
 Γ : FuncId → Option Fun
 M : Bool
 R : Bool
 D : Bool
 S : Bool
 L : List (TypeId × List Nat)
def cells : (τ : Ty) → τ.den → List C
 | .bool, b => [.bool b]
 | .int k, n => [.int k n]
 | .str, s => [.str s]
 | .err, b => [.err b]
 | .unit, _ => []
 | .prod a b, x => cells a x.1 ++ cells b x.2
 | .slice e, l => [.list e l]
def Q30 (bl : Nat → Option Blk) (b ver : Nat) (e : Ty) : Option (List e.den) :=
 match bl b with
 | some (.row _ e' ver' l) => bif Nat.beq ver ver' then (if h : e' = e then some (h ▸ l) else none) else none
 | _ => none
def Qm5 (bl : Nat → Option Blk) (b ver : Nat) (e : Ty) : Option (List (List e.den)) :=
 match bl b with
 | some (.mat _ _ e' ver' _ none l) => bif Nat.beq ver ver' then (if h : e' = e then some (h ▸ l) else none) else none
 | _ => none
def Qe3 (bl : Nat → Option Blk) (b ver : Nat) : (e : Ty) → Option (List e.den)
 | .slice e => Qm5 bl b ver e
 | _ => none
def pack (bl : Nat → Option Blk) : (τ : Ty) → List C → Option (τ.den × List C)
 | .bool, .bool b :: r => some (b, r)
 | .int k, .int k' n :: r => if k = k' then some (n, r) else none
 | .str, .str s :: r => some (s, r)
 | .err, .err b :: r => some (b, r)
 | .unit, r => some ((), r)
 | .prod a b, r =>
  match pack bl a r with
  | none => none
  | some (x, r1) =>
   match pack bl b r1 with
   | none => none
   | some (y, r2) => some ((x, y), r2)
 | .slice e, .nils :: r => some (([] : List e.den), r)
 | .slice e, .list e' l :: r => if h : e' = e then some ((h ▸ l : List e.den), r) else none
 | .slice e, .row b ver :: r =>
  match Q30 bl b ver e with
  | none => none
  | some l => some (l, r)
 | .slice e, .sub b ver i j :: r =>
  match Q30 bl b ver e with
  | none => none
  | some l => some ((l.take j).drop i, r)
 | .slice e, .mat b ver :: r =>
  match Qe3 bl b ver e with
  | none => none
  | some l => some (l, r)
 | _, _ => none
def Q4s (bl : Nat → Option Blk) (τ : Ty) (cs : List C) : Option τ.den :=
 match pack bl τ cs with
 | some (x, []) => some x
 | _ => none
def Qg : List C → List Nat
 | [] => []
 | .row b _ :: r => b :: Qg r
 | .sub b _ _ _ :: r => b :: Qg r
 | .mat b _ :: r => b :: Qg r
 | _ :: r => Qg r
def V.cells : V → Option (List C)
 | .c x => some [x]
 | .agg cs => some cs
 | _ => none
def V.mk (agg : Bool) (cs : List C) : V :=
 bif agg then .agg cs else
  match cs with
  | [x] => .c x
  | _ => .junk
def C.ofValue : Value → Option C
 | .bool b => some (.bool b)
 | .int k n => some (.int k n)
 | .string s => some (.str s.data.toList)
 | .slice none 0 0 => some .nils
 | .pointer none => some .nilp
 | .nilFunc => some .nilfn
 | .nilIface => some (.err true)
 | _ => none
def C.ofValues : List Value → Option (List C)
 | [] => some []
 | v :: r =>
  match C.ofValue v, C.ofValues r with
  | some x, some xs => some (x :: xs)
  | _, _ => none
def V.ofValue : Value → V
 | .agg cs =>
  match C.ofValues cs.toList with
  | some l => .agg l
  | none => .junk
 | v =>
  match C.ofValue v with
  | some x => .c x
  | none => .junk
def over : List C → Nat → List C → Option (List C)
 | cs, 0, new => bif Nat.ble new.length cs.length then some (new ++ cs.drop new.length) else none
 | [], _ + 1, _ => none
 | c :: cs, o + 1, new =>
  match over cs o new with
  | some r => some (c :: r)
  | none => none
def sub (cs : List C) (o n : Nat) : Option (List C) :=
 bif Nat.ble (o + n) cs.length then some ((cs.drop o).take n) else none
def ival : V → Option (IntKind × Int)
 | .c (.int k n) => some (k, n)
 | _ => none
section
variable {β : Type}
abbrev K (β : Type) := V → List Nat → List (Nat × Blk) → Option β
def Qr (c : Bool) (x : Option β) : Option β := cond c x none
def Q2u (op : BinOp) (k : IntKind) (a b : Int) : Int :=
 match op with
 | .and => k.wrap ((BitVec.ofInt k.bits a &&& BitVec.ofInt k.bits b).toNat : Int)
 | .or => k.wrap ((BitVec.ofInt k.bits a ||| BitVec.ofInt k.bits b).toNat : Int)
 | .xor => k.wrap ((BitVec.ofInt k.bits a ^^^ BitVec.ofInt k.bits b).toNat : Int)
 | _ => k.wrap ((BitVec.ofInt k.bits a &&& ~~~BitVec.ofInt k.bits b).toNat : Int)
def Q9c (op : BinOp) (k : IntKind) (a b : Int) : Int :=
 match op with
 | .shl => k.wrap (a * 2 ^ (min b.toNat k.bits))
 | _ => a.fdiv (2 ^ (min b.toNat k.bits))
def Qc3 : BinOp → Bool
 | .shl | .shr => true
 | _ => false
def Qis (op : BinOp) (k : IntKind) (a b : Int) (kk : K β) : Option β :=
 match op with
 | .add => kk (.c (.int k (k.wrap (a + b)))) [] []
 | .sub => kk (.c (.int k (k.wrap (a - b)))) [] []
 | .mul => kk (.c (.int k (k.wrap (a * b)))) [] []
 | .quo => Qr (!decide (b = 0)) (kk (.c (.int k (k.wrap (a.tdiv b)))) [] [])
 | .rem => Qr (!decide (b = 0)) (kk (.c (.int k (a.tmod b))) [] [])
 | .eql => kk (.c (.bool (decide (a = b)))) [] []
 | .neq => kk (.c (.bool (!decide (a = b)))) [] []
 | .lss => kk (.c (.bool (decide (a < b)))) [] []
 | .leq => kk (.c (.bool (decide (a ≤ b)))) [] []
 | .gtr => kk (.c (.bool (decide (b < a)))) [] []
 | .geq => kk (.c (.bool (decide (b ≤ a)))) [] []
 | .and => kk (.c (.int k (Q2u .and k a b))) [] []
 | .or => kk (.c (.int k (Q2u .or k a b))) [] []
 | .xor => kk (.c (.int k (Q2u .xor k a b))) [] []
 | .andNot => kk (.c (.int k (Q2u .andNot k a b))) [] []
 | _ => none
def Qit (op : BinOp) (a b : List UInt8) (kk : K β) : Option β :=
 match op with
 | .add => Qr (decide (a.length + b.length ≤ 9223372036854775807)) (kk (.c (.str (a ++ b))) [] [])
 | .eql => kk (.c (.bool (decide (a = b)))) [] []
 | .neq => kk (.c (.bool (!decide (a = b)))) [] []
 | .lss => kk (.c (.bool (Op.bytesLess a b))) [] []
 | .leq => kk (.c (.bool (Op.bytesLess a b || decide (a = b)))) [] []
 | .gtr => kk (.c (.bool (!(Op.bytesLess a b || decide (a = b))))) [] []
 | .geq => kk (.c (.bool (!Op.bytesLess a b))) [] []
 | _ => none
def Qd : List BK → List C → List C → Option Bool
 | [], [], [] => some true
 | .b :: k, .bool a :: r, .bool b :: s =>
  match Qd k r s with
  | some q => some ((a == b) && q)
  | none => none
 | .i :: k, .int ka a :: r, .int kb b :: s =>
  if ka = kb then
   match Qd k r s with
   | some q => some (decide (a = b) && q)
   | none => none
  else none
 | .s :: k, .str a :: r, .str b :: s =>
  match Qd k r s with
  | some q => some (decide (a = b) && q)
  | none => none
 | _, _, _ => none
def Q9d (T : TypeId → Option TI) (op : BinOp) (t : TypeId) (b : Bool) (kk : K β) : Option β :=
 match T t with
 | some ti =>
  match ti.elem, ti.len, op with
  | some _, none, .eql => kk (.c (.bool b)) [] []
  | some _, none, .neq => kk (.c (.bool (!b))) [] []
  | _, _, _ => none
 | none => none
def Qe9 (T : TypeId → Option TI) (op : BinOp) (t : TypeId) (x y : V) (kk : K β) : Option β :=
 match x, y with
 | .c (.int k a), .c (.int k' b) =>
  bif Qc3 op then Qr (decide (0 ≤ b)) (kk (.c (.int k (Q9c op k a b))) [] []) else
  if k = k' then Qis op k a b kk else none
 | .c (.str a), .c (.str b) => Qit op a b kk
 | .c (.bool a), .c (.bool b) =>
  match T t with
  | some ti =>
   bif ti.isBool then
    match op with
    | .eql => kk (.c (.bool (a == b))) [] []
    | .neq => kk (.c (.bool (!(a == b)))) [] []
    | _ => none
   else none
  | none => none
 | .agg a, .agg b =>
  match T t with
  | some ti =>
   match ti.eqs with
   | some ks =>
    match op, Qd ks a b with
    | .eql, some r => kk (.c (.bool r)) [] []
    | .neq, some r => kk (.c (.bool (!r))) [] []
    | _, _ => none
   | none => none
  | none => none
 | .c .nilc, .c .nils => Q9d T op t true kk
 | .c (.lsome _ _), .c .nils => Q9d T op t false kk
 | _, _ => none
def Qc4 (T : TypeId → Option TI) (op : BinOp) (t : TypeId) (b : Bool) (kk : K β) : Option β :=
 match T t with
 | some ti =>
  match ti.ty, ti.agg, op with
  | some .err, false, .eql => kk (.c (.bool b)) [] []
  | some .err, false, .neq => kk (.c (.bool (!b))) [] []
  | _, _, _ => none
 | none => none
def Qc5 (T : TypeId → Option TI) (op : BinOp) (t : TypeId) (x y : V) (yo : Operand) (kk : K β) : Option β :=
 match x, yo with
 | .c (.err b), .const .nilIface => Qc4 T op t b kk
 | _, _ => Qe9 T op t x y kk
def Q6e (cells : List C) : List (Nat × List C) → Option (List C)
 | [] => some cells
 | (o, new) :: r =>
  match over cells o new with
  | some cs => Q6e cs r
  | none => none
def Q1q (ti : TI) (T : TypeId → Option TI) : List (Nat × V) → Option (List (Nat × List C))
 | [] => some []
 | (i, v) :: r =>
  match v.cells, Q1q ti T r with
  | some cs, some rest =>
   match ti.len, ti.elem with
   | some _, some e =>
    match T e with
    | some te => bif Nat.beq cs.length te.size then some ((i * te.size, cs) :: rest) else none
    | none => none
   | _, _ =>
    match ti.flds[i]? with
    | some (o, n, _) => bif Nat.beq cs.length n then some ((o, cs) :: rest) else none
    | none => none
  | _, _ => none
def repC (n : Nat) (cs : List C) : List C :=
 match n with
 | 0 => []
 | n + 1 => cs ++ repC n cs
def Q3k (bl : Nat → Option Blk) (e : Ty) : Nat → List C → Option (List e.den)
 | 0, [] => some []
 | 0, _ :: _ => none
 | n + 1, cs =>
  match pack bl e cs with
  | some (x, r) =>
   match Q3k bl e n r with
   | some l => some (x :: l)
   | none => none
  | none => none
def Q71 (T : TypeId → Option TI) (bl : Nat → Option Blk) (t : TypeId) (p : V) (kk : K β) : Option β :=
 match T t with
 | none => none
 | some ti =>
  bif ti.agg || Nat.beq ti.size 1 then
  match p with
  | .c (.ptr b o) =>
   match bl b with
   | some (.cells _ cs) =>
    match sub cs o ti.size with
    | some r => kk (V.mk ti.agg r) [b] []
    | none => none
   | _ => none
  | .eptr b ver i o =>
   match bl b with
   | some (.row _ e ver' l) =>
    bif Nat.beq ver ver' then
     match sub (cells e (l.getD i e.dflt)) o ti.size with
     | some r => kk (V.mk ti.agg r) [b] []
     | none => none
    else none
   | _ => none
  | .lptr e x o =>
   match sub (cells e x) o ti.size with
   | some r => kk (V.mk ti.agg r) [] []
   | none => none
  | .mcell b ver i =>
   match bl b with
   | some (.mat _ _ _ ver' iver none _) => bif Nat.beq ver ver' && !ti.agg then kk (.c (.mrow b iver i)) [b] [] else none
   | _ => none
  | .mptr b iver i j o =>
   match bl b with
   | some (.mat _ _ e _ iver' _ l) =>
    bif Nat.beq iver iver' then
     match sub (cells e ((l.getD i []).getD j e.dflt)) o ti.size with
     | some r => kk (V.mk ti.agg r) [b] []
     | none => none
    else none
   | _ => none
  | _ => none
  else none
def Q5q (T : TypeId → Option TI) (bl : Nat → Option Blk) (t : TypeId) (p v : V) (kk : K β) : Option β :=
 match T t, v.cells with
 | some ti, some new =>
  bif Nat.beq new.length ti.size then
   match p with
   | .c (.ptr b o) =>
    match bl b with
    | some (.cells t0 cs) =>
     match over cs o new with
     | some r => kk .junk [b] [(b, .cells t0 r)]
     | none => none
    | _ => none
   | .eptr b ver i o =>
    match bl b with
    | some (.row t0 e ver' l) =>
     bif Nat.beq ver ver' then
      match over (cells e (l.getD i e.dflt)) o new with
      | some r =>
       match Q4s (fun _ => none) e r with
       | some x => kk .junk [b] [(b, .row t0 e ver' (l.set i x))]
       | none => none
      | none => none
     else none
    | _ => none
   | .mptr b iver i j o =>
    match bl b with
    | some (.mat t0 et0 e ver iver' hole l) =>
     bif Nat.beq iver iver' then
      match over (cells e ((l.getD i []).getD j e.dflt)) o new with
      | some r =>
       match Q4s (fun _ => none) e r with
       | some x => kk .junk [b] [(b, .mat t0 et0 e ver iver' hole (l.set i ((l.getD i []).set j x)))]
       | none => none
      | none => none
     else none
    | _ => none
   | .mcell b ver i =>
    match v with
    | .c (.row r rv) =>
     match bl b, bl r with
     | some (.mat t0 et0 e ver' iver hole l), some (.row et1 e1 rv' x) =>
      bif Nat.beq ver ver' && (Nat.beq rv rv' && Nat.beq et0 et1) then
       if h : e1 = e then
        Qr (match hole with | none => true | some i' => decide (i = i')) (kk .junk [b, r] [(r, .dead), (b, .mat t0 et0 e ver' (iver + 1) none (l.set i (h ▸ x)))])
       else none
      else none
     | _, _ => none
    | _ => none
   | _ => none
  else none
 | _, _ => none
def Q5r (T : TypeId → Option TI) (t : TypeId) (p : V) (f : Nat) (kk : K β) : Option β :=
 match T t with
 | none => none
 | some ti =>
  match ti.flds[f]? with
  | none => none
  | some (off, n, _) =>
   bif Nat.beq n 0 then none else
   match p with
   | .c (.ptr b o) => kk (.c (.ptr b (o + off))) [] []
   | .eptr b ver i o => kk (.eptr b ver i (o + off)) [] []
   | .lptr e x o => kk (.lptr e x (o + off)) [] []
   | .mptr b iver i j o => kk (.mptr b iver i j (o + off)) [] []
   | _ => none
def Q5k (i : Int) (kk : Nat → Option β) : Nat → Nat → Option β
 | _, 0 => none
 | j, m + 1 => cond (decide (i = (j : Int))) (kk j) (Q5k i kk (j + 1) m)
def Q5s (T : TypeId → Option TI) (bl : Nat → Option Blk) (t : TypeId) (x ix : V) (kk : K β) : Option β :=
 match ival ix with
 | none => none
 | some (_, i) =>
  match T t with
  | none => none
  | some ti =>
   match ti.elem, ti.len with
   | some et, none =>
    match T et with
    | none => none
    | some te =>
     match x with
     | .c (.list e l) =>
      bif Nat.beq e.size te.size && Nat.blt 0 te.size then Qr (decide (0 ≤ i) && decide (i < (l.length : Int))) (kk (.lptr e (l.getD i.toNat e.dflt) 0) [] []) else none
     | .c (.row b ver) =>
      match bl b with
      | some (.row _ e ver' l) =>
       bif Nat.beq ver ver' && (Nat.beq e.size te.size && Nat.blt 0 te.size) then Qr (decide (0 ≤ i) && decide (i < (l.length : Int))) (kk (.eptr b ver i.toNat 0) [b] []) else none
      | _ => none
     | .c (.sub b ver lo hi) =>
      match bl b with
      | some (.row _ e ver' _) =>
       bif Nat.beq ver ver' && (Nat.beq e.size te.size && Nat.blt 0 te.size) then Qr (decide (0 ≤ i) && decide (i < ((hi - lo : Nat) : Int))) (kk (.eptr b ver (lo + i.toNat) 0) [b] []) else none
      | _ => none
     | .c (.mat b ver) =>
      match bl b with
      | some (.mat _ _ _ ver' _ _ l) =>
       bif Nat.beq ver ver' && Nat.beq 1 te.size then Qr (decide (0 ≤ i) && decide (i < (l.length : Int))) (kk (.mcell b ver i.toNat) [b] []) else none
      | _ => none
     | .c (.mrow b iver r) =>
      match bl b with
      | some (.mat _ _ e _ iver' _ l) =>
       bif Nat.beq iver iver' && (Nat.beq e.size te.size && Nat.blt 0 te.size) then Qr (decide (0 ≤ i) && decide (i < ((l.getD r []).length : Int))) (kk (.mptr b iver r i.toNat 0) [b] []) else none
      | _ => none
     | _ => none
   | some et, some n =>
    match x with
    | .c (.ptr b o) =>
     match T et with
     | some te => Q5k i (fun j => kk (.c (.ptr b (o + j * te.size))) [] []) 0 n
     | none => none
    | .eptr b ver q o =>
     match T et with
     | some te => Q5k i (fun j => kk (.eptr b ver q (o + j * te.size)) [] []) 0 n
     | none => none
    | _ => none
   | _, _ => none
def Q26 (v : Option V) (d : Int) : Option Int :=
 match v with
 | none => some d
 | some v =>
  match ival v with
  | some (_, n) => some n
  | none => none
def Q5t (T : TypeId → Option TI) (bl : Nat → Option Blk) (t : TypeId) (x : V) (lo hi : Option V) (kk : K β) : Option β :=
 match T t with
 | none => none
 | some ti =>
  match x with
  | .c (.str s) =>
   bif ti.isStr then
    match Q26 lo 0, Q26 hi (s.length : Int) with
    | some a, some b => Qr (decide (0 ≤ a) && (decide (a ≤ b) && decide (b ≤ (s.length : Int)))) (kk (.c (.str ((s.take b.toNat).drop a.toNat))) [] [])
    | _, _ => none
   else none
  | .c (.list e l) =>
   match ti.elem, ti.len with
   | some et, none =>
    match T et with
    | none => none
    | some te =>
     bif Nat.beq e.size te.size && Nat.blt 0 te.size then
      match Q26 lo 0, Q26 hi (l.length : Int) with
      | some a, some b => Qr (decide (0 ≤ a) && (decide (a ≤ b) && decide (b ≤ (l.length : Int)))) (kk (.c (.list e ((l.take b.toNat).drop a.toNat))) [] [])
      | _, _ => none
     else none
   | _, _ => none
  | .c (.row bb ver) =>
   match ti.elem, ti.len with
   | some et, none =>
    match T et with
    | none => none
    | some te =>
     match bl bb with
     | some (.row _ e ver' l) =>
      bif Nat.beq ver ver' && (Nat.beq e.size te.size && Nat.blt 0 te.size) then
       match Q26 lo 0, Q26 hi (l.length : Int) with
       | some a, some b => Qr (decide (0 ≤ a) && (decide (a ≤ b) && decide (b ≤ (l.length : Int)))) (kk (.c (.sub bb ver a.toNat b.toNat)) [bb] [])
       | _, _ => none
      else none
     | _ => none
   | _, _ => none
  | .c (.sub bb ver i j) =>
   match ti.elem, ti.len with
   | some et, none =>
    match T et with
    | none => none
    | some te =>
     match bl bb with
     | some (.row _ e ver' _) =>
      bif Nat.beq ver ver' && (Nat.beq e.size te.size && Nat.blt 0 te.size) then
       match Q26 lo 0, Q26 hi ((j - i : Nat) : Int) with
       | some a, some b => Qr (decide (0 ≤ a) && (decide (a ≤ b) && decide (b ≤ ((j - i : Nat) : Int)))) (kk (.c (.sub bb ver (i + a.toNat) (i + b.toNat))) [bb] [])
       | _, _ => none
      else none
     | _ => none
   | _, _ => none
  | .c (.ptr b o) =>
   match ti.elem, ti.len, lo, hi with
   | some et, some n, none, none =>
    match T et with
    | none => none
    | some te =>
     match te.ty with
     | some e => bif Nat.beq e.size te.size && Nat.blt 0 n then kk (.arr b o e n) [] [] else none
     | none => none
   | _, _, _, _ => none
  | .c .nils =>
   match ti.elem, ti.len with
   | some et, none =>
    match T et with
    | none => none
    | some _ =>
     match Q26 lo 0, Q26 hi 0 with
     | some a, some b => Qr (decide (0 ≤ a) && (decide (a ≤ b) && decide (b ≤ (0 : Int)))) (kk (.c .nils) [] [])
     | _, _ => none
   | _, _ => none
  | _ => none
def Qea (T : TypeId → Option TI) (bl : Nat → Option Blk) (t : TypeId) (x : V) (hi : Option V) (kk : K β) : Option β :=
 match T t with
 | none => none
 | some ti =>
  match ti.elem, ti.len with
  | some et, none =>
   match T et with
   | none => none
   | some te =>
    match x with
    | .c (.row b ver) =>
     match bl b with
     | some (.row t0 e ver' l) =>
      bif Nat.beq ver ver' && (Nat.beq e.size te.size && Nat.blt 0 te.size) then
       match Q26 hi (l.length : Int) with
       | some m => Qr (decide (0 ≤ m) && decide (m ≤ (l.length : Int))) (kk (.c (.row b (ver + 1))) [b] [(b, .row t0 e (ver + 1) (l.take m.toNat))])
       | none => none
      else none
     | _ => none
    | _ => none
  | _, _ => none
def Qav : V → Bool
 | .c (.row _ _) => true
 | _ => false
def Q1t (ti : TI) : Bool :=
 match ti.elem, ti.len with
 | some _, none => true
 | _, _ => false
def Qeb (T : TypeId → Option TI) (bl : Nat → Option Blk) (t : TypeId) (x : V) (kk : K β) : Option β :=
 match T t with
 | none => none
 | some ti =>
  match x with
  | .c (.str s) => bif ti.isStr then kk (.c (.int .i64 (s.length : Int))) [] [] else none
  | .c (.list _ l) => bif Q1t ti then kk (.c (.int .i64 (l.length : Int))) [] [] else none
  | .c .nils => bif Q1t ti then kk (.c (.int .i64 0)) [] [] else none
  | .c (.row b ver) =>
   match bl b with
   | some (.row _ _ ver' l) => bif Nat.beq ver ver' && Q1t ti then kk (.c (.int .i64 (l.length : Int))) [b] [] else none
   | _ => none
  | .c (.sub b ver i j) =>
   match bl b with
   | some (.row _ _ ver' _) => bif Nat.beq ver ver' && Q1t ti then kk (.c (.int .i64 ((j - i : Nat) : Int))) [b] [] else none
   | _ => none
  | .c (.mat b ver) =>
   match bl b with
   | some (.mat _ _ _ ver' _ _ l) => bif Nat.beq ver ver' && Q1t ti then kk (.c (.int .i64 (l.length : Int))) [b] [] else none
   | _ => none
  | .c (.mrow b iver r) =>
   match bl b with
   | some (.mat _ _ _ _ iver' _ l) => bif Nat.beq iver iver' && Q1t ti then kk (.c (.int .i64 ((l.getD r []).length : Int))) [b] [] else none
   | _ => none
  | .c (.mapv b) =>
   match bl b, ti.mp with
   | some (.map _ _ _ _ l), some _ => kk (.c (.int .i64 (l.length : Int))) [b] []
   | _, _ => none
  | _ => none
def Q1u (tk : TI) : Ty → Bool
 | .bool => tk.isBool
 | .int k => decide (tk.kind = some k)
 | .str => tk.isStr
 | .prod (.int _) (.int _) =>
  match tk.eqs, tk.len with
  | some [.i, .i], some 2 => true
  | _, _ => false
 | _ => false
def Q2g : (k : Ty) → k.den → k.den → Bool
 | .bool, a, b => a == b
 | .int _, a, b => decide (a = b)
 | .str, a, b => decide (a = b)
 | .prod (.int _) (.int _), a, b => decide (a.1 = b.1) && decide (a.2 = b.2)
 | _, _, _ => false
def Q35 : (k : Ty) → V → Option k.den
 | .bool, .c (.bool b) => some b
 | .int k, .c (.int k' n) => if k = k' then some n else none
 | .str, .c (.str s) => some s
 | .prod (.int k) (.int k2), .agg [.int j n, .int j2 n2] => if k = j ∧ k2 = j2 then some (n, n2) else none
 | _, _ => none
def mGet (k : Ty) {δ : Type} : List (k.den × δ) → k.den → δ → δ
 | [], _, d => d
 | y :: r, x, d => bif Q2g k y.1 x then y.2 else mGet k r x d
def mHas (k : Ty) {δ : Type} : List (k.den × δ) → k.den → Bool
 | [], _ => false
 | y :: r, x => bif Q2g k y.1 x then true else mHas k r x
def mPut (k : Ty) {δ : Type} : List (k.den × δ) → k.den → δ → List (k.den × δ)
 | [], x, v => [(x, v)]
 | y :: r, x, v => bif Q2g k y.1 x then (x, v) :: r else y :: mPut k r x v
def Q6s (T : TypeId → Option TI) (ti : TI) (cs : List C) (i : Int) (kk : K β) : Option β :=
 match ti.elem, ti.len with
 | some et, some n =>
  match T et with
  | some te =>
   match te.ty with
   | some e =>
    match Q3k (fun _ => none) e n cs with
    | some l => bif Nat.beq e.size te.size && (te.agg || Nat.beq te.size 1) then Qr (decide (0 ≤ i) && decide (i < (l.length : Int))) (kk (V.mk te.agg (cells e (l.getD i.toNat e.dflt))) [] []) else none
    | none => none
   | none => none
  | none => none
 | _, _ => none
def Q7n (T : TypeId → Option TI) (bl : Nat → Option Blk) (nx : Nat) (t : TypeId) (kk : K β) : Option β :=
 match T t with
 | none => none
 | some ti =>
  match ti.mp with
  | none => none
  | some (kt, vt) =>
   match T kt, T vt with
   | some tk, some tv =>
    match tk.ty, tv.ty, bl nx with
    | some k, some v, none => bif Q1u tk k then kk (.c (.mapv nx)) [nx] [(nx, .map t k v tv.agg [])] else none
    | _, _, _ => none
   | _, _ => none
def Q8d (T : TypeId → Option TI) (bl : Nat → Option Blk) (t : TypeId) (x ix : V) (commaOk : Bool) (kk : K β) : Option β :=
 match T t with
 | none => none
 | some ti =>
  match ti.mp with
  | none => none
  | some (kt, vt) =>
   match T kt, T vt with
   | some tk, some tv =>
    match x with
    | .c (.mapv b) =>
     match bl b with
     | some (.map _ k v vg l) =>
      bif Q1u tk k && (vg || Nat.beq v.size 1) && (vg == tv.agg) then
       match Q35 k ix, Q4s (fun _ => none) v tv.zero with
       | some key, some z =>
        kk (bif commaOk then .tup [(vg, cells v (mGet k l key z)), (false, [.bool (mHas k l key)])] else V.mk vg (cells v (mGet k l key z))) [b] []
       | _, _ => none
      else none
     | _ => none
    | _ => none
   | _, _ => none
def Q8e : V → Option Bool
 | .c _ => some false
 | .agg _ => some true
 | _ => none
def Q8f (T : TypeId → Option TI) (bl : Nat → Option Blk) (t : TypeId) (x ix y : V) (kk : K β) : Option β :=
 match T t with
 | none => none
 | some ti =>
  match ti.mp with
  | none => none
  | some (kt, _) =>
   match T kt with
   | none => none
   | some tk =>
    match x, y.cells with
    | .c (.mapv b), some cs =>
     match bl b with
     | some (.map t' k v vg l) =>
      bif Q1u tk k && decide (Q8e y = some vg) then
       match Q35 k ix, Q4s (fun _ => none) v cs with
       | some key, some z => kk .junk [b] [(b, .map t' k v vg (mPut k l key z))]
       | _, _ => none
      else none
     | _ => none
    | _, _ => none
def Q5 : Nat := 140737488355328
def Qaw (bl : Nat → Option Blk) (e : Ty) : V → Option (List e.den × List Nat)
 | .c .nils => some ([], [])
 | .c (.list e' l) => if h : e' = e then some (h ▸ l, []) else none
 | .c (.lsome e' l) => if h : e' = e then some (h ▸ l, []) else none
 | .c (.row b ver) => (Q30 bl b ver e).map fun l => (l, [b])
 | .c (.sub b ver i j) => (Q30 bl b ver e).map fun l => ((l.take j).drop i, [b])
 | _ => none
def Qc6 (T : TypeId → Option TI) (bl : Nat → Option Blk) (t : TypeId) (x y : V) (kk : K β) : Option β :=
 match T t with
 | none => none
 | some ti =>
  match ti.elem, ti.len with
  | some et, none =>
   match T et with
   | none => none
   | some te =>
    match te.ty with
    | none => none
    | some e =>
     bif Nat.beq e.size te.size && Nat.blt 0 te.size then
     match Qaw bl e y with
     | none => none
     | some (new, rd) =>
      match x with
      | .c (.sub b ver i j) =>
       match bl b with
       | some (.row t0 e0 ver' l) =>
        bif Nat.beq ver ver' then
         if h : e0 = e then
          kk (.c (.int .i64 ((Nat.min new.length (j - i) : Nat) : Int))) (b :: rd) [(b, .row t0 e ver' ((h ▸ l : List e.den).take i ++ (new.take (j - i) ++ (h ▸ l : List e.den).drop (i + Nat.min new.length (j - i)))))]
         else none
        else none
       | _ => none
      | .c (.row b ver) =>
       match bl b with
       | some (.row t0 e0 ver' l) =>
        bif Nat.beq ver ver' then
         if h : e0 = e then
          kk (.c (.int .i64 ((Nat.min new.length l.length : Nat) : Int))) (b :: rd) [(b, .row t0 e ver' (new.take l.length ++ (h ▸ l : List e.den).drop (Nat.min new.length l.length)))]
         else none
        else none
       | _ => none
      | _ => none
     else none
  | _, _ => none
def Qag (T : TypeId → Option TI) (bl : Nat → Option Blk) (t : TypeId) (x : V) (kk : K β) : Option β :=
 match T t with
 | none => none
 | some ti =>
  match ti.elem, ti.len with
  | some et, none =>
   match T et with
   | none => none
   | some te =>
    match te.ty with
    | none => none
    | some e =>
     bif Nat.beq e.size te.size && Nat.blt 0 te.size then
     match Q4s (fun _ => none) e te.zero with
     | none => none
     | some z =>
      match x with
      | .c (.sub b ver i j) =>
       match bl b with
       | some (.row t0 e0 ver' l) =>
        bif Nat.beq ver ver' then
         if h : e0 = e then kk (.tup []) [b] [(b, .row t0 e ver' ((h ▸ l : List e.den).take i ++ (List.replicate (j - i) z ++ (h ▸ l : List e.den).drop j)))]
         else none
        else none
       | _ => none
      | _ => none
     else none
  | _, _ => none
def Qec (T : TypeId → Option TI) (t : TypeId) (x : V) (kk : K β) : Option β :=
 match T t with
 | none => none
 | some ti =>
  match ti.elem, ti.len, x with
  | some _, none, .c .nils => kk (.c (.int .i64 0)) [] []
  | _, _, _ => none
def Q8g (T : TypeId → Option TI) (bl : Nat → Option Blk) (nx : Nat) (t : TypeId) (x y : V) (kk : K β) : Option β :=
 match T t with
 | none => none
 | some ti =>
  match ti.elem, ti.len with
  | some et, none =>
   match T et with
   | none => none
   | some te =>
    match te.ty with
    | none => none
    | some e =>
     bif Nat.beq e.size te.size && (Nat.blt 0 te.size && Nat.blt 0 te.bytes) then
     match Qaw bl e y with
     | none => none
     | some (new, rd) =>
      match x with
      | .c .nils =>
       match bl nx with
       | none => Qr (decide (new.length * te.bytes ≤ Q5)) (kk (.c (.row nx 0)) (nx :: rd) [(nx, .row et e 0 new)])
       | some _ => none
      | .c (.row b ver) =>
       match bl b with
       | some (.row t0 e0 ver' l) =>
        bif Nat.beq ver ver' && Nat.beq t0 et then
         if h : e0 = e then Qr (decide (((l.length + new.length) * te.bytes) ≤ Q5)) (kk (.c (.row b (ver + 1))) (b :: rd) [(b, .row t0 e (ver + 1) ((h ▸ l) ++ new))])
         else none
        else none
       | _ => none
      | .c (.mrow b iver i) =>
       match bl b, bl nx with
       | some (.mat t0 et0 e0 ver iver' none l), none =>
        bif Nat.beq iver iver' && Nat.beq et0 et then
         if h : e0 = e then Qr (decide ((((l.getD i []).length + new.length) * te.bytes) ≤ Q5)) (kk (.c (.row nx 0)) (nx :: b :: rd) [(b, .mat t0 et0 e0 ver (iver' + 1) (some i) l), (nx, .row et e 0 ((h ▸ l.getD i []) ++ new))])
         else none
        else none
       | _, _ => none
      | _ => none
     else none
  | _, _ => none
def Q56 (T : TypeId → Option TI) (bl : Nat → Option Blk) (nx : Nat) (t u : TypeId) (x y : V) (kk : K β) : Option β :=
 match T t, T u, ival y with
 | some ti, some tu, some (_, m) =>
  match x with
  | .c .nils =>
   match ti.elem, ti.len, tu.kind with
   | some et, none, some _ =>
    match T et with
    | none => none
    | some te =>
     match te.ty with
     | none => none
     | some e =>
      match Q4s (fun _ => none) e te.zero, bl nx with
      | some z, none =>
       bif Nat.beq e.size te.size && (Nat.blt 0 te.size && Nat.blt 0 te.bytes) then
        Qr (decide (0 ≤ m) && decide (m.toNat * te.bytes ≤ Q5)) (kk (.c (.row nx 0)) [nx] [(nx, .row et e 0 (List.replicate m.toNat z))])
       else none
      | _, _ => none
   | _, _, _ => none
  | _ => none
 | _, _, _ => none
def Q72 (T : TypeId → Option TI) (t : TypeId) : Bool :=
 match T t with
 | none => false
 | some ti =>
  match ti.elem, ti.len with
  | some et, none =>
   match T et with
   | none => false
   | some te =>
    match te.ty with
    | some (.slice _) => true
    | _ => false
  | _, _ => false
def Q5u (T : TypeId → Option TI) (bl : Nat → Option Blk) (nx : Nat) (t : TypeId) (x y : V) (kk : K β) : Option β :=
 match T t with
 | none => none
 | some ti =>
  match ti.elem, ti.len with
  | some et, none =>
   match T et with
   | none => none
   | some te =>
    bif Nat.beq 1 te.size && Nat.blt 0 te.bytes then
    match y with
    | .c (.mat b2 ver2) =>
     match bl b2 with
     | some (.mat t2 et2 e ver2' _ none new) =>
      bif Nat.beq ver2 ver2' && Nat.beq t2 et then
       match x with
       | .c .nils =>
        match bl nx with
        | none => Qr (decide (new.length * te.bytes ≤ Q5)) (kk (.c (.mat nx 0)) [nx, b2] [(b2, .dead), (nx, .mat et et2 e 0 0 none new)])
        | some _ => none
       | .c (.mat b ver) =>
        match bl b with
        | some (.mat t0 et0 e0 ver' iver none l) =>
         bif Nat.beq ver ver' && (Nat.beq t0 et && (Nat.beq et0 et2 && !Nat.beq b b2)) then
          if h : e0 = e then Qr (decide (((l.length + new.length) * te.bytes) ≤ Q5)) (kk (.c (.mat b (ver + 1))) [b, b2] [(b2, .dead), (b, .mat et et2 e (ver + 1) (iver + 1) none ((h ▸ l) ++ new))])
          else none
         else none
        | _ => none
       | _ => none
      else none
     | _ => none
    | _ => none
    else none
  | _, _ => none
def Q6t (T : TypeId → Option TI) (bl : Nat → Option Blk) (nx : Nat) (t : TypeId) (n : Nat) (parts : List (Nat × V)) (kk : K β) : Option β :=
 match parts with
 | [(0, .c (.row r rv))] =>
  match T t with
  | none => none
  | some ti =>
   match ti.elem, ti.len with
   | some et, none =>
    match T et with
    | none => none
    | some te =>
     match te.elem, te.len, bl r, bl nx with
     | some eet, none, some (.row et1 e rv' x), none =>
      bif Nat.beq n 1 && (Nat.beq te.size 1 && (Nat.beq rv rv' && Nat.beq et1 eet)) then kk (.c (.mat nx 0)) [r, nx] [(r, .dead), (nx, .mat et eet e 0 0 none [x])] else none
     | _, _, _, _ => none
   | _, _ => none
 | _ => none
def Q7o (T : TypeId → Option TI) (bl : Nat → Option Blk) (nx : Nat) (t : TypeId) (n c : V) (kk : K β) : Option β :=
 match T t, ival n, ival c with
 | some ti, some (_, i), some (_, j) =>
  match ti.elem, ti.len with
  | some et, none =>
   match T et with
   | none => none
   | some te =>
    match te.ty, te.elem, te.len, bl nx, te.zero with
    | some (.slice e), some eet, none, none, [.nils] =>
     bif Nat.beq te.size 1 then
      Qr (decide (0 ≤ i) && (decide (i = j) && (decide (i.toNat * te.bytes ≤ Q5) && decide (i ≤ 9223372036854775807)))) (kk (.c (.mat nx 0)) [nx] [(nx, .mat et eet e 0 0 none (List.replicate i.toNat []))])
     else none
    | _, _, _, _, _ => none
  | _, _ => none
 | _, _, _ => none
def Q41 (isMax : Bool) (k : IntKind) : Int → List V → Option V
 | a, [] => some (.c (.int k a))
 | a, .c (.int k' b) :: r => if k = k' then Q41 isMax k (bif isMax then (if b > a then b else a) else (if b < a then b else a)) r else none
 | _, _ :: _ => none
def Qax (isMax : Bool) : List V → Option V
 | .c (.int k a) :: r => Q41 isMax k a r
 | _ => none
def Q5a : List CT → List C → List (Nat × Nat)
 | .data τ :: l, cs => Q5a l (cs.drop τ.size)
 | .ptr b _ :: l, .ptr b' _ :: cs => (b, b') :: Q5a l cs
 | .rowh b :: l, .row b' _ :: cs => (b, b') :: Q5a l cs
 | .fn _ caps :: l, .fn _ caps' :: cs => caps.zip caps' ++ Q5a l cs
 | .maph b :: l, .mapv b' :: cs => (b, b') :: Q5a l cs
 | .math b :: l, .mat b' _ :: cs => (b, b') :: Q5a l cs
 | _ :: l, _ :: cs => Q5a l cs
 | _, _ => []
def Qay : List (Bool × List CT) → List V → List (Nat × Nat)
 | t :: ts, v :: vs =>
  match v.cells with
  | some cs => Q5a t.2 cs ++ Qay ts vs
  | none => Qay ts vs
 | _, _ => []
def Q8h (ps : List (Nat × Nat)) : Nat → Nat → Option (List Nat)
 | _, 0 => some []
 | j, n + 1 =>
  match look ps j, Q8h ps (j + 1) n with
  | some b, some r => some (b :: r)
  | _, _ => none
def memB (x : Nat) : List Nat → Bool
 | [] => false
 | y :: r => Nat.beq x y || memB x r
def Q8i : List Nat → Bool
 | [] => true
 | x :: r => !memB x r && Q8i r
def Qf (bl : Nat → Option Blk) (ids : List Nat) : (l : List CT) → List C → Option (CT.dens l)
 | [], [] => some ()
 | .data τ :: l, cs =>
  match pack bl τ cs with
  | none => none
  | some (x, r) =>
   match Qf bl ids l r with
   | none => none
   | some y => some (x, y)
 | .ptr b o :: l, .ptr b' o' :: cs =>
  match ids[b]? with
  | some i => bif Nat.beq i b' && Nat.beq o o' then Qf bl ids l cs else none
  | none => none
 | .rowh b :: l, .row b' ver :: cs =>
  match ids[b]? with
  | some i =>
   bif Nat.beq i b' then
    match bl b' with
    | some (.row _ _ ver' _) => bif Nat.beq ver ver' then Qf bl ids l cs else none
    | _ => none
   else none
  | none => none
 | .rowh b :: l, .nils :: cs =>
  match ids[b]? with
  | some i =>
   match bl i with
   | none => Qf bl ids l cs
   | some _ => none
  | none => none
 | .fn f caps :: l, .fn f' caps' :: cs => bif Nat.beq f f' && decide (caps.map (ids[·]?) = caps'.map some) then Qf bl ids l cs else none
 | .maph b :: l, .mapv b' :: cs =>
  match ids[b]? with
  | some i => bif Nat.beq i b' then Qf bl ids l cs else none
  | none => none
 | .math b :: l, .mat b' ver :: cs =>
  match ids[b]? with
  | some i =>
   bif Nat.beq i b' then
    match bl b' with
    | some (.mat _ _ _ ver' _ none _) => bif Nat.beq ver ver' then Qf bl ids l cs else none
    | _ => none
   else none
  | none => none
 | .math b :: l, .nils :: cs =>
  match ids[b]? with
  | some i =>
   match bl i with
   | none => Qf bl ids l cs
   | some _ => none
  | none => none
 | .bself b :: l, .bself b' :: cs =>
  match ids[b]? with
  | some i => bif Nat.beq i b' then Qf bl ids l cs else none
  | none => none
 | .bself _ :: l, .nilp :: cs => Qf bl ids l cs
 | .junk :: l, _ :: cs => Qf bl ids l cs
 | .nils :: l, .nils :: cs => Qf bl ids l cs
 | _, _ => none
def Q31 (bl : Nat → Option Blk) (ids : List Nat) : (l : List (Bool × List CT)) → List V → Option (ST.dens l)
 | [], [] => some ()
 | t :: l, v :: vs =>
  match v, t.1 with
  | .c x, false =>
   match Qf bl ids t.2 [x] with
   | none => none
   | some y =>
    match Q31 bl ids l vs with
    | none => none
    | some z => some (y, z)
  | .agg cs, true =>
   match Qf bl ids t.2 cs with
   | none => none
   | some y =>
    match Q31 bl ids l vs with
    | none => none
    | some z => some (y, z)
  | _, _ => none
 | _, _ => none
def Q2m (bl : Nat → Option Blk) (ids : List Nat) : (l : List BT) → List Nat → Option (BT.dens l)
 | [], [] => some ()
 | .cells t l :: r, i :: is =>
  match bl i with
  | some (.cells t' cs) =>
   bif Nat.beq t t' then
    match Qf bl ids l cs with
    | none => none
    | some y =>
     match Q2m bl ids r is with
     | none => none
     | some z => some (y, z)
   else none
  | _ => none
 | _, _ => none
def mkC (ids : List Nat) : (l : List CT) → CT.dens l → List C
 | [], _ => []
 | .data τ :: l, x => cells τ x.1 ++ mkC ids l x.2
 | .ptr b o :: l, x => .ptr (ids.getD b 0) o :: mkC ids l x
 | .rowh b :: l, x => .row (ids.getD b 0) 0 :: mkC ids l x
 | .fn f caps :: l, x => .fn f (caps.map fun b => ids.getD b 0) :: mkC ids l x
 | .maph b :: l, x => .mapv (ids.getD b 0) :: mkC ids l x
 | .math b :: l, x => .mat (ids.getD b 0) 0 :: mkC ids l x
 | .bself b :: l, x => .bself (ids.getD b 0) :: mkC ids l x
 | .nilc :: l, x => .nilc :: mkC ids l x
 | .nils :: l, x => .nils :: mkC ids l x
 | .lsome e :: l, x => .lsome e x.1 :: mkC ids l x.2
 | .junk :: l, x => .junk :: mkC ids l x
def mkS (ids : List Nat) : (l : List (Bool × List CT)) → ST.dens l → List (Bool × List C)
 | [], _ => []
 | t :: l, x => (t.1, mkC ids t.2 x.1) :: mkS ids l x.2
def mkB (ids : List Nat) : (l : List BT) → BT.dens l → List Blk
 | [], _ => []
 | .cells t l :: r, x => .cells t (mkC ids l x.1) :: mkB ids r x.2
 | .row t e :: r, x => .row t e 0 x.1 :: mkB ids r x.2
 | .map t k v vg :: r, x => .map t k v vg x.1 :: mkB ids r x.2
 | .mat t et e :: r, x => .mat t et e 0 0 none x.1 :: mkB ids r x.2
def resV : List (Bool × List C) → V
 | [t] => V.mk t.1 t.2
 | ts => .tup ts
def CT.flat : List CT → Bool
 | [] => true
 | .data τ :: r => τ.flat && CT.flat r
 | .lsome _ :: _ => false
 | _ :: r => CT.flat r
def ST.flat : List (Bool × List CT) → Bool
 | [] => true
 | t :: r => CT.flat t.2 && ST.flat r
def BT.flat : List BT → Bool
 | [] => true
 | .cells _ l :: r => CT.flat l && BT.flat r
 | .row _ e :: r => e.flat && BT.flat r
 | .map _ k v _ :: r => k.flat && (v.flat && BT.flat r)
 | .mat _ _ e :: r => e.flat && BT.flat r
def Qj : List V → List Nat
 | [] => []
 | v :: vs =>
  match v.cells with
  | some cs => Qg cs ++ Qj vs
  | none => Qj vs
def Q7 : Nat → Nat → List Nat
 | _, 0 => []
 | i, n + 1 => i :: Q7 (i + 1) n
def Q9e (bl : Nat → Option Blk) : List Nat → Bool
 | [] => true
 | i :: r =>
  match bl i with
  | none => Q9e bl r
  | some _ => false
def Q24 (bl : Nat → Option Blk) : List Nat → List Nat
 | [] => []
 | i :: r =>
  match bl i with
  | some (.cells _ cs) => Qg cs ++ Q24 bl r
  | _ => Q24 bl r
def CT.bnd (m : Nat) : List CT → Bool
 | [] => true
 | .ptr b _ :: r | .rowh b :: r | .maph b :: r | .math b :: r | .bself b :: r => Nat.blt b m && CT.bnd m r
 | .fn _ caps :: r => caps.all (fun b => Nat.blt b m) && CT.bnd m r
 | .data _ :: r | .nilc :: r | .nils :: r | .lsome _ :: r | .junk :: r => CT.bnd m r
def ST.bnd (m : Nat) : List (Bool × List CT) → Bool
 | [] => true
 | t :: r => CT.bnd m t.2 && ST.bnd m r
def BT.bnd (m : Nat) : List BT → Bool
 | [] => true
 | .cells _ l :: r => CT.bnd m l && BT.bnd m r
 | .row _ _ :: r => BT.bnd m r
 | .map _ _ _ _ :: r => BT.bnd m r
 | .mat _ _ _ :: r => BT.bnd m r
def Q5l (S : Spec) (bl : Nat → Option Blk) (rds : List Nat) : List (Nat × Blk) :=
 bif ST.flat S.res && BT.flat S.outs then [] else
  rds.filterMap fun b =>
   match bl b with
   | some (.row _ _ _ _) => some (b, .dead)
   | _ => none
def Qed (S : Spec) (bl : Nat → Option Blk) (ids new : List Nat) : Bool :=
 Q8i ids && ((Q9e bl new && (Nat.ble S.ins.length S.outs.length && (ST.bnd S.outs.length S.res && BT.bnd S.outs.length S.outs))))
def Qc7 (F : RowF) (args : List V) : Option (Nat × Nat) :=
 match args, F.fn with
 | [.c (.row b ver)], none => some (b, ver)
 | [.c (.row b ver), .c (.fn g [])], some g' => bif Nat.beq g g' then some (b, ver) else none
 | _, _ => none
def Qee (F : RowF) (bl : Nat → Option Blk) (args : List V) (kk : K β) : Option β :=
 match Qc7 F args with
 | some (b, ver) =>
  match bl b with
  | some (.row t e ver' l) =>
   bif Nat.beq ver ver' && Nat.beq t F.t then
    if h : e = F.e then
     Qr (F.dom (h ▸ l))
      (bif F.cut then kk (.c (.row b (ver + 1))) [b] [(b, .row t F.e (ver + 1) (F.run (h ▸ l)))] else kk (.tup []) [b] [(b, .row t F.e ver (F.run (h ▸ l)))])
    else none
   else none
  | _ => none
 | none => none
def Q9f (l : List Int) : List UInt8 := l.map fun n => UInt8.ofNat n.toNat
def Q1y (s : List UInt8) : List Int := s.map fun b => (b.toNat : Int)
def Qgw (l : List Int) : Bool := l.all fun n => decide (0 ≤ n) && decide (n ≤ 255)
def Q73 : C → Nat → Bool
 | .nilp, _ => true
 | .bself b, i => Nat.beq b i
 | _, _ => false
def Qaz (F : BldF) (bl : Nat → Option Blk) (i : Nat) : Option (Option (Nat × Nat) × List Int) :=
 match bl i with
 | some (.cells t [p, q]) =>
  bif Nat.beq t F.t && Q73 p i then
   match q with
   | .nils => some (none, [])
   | .row j ver =>
    match bl j with
    | some (.row te (.int .u8) ver' l) => bif Nat.beq te F.te && Nat.beq ver ver' then some (some (j, ver), l) else none
    | _ => none
   | _ => none
  else none
 | _ => none
def Qiu (bl : Nat → Option Blk) (i : Nat) : Bool :=
 match bl i with
 | none => true
 | some _ => false
def wrote (s : List UInt8) : V := .tup [(false, [.int .i64 (s.length : Int)]), (false, [.err true])]
def Qef (F : BldF) (bl : Nat → Option Blk) (nx : Nat) (args : List V) (kk : K β) : Option β :=
 match F.op, args with
 | 0, [.c (.ptr i 0), .c (.str s)] =>
  match Qaz F bl i with
  | some (none, _) =>
   Qr (Qiu bl nx) (Qr (decide (s.length ≤ 140737488355328)) (kk (wrote s) [i, nx] [(nx, .row F.te (.int .u8) 0 (Q1y s)), (i, .cells F.t [.bself i, .row nx 0])]))
  | some (some (j, ver), l) =>
   Qr (decide (l.length + s.length ≤ 140737488355328)) (kk (wrote s) [i, j] [(j, .row F.te (.int .u8) (ver + 1) (l ++ Q1y s)), (i, .cells F.t [.bself i, .row j (ver + 1)])])
  | none => none
 | 1, [.c (.ptr i 0)] =>
  match Qaz F bl i with
  | some (none, _) => kk (.c (.str [])) [i] []
  | some (some (j, _), l) => Qr (Qgw l) (kk (.c (.str (Q9f l))) [i, j] [(j, .dead)])
  | none => none
 | 2, [.c (.ptr i 0)] =>
  match Qaz F bl i with
  | some (none, _) => kk (.c (.int .i64 0)) [i] []
  | some (some (j, _), l) => kk (.c (.int .i64 (l.length : Int))) [i, j] []
  | none => none
 | 3, [.c .nils, .c (.str _)] => kk (.c (.str [])) [] []
 | 3, [.c (.row j ver), .c (.str sep)] =>
  match bl j with
  | some (.row t .str ver' l) =>
   bif Nat.beq t F.t && Nat.beq ver ver' then
    Qr (decide (l.length ≤ 140737488355328) && decide ((Lib.join l sep).length ≤ 140737488355328)) (kk (.c (.str (Lib.join l sep))) [j] [])
   else none
  | _ => none
 | _, _ => none
def Q4t (bl : Nat → Option Blk) : Nat → Option Blk := fun i =>
 match bl i with
 | some (.mat _ _ _ _ _ _ _) => none
 | B => B
def Q9g (bl : Nat → Option Blk) : V → V
 | .arr b o e n =>
  match bl b with
  | some (.cells _ cs) =>
   match sub cs o (n * e.size) with
   | some ds =>
    match Q3k (fun _ => none) e n ds with
    | some l => bif Nat.ble n 4096 && Nat.blt 0 e.size then .c (.list e l) else .junk
    | none => .junk
   | none => .junk
  | _ => .junk
 | v => v
def Q42 : List V → List Nat
 | [] => []
 | .arr b _ _ _ :: r => b :: Q42 r
 | _ :: r => Q42 r
def Q8j (S : Spec) (ids : List Nat) : List Nat → Bool
 | [] => true
 | b :: r => (ST.flat S.res && BT.flat S.outs) && (!memB b ids && Q8j S ids r)
def Q6f : List CT → List C → List C
 | .junk :: l, _ :: cs => .junk :: Q6f l cs
 | .data τ :: l, cs => cs.take τ.size ++ Q6f l (cs.drop τ.size)
 | _ :: l, c :: cs => c :: Q6f l cs
 | _, cs => cs
def Qom : List CT → V → V
 | l, .agg cs => .agg (Q6f l cs)
 | _, v => v
def Q8k : List (Bool × List CT) → List V → List V
 | t :: ts, v :: vs => Qom t.2 v :: Q8k ts vs
 | _, vs => vs
def Q74 (S : Spec) (bl : Nat → Option Blk) (args : List V) : List V := Q8k S.params (args.map (Q9g bl))
def Q9h (X : Ctx) (bl : Nat → Option Blk) (nx : Nat) (f : FuncId) (args : List V) (kk : K β) : Option β :=
 match X.Γ f with
 | none => none
 | some (.rows F) => Qee F bl args kk
 | some (.bld F) => Qef F bl nx args kk
 | some (.spec S) =>
  match Q8h (Qay S.params (Q74 S bl args)) 0 S.ins.length with
  | none => none
  | some ids =>
   match Q31 (Q4t bl) ids S.params (Q74 S bl args), Q2m (Q4t bl) ids S.ins ids with
   | some x, some y =>
    bif Qed S bl ids (Q7 nx (S.outs.length - S.ins.length)) && Q8j S ids (Q42 args) then
     S.run (x, y) fun z =>
      kk (resV (mkS (ids ++ Q7 nx (S.outs.length - S.ins.length)) S.res z.1)) (ids ++ ((Qj (Q74 S bl args) ++ Q24 bl ids) ++ (Q7 nx (S.outs.length - S.ins.length) ++ Q42 args)))
       (Q5l S bl (Qj (Q74 S bl args) ++ Q24 bl ids) ++ (ids ++ Q7 nx (S.outs.length - S.ins.length)).zip (mkB (ids ++ Q7 nx (S.outs.length - S.ins.length)) S.outs z.2))
    else none
   | _, _ => none
def frzC (bl : Nat → Option Blk) : C → C
 | .row b ver =>
  match bl b with
  | some (.row _ e ver' l) => bif Nat.beq ver ver' then .list e l else .row b ver
  | _ => .row b ver
 | .sub b ver i j =>
  match bl b with
  | some (.row _ e ver' l) => bif Nat.beq ver ver' then .list e ((l.take j).drop i) else .sub b ver i j
  | _ => .sub b ver i j
 | c => c
def frzV (bl : Nat → Option Blk) : V → V
 | .c x => .c (frzC bl x)
 | .agg cs => .agg (cs.map (frzC bl))
 | v => v
def Qi (bl : Nat → Option Blk) : List Nat → List (Nat × Blk)
 | [] => []
 | b :: r =>
  match bl b with
  | some (.row _ _ _ _) => (b, .dead) :: Qi bl r
  | _ => Qi bl r
def Q9i (bl : Nat → Option Blk) : List (Nat × Blk) → Nat → Option Blk
 | [], i => bl i
 | (j, x) :: r, i => Q9i (fun k => bif Nat.beq k j then some x else bl k) r i
def Q43 (bl : Nat → Option Blk) (rds : List Nat) (run : (Nat → Option Blk) → K β → Option β) (kk : K β) : Option β :=
 run (Q9i bl (Qi bl rds)) fun v rd wr => kk v (rds ++ rd) (Qi bl rds ++ wr)
def Qah (T : TypeId → Option TI) (bl : Nat → Option Blk) (si ti : TI) (y : V) (kk : K β) : Option β :=
 match si.elem, si.len with
 | some et, none =>
  match T et with
  | none => none
  | some te =>
   match te.kind with
   | some .u8 =>
    bif ti.isStr then
     match Qaw bl (.int .u8) y with
     | some (l, rd) => kk (.c (.str (Q9f l))) rd []
     | none => none
    else none
   | _ => none
 | _, _ => none
def Qeg (ρ : Operand → V) : Callee → Option (FuncId × List V)
 | .value x =>
  match ρ x with
  | .c (.fn f caps) => some (f, caps.map fun b => .c (.ptr b 0))
  | _ => none
 | _ => none
def Q4i (bl : Nat → Option Blk) (nx : Nat) (t : TypeId) (cs : List C) (kk : K β) : Option β :=
 match bl nx with
 | none => kk (.c (.ptr nx 0)) [nx] [(nx, .cells t cs)]
 | some _ => none
def Q57 (T : TypeId → Option TI) (bl : Nat → Option Blk) (nx : Nat) (t : TypeId) (n : Nat) (parts : List (Nat × V)) (kk : K β) : Option β :=
 match T t with
 | none => none
 | some ti =>
  match ti.elem, ti.len with
  | some et, none =>
   match T et with
   | none => none
   | some te =>
    match te.ty with
    | none => none
    | some e =>
     bif Nat.beq e.size te.size && (Nat.ble (n * te.size) 16777216 && Nat.blt 0 te.size) then
      match Q1q { te with elem := some et, len := some n } T parts with
      | none => none
      | some ps =>
       match Q6e (repC n te.zero) ps with
       | none => none
       | some cs =>
        match Q3k (fun _ => none) e n cs, bl nx with
        | some l, none => kk (.c (.row nx 0)) [nx] [(nx, .row et e 0 l)]
        | _, _ => none
     else none
  | _, _ => none
def Qc8 (T : TypeId → Option TI) (bl : Nat → Option Blk) (nx : Nat) (t : TypeId) (n c : V) (kk : K β) : Option β :=
 match T t, ival n, ival c with
 | some ti, some (_, i), some (_, j) =>
  match ti.elem, ti.len with
  | some et, none =>
   match T et with
   | none => none
   | some te =>
    match te.ty with
    | none => none
    | some e =>
     match Q4s (fun _ => none) e te.zero, bl nx with
     | some z, none =>
      bif Nat.beq e.size te.size && Nat.blt 0 te.size then
       Qr (decide (0 ≤ i) && (decide (i = j) && (decide (i.toNat * te.bytes ≤ Q5) && decide (i ≤ 9223372036854775807)))) (kk (.c (.row nx 0)) [nx] [(nx, .row et e 0 (List.replicate i.toNat z))])
      else none
     | _, _ => none
  | _, _ => none
 | _, _, _ => none
def Q75 : List V → Option (List Nat)
 | [] => some []
 | .c (.ptr b 0) :: r =>
  match Q75 r with
  | some l => some (b :: l)
  | none => none
 | _ :: _ => none
def Qm6 (bl : Nat → Option Blk) : V → Bool
 | .c (.row b _) =>
  match bl b with
  | some (.row _ e _ _) => e.flat
  | _ => true
 | _ => true
def Qiv : V → Bool
 | .c (.sub _ _ _ _) => true
 | _ => false
def Qgx : V → Bool
 | .agg _ => true
 | _ => false
def Q4u (bl : Nat → Option Blk) : Nat → List Nat → List C → List C
 | _, _, [] => []
 | i, ps, c :: cs => (bif memB i ps then frzC bl c else c) :: Q4u bl (i + 1) ps cs
def Qz : Nat → List Nat → List C → List Nat
 | _, _, [] => []
 | i, ps, c :: cs => bif memB i ps then Qg [c] ++ Qz (i + 1) ps cs else Qz (i + 1) ps cs
def Q7p (T : TypeId → Option TI) (bl : Nat → Option Blk) (t : TypeId) (ps : List Nat) (p : V) (kk : K β) : Option β :=
 match p with
 | .c (.ptr b o) =>
  match bl b with
  | some (.cells t0 cs) =>
   Q71 T (Q9i (Q9i bl (Qi bl (Qz 0 ps cs))) [(b, .cells t0 (Q4u bl 0 ps cs))]) t (.c (.ptr b o)) fun v rd wr =>
    kk v (Qz 0 ps cs ++ (b :: rd)) (Qi bl (Qz 0 ps cs) ++ ((b, .cells t0 (Q4u bl 0 ps cs)) :: wr))
  | _ => none
 | _ => Q71 T bl t p kk
def Qe4 (X : Ctx) (o : Oper) (ρ : Operand → V) (bl : Nat → Option Blk) (nx : Nat) (kk : K β) : Option β :=
 match o.op with
 | .move x => bif X.S && Qiv (ρ x) then Q43 bl (Qj [ρ x]) (fun _ kk' => kk' (frzV bl (ρ x)) [] []) kk else kk (ρ x) [] []
 | .assign x => bif X.D && Qm6 bl (ρ x) then Q43 bl (Qj [ρ x]) (fun _ kk' => kk' (frzV bl (ρ x)) [] []) kk else kk (ρ x) [] []
 | .pick c a b =>
  match ρ c with
  | .c (.bool g) => cond g (kk (ρ a) [] []) (kk (ρ b) [] [])
  | _ => none
 | .alloc t =>
  match X.T t with
  | some ti => Q4i bl nx t ti.zero kk
  | none => none
 | .box t x =>
  match (ρ x).cells with
  | some cs => Q4i bl nx t cs kk
  | none => none
 | .build t parts =>
  match X.T t with
  | some ti =>
   bif ti.agg then
    match Q1q ti X.T (parts.toList.map fun p => (p.1, ρ p.2)) with
    | some ps =>
     match Q6e ti.zero ps with
     | some cs => kk (.agg cs) [] []
     | none => none
    | none => none
   else none
  | none => none
 | .buildSlice t n parts => bif X.M && Q72 X.T t then Q6t X.T bl nx t n (parts.toList.map fun p => (p.1, ρ p.2)) kk else Q43 bl (Qj (parts.toList.map fun p => ρ p.2)) (fun bl' kk' => Q57 X.T bl' nx t n (parts.toList.map fun p => (p.1, frzV bl (ρ p.2))) kk') kk
 | .load t a =>
  match look X.L t with
  | some ps => Q7p X.T bl t ps (ρ a) kk
  | none => Q71 X.T bl t (ρ a) kk
 | .store t a x =>
  match ρ a with
  | .eptr _ _ _ _ => Q43 bl (Qj [ρ a, ρ x]) (fun bl' kk' => Q5q X.T bl' t (frzV bl (ρ a)) (frzV bl (ρ x)) kk') kk
  | _ => bif X.D && Qgx (ρ x) then Q43 bl (Qj [ρ a, ρ x]) (fun bl' kk' => Q5q X.T bl' t (frzV bl (ρ a)) (frzV bl (ρ x)) kk') kk else Q5q X.T bl t (ρ a) (ρ x) kk
 | .nilCheck x =>
  match ρ x with
  | .c (.ptr b o) => kk (.c (.ptr b o)) [] []
  | .eptr b ver i o => kk (.eptr b ver i o) [] []
  | .lptr e x o => kk (.lptr e x o) [] []
  | .mcell b ver i => kk (.mcell b ver i) [] []
  | .mptr b iver i j o => kk (.mptr b iver i j o) [] []
  | .c (.fn f caps) => kk (.c (.fn f caps)) [] []
  | _ => none
 | .binOp op t x y _ => Qc5 X.T op t (ρ x) (ρ y) y kk
 | .unOp op _ x =>
  match op, ρ x with
  | .not, .c (.bool b) => kk (.c (.bool (!b))) [] []
  | .neg, .c (.int k n) => kk (.c (.int k (k.wrap (0 - n)))) [] []
  | _, _ => none
 | .convert s t x =>
  match X.T s, X.T t, ρ x with
  | some _, some ti, .c (.int _ n) =>
   match ti.kind with
   | some k => kk (.c (.int k (k.wrap n))) [] []
   | none => none
  | some _, some ti, .c (.str s) => bif ti.isStr then kk (.c (.str s)) [] [] else none
  | some si, some ti, y => Qah X.T bl si ti y kk
  | _, _, _ => none
 | .makeFunc (.func f) first caps =>
  match first.toList with
  | [] =>
   match Q75 (caps.toList.map ρ) with
   | some bs => kk (.c (.fn f bs)) [] []
   | none => none
  | _ :: _ => none
 | .makeSlice t n c => bif X.M && Q72 X.T t then Q7o X.T bl nx t (ρ n) (ρ c) kk else Qc8 X.T bl nx t (ρ n) (ρ c) kk
 | .makeMap t none => Q7n X.T bl nx t kk
 | .lookup t x i commaOk => Q8d X.T bl t (ρ x) (ρ i) commaOk kk
 | .mapUpdate t m i v => Q43 bl (Qj [ρ m, ρ i, ρ v]) (fun bl' kk' => Q8f X.T bl' t (frzV bl (ρ m)) (frzV bl (ρ i)) (frzV bl (ρ v)) kk') kk
 | .slice t x none hi none => bif X.R && Qav (ρ x) then Qea X.T bl t (ρ x) (hi.map ρ) kk else Q5t X.T bl t (ρ x) none (hi.map ρ) kk
 | .slice t x lo hi none => bif X.S && Qav (ρ x) then Q43 bl (Qj ((x :: (lo.toList ++ hi.toList)).map ρ)) (fun bl' kk' => Q5t X.T bl' t (frzV bl (ρ x)) (lo.map fun y => frzV bl (ρ y)) (hi.map fun y => frzV bl (ρ y)) kk') kk else Q5t X.T bl t (ρ x) (lo.map ρ) (hi.map ρ) kk
 | .fieldAddr t x f => Q5r X.T t (ρ x) f kk
 | .field t x f =>
  match X.T t, ρ x with
  | some ti, .agg cs =>
   match ti.flds[f]? with
   | some (o, n, g) =>
    bif g || Nat.beq n 1 then
     match sub cs o n with
     | some r => kk (V.mk g r) [] []
     | none => none
    else none
   | none => none
  | _, _ => none
 | .indexAddr t x i => Q5s X.T bl t (ρ x) (ρ i) kk
 | .index t x i =>
  match X.T t, ρ x, ival (ρ i) with
  | some ti, .c (.str s), some (_, i) => bif ti.isStr then Qr (decide (0 ≤ i) && decide (i < (s.length : Int))) (kk (.c (.int .u8 ((s.getD i.toNat 0).toNat : Int))) [] []) else none
  | some ti, .agg cs, some (_, i) => Q6s X.T ti cs i kk
  | _, _, _ => none
 | .extract x i =>
  match ρ x with
  | .tup ts =>
   match ts[i]? with
   | some t => kk (V.mk t.1 t.2) [] []
   | none => none
  | _ => none
 | .call c =>
  match c.callee with
  | .builtin .len =>
   match c.args.toList.map ρ, c.argTypes.toList with
   | [x], [t] => Qeb X.T bl t x kk
   | _, _ => none
  | .builtin .min =>
   match Qax false (c.args.toList.map ρ) with
   | some v => kk v [] []
   | none => none
  | .builtin .max =>
   match Qax true (c.args.toList.map ρ) with
   | some v => kk v [] []
   | none => none
  | .builtin .append =>
   match c.args.toList.map ρ, c.argTypes.toList with
   | [x, y], [t, t'] => bif Nat.beq t t' then (bif X.M && Q72 X.T t then Q5u X.T bl nx t x y kk else Q8g X.T bl nx t x y kk) else Q56 X.T bl nx t t' x y kk
   | _, _ => none
  | .builtin .clear =>
   match c.args.toList.map ρ, c.argTypes.toList with
   | [x], [t] => Qag X.T bl t x kk
   | _, _ => none
  | .builtin .cap =>
   match c.args.toList.map ρ, c.argTypes.toList with
   | [x], [t] => Qec X.T t x kk
   | _, _ => none
  | .builtin .copy =>
   match c.args.toList.map ρ, c.argTypes.toList with
   | [x, y], [t, t'] => bif Nat.beq t t' then Qc6 X.T bl t x y kk else none
   | _, _ => none
  | .builtin _ => none
  | callee =>
   match Qeg ρ callee with
   | some (f, caps) => Q9h X bl nx f (c.args.toList.map ρ ++ caps) kk
   | none => none
 | _ => none
structure LogE where
 i : Nat
 dst : Option Nat
 v : V
 tin : List Nat
 rd : List Nat
 wr : List (Nat × Blk)
structure St where
 tm : List (Nat × V)
 bl : List (Nat × Blk)
 nx : Nat
def Qb0 (tm : List (Nat × V)) : Operand → V
 | .tmp t =>
  match look tm t with
  | some v => v
  | none => .junk
 | .const v => V.ofValue v
 | .global _ => .junk
 | .func f => .c (.fn f [])
def Q2v : List Operand → List Nat
 | [] => []
 | .tmp t :: r => t :: Q2v r
 | _ :: r => Q2v r
def Q3o (ops : Array Oper) (o : Oper) : Option (Nat × Bool) :=
 match o.guard with
 | none => none
 | some (j, want) => ((ops[j]?).bind (·.dst)).map fun t => (t, want)
def putD (tm : List (Nat × V)) (dst : Option Nat) (v : V) : List (Nat × V) :=
 match dst with
 | some d => put tm d v
 | none => tm
def Qeh : Nat → List (Nat × Blk) → Nat
 | nx, [] => nx
 | nx, (i, _) :: r => Qeh (bif Nat.ble nx i then i + 1 else nx) r
def Qb1 (n : Nat) : Option Nat → Bool
 | none => true
 | some d => Nat.blt d n
def Q44 (X : Ctx) (n : Nat) (all : Array Oper) : List (Nat × Oper) → St → List LogE → (St → List LogE → Option β) → Option β
 | [], σ, log, k => k σ log
 | (i, o) :: rest, σ, log, k =>
  let tin := Q2v o.op.operands.toList
  let go (σ : St) (tin : List Nat) : Option β :=
   Qe4 X o (Qb0 σ.tm) (look σ.bl) σ.nx fun v rd wr =>
    Q44 X n all rest ⟨putD σ.tm o.dst v, puts σ.bl wr, Qeh σ.nx wr⟩ (⟨i, o.dst, v, tin, rd, wr⟩ :: log) k
  bif Qb1 n o.dst then
   match o.guard with
   | none => go σ tin
   | some _ =>
    match Q3o all o with
    | none => none
    | some (t, want) =>
     match look σ.tm t with
     | some (.tup []) => Q44 X n all rest ⟨putD σ.tm o.dst (.tup []), σ.bl, σ.nx⟩ (⟨i, o.dst, .tup [], [t], [], []⟩ :: log) k
     | some (.c (.bool g)) =>
      let skip : Option β := Q44 X n all rest ⟨putD (put σ.tm t (.c (.bool (!want)))) o.dst (.tup []), σ.bl, σ.nx⟩ (⟨i, o.dst, .tup [], [t], [], []⟩ :: log) k
      let take : Option β := go { σ with tm := put σ.tm t (.c (.bool want)) } (t :: tin)
      match want with
      | true => cond g take skip
      | false => cond g skip take
     | _ => none
  else none
def Q2w (ms : List Nat) : List Edge → Nat
 | [] => 0
 | e :: r => (bif Region.binds .any e then Nat.lor (Nat.shiftLeft 1 e.on) (ms.getD e.on 0) else 0) |> Nat.lor (Q2w ms r)
def Q2n : List Oper → List Nat → List Nat
 | [], acc => acc
 | o :: r, acc => Q2n r (acc ++ [Q2w acc o.after.toList])
def Q34 : List (Nat × Oper) → Bool
 | [] => true
 | (i, o) :: r => o.after.toList.all (fun e => !Region.binds .any e || Nat.blt e.on i) && Q34 r
def meet (a b : List Nat) : Bool :=
 match a with
 | [] => false
 | x :: r => memB x b || meet r b
def wids : List (Nat × Blk) → List Nat
 | [] => []
 | (i, _) :: r => i :: wids r
def Q9j (x y : LogE) : Bool :=
 (match x.dst with
  | some d => memB d y.tin || (match y.dst with | some d' => Nat.beq d d' | none => false)
  | none => false) ||
 (match y.dst with
  | some d => memB d x.tin
  | none => false) ||
 meet (wids x.wr) (y.rd ++ wids y.wr) || meet (wids y.wr) x.rd
def Qe5 (m : Nat) (y : LogE) : List LogE → Bool
 | [] => true
 | x :: r => (!Q9j x y || Nat.testBit m x.i) && Qe5 m y r
def fine (ms : List Nat) : List LogE → Bool
 | [] => true
 | y :: r => Qe5 (ms.getD y.i 0) y r && fine ms r
inductive AExit where
 | normal
 | exit (id : Nat)
 | ret
abbrev Kx (β : Type) := AExit → St → Option β
structure Cut where
 run : {β : Type} → St → (AExit → St → Option β) → Option β
def Q1w : Nat → List Oper → List (Nat × Oper)
 | _, [] => []
 | i, o :: r => (i, o) :: Q1w (i + 1) r
def exec (X : Ctx) (n : Nat) (Λ : Nat → Option Cut) (p : Nat) (c : Code) (σ : St) (k : Kx β) : Option β :=
 match Λ p with
 | some cut => cut.run σ k
 | none =>
  match c with
  | .skip => k .normal σ
  | .region _ ops draw =>
   let l := Q1w 0 ops.toList
   Q44 X n ops l σ [] fun σ' log =>
    bif !draw || (Q34 l && fine (Q2n ops.toList []) log) then k .normal σ' else none
  | .seq a b =>
   exec X n Λ (2 * p) a σ fun e σ' =>
    match e with
    | .normal => exec X n Λ (2 * p + 1) b σ' k
    | e => k e σ'
  | .cond x a b =>
   match Qb0 σ.tm x with
   | .c (.bool g) => cond g (exec X n Λ (2 * p) a σ k) (exec X n Λ (2 * p + 1) b σ k)
   | _ => none
  | .block id a =>
   exec X n Λ (2 * p) a σ fun e σ' =>
    match e with
    | .exit id' => bif Nat.beq id' id then k .normal σ' else k (.exit id') σ'
    | e => k e σ'
  | .exit id => k (.exit id) σ
  | .ret => k .ret σ
  | _ => none
end
end Go.Lift
namespace Go.Lift
open Go.RowKit
def Blk.live : Blk → Bool
 | .dead => false
 | _ => true
def Own (pl : Nat → Option Pl) (bl : Nat → Option Blk) (g : Nat) : Prop :=
 ∃ i B p, bl i = some B ∧ B.live = true ∧ pl i = some p ∧ p.has g
structure OK0 (P : Program) where
 f : Nat → Prop
instance {P : Program} : CoeFun (OK0 P) (fun _ => Nat → Prop) := ⟨OK0.f⟩
def knownTabs : List (String × IntKind × List Int) := [("internal/strconv.uint64pow10", .u64, Lib.pow10Tab), ("strings.asciiSpace", .u8, Lib.asciiSpaceTab)]
def knownErrs : List String := ["strconv.ErrSyntax", "strconv.ErrRange"]
def Qc9 (w : World) (b o : Nat) (vs : List Value) : Prop := ∀ i v, vs[i]? = some v → w.cell? ⟨b, o + i, none⟩ = some v
def Qmm (g : Nat) (w : World) : Prop :=
 ∃ T oT R oR, Qc9 w g 0 [.pointer (some ⟨T, oT, none⟩)] ∧ Qc9 w T oT [.slice (some ⟨R, oR, none⟩) 7 7, .slice none 0 0, .int .i64 2] ∧ Qc9 w R oR (Lib.whiteT.map fun z : Nat => Value.int .u16 (z : Int))
structure Opened (P : Program) (w : World) : Prop where
 open_ : w.ShapedOpen P
 tabs : ∀ x ∈ knownTabs, (P.globalNamed x.1).isSome = true → Lib.TabIs P w x.1 x.2.1 x.2.2
 errs : ∀ n ∈ knownErrs, (P.globalNamed n).isSome = true → ∃ t u, w.var? P n = some #[.iface t u]
 white : ∀ g, P.globalNamed "unicode.White_Space" = some g → Qmm g w
def Glob (P : Program) (pl : Nat → Option Pl) (bl : Nat → Option Blk) (w : World) : Prop :=
 ∃ w0 : World, Opened P w0 ∧ w0.heap.size ≤ w.heap.size ∧ ∀ g, g < w0.heap.size → w.heap[g]? = w0.heap[g]? ∧ ¬ Own pl bl g
theorem Glob.mono {P : Program} {pl pl' : Nat → Option Pl} {bl bl' : Nat → Option Blk} {w : World} (h : Glob P pl bl w) (ho : ∀ g, Own pl' bl' g → Own pl bl g) : Glob P pl' bl' w := by
 obtain ⟨w0, h1, h2, h3⟩ := h
 exact ⟨w0, h1, h2, fun g hl => ⟨(h3 g hl).1, fun q => (h3 g hl).2 (ho g q)⟩⟩
def GlobR (P : Program) (own : Option Nat) (w : World) : Prop :=
 ∃ w0 : World, Opened P w0 ∧ w0.heap.size ≤ w.heap.size ∧ ∀ g, g < w0.heap.size → w.heap[g]? = w0.heap[g]? ∧ own ≠ some g
theorem Glob.row {P : Program} {pl : Nat → Option Pl} {bl : Nat → Option Blk} {w : World} {own : Option Nat} (h : Glob P pl bl w) (ho : ∀ g, own = some g → Own pl bl g) : GlobR P own w := by
 obtain ⟨w0, h1, h2, h3⟩ := h
 exact ⟨w0, h1, h2, fun g hl => ⟨(h3 g hl).1, fun q => (h3 g hl).2 (ho g q)⟩⟩
theorem GlobR.glob {P : Program} {pl : Nat → Option Pl} {bl : Nat → Option Blk} {w : World} {own : Option Nat} (h : GlobR P own w) (ho : ∀ g, Own pl bl g → own = some g) : Glob P pl bl w := by
 obtain ⟨w0, h1, h2, h3⟩ := h
 exact ⟨w0, h1, h2, fun g hl => ⟨(h3 g hl).1, fun q => (h3 g hl).2 (ho g q)⟩⟩
theorem Glob.out {P : Program} {pl pl' : Nat → Option Pl} {bl bl' : Nat → Option Blk} {w w' : World} (h : Glob P pl bl w) (hs : w.heap.size ≤ w'.heap.size) (ho : ∀ g, g < w.heap.size → ¬ Own pl bl g → w'.heap[g]? = w.heap[g]? ∧ ¬ Own pl' bl' g) : Glob P pl' bl' w' := by
 obtain ⟨w0, h1, h2, h3⟩ := h
 refine ⟨w0, h1, Nat.le_trans h2 hs, fun g hl => ?_⟩
 obtain ⟨a, b⟩ := h3 g hl
 obtain ⟨c, d⟩ := ho g (Nat.lt_of_lt_of_le hl h2) b
 exact ⟨c.trans a, d⟩
def Q4 {P : Program} (ok0 : OK0 P) (base : Nat) (pl : Nat → Option Pl) (bl : Nat → Option Blk) (w : World) : Env :=
 { w, ok := fun g => (ok0 g ∨ base ≤ g) ∧ ¬ Own pl bl g, base, pl, bl }
structure RelB {P : Program} (ok0 : OK0 P) (base : Nat) (pl : Nat → Option Pl) (bl : Nat → Option Blk) (w : World) : Prop where
 baseLe : base ≤ w.heap.size
 blks : ∀ i B, bl i = some B → ∃ p, pl i = some p ∧ BRep (Q4 ok0 base pl bl w) B p
 sep : ∀ i j B C p q g, i ≠ j → bl i = some B → bl j = some C → B.live = true → C.live = true → pl i = some p → pl j = some q → p.has g → ¬ q.has g
 fresh : ∀ i, bl i = none → pl i = none
 glob : Glob P pl bl w
structure Step (pl : Nat → Option Pl) (bl : Nat → Option Blk) (w : World) (pl' : Nat → Option Pl) (bl' : Nat → Option Blk) (w' : World) : Prop where
 os : w'.os = w.os
 tape : w'.tape = w.tape
 output : w'.output = w.output
 size : w.heap.size ≤ w'.heap.size
 out : ∀ g, g < w.heap.size → ¬ Own pl bl g → w'.heap[g]? = w.heap[g]? ∧ ¬ Own pl' bl' g
 cells : ∀ b g, pl b = some (.cells g) → pl' b = some (.cells g)
 rows : ∀ b sv svs, pl b = some (.row sv svs) → ∃ sv' svs', pl' b = some (.row sv' svs') ∧ KeepR (bl b) (bl' b) sv svs sv' svs'
theorem Step.refl (pl : Nat → Option Pl) (bl : Nat → Option Blk) (w : World) : Step pl bl w pl bl w :=
 ⟨rfl, rfl, rfl, Nat.le_refl _, fun _ _ h => ⟨rfl, h⟩, fun _ _ h => h, fun _ sv svs h => ⟨sv, svs, h, KeepR.refl _ _ _⟩⟩
theorem Step.trans {pl pl1 pl2 : Nat → Option Pl} {bl bl1 bl2 : Nat → Option Blk} {w w1 w2 : World} (h : Step pl bl w pl1 bl1 w1) (k : Step pl1 bl1 w1 pl2 bl2 w2) : Step pl bl w pl2 bl2 w2 := by
 refine ⟨k.os.trans h.os, k.tape.trans h.tape, k.output.trans h.output, Nat.le_trans h.size k.size, fun g hg ho => ?_, fun b g hb => k.cells b g (h.cells b g hb), fun b sv svs hb => ?_⟩
 ·obtain ⟨h1, h2⟩ := h.out g hg ho
  obtain ⟨k1, k2⟩ := k.out g (Nat.lt_of_lt_of_le hg h.size) h2
  exact ⟨k1.trans h1, k2⟩
 ·obtain ⟨sv1, svs1, p1, r1⟩ := h.rows b sv svs hb
  obtain ⟨sv2, svs2, p2, r2⟩ := k.rows b sv1 svs1 p1
  exact ⟨sv2, svs2, p2, r1.trans r2⟩
structure StepM (m : Nat) (pl : Nat → Option Pl) (bl : Nat → Option Blk) (w : World) (pl' : Nat → Option Pl) (bl' : Nat → Option Blk) (w' : World) : Prop where
 os : w'.os = w.os
 tape : w'.tape = w.tape
 output : w'.output = w.output
 size : w.heap.size ≤ w'.heap.size
 out : ∀ g, g < w.heap.size → ¬ Own pl bl g → w'.heap[g]? = w.heap[g]? ∧ ¬ Own pl' bl' g
 cells : ∀ b g, b < m → pl b = some (.cells g) → pl' b = some (.cells g)
 rows : ∀ b sv svs, b < m → pl b = some (.row sv svs) → ∃ sv' svs', pl' b = some (.row sv' svs')
theorem Step.toM {m : Nat} {pl pl' : Nat → Option Pl} {bl bl' : Nat → Option Blk} {w w' : World} (h : Step pl bl w pl' bl' w') : StepM m pl bl w pl' bl' w' :=
 ⟨h.os, h.tape, h.output, h.size, h.out, fun b g _ => h.cells b g, fun b sv svs _ hb => by obtain ⟨sv', svs', h1, _⟩ := h.rows b sv svs hb; exact ⟨sv', svs', h1⟩⟩
theorem StepM.refl (m : Nat) (pl : Nat → Option Pl) (bl : Nat → Option Blk) (w : World) : StepM m pl bl w pl bl w := (Step.refl pl bl w).toM
theorem StepM.trans {m : Nat} {pl pl1 pl2 : Nat → Option Pl} {bl bl1 bl2 : Nat → Option Blk} {w w1 w2 : World} (h : StepM m pl bl w pl1 bl1 w1) (k : StepM m pl1 bl1 w1 pl2 bl2 w2) : StepM m pl bl w pl2 bl2 w2 := by
 refine ⟨k.os.trans h.os, k.tape.trans h.tape, k.output.trans h.output, Nat.le_trans h.size k.size, fun g hg ho => ?_, fun b g hm hb => k.cells b g hm (h.cells b g hm hb), fun b sv svs hm hb => ?_⟩
 ·obtain ⟨h1, h2⟩ := h.out g hg ho
  obtain ⟨k1, k2⟩ := k.out g (Nat.lt_of_lt_of_le hg h.size) h2
  exact ⟨k1.trans h1, k2⟩
 ·obtain ⟨sv', svs', h1⟩ := h.rows b sv svs hm hb
  exact k.rows b sv' svs' hm h1
theorem Step.ext {P : Program} {ok0 : OK0 P} {base : Nat} {pl pl' : Nat → Option Pl} {bl bl' : Nat → Option Blk} {w w' : World} (h : Step pl bl w pl' bl' w') :
  Ext (Q4 ok0 base pl bl w) (Q4 ok0 base pl' bl' w') :=
 ⟨Nat.le_refl _, fun g hg hlt => ⟨⟨hg.1, (h.out g hlt hg.2).2⟩, (h.out g hlt hg.2).1⟩, h.cells, h.rows⟩
def upd {α : Type} (f : Nat → Option α) (i : Nat) (x : α) : Nat → Option α := fun j => if j = i then some x else f j
def updL {α : Type} (f : Nat → Option α) : List (Nat × α) → Nat → Option α
 | [] => f
 | (i, x) :: r => updL (upd f i x) r
theorem Q8l {α : Type} : ∀ (r l : List (Nat × α)), look (puts l r) = updL (look l) r
 | [], _ => rfl
 | (i, x) :: r, l => by
  rw [puts, Q8l r, updL]
  congr 1
  funext j
  rw [Qaf, upd]
def OpOk (P : Program) (o : Oper) (ρ : Operand → V) (bl : Nat → Option Blk) (v : V) (wr : List (Nat × Blk)) : Prop :=
 ∀ (ok0 : OK0 P) (base : Nat) (pl : Nat → Option Pl) (w : World) (a : Act), RelB ok0 base pl bl w →
  (∀ x ∈ o.op.operands, VRep (Q4 ok0 base pl bl w) (ρ x) (a.eval x)) →
  ∀ (K : Act → World → Prop) (Q : Exit → Act → World → Prop),
   (∀ val pl' w', RelB ok0 base pl' (updL bl wr) w' → Step pl bl w pl' (updL bl wr) w' → VRep (Q4 ok0 base pl' (updL bl wr) w') v val → K (a.put o.dst val) w') →
   o.wp P a w K Q
section
variable {P : Program} {o : Oper} {ρ : Operand → V} {bl : Nat → Option Blk} {v : V}
theorem Qn {a : Act} {w w' : World} {val : Value} (h : (execOp a.eval o).run P w = .ok (.value val) w') {K : Act → World → Prop} {Q : Exit → Act → World → Prop} (hk : K (a.put o.dst val) w') : o.wp P a w K Q := by
 unfold Oper.wp
 rw [h]
 exact hk
theorem Q36 {a : Act} {w w' : World} (h : (execOp a.eval o).run P w = .ok .skip w') {K : Act → World → Prop} {Q : Exit → Act → World → Prop} (hk : K (a.put o.dst undef) w') : o.wp P a w K Q := by
 unfold Oper.wp
 rw [h]
 exact hk
theorem OpOk.of_pure (h : ∀ (ok0 : OK0 P) (base : Nat) (pl : Nat → Option Pl) (w : World) (a : Act), RelB ok0 base pl bl w →
  (∀ x ∈ o.op.operands, VRep (Q4 ok0 base pl bl w) (ρ x) (a.eval x)) → ∃ val, (execOp a.eval o).run P w = .ok (.value val) w ∧ VRep (Q4 ok0 base pl bl w) v val) : OpOk P o ρ bl v [] := by
 intro ok0 base pl w a hr hx K Q hk
 obtain ⟨val, h1, h2⟩ := h ok0 base pl w a hr hx
 exact Qn h1 (hk val pl w hr (Step.refl pl bl w) h2)
end
section
variable {P : Program} {ok0 : OK0 P} {base : Nat} {pl : Nat → Option Pl} {bl : Nat → Option Blk} {w : World}
theorem RelB.put (hr : RelB ok0 base pl bl w) {i : Nat} {B : Blk} {p : Pl} {w' : World}
  (hs : Step pl bl w (upd pl i p) (upd bl i B) w')
  (hB : BRep (Q4 ok0 base (upd pl i p) (upd bl i B) w') B p)
  (hg : ∀ j C q g, j ≠ i → bl j = some C → C.live = true → pl j = some q → q.has g → w'.heap[g]? = w.heap[g]? ∧ ¬ p.has g)
  : RelB ok0 base (upd pl i p) (upd bl i B) w' := by
 refine ⟨Nat.le_trans hr.baseLe hs.size, fun j C hC => ?_, fun j k C D q r g hjk hC hD hlC hlD hq hr' hqg => ?_, fun j hj => ?_, hr.glob.out hs.size hs.out⟩
 ·by_cases hj : j = i
  ·subst hj
   simp only [upd, if_true, Option.some.injEq] at hC
   subst hC
   exact ⟨p, by simp [upd], hB⟩
  ·simp only [upd, hj, if_false] at hC ⊢
   obtain ⟨q, hq, hBq⟩ := hr.blks j C hC
   refine ⟨q, hq, ?_⟩
   cases hl : C.live with
   | false => cases C <;> first | exact trivial | simp [Blk.live] at hl
   | true => exact BRep.mono hs.ext hBq fun g hqg => (hg j C q g hj hC hl hq hqg).1
 ·by_cases hj : j = i
  ·by_cases hk : k = i
   ·exact absurd (hj.trans hk.symm) hjk
   ·subst hj
    simp only [upd, if_true, Option.some.injEq, hk, if_false] at hC hD hq hr'
    subst hC hq
    intro hrg
    exact (hg k D r g hk hD hlD hr' hrg).2 hqg
  ·by_cases hk : k = i
   ·subst hk
    simp only [upd, if_true, Option.some.injEq, hj, if_false] at hC hD hq hr'
    subst hD hr'
    exact (hg j C q g hj hC hlC hq hqg).2
   ·simp only [upd, hj, hk, if_false] at hC hD hq hr'
    exact hr.sep j k C D q r g hjk hC hD hlC hlD hq hr' hqg
 ·by_cases hj' : j = i
  ·subst hj'; simp [upd] at hj
  ·simp only [upd, hj', if_false] at hj ⊢
   exact hr.fresh j hj
theorem Own.lt (hr : RelB ok0 base pl bl w) {g : Nat} (h : Own pl bl g) : g < w.heap.size := by
 obtain ⟨i, B, p, hB, hl, hp, hg⟩ := h
 obtain ⟨q, hq, hR⟩ := hr.blks i B hB
 rw [hp] at hq
 injection hq with hq
 subst hq
 cases B with
 | dead => simp [Blk.live] at hl
 | cells t cs =>
  cases p with
  | row _ _ => exact hR.elim
  | cells g' =>
   obtain ⟨vs, h1, _⟩ := hR
   have hg : g' = g := hg
   subst hg
   exact (Array.getElem?_eq_some_iff.1 h1).1
 | map t k v vg l =>
  cases p with
  | row _ _ => exact hR.elim
  | cells g' =>
   obtain ⟨es, clock, h1, _⟩ := hR
   have hg : g' = g := hg
   subst hg
   exact (Array.getElem?_eq_some_iff.1 h1).1
 | row t e ver l =>
  cases p with
  | cells _ => exact hR.elim
  | row sv svs =>
   obtain ⟨h0, xs, _, h2⟩ := hR
   subst h0
   exact (h2.lt g (Pl.has_row hg)).2
 | mat t et e ver iver hole l =>
  cases p with
  | cells _ => exact hR.elim
  | row sv svs =>
   have hR : MatOk _ t et e hole l sv svs := hR
   rcases hg with hg | ⟨i, s, hs, hg⟩
   ·obtain ⟨vs, h1, _⟩ := hR.outer
    exact (h1.lt g hg).2
   ·have hlt : i < l.length := by rw [← hR.len]; exact (List.getElem?_eq_some_iff.1 hs).1
    obtain ⟨xs, _, h2⟩ := hR.inner i s l[i] hs (List.getElem?_eq_getElem hlt)
    exact (h2.lt g hg).2
theorem Step.new (hr : RelB ok0 base pl bl w) {i : Nat} (hi : bl i = none) {B : Blk} {p : Pl} {w' : World} (hg : w.grownBy w' none)
  (hp : ∀ g, p.has g → w.heap.size ≤ g) : Step pl bl w (upd pl i p) (upd bl i B) w' := by
 have hpi := hr.fresh i hi
 refine ⟨hg.os, hg.tape, hg.output, hg.size, fun g hlt ho => ⟨hg.block g hlt (by simp), ?_⟩, fun b g hb => ?_, fun b sv svs hb => ?_⟩
 ·rintro ⟨j, C, q, hC, hl, hq, hqg⟩
  by_cases hj : j = i
  ·subst hj
   simp only [upd, if_true, Option.some.injEq] at hC hq
   subst hq
   have := hp g hqg
   omega
  ·simp only [upd, hj, if_false] at hC hq
   exact ho ⟨j, C, q, hC, hl, hq, hqg⟩
 ·have hbi : b ≠ i := by rintro rfl; rw [hpi] at hb; cases hb
  simp [upd, hbi, hb]
 ·have hbi : b ≠ i := by rintro rfl; rw [hpi] at hb; cases hb
  exact ⟨sv, svs, by simp [upd, hbi, hb], KeepR.of_eq (fun C hC => by simpa [upd, hbi] using hC) _ _⟩
theorem RelB.new (hr : RelB ok0 base pl bl w) {i : Nat} (hi : bl i = none) {B : Blk} {p : Pl} {w' : World} (hg : w.grownBy w' none)
  (hp : ∀ g, p.has g → w.heap.size ≤ g) (hB : BRep (Q4 ok0 base (upd pl i p) (upd bl i B) w') B p) : RelB ok0 base (upd pl i p) (upd bl i B) w' := by
 refine hr.put (Step.new hr hi hg hp) hB fun j C q g hj hC hl hq hqg => ?_
 have hlt : g < w.heap.size := Own.lt hr ⟨j, C, q, hC, hl, hq, hqg⟩
 refine ⟨hg.block g hlt (by simp), fun hpg => ?_⟩
 have := hp g hpg
 omega
theorem Step.grownP (_hr : RelB ok0 base pl bl w) {i : Nat} {B B' : Blk} (hi : bl i = some B) (hlv : B.live = true) {sv sv' : Value} {svs svs' : List (Option Value)} (hpi : pl i = some (.row sv svs)) {w' : World} {og : Option Nat}
  (hg : w.grownBy w' og) (hog : ∀ g, og = some g → (Pl.row sv svs).has g) (hv : ∀ g, (Pl.row sv' svs').has g → (Pl.row sv svs).has g ∨ w.heap.size ≤ g) (hk : KeepR (some B) (some B') sv svs sv' svs') :
  Step pl bl w (upd pl i (.row sv' svs')) (upd bl i B') w' := by
 have hown : ∀ g, (Pl.row sv svs).has g → Own pl bl g := fun g h => ⟨i, _, _, hi, hlv, hpi, h⟩
 refine ⟨hg.os, hg.tape, hg.output, hg.size, fun g hlt ho => ⟨hg.block g hlt (fun h => ho (hown g (hog g h.symm))), ?_⟩, fun b g hb => ?_, fun b sv0 svs0 hb => ?_⟩
 ·rintro ⟨j, C, q, hC, hl, hq, hqg⟩
  by_cases hj : j = i
  ·subst hj
   simp only [upd, if_true, Option.some.injEq] at hC hq
   subst hq
   rcases hv g hqg with hv | hv
   ·exact ho (hown g hv)
   ·omega
  ·simp only [upd, hj, if_false] at hC hq
   exact ho ⟨j, C, q, hC, hl, hq, hqg⟩
 ·have hbi : b ≠ i := by rintro rfl; rw [hpi] at hb; cases hb
  simp [upd, hbi, hb]
 ·by_cases hbi : b = i
  ·subst hbi
   rw [hpi] at hb
   injection hb with hb
   injection hb with hb hb2
   subst hb hb2
   refine ⟨sv', svs', by simp [upd], ?_⟩
   rw [hi]
   simpa [upd] using hk
  ·exact ⟨sv0, svs0, by simp [upd, hbi, hb], KeepR.of_eq (fun C hC => by simpa [upd, hbi] using hC) _ _⟩
theorem RelB.grownP (hr : RelB ok0 base pl bl w) {i : Nat} {B B' : Blk} (hi : bl i = some B) (hlv : B.live = true) {sv sv' : Value} {svs svs' : List (Option Value)} (hpi : pl i = some (.row sv svs)) {w' : World} {og : Option Nat}
  (hg : w.grownBy w' og) (hog : ∀ g, og = some g → (Pl.row sv svs).has g) (hv : ∀ g, (Pl.row sv' svs').has g → (Pl.row sv svs).has g ∨ w.heap.size ≤ g) (hk : KeepR (some B) (some B') sv svs sv' svs')
  (hB : BRep (Q4 ok0 base (upd pl i (.row sv' svs')) (upd bl i B') w') B' (.row sv' svs')) :
  RelB ok0 base (upd pl i (.row sv' svs')) (upd bl i B') w' := by
 refine hr.put (Step.grownP hr hi hlv hpi hg hog hv hk) hB fun j C q g hj hC hl hq hqg => ?_
 have hlt : g < w.heap.size := Own.lt hr ⟨j, C, q, hC, hl, hq, hqg⟩
 have hne : ¬ (Pl.row sv svs).has g := fun h => hr.sep j i _ _ _ _ g hj hC hi hl hlv hq hpi hqg h
 refine ⟨hg.block g hlt (fun h => hne (hog g h.symm)), fun hpg => ?_⟩
 rcases hv g hpg with hv | hv
 ·exact hne hv
 ·omega
theorem KeepR.ofRow {t : TypeId} {e : Ty} {ver ver' : Nat} {l l' : List e.den} {sv sv' : Value} {svs svs' : List (Option Value)} (hver : ver ≤ ver' ∧ (ver = ver' → sv' = sv ∧ l'.length = l.length)) :
  KeepR (some (.row t e ver l)) (some (.row t e ver' l')) sv svs sv' svs' := by
 constructor
 ·intro t1 e1 ver1 l1 h1
  simp only [Option.some.injEq] at h1
  injection h1 with h2 h3 h4 h5
  subst h2 h3 h4
  simp only [heq_eq_eq] at h5
  subst h5
  exact ⟨ver, l, rfl, hver.1, hver.2⟩
 ·intro t1 et1 e1 ver1 iver1 hole1 l1 h1
  cases h1
theorem KeepR.ofMat {t et : TypeId} {e : Ty} {ver ver' iver iver' : Nat} {hole hole' : Option Nat} {l l' : List (List e.den)} {sv sv' : Value} {svs svs' : List (Option Value)} (hver : ver ≤ ver' ∧ (ver = ver' → sv' = sv ∧ l'.length = l.length))
  (hiver : iver ≤ iver' ∧ (iver = iver' → svs' = svs ∧ l'.map List.length = l.map List.length)) :
  KeepR (some (.mat t et e ver iver hole l)) (some (.mat t et e ver' iver' hole' l')) sv svs sv' svs' := by
 constructor
 ·intro t1 e1 ver1 l1 h1
  cases h1
 ·intro t1 et1 e1 ver1 iver1 hole1 l1 h1
  simp only [Option.some.injEq] at h1
  injection h1 with h2 h3 h4 h5 h6 h7 h8
  subst h2 h3 h4 h5 h6 h7
  simp only [heq_eq_eq] at h8
  subst h8
  exact ⟨ver, iver, hole, l, rfl, hver.1, hiver.1, hver.2, hiver.2⟩
theorem KeepR.ofDead {B : Option Blk} {sv sv' : Value} {svs svs' : List (Option Value)} : KeepR B (some .dead) sv svs sv' svs' :=
 ⟨fun _ _ _ _ h => (by cases h), fun _ _ _ _ _ _ _ h => (by cases h)⟩
theorem Step.grown (_hr : RelB ok0 base pl bl w) {i : Nat} {t : TypeId} {e : Ty} {ver ver' : Nat} {l l' : List e.den} (hi : bl i = some (.row t e ver l)) {sv sv' : Value} (hpi : pl i = some (.row sv [])) {w' : World}
  (hg : w.grownBy w' sv.ownBlock) (hv : sv'.ownBlock = sv.ownBlock ∨ ∀ g, sv'.ownBlock = some g → w.heap.size ≤ g) (hver : ver ≤ ver' ∧ (ver = ver' → sv' = sv ∧ l'.length = l.length)) :
  Step pl bl w (upd pl i (.row sv' [])) (upd bl i (.row t e ver' l')) w' :=
 Step.grownP _hr hi rfl hpi hg (fun g h => .inl h) (fun g h => by
  have h := Pl.has_row h
  rcases hv with hv | hv
  ·exact .inl (.inl (hv ▸ h))
  ·exact .inr (hv g h)) (KeepR.ofRow hver)
theorem RelB.grown (hr : RelB ok0 base pl bl w) {i : Nat} {t : TypeId} {e : Ty} {ver ver' : Nat} {l l' : List e.den} (hi : bl i = some (.row t e ver l)) {sv sv' : Value} (hpi : pl i = some (.row sv [])) {w' : World}
  (hg : w.grownBy w' sv.ownBlock) (hv : sv'.ownBlock = sv.ownBlock ∨ ∀ g, sv'.ownBlock = some g → w.heap.size ≤ g) (hver : ver ≤ ver' ∧ (ver = ver' → sv' = sv ∧ l'.length = l.length))
  (hB : BRep (Q4 ok0 base (upd pl i (.row sv' [])) (upd bl i (.row t e ver' l')) w') (.row t e ver' l') (.row sv' [])) :
  RelB ok0 base (upd pl i (.row sv' [])) (upd bl i (.row t e ver' l')) w' :=
 RelB.grownP hr hi rfl hpi hg (fun g h => .inl h) (fun g h => by
  have h := Pl.has_row h
  rcases hv with hv | hv
  ·exact .inl (.inl (hv ▸ h))
  ·exact .inr (hv g h)) (KeepR.ofRow hver) hB
theorem Step.wroteB (_hr : RelB ok0 base pl bl w) {i g0 : Nat} {B B' : Blk} (hi : bl i = some B) (hl : B.live = true) (hpi : pl i = some (.cells g0)) {w' : World}
  (hg : w.grownBy w' (some g0)) : Step pl bl w (upd pl i (.cells g0)) (upd bl i B') w' := by
 have hown : Own pl bl g0 := ⟨i, _, _, hi, hl, hpi, rfl⟩
 refine ⟨hg.os, hg.tape, hg.output, hg.size, fun g hlt ho => ⟨hg.block g hlt (fun h => ho (by injection h with h; subst h; exact hown)), ?_⟩, fun b g hb => ?_, fun b sv0 svs0 hb => ?_⟩
 ·rintro ⟨j, C, q, hC, hl, hq, hqg⟩
  by_cases hj : j = i
  ·subst hj
   simp only [upd, if_true, Option.some.injEq] at hC hq
   subst hq
   have hqg : g0 = g := hqg
   subst hqg
   exact ho hown
  ·simp only [upd, hj, if_false] at hC hq
   exact ho ⟨j, C, q, hC, hl, hq, hqg⟩
 ·by_cases hbi : b = i
  ·subst hbi; rw [hpi] at hb; simpa [upd] using hb
  ·simp [upd, hbi, hb]
 ·have hbi : b ≠ i := by rintro rfl; rw [hpi] at hb; cases hb
  exact ⟨sv0, svs0, by simp [upd, hbi, hb], KeepR.of_eq (fun C hC => by simpa [upd, hbi] using hC) _ _⟩
theorem RelB.wroteB (hr : RelB ok0 base pl bl w) {i g0 : Nat} {B B' : Blk} (hi : bl i = some B) (hl0 : B.live = true) (hpi : pl i = some (.cells g0)) {w' : World}
  (hg : w.grownBy w' (some g0)) (hB : BRep (Q4 ok0 base (upd pl i (.cells g0)) (upd bl i B') w') B' (.cells g0)) :
  RelB ok0 base (upd pl i (.cells g0)) (upd bl i B') w' := by
 refine hr.put (Step.wroteB hr hi hl0 hpi hg) hB fun j C q g hj hC hl hq hqg => ?_
 have hlt : g < w.heap.size := Own.lt hr ⟨j, C, q, hC, hl, hq, hqg⟩
 have hne : g0 ≠ g := fun h => hr.sep j i _ _ _ _ g hj hC hi hl hl0 hq hpi hqg h
 exact ⟨hg.block g hlt (fun h => hne (by injection h with h; exact h.symm)), fun hpg => hne hpg⟩
theorem Step.wrote (hr : RelB ok0 base pl bl w) {i g0 : Nat} {t : TypeId} {cs cs' : List C} (hi : bl i = some (.cells t cs)) (hpi : pl i = some (.cells g0)) {w' : World}
  (hg : w.grownBy w' (some g0)) : Step pl bl w (upd pl i (.cells g0)) (upd bl i (.cells t cs')) w' := Step.wroteB hr hi rfl hpi hg
theorem RelB.wrote (hr : RelB ok0 base pl bl w) {i g0 : Nat} {t : TypeId} {cs cs' : List C} (hi : bl i = some (.cells t cs)) (hpi : pl i = some (.cells g0)) {w' : World}
  (hg : w.grownBy w' (some g0)) (hB : BRep (Q4 ok0 base (upd pl i (.cells g0)) (upd bl i (.cells t cs')) w') (.cells t cs') (.cells g0)) :
  RelB ok0 base (upd pl i (.cells g0)) (upd bl i (.cells t cs')) w' := RelB.wroteB hr hi rfl hpi hg hB
def Qm (pl : Nat → Option Pl) (bl : Nat → Option Blk) (i g : Nat) : Prop := ∃ B p, bl i = some B ∧ B.live = true ∧ pl i = some p ∧ p.has g
theorem Step.two (_hr : RelB ok0 base pl bl w) {i j : Nat} (hij : i ≠ j) {Bi Bj : Blk} {pi pj : Pl} {w' : World} {og : Option Nat}
  (hg : w.grownBy w' og) (hog : ∀ g, og = some g → Qm pl bl i g ∨ Qm pl bl j g)
  (hi : ∀ g, Bi.live = true → pi.has g → Qm pl bl i g ∨ Qm pl bl j g ∨ w.heap.size ≤ g)
  (hj : ∀ g, Bj.live = true → pj.has g → Qm pl bl i g ∨ Qm pl bl j g ∨ w.heap.size ≤ g)
  (hci : ∀ g, pl i = some (.cells g) → pi = .cells g) (hcj : ∀ g, pl j = some (.cells g) → pj = .cells g)
  (hri : ∀ sv svs, pl i = some (.row sv svs) → ∃ sv' svs', pi = .row sv' svs' ∧ KeepR (bl i) (some Bi) sv svs sv' svs')
  (hrj : ∀ sv svs, pl j = some (.row sv svs) → ∃ sv' svs', pj = .row sv' svs' ∧ KeepR (bl j) (some Bj) sv svs sv' svs') :
  Step pl bl w (upd (upd pl i pi) j pj) (upd (upd bl i Bi) j Bj) w' := by
 have hOwn : ∀ k g, Qm pl bl k g → Own pl bl g := fun k g ⟨B, p, h1, h2, h3, h4⟩ => ⟨k, B, p, h1, h2, h3, h4⟩
 refine ⟨hg.os, hg.tape, hg.output, hg.size, fun g hlt ho => ⟨hg.block g hlt (fun h => ?_), ?_⟩, fun b g hb => ?_, fun b sv svs hb => ?_⟩
 ·rcases hog g h.symm with h | h
  ·exact ho (hOwn i g h)
  ·exact ho (hOwn j g h)
 ·rintro ⟨k, C, q, hC, hl, hq, hqg⟩
  by_cases hkj : k = j
  ·subst hkj
   simp only [upd, if_true, Option.some.injEq] at hC hq
   subst hq hC
   rcases hj g hl hqg with h | h | h
   ·exact ho (hOwn i g h)
   ·exact ho (hOwn k g h)
   ·omega
  ·by_cases hki : k = i
   ·subst hki
    simp only [upd, hkj, if_false, if_true, Option.some.injEq] at hC hq
    subst hq hC
    rcases hi g hl hqg with h | h | h
    ·exact ho (hOwn k g h)
    ·exact ho (hOwn j g h)
    ·omega
   ·simp only [upd, hkj, hki, if_false] at hC hq
    exact ho ⟨k, C, q, hC, hl, hq, hqg⟩
 ·by_cases hkj : b = j
  ·subst hkj; simp [upd, hcj g hb]
  ·by_cases hki : b = i
   ·subst hki; simp [upd, hkj, hci g hb]
   ·simp [upd, hkj, hki, hb]
 ·by_cases hkj : b = j
  ·subst hkj
   obtain ⟨sv', svs', h1, h2⟩ := hrj sv svs hb
   exact ⟨sv', svs', by simp [upd, h1], by simpa [upd] using h2⟩
  ·by_cases hki : b = i
   ·subst hki
    obtain ⟨sv', svs', h1, h2⟩ := hri sv svs hb
    exact ⟨sv', svs', by simp [upd, hkj, h1], by simpa [upd, hkj] using h2⟩
   ·exact ⟨sv, svs, by simp [upd, hkj, hki, hb], KeepR.of_eq (fun C hC => by simpa [upd, hkj, hki] using hC) _ _⟩
theorem RelB.two (hr : RelB ok0 base pl bl w) {i j : Nat} (hij : i ≠ j) {Bi Bj : Blk} {pi pj : Pl} {w' : World} {og : Option Nat}
  (hg : w.grownBy w' og) (hog : ∀ g, og = some g → Qm pl bl i g ∨ Qm pl bl j g)
  (hi : ∀ g, Bi.live = true → pi.has g → Qm pl bl i g ∨ Qm pl bl j g ∨ w.heap.size ≤ g)
  (hj : ∀ g, Bj.live = true → pj.has g → Qm pl bl i g ∨ Qm pl bl j g ∨ w.heap.size ≤ g)
  (hd : ∀ g, Bi.live = true → Bj.live = true → pi.has g → ¬ pj.has g)
  (hs : Step pl bl w (upd (upd pl i pi) j pj) (upd (upd bl i Bi) j Bj) w')
  (hBi : BRep (Q4 ok0 base (upd (upd pl i pi) j pj) (upd (upd bl i Bi) j Bj) w') Bi pi)
  (hBj : BRep (Q4 ok0 base (upd (upd pl i pi) j pj) (upd (upd bl i Bi) j Bj) w') Bj pj) :
  RelB ok0 base (upd (upd pl i pi) j pj) (upd (upd bl i Bi) j Bj) w' := by
 have hoth : ∀ k C q g, k ≠ i → k ≠ j → bl k = some C → C.live = true → pl k = some q → q.has g → w'.heap[g]? = w.heap[g]? ∧ (Bi.live = true → ¬ pi.has g) ∧ (Bj.live = true → ¬ pj.has g) := by
  intro k C q g hki hkj hC hl hq hqg
  have hlt : g < w.heap.size := Own.lt hr ⟨k, C, q, hC, hl, hq, hqg⟩
  have hni : ∀ m, k ≠ m → ¬ Qm pl bl m g := fun m hm ⟨B, p, h1, h2, h3, h4⟩ => hr.sep k m C B q p g hm hC h1 hl h2 hq h3 hqg h4
  refine ⟨hg.block g hlt (fun h => ?_), fun hli h => ?_, fun hlj h => ?_⟩
  ·rcases hog g h.symm with h | h
   ·exact hni i hki h
   ·exact hni j hkj h
  ·rcases hi g hli h with h | h | h
   ·exact hni i hki h
   ·exact hni j hkj h
   ·omega
  ·rcases hj g hlj h with h | h | h
   ·exact hni i hki h
   ·exact hni j hkj h
   ·omega
 have hbl : ∀ k, upd (upd bl i Bi) j Bj k = if k = j then some Bj else if k = i then some Bi else bl k := fun k => rfl
 have hpl : ∀ k, upd (upd pl i pi) j pj k = if k = j then some pj else if k = i then some pi else pl k := fun k => rfl
 refine ⟨Nat.le_trans hr.baseLe hs.size, fun k C hC => ?_, fun k m C D q r g hkm hC hD hlC hlD hq hr' hqg => ?_, fun k hk => ?_, hr.glob.out hs.size hs.out⟩
 ·by_cases hkj : k = j
  ·subst hkj
   simp only [upd, if_true, Option.some.injEq] at hC
   subst hC
   exact ⟨pj, by simp [upd], hBj⟩
  ·by_cases hki : k = i
   ·subst hki
    simp only [upd, hkj, if_false, if_true, Option.some.injEq] at hC
    subst hC
    exact ⟨pi, by simp [upd, hkj], hBi⟩
   ·simp only [upd, hkj, hki, if_false] at hC ⊢
    obtain ⟨q, hq, hBq⟩ := hr.blks k C hC
    refine ⟨q, hq, ?_⟩
    cases hl : C.live with
    | false => cases C <;> first | exact trivial | simp [Blk.live] at hl
    | true => exact BRep.mono hs.ext hBq fun g hqg => (hoth k C q g hki hkj hC hl hq hqg).1
 ·rw [hbl] at hC hD
  rw [hpl] at hq hr'
  by_cases hkj : k = j
  ·subst hkj
   have hmk : m ≠ k := fun h => hkm h.symm
   simp only [if_true, hmk, if_false, Option.some.injEq] at hC hD hq hr'
   subst hC hq
   by_cases hmi : m = i
   ·subst hmi
    simp only [if_true, Option.some.injEq] at hD hr'
    subst hD hr'
    exact fun h => hd g hlD hlC h hqg
   ·simp only [hmi, if_false] at hD hr'
    exact fun h => (hoth m D r g hmi hmk hD hlD hr' h).2.2 hlC hqg
  ·by_cases hki : k = i
   ·subst hki
    simp only [hkj, if_false, if_true, Option.some.injEq] at hC hq
    subst hC hq
    by_cases hmj : m = j
    ·subst hmj
     simp only [if_true, Option.some.injEq] at hD hr'
     subst hD hr'
     exact hd g hlC hlD hqg
    ·have hmk : m ≠ k := fun h => hkm h.symm
     simp only [hmj, hmk, if_false] at hD hr'
     exact fun h => (hoth m D r g hmk hmj hD hlD hr' h).2.1 hlC hqg
   ·simp only [hkj, hki, if_false] at hC hq
    by_cases hmj : m = j
    ·subst hmj
     simp only [if_true, Option.some.injEq] at hD hr'
     subst hD hr'
     exact (hoth k C q g hki hkj hC hlC hq hqg).2.2 hlD
    ·by_cases hmi : m = i
     ·subst hmi
      simp only [hmj, if_false, if_true, Option.some.injEq] at hD hr'
      subst hD hr'
      exact (hoth k C q g hki hkj hC hlC hq hqg).2.1 hlD
     ·simp only [hmj, hmi, if_false] at hD hr'
      exact hr.sep k m C D q r g hkm hC hD hlC hlD hq hr' hqg
 ·rw [hbl] at hk
  rw [hpl]
  by_cases hkj : k = j
  ·simp [hkj] at hk
  ·by_cases hki : k = i
   ·simp [hki] at hk
    split at hk <;> cases hk
   ·simp only [hkj, hki, if_false] at hk ⊢
    exact hr.fresh k hk
end
end Go.Lift
namespace Go.Lift
open Go.RowKit
def Q37 (P : Program) (t : TypeId) : Bool :=
 match P.underlying t with
 | some (.struct _) | some (.array _ _) => true
 | _ => false
def tyOf (P : Program) : Nat → TypeId → Option Ty
 | 0, _ => none
 | n + 1, t =>
  match P.underlying t with
  | some .bool => some .bool
  | some (.int k) => some (.int k)
  | some .string => some .str
  | some (.interface ms) => bif decide (ms = P.methodsAt t) then some .err else none
  | some (.slice e) => (tyOf P n e).map .slice
  | some (.struct fs) => many (fs.toList.map fun f => tyOf P n f.type)
  | some (.array m e) => many (List.replicate m (tyOf P n e))
  | _ => none
 where
 many : List (Option Ty) → Option Ty
  | [] => some .unit
  | [t] => t
  | some t :: r => (many r).map (.prod t)
  | none :: _ => none
def zeroC (v : Value) : C :=
 match C.ofValue v with
 | some c => c
 | none => .junk
def Q4v (P : Program) (t : TypeId) : Option BK :=
 match P.underlying t with
 | some .bool => some .b
 | some (.int _) => some .i
 | some .string => some .s
 | _ => none
def Q53 (P : Program) : Nat → List Field → Option (List BK)
 | _, [] => some []
 | i, f :: fs =>
  bif f.name != "_" && Nat.beq f.offset i then
   match Q4v P f.type, Q53 P (i + 1) fs with
   | some k, some ks => some (k :: ks)
   | _, _ => none
  else none
def Qgy (P : Program) (t : TypeId) : Option (List BK) :=
 match P.underlying t, P.info? t with
 | some (.struct gs), some i =>
  match Q53 P 0 gs.toList with
  | some js => bif !P.stoodInHeld t && Nat.beq i.size js.length then some js else none
  | none => none
 | _, _ => none
def Q3u (P : Program) : Nat → List Field → Option (List BK)
 | _, [] => some []
 | i, f :: fs =>
  bif f.name != "_" && Nat.beq f.offset i then
   match Q4v P f.type with
   | some k =>
    match Q3u P (i + 1) fs with
    | some ks => some (k :: ks)
    | none => none
   | none =>
    match Qgy P f.type with
    | some js =>
     match Q3u P (i + js.length) fs with
     | some ks => some (js ++ ks)
     | none => none
    | none => none
  else none
def Qb2 (P : Program) (t : TypeId) : Option (List BK) :=
 match P.underlying t with
 | some (.struct fs) => bif P.stoodInHeld t || P.eqGuardType P.depth t then none else Q3u P 0 fs.toList
 | some (.array n e) =>
  match Q4v P e with
  | some k => bif Nat.beq (P.cellsOf e) 1 && !P.eqGuardType P.depth t then some (List.replicate n k) else none
  | none => none
 | _ => none
def Qe6 (P : Program) : TypeDesc → List (Nat × Nat × Bool)
 | .struct fs => fs.toList.map fun f => (f.offset, P.cellsOf f.type, Q37 P f.type)
 | _ => []
def Qe7 : TypeDesc → Option TypeId
 | .slice e => some e
 | .array _ e => some e
 | _ => none
def lenD : TypeDesc → Option Nat
 | .array n _ => some n
 | _ => none
def Q9k : TypeDesc → Option IntKind
 | .int k => some k
 | _ => none
def Q76 (P : Program) : TypeDesc → Bool
 | .struct fs => fs.toList.all fun f => (P.info? f.type).isSome && (P.underlying f.type).isSome
 | .slice e => (P.info? e).isSome && (P.underlying e).isSome
 | .array _ e => (P.info? e).isSome && (P.underlying e).isSome
 | _ => true
def mpD : TypeDesc → Option (TypeId × TypeId)
 | .map k v => some (k, v)
 | _ => none
def Qb3 : TypeDesc → Bool
 | .string => true
 | _ => false
def Q9l : TypeDesc → Bool
 | .bool => true
 | _ => false
def Q8m : Value → Bool
 | .agg _ => true
 | _ => false
def tiOf (P : Program) (t : TypeId) : Option TI :=
 match P.info? t, P.underlying t with
 | some i, some d =>
  match i.zero with
  | some z =>
   bif z.cells.toList.all (·.oneCell') && (Nat.beq z.cells.toList.length i.size && (Q76 P d && (Q8m z == Q37 P t))) then
    some {
     agg := Q37 P t
     size := i.size
     bytes := i.bytes
     zero := z.cells.toList.map zeroC
     flds := Qe6 P d
     elem := Qe7 d
     len := lenD d
     ty := tyOf P 12 t
     kind := Q9k d
     isBool := Q9l d
     isStr := Qb3 d
     eqs := Qb2 P t
     mp := mpD d }
   else none
  | none => none
 | _, _ => none
def TOk (P : Program) (T : TypeId → Option TI) : Prop := ∀ t ti, T t = some ti → tiOf P t = some ti
structure TFacts (P : Program) (t : TypeId) (ti : TI) (i : TypeInfo) (d : TypeDesc) (z : Value) : Prop where
 info : P.info? t = some i
 under : P.underlying t = some d
 zero : i.zero = some z
 agg : ti.agg = Q37 P t
 size : ti.size = i.size
 bytes : ti.bytes = i.bytes
 zeroC : ti.zero = z.cells.toList.map zeroC
 one : z.cells.toList.all (·.oneCell') = true
 len : z.cells.toList.length = i.size
 known : Q76 P d = true
 flds : ti.flds = Qe6 P d
 elem : ti.elem = Qe7 d
 alen : ti.len = lenD d
 kind : ti.kind = Q9k d
 isBool : ti.isBool = Q9l d
 isStr : ti.isStr = Qb3 d
 eqs : ti.eqs = Qb2 P t
 mp : ti.mp = mpD d
 ty : ti.ty = tyOf P 12 t
 zagg : Q8m z = Q37 P t
theorem TOk.facts {P : Program} {T : TypeId → Option TI} (h : TOk P T) {t : TypeId} {ti : TI} (ht : T t = some ti) : ∃ i d z, TFacts P t ti i d z := by
 have h1 := h t ti ht
 unfold tiOf at h1
 split at h1
 ·rename_i i d hi hd
  split at h1
  ·rename_i z hz
   cases hb : (z.cells.toList.all (·.oneCell') && (Nat.beq z.cells.toList.length i.size && (Q76 P d && (Q8m z == Q37 P t)))) with
   | false => rw [hb] at h1; cases h1
   | true =>
    simp only [hb, cond_true, Option.some.injEq] at h1
    subst h1
    simp only [Bool.and_eq_true] at hb
    exact ⟨i, d, z, hi, hd, hz, rfl, rfl, rfl, rfl, hb.1, Nat.eq_of_beq_eq_true hb.2.1, hb.2.2.1, rfl, rfl, rfl, rfl, rfl, rfl, rfl, rfl, rfl, by simpa using hb.2.2.2⟩
  ·cases h1
 ·cases h1
theorem C.ofValue_rep {E : Env} {v : Value} {c : C} (h : C.ofValue v = some c) : CRep E c v := by
 unfold C.ofValue at h
 split at h <;> first
  | (simp only [Option.some.injEq] at h; subst h; rfl)
  | cases h
theorem Qiw {E : Env} {v : Value} (h : v.oneCell' = true) : CRep E (zeroC v) v := by
 unfold zeroC
 cases hc : C.ofValue v with
 | none => exact h
 | some c => exact C.ofValue_rep hc
theorem Q27 {E : Env} : ∀ {vs : List Value}, vs.all (·.oneCell') = true → CReps E (vs.map zeroC) vs
 | [], _ => rfl
 | v :: vs, h => by
  simp only [List.all_cons, Bool.and_eq_true] at h
  exact ⟨v, vs, rfl, Qiw h.1, Q27 h.2⟩
theorem C.ofValues_rep {E : Env} : ∀ {vs : List Value} {cs : List C}, C.ofValues vs = some cs → CReps E cs vs
 | [], cs, h => by simp only [C.ofValues, Option.some.injEq] at h; subst h; rfl
 | v :: vs, cs, h => by
  simp only [C.ofValues] at h
  split at h
  ·rename_i x xs hx hxs
   simp only [Option.some.injEq] at h
   subst h
   exact ⟨v, vs, rfl, C.ofValue_rep hx, C.ofValues_rep hxs⟩
  ·cases h
theorem V.ofValue_rep {E : Env} (v : Value) : VRep E (V.ofValue v) v := by
 unfold V.ofValue
 split
 ·rename_i cs
  split
  ·rename_i l hl
   exact ⟨cs.toList, C.ofValues_rep hl, by simp⟩
  ·exact trivial
 ·split
  ·rename_i x hx
   exact C.ofValue_rep hx
  ·exact trivial
section
variable {E : Env}
theorem CReps.append : ∀ {cs ds : List C} {vs us : List Value}, CReps E cs vs → CReps E ds us → CReps E (cs ++ ds) (vs ++ us)
 | [], _, _, _, h, k => by simp only [CReps] at h; subst h; simpa using k
 | _ :: _, _, _, _, ⟨v, vs', e, h, ht⟩, k => ⟨v, vs' ++ _, by rw [e]; rfl, h, CReps.append ht k⟩
theorem CReps.drop : ∀ {cs : List C} {vs : List Value} (n : Nat), CReps E cs vs → CReps E (cs.drop n) (vs.drop n)
 | [], _, n, h => by simp only [CReps] at h; subst h; simp [CReps]
 | _ :: _, _, 0, h => by simpa using h
 | _ :: _, _, n + 1, ⟨v, vs', e, h, ht⟩ => by subst e; simpa using CReps.drop n ht
theorem CReps.take : ∀ {cs : List C} {vs : List Value} (n : Nat), CReps E cs vs → CReps E (cs.take n) (vs.take n)
 | [], _, n, h => by simp only [CReps] at h; subst h; simp [CReps]
 | _ :: _, _, 0, h => by simp [CReps]
 | _ :: _, _, n + 1, ⟨v, vs', e, h, ht⟩ => by subst e; exact ⟨v, vs'.take n, by simp, h, CReps.take n ht⟩
theorem CReps.split : ∀ {cs ds : List C} {vs : List Value}, CReps E (cs ++ ds) vs → ∃ us ws, vs = us ++ ws ∧ CReps E cs us ∧ CReps E ds ws
 | [], _, vs, h => ⟨[], vs, rfl, rfl, h⟩
 | _ :: cs, _, _, ⟨v, vs', e, h, ht⟩ => by
  obtain ⟨us, ws, e', h1, h2⟩ := CReps.split (cs := cs) ht
  exact ⟨v :: us, ws, by rw [e, e']; rfl, ⟨v, us, rfl, h, h1⟩, h2⟩
theorem CReps.oneCell : ∀ {cs : List C} {vs : List Value}, CReps E cs vs → ∀ v ∈ vs, v.oneCell' = true
 | [], _, h, v, hv => by simp only [CReps] at h; subst h; simp at hv
 | _ :: _, _, ⟨u, vs', e, h, ht⟩, v, hv => by
  subst e
  rcases List.mem_cons.1 hv with rfl | hv
  ·exact CRep.oneCell h
  ·exact CReps.oneCell ht v hv
theorem VRep.cells_of {x : V} {cs : List C} {v : Value} (hx : x.cells = some cs) (h : VRep E x v) : CReps E cs v.cells.toList := by
 cases x with
 | c c =>
  simp only [V.cells, Option.some.injEq] at hx
  subst hx
  have h1 := CRep.oneCell h
  refine ⟨v, [], ?_, h, rfl⟩
  cases v <;> first | rfl | simp [Value.oneCell'] at h1
 | agg ds =>
  simp only [V.cells, Option.some.injEq] at hx
  subst hx
  obtain ⟨vs, h1, h2⟩ := h
  simp only [if_true] at h2
  subst h2
  simpa [Value.cells] using h1
 | junk => simp [V.cells] at hx
 | tup _ => simp [V.cells] at hx
 | eptr _ _ _ _ => simp [V.cells] at hx
 | lptr _ _ _ => simp [V.cells] at hx
 | arr _ _ _ _ => simp [V.cells] at hx
 | mcell _ _ _ => simp [V.cells] at hx
 | mptr _ _ _ _ _ => simp [V.cells] at hx
theorem VRep.mk {agg : Bool} {cs : List C} {v : Value} (h : SRep E agg cs v) : VRep E (V.mk agg cs) v := by
 unfold V.mk
 cases agg with
 | true => exact h
 | false =>
  simp only [cond_false]
  split
  ·rename_i x
   obtain ⟨vs, h1, h2⟩ := h
   simp only [Bool.false_eq_true, if_false] at h2
   subst h2
   obtain ⟨u, us, e, h3, h4⟩ := h1
   simp only [List.cons.injEq] at e
   rw [e.1]
   exact h3
  ·exact trivial
theorem Q1a : ∀ {τ : Ty} {x : τ.den} {vs : List Value}, DRep E.w E.ok τ x vs → CReps E (cells τ x) vs
 | .bool, _, _, h => ⟨_, [], h, rfl, rfl⟩
 | .int _, _, _, h => ⟨_, [], h, rfl, rfl⟩
 | .str, _, _, h => ⟨_, [], h, rfl, rfl⟩
 | .err, _, _, h => by simp only [DRep] at h; obtain ⟨v, e, hv⟩ := h; exact ⟨v, [], e, hv, rfl⟩
 | .unit, _, _, h => h
 | .prod a b, _, _, h => by
  simp only [DRep] at h
  obtain ⟨u, v, e, h1, h2⟩ := h
  rw [e]
  exact (Q1a h1).append (Q1a h2)
 | .slice e, l, vs, h => by
  have h' := h
  simp only [DRep] at h'
  obtain ⟨A, c, xs, e1, _⟩ := h'
  subst e1
  exact ⟨_, [], rfl, h, rfl⟩
theorem Q5v : ∀ (τ : Ty) (x : τ.den), (cells τ x).length = τ.size
 | .bool, _ => rfl
 | .int _, _ => rfl
 | .str, _ => rfl
 | .err, _ => rfl
 | .unit, _ => rfl
 | .prod a b, x => by simp [cells, Ty.size, Q5v a, Q5v b]
 | .slice _, _ => rfl
theorem Q5m {cs : List C} {vs : List Value} {o n : Nat} {r : List C} (h : CReps E cs vs) (hs : sub cs o n = some r) : CReps E r ((vs.drop o).take n) ∧ ((vs.drop o).take n).length = n ∧ o + n ≤ vs.length := by
 unfold sub at hs
 cases hb : Nat.ble (o + n) cs.length with
 | false => simp [hb] at hs
 | true =>
  simp only [hb, cond_true, Option.some.injEq] at hs
  subst hs
  have hle : o + n ≤ cs.length := Nat.le_of_ble_eq_true hb
  have hl := h.length
  exact ⟨(h.drop o).take n, by simp; omega, by omega⟩
theorem Q7q : ∀ {cs : List C} {vs : List Value} {o : Nat} {new : List C} {us : List Value} {r : List C}, CReps E cs vs → CReps E new us → over cs o new = some r →
  CReps E r (vs.take o ++ us ++ vs.drop (o + us.length)) ∧ o + us.length ≤ vs.length
 | cs, vs, 0, new, us, r, h, hn, ho => by
  unfold over at ho
  cases hb : Nat.ble new.length cs.length with
  | false => simp [hb] at ho
  | true =>
   simp only [hb, cond_true, Option.some.injEq] at ho
   subst ho
   have hle : new.length ≤ cs.length := Nat.le_of_ble_eq_true hb
   have h1 := h.length
   have h2 := hn.length
   refine ⟨?_, by omega⟩
   simp only [List.take_zero, List.nil_append, Nat.zero_add]
   rw [h2]
   exact hn.append (h.drop _)
 | [], _, o + 1, _, _, _, _, _, ho => by simp [over] at ho
 | c :: cs, vs, o + 1, new, us, r, ⟨v, vs', e, h, ht⟩, hn, ho => by
  simp only [over] at ho
  split at ho
  ·rename_i r' hr'
   simp only [Option.some.injEq] at ho
   subst ho e
   obtain ⟨h1, h2⟩ := Q7q ht hn hr'
   refine ⟨⟨v, _, ?_, h, h1⟩, by simp; omega⟩
   have : o + 1 + us.length = (o + us.length) + 1 := by omega
   rw [this]
   simp
  ·cases ho
end
end Go.Lift
namespace Go.Lift
open Go.RowKit
theorem andB {a b : Bool} (h : (a && b) = true) : a = true ∧ b = true := by simpa using h
theorem Qe {β : Type} {c : Bool} {x : Option β} {r : β} (h : Qr c x = some r) : c = true ∧ x = some r := by
 cases c with
 | false => cases h
 | true => exact ⟨rfl, h⟩
structure Rows (E : Env) (blp : Nat → Option Blk) (okp : Nat → Prop) (ids : List Nat) : Prop where
 ok : ∀ g, E.ok g → okp g
 row : ∀ b ∈ ids, ∀ t e ver l, blp b = some (.row t e ver l) → E.bl b = some (.row t e ver l) ∧ ∀ sv g, E.pl b = some (.row sv []) → sv.ownBlock = some g → okp g
 mat : ∀ b ∈ ids, ∀ t et e ver iver hole l, blp b = some (.mat t et e ver iver hole l) → E.bl b = some (.mat t et e ver iver hole l) ∧ ∀ sv svs g, E.pl b = some (.row sv svs) → (Pl.row sv svs).has g → okp g
theorem DList.take {w : World} {ok : Nat → Prop} {e : Ty} : ∀ {l : List e.den} {xs : List Value} (n : Nat), DList (fun x u => DRep w ok e x u) l xs → DList (fun x u => DRep w ok e x u) (l.take n) (xs.take (n * e.size))
 | [], _, n, h => by simp only [DList] at h; subst h; simp [DList]
 | _ :: _, _, 0, h => by simp [DList]
 | x :: l, xs, n + 1, ⟨u, v, e1, hr, ht⟩ => by
  refine ⟨u, v.take (n * e.size), ?_, hr, DList.take n ht⟩
  have hu := hr.length
  rw [e1, Nat.succ_mul, List.take_append, List.take_of_length_le (by omega)]
  congr 2
  omega
theorem DList.drop {w : World} {ok : Nat → Prop} {e : Ty} : ∀ {l : List e.den} {xs : List Value} (n : Nat), DList (fun x u => DRep w ok e x u) l xs → DList (fun x u => DRep w ok e x u) (l.drop n) (xs.drop (n * e.size))
 | [], _, n, h => by simp only [DList] at h; subst h; simp [DList]
 | _ :: _, _, 0, h => by simpa using h
 | x :: l, xs, n + 1, ⟨u, v, e1, hr, ht⟩ => by
  have hu := hr.length
  have h2 := DList.drop n ht
  have e2 : xs.drop ((n + 1) * e.size) = v.drop (n * e.size) := by
   rw [e1, Nat.succ_mul, List.drop_append, List.drop_of_length_le (l := u) (by omega), List.nil_append]
   congr 1
   omega
  rw [e2]
  simpa using h2
theorem Q45 {c : C} {cs : List C} {b : Nat} (h : b ∈ Qg cs) : b ∈ Qg (c :: cs) := by
 cases c <;> simp_all [Qg]
theorem Rows.tail {E : Env} {blp : Nat → Option Blk} {okp : Nat → Prop} {c : C} {cs : List C} (h : Rows E blp okp (Qg (c :: cs))) : Rows E blp okp (Qg cs) :=
 ⟨h.ok, fun b hb => h.row b (Q45 hb), fun b hb => h.mat b (Q45 hb)⟩
theorem Rows.sub {E : Env} {blp : Nat → Option Blk} {okp : Nat → Prop} {a b : List Nat} (h : Rows E blp okp a) (hs : ∀ x ∈ b, x ∈ a) : Rows E blp okp b := ⟨h.ok, fun x hx => h.row x (hs x hx), fun x hx => h.mat x (hs x hx)⟩
theorem Q2x : ∀ (cs ds : List C), Qg (cs ++ ds) = Qg cs ++ Qg ds
 | [], _ => rfl
 | c :: cs, ds => by cases c <;> simp [Qg, Q2x cs ds]
def Q1m (E : Env) : Prop := ∀ i B, E.bl i = some B → ∃ p, E.pl i = some p ∧ BRep E B p
theorem Q6g {E : Env} {blp : Nat → Option Blk} (hb : Q1m E) {b ver : Nat} {e : Ty} {l : List e.den} (hsub : ∀ t e ver l, blp b = some (.row t e ver l) → E.bl b = some (.row t e ver l)) (h : Q30 blp b ver e = some l) :
  ∃ t sv xs, blp b = some (.row t e ver l) ∧ E.bl b = some (.row t e ver l) ∧ E.pl b = some (.row sv []) ∧ DList (fun x u => DRep E.w E.ok e x u) l xs ∧ E.w.ownsRow E.base t e.size sv l.length xs := by
 unfold Q30 at h
 split at h
 ·rename_i t e' ver' l' hbl0
  have hbl := hsub _ _ _ _ hbl0
  cases hver : Nat.beq ver ver' with
  | false => rw [hver] at h; cases h
  | true =>
   have : ver = ver' := Nat.eq_of_beq_eq_true hver
   subst this
   simp only [hver, cond_true] at h
   split at h
   ·rename_i he
    subst he
    simp only [Option.some.injEq] at h
    subst h
    obtain ⟨p, hp', hB⟩ := hb b _ hbl
    cases p with
    | cells _ => exact hB.elim
    | row sv svs =>
     obtain ⟨h0, xs, hd, ho⟩ := hB
     subst h0
     exact ⟨t, sv, xs, hbl0, hbl, hp', hd, ho⟩
   ·cases h
 ·cases h
theorem Q8n {E : Env} {blp : Nat → Option Blk} (hb : Q1m E) {b ver : Nat} {e : Ty} {l : List e.den} (hsub : ∀ t e ver l, blp b = some (.row t e ver l) → E.bl b = some (.row t e ver l)) (h : Q30 blp b ver e = some l) {v : Value} (hv : CRep E (.row b ver) v) :
  ∃ t sv xs, E.bl b = some (.row t e ver l) ∧ E.pl b = some (.row sv []) ∧ v = sv ∧ DList (fun x u => DRep E.w E.ok e x u) l xs ∧ E.w.ownsRow E.base t e.size sv l.length xs := by
 obtain ⟨t, sv, xs, _, hbl, hp, hd, ho⟩ := Q6g hb hsub h
 obtain ⟨h1, sv2, svs2, hp2, hcur⟩ := hv
 rw [hp] at hp2
 injection hp2 with hp2
 injection hp2 with hp2 _
 subst hp2
 exact ⟨t, sv, xs, hbl, hp, (hcur t e ver l hbl).2 rfl, hd, ho⟩
theorem Q6u {w : World} {okI : Nat → Prop} {base : Nat} {t : TypeId} {e : Ty} {l : List e.den} {sv v : Value} {xs : List Value} {i j : Nat} (hij : i ≤ j ∧ j ≤ l.length ∧
  ∃ A A' n c, sv = .slice A n c ∧ v = .slice A' (j - i) (c - i) ∧ (i < j → A' = A.map (·.add (i * e.size))) ∧ (i = 0 → A' = A)) (hd : DList (fun x u => DRep w okI e x u) l xs) (ho : w.ownsRow base t e.size sv l.length xs) :
  ∃ A c ys, v = .slice A ((l.take j).drop i).length c ∧ ((l.take j).drop i).length ≤ c ∧ c ≤ maxLen ∧ DList (fun x u => DRep w okI e x u) ((l.take j).drop i) ys ∧
   ∀ k u, ys[k]? = some u → ∃ ad, A = some ad ∧ sv.ownBlock = some ad.block ∧ w.cell? (ad.add k) = some u := by
 obtain ⟨h1, h2, A, A', n, c, hsv, hv, hA, _⟩ := hij
 have hlen : ((l.take j).drop i).length = j - i := by simp; omega
 have hown := ho
 have hc : l.length ≤ c ∧ c ≤ maxLen := by
  rcases ho.2 with ⟨e1, hn⟩ | ⟨g, cap, cur, e1, hbase, hh, hnc, hcm, hcs, htake⟩
  ·rw [hsv] at e1
   injection e1 with _ _ e3
   subst e3
   exact ⟨by omega, by simp [maxLen]⟩
  ·rw [hsv] at e1
   injection e1 with _ _ e3
   subst e3
   exact ⟨hnc, hcm⟩
 refine ⟨A', c - i, (xs.take (j * e.size)).drop (i * e.size), by rw [hv, hlen], by rw [hlen]; omega, by omega, (hd.take j).drop i, fun k u hk => ?_⟩
 rw [List.getElem?_drop, List.getElem?_take] at hk
 split at hk
 ·rename_i hlt
  have hij : i < j := by
   rcases Nat.lt_or_ge i j with h | h
   ·exact h
   ·have : j * e.size ≤ i * e.size := Nat.mul_le_mul_right _ h
    omega
  rcases ho.2 with ⟨e1, hn⟩ | ⟨g, cap, cur, e1, hbase, hh, hnc, hcm, hcs, htake⟩
  ·have : l = [] := List.eq_nil_of_length_eq_zero hn
   subst this
   simp at h2
   omega
  ·rw [hsv] at e1
   injection e1 with e1 _ _
   subst e1
   refine ⟨(⟨g, 0, none⟩ : Addr).add (i * e.size), hA hij, by rw [hsv, Q1p]; rfl, ?_⟩
   rw [Q2l]
   exact hown.cells (g := g) (by rw [hsv]; rfl) _ _ hk
 ·cases hk
theorem Q8o {α : Type} {R : α → List Value → Prop} : ∀ {l : List α} {vs : List Value}, vs.length = l.length → (∀ (i : Nat) x v, l[i]? = some x → vs[i]? = some v → R x [v]) → DList R l vs
 | [], vs, h, _ => by simp only [DList]; exact List.eq_nil_of_length_eq_zero h
 | x :: l, vs, h, hr => by
  cases vs with
  | nil => simp at h
  | cons v vs => exact ⟨[v], vs, rfl, hr 0 x v rfl rfl, Q8o (by simpa using h) fun i y u hy hu => hr (i + 1) y u (by simpa using hy) (by simpa using hu)⟩
theorem Qei {w : World} {base : Nat} {okp : Nat → Prop} {t : TypeId} {e : Ty} {l : List e.den} {sv : Value} {xs : List Value} {n : Nat}
  (hg : ∀ g, sv.ownBlock = some g → okp g) (hd : DList (fun x u => DRep w okp e x u) l xs) (ho : w.ownsRow base t n sv l.length xs) : DRep w okp (.slice e) l [sv] := by
 simp only [DRep]
 have hown := ho
 rcases ho.2 with ⟨rfl, hn⟩ | ⟨g, cap, cur, rfl, hbase, hh, hnc, hcm, hcs, htake⟩
 ·have hl : l = [] := List.eq_nil_of_length_eq_zero hn
  subst hl
  simp only [DList] at hd
  subst hd
  exact ⟨none, 0, [], rfl, by simp, by simp [maxLen], rfl, by simp⟩
 ·refine ⟨some ⟨g, 0, none⟩, cap, xs, rfl, hnc, hcm, hd, fun j u hj => ⟨_, rfl, hg g rfl, hown.cells (g := g) rfl j u hj⟩⟩
theorem Q6v {E : Env} {okp : Nat → Prop} (hok : ∀ g, E.ok g → okp g) {t : TypeId} {e : Ty} {l : List e.den} {sv : Value} {xs : List Value}
  (hg : ∀ g, sv.ownBlock = some g → okp g) (hd : DList (fun x u => DRep E.w E.ok e x u) l xs) (ho : E.w.ownsRow E.base t e.size sv l.length xs) : DRep E.w okp (.slice e) l [sv] := by
 simp only [DRep]
 have hd' : DList (fun x u => DRep E.w okp e x u) l xs := hd.mono fun x u hu => hu.mono (fun g h1 _ => ⟨hok g h1, rfl⟩)
 have hown := ho
 rcases ho.2 with ⟨rfl, hn⟩ | ⟨g, cap, cur, rfl, hbase, hh, hnc, hcm, hcs, htake⟩
 ·have hl : l = [] := List.eq_nil_of_length_eq_zero hn
  subst hl
  simp only [DList] at hd'
  subst hd'
  exact ⟨none, 0, [], rfl, by simp, by simp [maxLen], rfl, by simp⟩
 ·refine ⟨some ⟨g, 0, none⟩, cap, xs, rfl, hnc, hcm, hd', fun j u hj => ⟨_, rfl, hg g rfl, hown.cells (g := g) rfl j u hj⟩⟩
theorem Qix {E : Env} {blp : Nat → Option Blk} {okp : Nat → Prop} (hok : ∀ g, E.ok g → okp g) (hb : Q1m E) {b ver : Nat} {e : Ty} {l : List e.den}
  (hsub : ∀ t et e ver iver hole l, blp b = some (.mat t et e ver iver hole l) → E.bl b = some (.mat t et e ver iver hole l) ∧ ∀ sv svs g, E.pl b = some (.row sv svs) → (Pl.row sv svs).has g → okp g) (h : Qe3 blp b ver e = some l) {v : Value} (hv : CRep E (.mat b ver) v) :
  DRep E.w okp (.slice e) l [v] := by
 cases e with
 | slice e =>
  simp only [Qe3] at h
  unfold Qm5 at h
  split at h
  ·rename_i t et e' ver' iver l' hbl0
   cases hver : Nat.beq ver ver' with
   | false => rw [hver] at h; cases h
   | true =>
    have : ver = ver' := Nat.eq_of_beq_eq_true hver
    subst this
    simp only [hver, cond_true] at h
    split at h
    ·rename_i he
     subst he
     simp only [Option.some.injEq] at h
     subst h
     obtain ⟨hbl, hgs⟩ := hsub _ _ _ _ _ _ _ hbl0
     obtain ⟨h1, sv, svs, hp, hcur⟩ := hv
     have hvs := (hcur _ _ _ _ _ _ _ hbl).2 rfl
     subst hvs
     obtain ⟨p, hp', hB⟩ := hb b _ hbl
     rw [hp] at hp'
     injection hp' with hp'
     subst hp'
     have hM : MatOk E t et e' none l' v svs := hB
     obtain ⟨vs, ho, hvs⟩ := hM.outer
     have hget : ∀ i, i < l'.length → ∃ s, svs[i]? = some (some s) := fun i hi => by
      have hi2 : i < svs.length := by rw [hM.len]; exact hi
      have h2 : svs[i]? = some svs[i] := List.getElem?_eq_getElem hi2
      cases hs : svs[i] with
      | some s => exact ⟨s, by rw [h2, hs]⟩
      | none => rw [hs] at h2; exact absurd (hM.hole i h2) (by simp)
     have hvl : vs.length = l'.length := by rw [ho.1, Nat.mul_one]
     have hd : DList (fun (x : List e'.den) u => DRep E.w okp (.slice e') x u) l' vs := Q8o hvl fun i x u hx hu => by
      have hi := (List.getElem?_eq_some_iff.1 hx).1
      obtain ⟨s, hs⟩ := hget i hi
      have := hvs i s hs
      rw [hu] at this
      injection this with this
      subst this
      obtain ⟨xs, hd, ho⟩ := hM.inner i u x hs hx
      exact Q6v hok (fun g hg => hgs _ _ g hp (.inr ⟨i, u, hs, hg⟩)) hd ho
     have hd2 : DList (fun x u => DRep E.w okp (.slice e') x u) l' vs := hd
     exact Qei (fun g hg => hgs _ _ g hp (.inl hg)) hd2 ho
    ·cases h
  ·cases h
 | _ => simp [Qe3] at h
theorem Q4j {E : Env} {blp : Nat → Option Blk} {okp : Nat → Prop} (hb : Q1m E) : ∀ {τ : Ty} {cs : List C} {vs : List Value} {x : τ.den} {r : List C}, Rows E blp okp (Qg cs) → CReps E cs vs → pack blp τ cs = some (x, r) →
  ∃ us ws, vs = us ++ ws ∧ DRep E.w okp τ x us ∧ CReps E r ws ∧ (∃ ds, cs = ds ++ r)
 | .bool, cs, vs, x, r, hr, h, hp => by
  cases cs with
  | nil => simp [pack] at hp
  | cons c cs =>
   cases c <;> simp only [pack] at hp <;> try (cases hp; done)
   simp only [Option.some.injEq, Prod.mk.injEq] at hp
   obtain ⟨hp1, hp2⟩ := hp
   subst hp1 hp2
   obtain ⟨v, vs', e, h1, h2⟩ := h
   simp only [CRep] at h1
   subst e h1
   exact ⟨[_], vs', rfl, rfl, h2, ⟨[_], rfl⟩⟩
 | .int k, cs, vs, x, r, hr, h, hp => by
  cases cs with
  | nil => simp [pack] at hp
  | cons c cs =>
   cases c <;> simp only [pack] at hp <;> try (cases hp; done)
   rename_i k' n
   split at hp
   ·rename_i hk
    subst hk
    simp only [Option.some.injEq, Prod.mk.injEq] at hp
    obtain ⟨hp1, hp2⟩ := hp
    subst hp1 hp2
    obtain ⟨v, vs', e, h1, h2⟩ := h
    simp only [CRep] at h1
    subst e h1
    exact ⟨[_], vs', rfl, rfl, h2, ⟨[_], rfl⟩⟩
   ·cases hp
 | .err, cs, vs, x, r, hr, h, hp => by
  cases cs with
  | nil => simp [pack] at hp
  | cons c cs =>
   cases c <;> simp only [pack] at hp <;> try (cases hp; done)
   simp only [Option.some.injEq, Prod.mk.injEq] at hp
   obtain ⟨hp1, hp2⟩ := hp
   subst hp1 hp2
   obtain ⟨v, vs', e, h1, h2⟩ := h
   subst e
   exact ⟨[v], vs', rfl, ⟨v, rfl, h1⟩, h2, ⟨[_], rfl⟩⟩
 | .str, cs, vs, x, r, hr, h, hp => by
  cases cs with
  | nil => simp [pack] at hp
  | cons c cs =>
   cases c <;> simp only [pack] at hp <;> try (cases hp; done)
   simp only [Option.some.injEq, Prod.mk.injEq] at hp
   obtain ⟨hp1, hp2⟩ := hp
   subst hp1 hp2
   obtain ⟨v, vs', e, h1, h2⟩ := h
   simp only [CRep] at h1
   subst e h1
   exact ⟨[_], vs', rfl, rfl, h2, ⟨[_], rfl⟩⟩
 | .unit, cs, vs, x, r, hr, h, hp => by
  simp only [pack, Option.some.injEq, Prod.mk.injEq] at hp
  obtain ⟨_, hp2⟩ := hp
  subst hp2
  exact ⟨[], vs, rfl, rfl, h, ⟨[], rfl⟩⟩
 | .prod a b, cs, vs, x, r, hr, h, hp => by
  simp only [pack] at hp
  split at hp
  ·cases hp
  ·rename_i y r1 h1
   split at hp
   ·cases hp
   ·rename_i z r2 h2
    simp only [Option.some.injEq, Prod.mk.injEq] at hp
    obtain ⟨hp1, hp2⟩ := hp
    subst hp1 hp2
    obtain ⟨us, ws, e1, d1, c1, ds1, hc1⟩ := Q4j hb hr h h1
    have hr1 : Rows E blp okp (Qg r1) := hr.sub fun b hbm => by rw [hc1, Q2x]; exact List.mem_append_right _ hbm
    obtain ⟨us2, ws2, e2, d2, c2, ds2, hc2⟩ := Q4j hb hr1 c1 h2
    refine ⟨us ++ us2, ws2, by rw [e1, e2, List.append_assoc], ?_, c2, ⟨ds1 ++ ds2, by rw [hc1, hc2, List.append_assoc]⟩⟩
    simp only [DRep]
    exact ⟨us, us2, rfl, d1, d2⟩
 | .slice e, cs, vs, x, r, hr, h, hp => by
  cases cs with
  | nil => simp [pack] at hp
  | cons c cs =>
   obtain ⟨v, vs', e1, h1, h2⟩ := h
   subst e1
   cases c <;> simp only [pack] at hp <;> try (cases hp; done)
   ·rename_i e' l
    split at hp
    ·rename_i he
     subst he
     simp only [Option.some.injEq, Prod.mk.injEq] at hp
     obtain ⟨hp1, hp2⟩ := hp
     subst hp1 hp2
     exact ⟨[v], vs', rfl, DRep.mono (τ := .slice _) (fun g hg _ => ⟨hr.ok g hg, rfl⟩) h1, h2, ⟨[_], rfl⟩⟩
    ·cases hp
   ·simp only [Option.some.injEq, Prod.mk.injEq] at hp
    obtain ⟨hp1, hp2⟩ := hp
    subst hp1 hp2
    simp only [CRep] at h1
    subst h1
    refine ⟨[_], vs', rfl, ?_, h2, ⟨[_], rfl⟩⟩
    simp only [DRep]
    exact ⟨none, 0, [], rfl, by simp, by simp [maxLen], rfl, by simp⟩
   ·rename_i b ver
    split at hp
    ·cases hp
    ·rename_i l hl
     simp only [Option.some.injEq, Prod.mk.injEq] at hp
     obtain ⟨hp1, hp2⟩ := hp
     subst hp1 hp2
     have hmem : b ∈ Qg (C.row b ver :: cs) := by simp [Qg]
     obtain ⟨t, sv, xs, hbl, hpl, rfl, hd, ho⟩ := Q8n hb (fun t e ver l hB => (hr.row b hmem t e ver l hB).1) hl h1
     have hbp : ∃ t e ver l, blp b = some (.row t e ver l) := by
      unfold Q30 at hl
      split at hl
      ·rename_i h0; exact ⟨_, _, _, _, h0⟩
      ·cases hl
     obtain ⟨t', e', ver', l', hB⟩ := hbp
     exact ⟨[v], vs', rfl, Q6v hr.ok (fun g hg => (hr.row b hmem t' e' ver' l' hB).2 v g hpl hg) hd ho, h2, ⟨[_], rfl⟩⟩
   ·rename_i b ver
    split at hp
    ·cases hp
    ·rename_i l hl
     simp only [Option.some.injEq, Prod.mk.injEq] at hp
     obtain ⟨hp1, hp2⟩ := hp
     subst hp1 hp2
     have hmem : b ∈ Qg (C.mat b ver :: cs) := by simp [Qg]
     exact ⟨[v], vs', rfl, Qix hr.ok hb (hr.mat b hmem) hl h1, h2, ⟨[_], rfl⟩⟩
   ·rename_i b ver i j
    split at hp
    ·cases hp
    ·rename_i l hl
     simp only [Option.some.injEq, Prod.mk.injEq] at hp
     obtain ⟨hp1, hp2⟩ := hp
     subst hp1 hp2
     have hmem : b ∈ Qg (C.sub b ver i j :: cs) := by simp [Qg]
     obtain ⟨t, sv, xs, hB, hbl, hpl, hd, ho⟩ := Q6g hb (fun t e ver l hB => (hr.row b hmem t e ver l hB).1) hl
     obtain ⟨_, sv2, svs2, hpl2, hcur⟩ := h1
     rw [hpl] at hpl2
     injection hpl2 with hpl2
     injection hpl2 with hpl2 _
     subst hpl2
     obtain ⟨A, c, ys, q1, q2, q3, q4, q5⟩ := Q6u ((hcur _ _ _ _ hbl).2 rfl) hd ho
     refine ⟨[v], vs', rfl, ?_, h2, ⟨[_], rfl⟩⟩
     simp only [DRep]
     refine ⟨A, c, ys, by rw [q1], q2, q3, q4.mono fun x u hu => hu.mono (fun g h1 _ => ⟨hr.ok g h1, rfl⟩), fun k u hk => ?_⟩
     obtain ⟨ad, r1, r2, r3⟩ := q5 k u hk
     exact ⟨ad, r1, (hr.row b hmem _ _ _ _ hB).2 sv _ hpl r2, r3⟩
theorem Q3v {E : Env} {blp : Nat → Option Blk} {okp : Nat → Prop} (hb : Q1m E) {τ : Ty} {cs : List C} {vs : List Value} {x : τ.den} (hr : Rows E blp okp (Qg cs)) (h : CReps E cs vs) (hp : Q4s blp τ cs = some x) : DRep E.w okp τ x vs := by
 unfold Q4s at hp
 split at hp
 ·rename_i y hy
  simp only [Option.some.injEq] at hp
  subst hp
  obtain ⟨us, ws, e, d, c, _⟩ := Q4j hb hr h hy
  simp only [CReps] at c
  subst c
  simpa [e] using d
 ·cases hp
theorem Q6h {E : Env} {blp : Nat → Option Blk} {okp : Nat → Prop} (hb : Q1m E) {e : Ty} : ∀ {n : Nat} {cs : List C} {vs : List Value} {l : List e.den}, Rows E blp okp (Qg cs) → CReps E cs vs → Q3k blp e n cs = some l →
  DList (fun x u => DRep E.w okp e x u) l vs ∧ l.length = n
 | 0, [], vs, l, _, h, hp => by
  simp only [Q3k, Option.some.injEq] at hp
  subst hp
  simp only [CReps] at h
  exact ⟨h, rfl⟩
 | 0, _ :: _, _, _, _, _, hp => by simp [Q3k] at hp
 | n + 1, cs, vs, l, hr, h, hp => by
  simp only [Q3k] at hp
  split at hp
  ·rename_i x r hx
   split at hp
   ·rename_i l' hl'
    simp only [Option.some.injEq] at hp
    subst hp
    obtain ⟨us, ws, e1, d1, c1, ds, hc⟩ := Q4j hb hr h hx
    have hr1 : Rows E blp okp (Qg r) := hr.sub fun b hbm => by rw [hc, Q2x]; exact List.mem_append_right _ hbm
    obtain ⟨h1, h2⟩ := Q6h hb hr1 c1 hl'
    exact ⟨⟨us, ws, e1, d1, h1⟩, by simp [h2]⟩
   ·cases hp
  ·cases hp
theorem RelB.blksOk {P : Program} {ok0 : OK0 P} {base : Nat} {pl : Nat → Option Pl} {bl : Nat → Option Blk} {w : World} (h : RelB ok0 base pl bl w) : Q1m (Q4 ok0 base pl bl w) := h.blks
theorem Rows.none (E : Env) (ids : List Nat) : Rows E (fun _ => none) E.ok ids := ⟨fun _ h => h, fun _ _ _ _ _ _ h => (by cases h), fun _ _ _ _ _ _ _ _ _ h => (by cases h)⟩
section
variable {P : Program} {o : Oper} {ρ : Operand → V} {bl : Nat → Option Blk} {β : Type} {r : β}
def Sound (P : Program) (o : Oper) (ρ : Operand → V) (bl : Nat → Option Blk) (kk : K β) (r : β) : Prop :=
 ∃ v rd wr, kk v rd wr = some r ∧ ∀ bl2, (∀ b ∈ rd, bl2 b = bl b) → OpOk P o ρ bl2 v wr
theorem Sound.pure {kk : K β} {v : V} {rd : List Nat} (hk : kk v rd [] = some r) (h : ∀ bl2, (∀ b ∈ rd, bl2 b = bl b) → ∀ (ok0 : OK0 P) (base : Nat) (pl : Nat → Option Pl) (w : World) (a : Act), RelB ok0 base pl bl2 w →
  (∀ x ∈ o.op.operands, VRep (Q4 ok0 base pl bl2 w) (ρ x) (a.eval x)) → ∃ val, (execOp a.eval o).run P w = .ok (.value val) w ∧ VRep (Q4 ok0 base pl bl2 w) v val) : Sound P o ρ bl kk r :=
 ⟨v, rd, [], hk, fun bl2 hb => OpOk.of_pure (h bl2 hb)⟩
theorem Q5b {kk : K β} {x : Operand} (ho : o.op = .move x ∨ o.op = .assign x) (hk : kk (ρ x) [] [] = some r) : Sound P o ρ bl kk r := by
 refine Sound.pure hk fun bl2 _ ok0 base pl w a hr hx => ⟨a.eval x, ?_, hx x ?_⟩
 ·rcases ho with ho | ho <;> simp [execOp, ho]
 ·rcases ho with ho | ho <;> simp [ho, Op.operands]
theorem Qhw {kk : K β} {c a b : Operand} (ho : o.op = .pick c a b) {g : Bool} (hc : ρ c = .c (.bool g)) (hk : cond g (kk (ρ a) [] []) (kk (ρ b) [] []) = some r) : Sound P o ρ bl kk r := by
 have hrun : ∀ (bl2 : Nat → Option Blk) (ok0 : OK0 P) (base : Nat) (pl : Nat → Option Pl) (w : World) (act : Act), (∀ x ∈ o.op.operands, VRep (Q4 ok0 base pl bl2 w) (ρ x) (act.eval x)) →
   (execOp act.eval o).run P w = .ok (.value (if g then act.eval a else act.eval b)) w := by
  intro bl2 ok0 base pl w act hx
  have h1 := hx c (by simp [ho, Op.operands])
  rw [hc] at h1
  have h2 : act.eval c = .bool g := h1
  simp [execOp, ho, h2, asBool]
 cases g with
 | true =>
  exact Sound.pure hk fun bl2 _ ok0 base pl w act hr hx => ⟨_, hrun bl2 ok0 base pl w act hx, by simpa using hx a (by simp [ho, Op.operands])⟩
 | false =>
  exact Sound.pure hk fun bl2 _ ok0 base pl w act hr hx => ⟨_, hrun bl2 ok0 base pl w act hx, by simpa using hx b (by simp [ho, Op.operands])⟩
theorem Q77 {kk : K β} {nx : Nat} {t : TypeId} {cs : List C} (hk : Q4i bl nx t cs kk = some r)
  (hrun : ∀ (bl2 : Nat → Option Blk) (ok0 : OK0 P) (base : Nat) (pl : Nat → Option Pl) (w : World) (a : Act), RelB ok0 base pl bl2 w → (∀ x ∈ o.op.operands, VRep (Q4 ok0 base pl bl2 w) (ρ x) (a.eval x)) →
   ∃ vs : List Value, (execOp a.eval o).run P w = .ok (.value (.pointer (some ⟨w.heap.size, 0, none⟩))) (w.alloc (.cells vs.toArray t)) ∧ CReps (Q4 ok0 base pl bl2 w) cs vs) : Sound P o ρ bl kk r := by
 unfold Q4i at hk
 split at hk
 ·rename_i hn
  refine ⟨_, _, _, hk, fun bl2 hb => ?_⟩
  have hn2 : bl2 nx = none := (hb nx (by simp)).trans hn
  intro ok0 base pl w a hr hx K Q hK
  obtain ⟨vs, h1, h2⟩ := hrun bl2 ok0 base pl w a hr hx
  have hg : w.grownBy (w.alloc (.cells vs.toArray t)) none := World.grownBy_alloc w _ none
  have hp : ∀ g, (Pl.cells w.heap.size).has g → w.heap.size ≤ g := fun g hgg => Nat.le_of_eq hgg
  have hs : Step pl bl2 w (upd pl nx (.cells w.heap.size)) (upd bl2 nx (.cells t cs)) (w.alloc (.cells vs.toArray t)) := Step.new hr hn2 hg hp
  refine Qn h1 (hK _ (upd pl nx (.cells w.heap.size)) _ ?_ hs ?_)
  ·exact RelB.new hr hn2 hg hp ⟨vs, heap_alloc_new w _, h2.mono hs.ext⟩
  ·exact ⟨w.heap.size, by simp [Q4, upd], rfl⟩
 ·cases hk
theorem Qg5 {T : TypeId → Option TI} (hT : TOk P T) {kk : K β} {nx : Nat} {t : TypeId} (ho : o.op = .alloc t) {ti : TI} (ht : T t = some ti) (hk : Q4i bl nx t ti.zero kk = some r) : Sound P o ρ bl kk r := by
 obtain ⟨i, d, z, f⟩ := hT.facts ht
 refine Q77 hk fun bl2 ok0 base pl w a hr hx => ⟨z.cells.toList, ?_, ?_⟩
 ·simp [execOp, ho, Instr.alloc, zeroValue, typeInfo, f.info, f.zero, newVar, newRow]
 ·rw [f.zeroC]
  exact Q27 f.one
theorem Qiy {kk : K β} {nx : Nat} {t : TypeId} {x : Operand} (ho : o.op = .box t x) {cs : List C} (hc : (ρ x).cells = some cs) (hk : Q4i bl nx t cs kk = some r) : Sound P o ρ bl kk r := by
 refine Q77 hk fun bl2 ok0 base pl w a hr hx => ⟨(a.eval x).cells.toList, ?_, ?_⟩
 ·simp [execOp, ho, Instr.box, newVar, newRow]
 ·exact VRep.cells_of hc (hx x (by simp [ho, Op.operands]))
end
end Go.Lift
namespace Go.Lift
open Go.RowKit
theorem Q6i {P : Program} {t : TypeId} {ti : TI} {i : TypeInfo} {d : TypeDesc} {z : Value} (f : TFacts P t ti i d z) (w : World) : (isAgg t).run P w = .ok ti.agg w := by
 rw [f.agg]
 unfold isAgg Q37
 rw [Sem.run_bind, run_underlying f.under w, f.under]
 cases d <;> simp
theorem run_sizeOf {P : Program} {t : TypeId} {ti : TI} {i : TypeInfo} {d : TypeDesc} {z : Value} (f : TFacts P t ti i d z) (w : World) : (sizeOf t).run P w = .ok ti.size w := by
 rw [f.size]
 simp [sizeOf, typeInfo, f.info]
theorem Q28 {P : Program} {t : TypeId} {ti : TI} {i : TypeInfo} {d : TypeDesc} {z : Value} (f : TFacts P t ti i d z) {w : World} {ad : Addr} {us : List Value} (hl : us.length = ti.size)
  (h1 : ti.agg = true ∨ ti.size = 1) (hc : ∀ j u, us[j]? = some u → w.cell? (ad.add j) = some u) {E : Env} {cs : List C} (hr : CReps E cs us) :
  ∃ val, (loadVar t ad).run P w = .ok val w ∧ VRep E (V.mk ti.agg cs) val := by
 unfold loadVar
 cases ha : ti.agg with
 | true =>
  refine ⟨.agg us.toArray, ?_, us, hr, by simp⟩
  have hload := run_loadCells_list (P := P) w ad us hc
  simp [Q6i f, ha, run_sizeOf f, ← hl, hload]
 | false =>
  have hs : us.length = 1 := by
   rcases h1 with h1 | h1
   ·rw [ha] at h1; cases h1
   ·omega
  match us, hs with
  | [u], _ =>
   refine ⟨u, ?_, VRep.mk ⟨[u], hr, by simp⟩⟩
   have h0 := hc 0 u rfl
   have hadd : ad.add 0 = ad := by simp [Addr.add]
   rw [hadd] at h0
   simp [Q6i f, ha, h0]
theorem Q58 {w : World} {g o : Nat} {vs : List Value} {t : TypeId} {fr : Nat × Nat} (hg : w.heap[g]? = some (.cells vs.toArray t fr)) {n j : Nat} {u : Value} (h : ((vs.drop o).take n)[j]? = some u) :
  w.cell? ((⟨g, o, none⟩ : Addr).add j) = some u := by
 rw [Addr.add_lit, cell_of_row w g (o + j) _ t fr hg]
 rw [List.getElem?_take] at h
 split at h
 ·simpa using h
 ·cases h
theorem Qgz {P : Program} {t : TypeId} {ti : TI} {i : TypeInfo} {d : TypeDesc} {z : Value} (f : TFacts P t ti i d z) (h1' : ti.agg = true ∨ ti.size = 1) {E : Env} {base : Nat} {t0 : TypeId} {e : Ty} {l : List e.den} {sv : Value} {xs : List Value}
  (hd : DList (fun x u => DRep E.w E.ok e x u) l xs) (hown : E.w.ownsRow base t0 e.size sv l.length xs) {ix off g n c : Nat} (hi : ix < l.length) (hsv : sv = .slice (some ⟨g, 0, none⟩) n c) {rc : List C} (hsub : sub (cells e (l.getD ix e.dflt)) off ti.size = some rc) :
  ∃ val, (loadVar t ⟨g, ix * e.size + off, none⟩).run P E.w = .ok val E.w ∧ VRep E (V.mk ti.agg rc) val := by
 obtain ⟨u, p1, q1, hxs1, hp1, hde⟩ := DList.get e.dflt hd hi
 have hcs := Q1a (E := E) hde
 obtain ⟨s1, s2, s3⟩ := Q5m hcs hsub
 have hcell : ∀ j v, ((u.drop off).take ti.size)[j]? = some v → E.w.cell? ((⟨g, ix * e.size + off, none⟩ : Addr).add j) = some v := by
  intro j v hj
  rw [List.getElem?_take] at hj
  split at hj
  ·have h2 : xs[ix * e.size + off + j]? = some v := by
    rw [List.getElem?_drop] at hj
    have hlt : off + j < u.length := (List.getElem?_eq_some_iff.1 hj).1
    rw [hxs1, List.getElem?_append_right (by omega), List.getElem?_append_left (by omega)]
    rw [← hj]
    congr 1
    omega
   have h3 := hown.cells (g := g) (by rw [hsv]; rfl) _ _ h2
   rw [Addr.add_lit] at h3 ⊢
   rw [Nat.zero_add] at h3
   exact h3
  ·cases hj
 exact Q28 f s2 h1' hcell s1
section
variable {P : Program} {o : Oper} {ρ : Operand → V} {bl : Nat → Option Blk} {β : Type} {r : β}
theorem Q7r {T : TypeId → Option TI} (hT : TOk P T) {kk : K β} {t : TypeId} {x : Operand} (ho : o.op = .load t x) (hk : Q71 T bl t (ρ x) kk = some r) : Sound P o ρ bl kk r := by
 unfold Q71 at hk
 split at hk
 ·cases hk
 rename_i ti ht
 obtain ⟨i, d, z, f⟩ := hT.facts ht
 cases h1 : (ti.agg || Nat.beq ti.size 1) with
 | false => rw [h1] at hk; cases hk
 | true =>
  have h1' : ti.agg = true ∨ ti.size = 1 := by
   rcases (Bool.or_eq_true _ _).mp h1 with h | h
   ·exact .inl h
   ·exact .inr (Nat.eq_of_beq_eq_true h)
  simp only [h1, cond_true] at hk
  have hrun : ∀ (a : Act) (w : World) (ad : Addr) (val : Value), a.eval x = .pointer (some ad) → (loadVar t ad).run P w = .ok val w → (execOp a.eval o).run P w = .ok (.value val) w := by
   intro a w ad val ha hv
   simp [execOp, ho, ha, Instr.loadAt, Instr.sureAddr, hv]
  split at hk
  ·
   rename_i b off hx
   split at hk
   ·rename_i t0 cs hb
    split at hk
    ·rename_i rc hsub
     refine Sound.pure hk fun bl2 hb2 ok0 base pl w a hr hxs => ?_
     have hb' : bl2 b = some (.cells t0 cs) := (hb2 b (by simp)).trans hb
     have hv := hxs x (by simp [ho, Op.operands])
     rw [hx] at hv
     obtain ⟨g, hg, hav⟩ := hv
     obtain ⟨p, hp, hB⟩ := hr.blks b _ hb'
     have : p = .cells g := by have h2 : pl b = some (.cells g) := hg; rw [hp] at h2; injection h2
     subst this
     obtain ⟨vs, hh, hcs⟩ := hB
     obtain ⟨s1, s2, s3⟩ := Q5m hcs hsub
     obtain ⟨val, hv1, hv2⟩ := Q28 f s2 h1' (fun j u hj => Q58 hh hj) s1
     exact ⟨val, hrun a w _ val hav hv1, hv2⟩
    ·cases hk
   ·cases hk
  ·
   rename_i b ver ix off hx
   split at hk
   ·rename_i t0 e ver' l hb
    cases hver : Nat.beq ver ver' with
    | false => rw [hver] at hk; cases hk
    | true =>
     have := Nat.eq_of_beq_eq_true hver
     subst this
     simp only [hver, cond_true] at hk
     split at hk
     ·rename_i rc hsub
      refine Sound.pure hk fun bl2 hb2 ok0 base pl w a hr hxs => ?_
      have hb' : bl2 b = some (.row t0 e ver l) := (hb2 b (by simp)).trans hb
      have hv := hxs x (by simp [ho, Op.operands])
      rw [hx] at hv
      obtain ⟨sv, svs, ad, hg, hav, hcur⟩ := hv
      obtain ⟨hi, g, n, c, hsv, rfl⟩ := (hcur t0 e ver l hb').2 rfl
      obtain ⟨p, hp, hB⟩ := hr.blks b _ hb'
      have : p = .row sv svs := by have h2 : pl b = some (.row sv svs) := hg; rw [hp] at h2; injection h2
      subst this
      obtain ⟨_, xs, hd, hown⟩ := hB
      obtain ⟨val, hv1, hv2⟩ := Qgz f h1' hd hown hi hsv hsub
      exact ⟨val, hrun a w _ val hav hv1, hv2⟩
     ·cases hk
   ·cases hk
  ·
   rename_i e x0 off hx
   split at hk
   ·rename_i rc hsub
    refine Sound.pure hk fun bl2 hb2 ok0 base pl w a hr hxs => ?_
    have hv := hxs x (by simp [ho, Op.operands])
    rw [hx] at hv
    obtain ⟨xs, ad, hd, hav, hc⟩ := hv
    have hcs := Q1a (E := Q4 ok0 base pl bl2 w) hd
    obtain ⟨s1, s2, s3⟩ := Q5m hcs hsub
    obtain ⟨val, hv1, hv2⟩ := Q28 f s2 h1' (fun j u hj => (hc j u (by
     rw [List.getElem?_take] at hj
     split at hj
     ·exact hj
     ·cases hj)).2) s1
    exact ⟨val, hrun a w _ val hav hv1, hv2⟩
   ·cases hk
  ·
   rename_i b ver ix hx
   split at hk
   ·rename_i t0 et0 e0 ver' iver l hb
    cases hc : (Nat.beq ver ver' && !ti.agg) with
    | false => rw [hc] at hk; cases hk
    | true =>
     simp only [hc, cond_true] at hk
     obtain ⟨hver, hag⟩ := andB hc
     have := Nat.eq_of_beq_eq_true hver
     subst this
     have hag : ti.agg = false := by simpa using hag
     refine Sound.pure hk fun bl2 hb2 ok0 base pl w a hr hxs => ?_
     have hb' : bl2 b = some (.mat t0 et0 e0 ver iver none l) := (hb2 b (by simp)).trans hb
     have hv := hxs x (by simp [ho, Op.operands])
     rw [hx] at hv
     obtain ⟨sv, svs, ad, hg, hav, hcur⟩ := hv
     obtain ⟨hi, g, n, c, hsv, rfl⟩ := (hcur _ _ _ _ _ _ _ hb').2 rfl
     obtain ⟨p, hp, hB⟩ := hr.blks b _ hb'
     have : p = .row sv svs := by have h2 : pl b = some (.row sv svs) := hg; rw [hp] at h2; injection h2
     subst this
     have hM : MatOk _ t0 et0 e0 none l sv svs := hB
     obtain ⟨vs, hown, hvs⟩ := hM.outer
     have hi2 : ix < svs.length := by rw [hM.len]; exact hi
     obtain ⟨s, hs⟩ : ∃ s, svs[ix]? = some (some s) := by
      have h2 : svs[ix]? = some svs[ix] := List.getElem?_eq_getElem hi2
      cases hq : svs[ix] with
      | some s => exact ⟨s, by rw [h2, hq]⟩
      | none => rw [hq] at h2; exact absurd (hM.hole ix h2) (by simp)
     have hcell := hown.cells (g := g) (by rw [hsv]; rfl) _ _ (hvs ix s hs)
     obtain ⟨xs, _, hso⟩ := hM.inner ix s l[ix] hs (List.getElem?_eq_getElem hi)
     have h1s : s.oneCell' = true := by
      rcases hso.2 with ⟨rfl, _⟩ | ⟨g, cap, cur, rfl, _⟩ <;> rfl
     have hrep : CRep (Q4 ok0 base pl bl2 w) (.mrow b iver ix) s := ⟨h1s, sv, svs, hp, fun t et e ver' iver' hole l' h => by
      have h : bl2 b = _ := h
      rw [hb'] at h
      injection h with h
      injection h with h2 h3 h4 h5 h6 h7 h8
      subst h2 h3 h4 h5 h6 h7
      simp only [heq_eq_eq] at h8
      subst h8
      exact ⟨Nat.le_refl _, fun _ => ⟨hi, hs⟩⟩⟩
     have hsz : ti.size = 1 := by
      rcases h1' with h | h
      ·rw [hag] at h; cases h
      ·exact h
     obtain ⟨val, hv1, hv2⟩ := Q28 f (us := [s]) (by rw [hsz]; rfl) h1' (ad := ⟨g, ix, none⟩) (fun j u hj => by
      cases j with
      | zero =>
       simp only [List.getElem?_cons_zero, Option.some.injEq] at hj
       subst hj
       rw [Addr.add_lit] at hcell ⊢
       simpa using hcell
      | succ j => simp at hj) (E := Q4 ok0 base pl bl2 w) (cs := [.mrow b iver ix]) ⟨s, [], rfl, hrep, rfl⟩
     rw [hag] at hv2
     exact ⟨val, hrun a w _ val hav hv1, hv2⟩
   ·cases hk
  ·
   rename_i b iver ix jx off hx
   split at hk
   ·rename_i t0 et0 e ver iver' hole l hb
    cases hver : Nat.beq iver iver' with
    | false => rw [hver] at hk; cases hk
    | true =>
     have := Nat.eq_of_beq_eq_true hver
     subst this
     simp only [hver, cond_true] at hk
     split at hk
     ·rename_i rc hsub
      refine Sound.pure hk fun bl2 hb2 ok0 base pl w a hr hxs => ?_
      have hb' : bl2 b = some (.mat t0 et0 e ver iver hole l) := (hb2 b (by simp)).trans hb
      have hv := hxs x (by simp [ho, Op.operands])
      rw [hx] at hv
      obtain ⟨sv, svs, ad, hg, hav, hcur⟩ := hv
      obtain ⟨s, xr, hlx, hs, hj, g, n, c, hsv, rfl⟩ := (hcur _ _ _ _ _ _ _ hb').2 rfl
      obtain ⟨p, hp, hB⟩ := hr.blks b _ hb'
      have : p = .row sv svs := by have h2 : pl b = some (.row sv svs) := hg; rw [hp] at h2; injection h2
      subst this
      have hM : MatOk _ t0 et0 e hole l sv svs := hB
      obtain ⟨xs, hd, hown⟩ := hM.inner ix s xr hs hlx
      have hgd : l.getD ix [] = xr := by simp [List.getD, hlx]
      rw [hgd] at hsub
      obtain ⟨val, hv1, hv2⟩ := Qgz f h1' hd hown hj hsv hsub
      exact ⟨val, hrun a w _ val hav hv1, hv2⟩
     ·cases hk
   ·cases hk
  ·cases hk
theorem Q4k (w : World) (g : Nat) (cs : Array Value) : w.grownBy (w.setRow g cs) (some g) :=
 ⟨rfl, rfl, rfl, by simp, fun k _ hk => setRow_other w g k _ (fun e => hk (by rw [e]))⟩
theorem Q5w {P : Program} {t : TypeId} {ti : TI} {i : TypeInfo} {d : TypeDesc} {z : Value} (f : TFacts P t ti i d z) {w : World} {g off : Nat} {v : Value} {vs : List Value} {t0 : TypeId}
  (hh : w.heap[g]? = some (.cells vs.toArray t0 (0, 0))) (hl : v.cells.toList.length = ti.size) (hle : off + v.cells.toList.length ≤ vs.length) (h1 : ∀ u ∈ v.cells.toList, u.oneCell' = true) :
  (storeVar t ⟨g, off, none⟩ v).run P w = .ok () (w.setRow g (vs.take off ++ v.cells.toList ++ vs.drop (off + v.cells.toList.length)).toArray) := by
 have hst := run_storeCells_at P g off t0 v.cells.toList 0 vs.toArray w hh (by simpa using hle) h1
 have hl' : v.cells.size = ti.size := by simpa using hl
 simp only [storeVar, Sem.run_bind, run_sizeOf f, Result.andThen_ok, hl', ne_eq, not_true_eq_false, if_false]
 simpa using hst
theorem Qej {P : Program} {t : TypeId} {ti : TI} {i : TypeInfo} {d : TypeDesc} {z : Value} (f : TFacts P t ti i d z) {w : World} {base : Nat} {t0 : TypeId} {size : Nat} {sv : Value} {m : Nat} {xs : List Value} (hown : w.ownsRow base t0 size sv m xs)
  {g o n c : Nat} (hsv : sv = .slice (some ⟨g, 0, none⟩) n c) {v : Value} (h1 : ∀ u ∈ v.cells.toList, u.oneCell' = true) (hl : v.cells.toList.length = ti.size) (hle : o + v.cells.toList.length ≤ xs.length) :
  ∃ w', (storeVar t ⟨g, o, none⟩ v).run P w = .ok () w' ∧ w.grownBy w' (some g) ∧ w'.ownsRow base t0 size sv m (xs.take o ++ v.cells.toList ++ xs.drop (o + v.cells.toList.length)) := by
 obtain ⟨hxl, hown2⟩ := hown
 rcases hown2 with ⟨h0, _⟩ | ⟨g', cap, cur, hsv', hbase, hh, hnc, hcm, hcs', htake⟩
 ·rw [hsv] at h0; cases h0
 have hh : w.heap[g']? = some (.cells cur t0 (0, 0)) := hh
 have hgg : g' = g := by
  rw [hsv] at hsv'
  injection hsv' with e1 e2 e3
  injection e1 with e1
  injection e1 with e1
  exact e1.symm
 subst hgg
 have hcur : cur.toList = xs ++ cur.toList.drop (m * size) := by
  rw [← htake, List.take_append_drop]
 have hle2 : o + v.cells.toList.length ≤ cur.toList.length := by
  rw [hcur]
  simp only [List.length_append]
  omega
 have hst := Q5w f (v := v) (vs := cur.toList) (off := o) (t0 := t0) (g := g') (w := w) (by simpa using hh) hl hle2 h1
 have hnew : cur.toList.take o ++ v.cells.toList ++ cur.toList.drop (o + v.cells.toList.length) = xs.take o ++ v.cells.toList ++ xs.drop (o + v.cells.toList.length) ++ cur.toList.drop (m * size) := by
  have e1 : cur.toList.take o = xs.take o := by
   rw [hcur, List.take_append_of_le_length (by omega)]
  have e2 : cur.toList.drop (o + v.cells.toList.length) = xs.drop (o + v.cells.toList.length) ++ cur.toList.drop (m * size) := by
   conv => lhs; rw [hcur]
   rw [List.drop_append_of_le_length hle]
  rw [e1, e2]
  simp only [List.append_assoc]
 have hnl : (xs.take o ++ v.cells.toList ++ xs.drop (o + v.cells.toList.length)).length = xs.length := by
  simp only [List.length_append, List.length_take, List.length_drop]
  omega
 refine ⟨_, hst, Q4k w g' _, by rw [hnl]; exact hxl, .inr ⟨g', cap, _, hsv', hbase, setRow_heap w g' _ _ t0 _ hh, hnc, hcm, ?_, ?_⟩⟩
 ·have hcs2 : cur.size = cap * size := hcs'
  have : (cur.toList.take o ++ v.cells.toList ++ cur.toList.drop (o + v.cells.toList.length)).length = cur.toList.length := by
   simp only [List.length_append, List.length_take, List.length_drop]
   omega
  rw [List.size_toArray, this, Array.length_toList]
  exact hcs2
 ·simp only [hnew]
  rw [List.take_append_of_le_length (by rw [hnl, hxl]; exact Nat.le_refl _), List.take_of_length_le (by rw [hnl, hxl]; exact Nat.le_refl _)]
theorem Qek {P : Program} {t : TypeId} {ti : TI} {i : TypeInfo} {d : TypeDesc} {z : Value} (f : TFacts P t ti i d z) {E : Env} (hbo : Q1m E) {base : Nat} {t0 : TypeId} {e : Ty} {l : List e.den} {sv : Value} {xs : List Value}
  (hd : DList (fun x u => DRep E.w E.ok e x u) l xs) (hown : E.w.ownsRow base t0 e.size sv l.length xs) {ix off g n c : Nat} (hi : ix < l.length) (hsv : sv = .slice (some ⟨g, 0, none⟩) n c) {new rc : List C} {v : Value} (hy : CReps E new v.cells.toList)
  (hlen' : new.length = ti.size) (hov : over (cells e (l.getD ix e.dflt)) off new = some rc) {x' : e.den} (hpk : Q4s (fun _ => none) e rc = some x') :
  ∃ w' xs', (storeVar t ⟨g, ix * e.size + off, none⟩ v).run P E.w = .ok () w' ∧ E.w.grownBy w' (some g) ∧ DList (fun x u => DRep E.w E.ok e x u) (l.set ix x') xs' ∧ w'.ownsRow base t0 e.size sv l.length xs' := by
 obtain ⟨u, p1, q1, hxs1, hp1, hde⟩ := DList.get e.dflt hd hi
 have hcs := Q1a (E := E) hde
 obtain ⟨s1, s2⟩ := Q7q hcs hy hov
 have hly := hy.length
 have hul := hde.length
 have hx' := Q3v hbo (Rows.none _ _) s1 hpk
 have hx'l := hx'.length
 obtain ⟨p2, u2, q2, hxs2, hp2, hu2, hd2⟩ := DList.set x' _ hd hi hx'
 have hpq : p1 = p2 ∧ u = u2 ∧ q1 = q2 := by
  rw [hxs1] at hxs2
  have h3 := List.append_inj hxs2 (by omega)
  have h4 := List.append_inj h3.2 (by omega)
  exact ⟨h3.1, h4.1, h4.2⟩
 obtain ⟨rfl, rfl, rfl⟩ := hpq
 have hlx : ix * e.size + off + v.cells.toList.length ≤ xs.length := by
  rw [hxs1]
  simp only [List.length_append]
  omega
 obtain ⟨w', h1, h2, h3⟩ := Qej f hown (o := ix * e.size + off) hsv hy.oneCell (by omega) hlx
 refine ⟨w', _, h1, h2, hd2, ?_⟩
 have : p1 ++ (u.take off ++ v.cells.toList ++ u.drop (off + v.cells.toList.length) ++ q1) = xs.take (ix * e.size + off) ++ v.cells.toList ++ xs.drop (ix * e.size + off + v.cells.toList.length) := by
  rw [hxs1]
  have e1 : (p1 ++ (u ++ q1)).take (ix * e.size + off) = p1 ++ u.take off := by
   rw [List.take_append, List.take_of_length_le (by omega), List.take_append_of_le_length (by omega)]
   congr 2
   omega
  have e2 : (p1 ++ (u ++ q1)).drop (ix * e.size + off + v.cells.toList.length) = u.drop (off + v.cells.toList.length) ++ q1 := by
   rw [List.drop_append, List.drop_of_length_le (by omega), List.nil_append, List.drop_append_of_le_length (by omega)]
   congr 2
   omega
  rw [e1, e2]
  simp only [List.append_assoc]
 rw [this]
 exact h3
theorem Q6w {T : TypeId → Option TI} (hT : TOk P T) {kk : K β} {t : TypeId} {x y : Operand} (ho : o.op = .store t x y) (hk : Q5q T bl t (ρ x) (ρ y) kk = some r) : Sound P o ρ bl kk r := by
 unfold Q5q at hk
 split at hk
 ·rename_i ti new ht hnew
  obtain ⟨i, d, z, f⟩ := hT.facts ht
  cases hlen : Nat.beq new.length ti.size with
  | false => rw [hlen] at hk; cases hk
  | true =>
   have hlen' := Nat.eq_of_beq_eq_true hlen
   simp only [hlen, cond_true] at hk
   have hrun : ∀ (a : Act) (w w' : World) (ad : Addr), a.eval x = .pointer (some ad) → (storeVar t ad (a.eval y)).run P w = .ok () w' → (execOp a.eval o).run P w = .ok .skip w' := by
    intro a w w' ad ha hv
    simp [execOp, ho, ha, Instr.storeAt, Instr.sureAddr, hv]
   split at hk
   ·rename_i b off hx
    split at hk
    ·rename_i t0 cs hb
     split at hk
     ·rename_i rc hov
      refine ⟨_, _, _, hk, fun bl2 hb2 => ?_⟩
      have hb' : bl2 b = some (.cells t0 cs) := (hb2 b (by simp)).trans hb
      intro ok0 base pl w a hr hxs K Q hK
      have hv := hxs x (by simp [ho, Op.operands])
      rw [hx] at hv
      obtain ⟨g, hg, hav⟩ := hv
      obtain ⟨p, hp, hB⟩ := hr.blks b _ hb'
      have : p = .cells g := by have h2 : pl b = some (.cells g) := hg; rw [hp] at h2; injection h2
      subst this
      obtain ⟨vs, hh, hcs⟩ := hB
      have hy := VRep.cells_of hnew (hxs y (by simp [ho, Op.operands]))
      obtain ⟨s1, s2⟩ := Q7q hcs hy hov
      have hly := hy.length
      have hst := Q5w f (v := a.eval y) hh (by omega) s2 hy.oneCell
      have hgb := Q4k w g (vs.take off ++ (a.eval y).cells.toList ++ vs.drop (off + (a.eval y).cells.toList.length)).toArray
      have hs := Step.wrote (cs' := rc) hr hb' hp hgb
      refine Q36 (hrun a w _ _ hav hst) (hK undef (upd pl b (.cells g)) _ ?_ hs trivial)
      exact RelB.wrote hr hb' hp hgb ⟨_, setRow_heap w g _ _ t0 _ hh, s1.mono hs.ext⟩
     ·cases hk
    ·cases hk
   ·rename_i b ver ix off hx
    split at hk
    ·rename_i t0 e ver' l hb
     cases hver : Nat.beq ver ver' with
     | false => rw [hver] at hk; cases hk
     | true =>
      have := Nat.eq_of_beq_eq_true hver
      subst this
      simp only [hver, cond_true] at hk
      split at hk
      ·rename_i rc hov
       split at hk
       ·rename_i x' hpk
        refine ⟨_, _, _, hk, fun bl2 hb2 => ?_⟩
        have hb' : bl2 b = some (.row t0 e ver l) := (hb2 b (by simp)).trans hb
        intro ok0 base pl w a hr hxs K Q hK
        have hv := hxs x (by simp [ho, Op.operands])
        rw [hx] at hv
        obtain ⟨sv, svs, ad, hg, hav, hcur⟩ := hv
        obtain ⟨hi, g, n, c, hsv, rfl⟩ := (hcur t0 e ver l hb').2 rfl
        obtain ⟨p, hp, hB⟩ := hr.blks b _ hb'
        have : p = .row sv svs := by have h2 : pl b = some (.row sv svs) := hg; rw [hp] at h2; injection h2
        subst this
        obtain ⟨h0, xs, hd, hown⟩ := hB
        subst h0
        have hy := VRep.cells_of hnew (hxs y (by simp [ho, Op.operands]))
        obtain ⟨w', xs', hst, hgb, hd2, hown2⟩ := Qek f (E := Q4 ok0 base pl bl2 w) hr.blksOk hd hown hi hsv hy hlen' hov hpk
        have hbl : sv.ownBlock = some g := by rw [hsv]; rfl
        have hgb' : w.grownBy w' sv.ownBlock := by rw [hbl]; exact hgb
        have hs := Step.grown (l' := l.set ix x') hr hb' hp hgb' (.inl rfl) ⟨Nat.le_refl _, fun _ => ⟨rfl, by simp⟩⟩
        have hext := hs.ext (ok0 := ok0) (base := base)
        refine Q36 (hrun a w _ _ hav hst) (hK undef (upd pl b (.row sv [])) _ ?_ hs trivial)
        exact RelB.grown hr hb' hp hgb' (.inl rfl) ⟨Nat.le_refl _, fun _ => ⟨rfl, by simp⟩⟩ ⟨rfl, xs', hd2.mono fun x u hu => hu.mono hext.heap, by rw [List.length_set]; exact hown2⟩
       ·cases hk
      ·cases hk
    ·cases hk
   ·
    rename_i b iver ix jx off hx
    split at hk
    ·rename_i t0 et0 e ver iver' hole l hb
     cases hver : Nat.beq iver iver' with
     | false => rw [hver] at hk; cases hk
     | true =>
      have := Nat.eq_of_beq_eq_true hver
      subst this
      simp only [hver, cond_true] at hk
      split at hk
      ·rename_i rc hov
       split at hk
       ·rename_i x' hpk
        refine ⟨_, _, _, hk, fun bl2 hb2 => ?_⟩
        have hb' : bl2 b = some (.mat t0 et0 e ver iver hole l) := (hb2 b (by simp)).trans hb
        intro ok0 base pl w a hr hxs K Q hK
        have hv := hxs x (by simp [ho, Op.operands])
        rw [hx] at hv
        obtain ⟨sv, svs, ad, hg, hav, hcur⟩ := hv
        obtain ⟨s, xr, hlx, hs, hj, g, n, c, hsv, rfl⟩ := (hcur _ _ _ _ _ _ _ hb').2 rfl
        obtain ⟨p, hp, hB⟩ := hr.blks b _ hb'
        have : p = .row sv svs := by have h2 : pl b = some (.row sv svs) := hg; rw [hp] at h2; injection h2
        subst this
        have hM : MatOk _ t0 et0 e hole l sv svs := hB
        obtain ⟨xs, hd, hown⟩ := hM.inner ix s xr hs hlx
        have hgd : l.getD ix [] = xr := by simp [List.getD, hlx]
        rw [hgd] at hov hK
        have hy := VRep.cells_of hnew (hxs y (by simp [ho, Op.operands]))
        obtain ⟨w', xs', hst, hgb, hd2, hown2⟩ := Qek f (E := Q4 ok0 base pl bl2 w) hr.blksOk hd hown hj hsv hy hlen' hov hpk
        have hbl : s.ownBlock = some g := by rw [hsv]; rfl
        have hik : KeepR (some (.mat t0 et0 e ver iver hole l)) (some (.mat t0 et0 e ver iver hole (l.set ix (xr.set jx x')))) sv svs sv svs := by
         refine KeepR.ofMat ⟨Nat.le_refl _, fun _ => ⟨rfl, by simp⟩⟩ ⟨Nat.le_refl _, fun _ => ⟨rfl, ?_⟩⟩
         apply List.ext_getElem?
         intro k
         simp only [List.getElem?_map, List.getElem?_set]
         split
         ·rename_i hk'
          subst hk'
          have hlt := (List.getElem?_eq_some_iff.1 hlx).1
          simp [hlt]
          have := (List.getElem?_eq_some_iff.1 hlx).2
          rw [this]
         ·rfl
        have hog : ∀ g', some g = some g' → (Pl.row sv svs).has g' := fun g' h => by injection h with h; subst h; exact .inr ⟨ix, s, hs, hbl⟩
        have hst2 := Step.grownP hr hb' rfl hp hgb hog (fun g h => .inl h) hik
        have hext := hst2.ext (ok0 := ok0) (base := base)
        refine Q36 (hrun a w _ _ hav hst) (hK undef (upd pl b (.row sv svs)) _ ?_ hst2 trivial)
        refine RelB.grownP hr hb' rfl hp hgb hog (fun g h => .inl h) hik ?_
        obtain ⟨vs, ho1, ho2⟩ := hM.outer
        have hsame : ∀ g', (Pl.row sv svs).has g' → g' ≠ g → w'.heap[g']? = w.heap[g']? := fun g' h hne => hgb.block g' (Own.lt hr ⟨b, _, _, hb', rfl, hp, h⟩) (fun h2 => hne (by injection h2))
        refine ⟨⟨vs, ?_, ho2⟩, by simp [hM.len], hM.hole, fun k s' x'' hks hkx => ?_, hM.sep0, hM.sep⟩
        ·rw [List.length_set]
         exact Qw (Nat.le_refl _) (fun g' hg' => hsame g' (.inl hg') fun h => by subst h; exact hM.sep0 ix s g' hs hg' hbl) ho1
        ·by_cases hki : k = ix
         ·subst hki
          have hlt := (List.getElem?_eq_some_iff.1 hlx).1
          rw [hs] at hks
          injection hks with hks
          injection hks with hks
          subst hks
          simp only [List.getElem?_set_self hlt, Option.some.injEq] at hkx
          subst hkx
          exact ⟨xs', hd2.mono fun x u hu => hu.mono hext.heap, by rw [List.length_set]; exact hown2⟩
         ·rw [List.getElem?_set_ne (fun h => hki h.symm)] at hkx
          obtain ⟨ys, q1, q2⟩ := hM.inner k s' x'' hks hkx
          exact ⟨ys, q1.mono fun x u hu => hu.mono hext.heap, Qw (Nat.le_refl _) (fun g' hg' => hsame g' (.inr ⟨k, s', hks, hg'⟩) fun h => by subst h; exact hM.sep k ix s' s g' hki hks hs hg' hbl) q2⟩
       ·cases hk
      ·cases hk
    ·cases hk
   ·
    rename_i b ver ix hx
    split at hk
    ·rename_i rr rv hyv
     split at hk
     ·rename_i t0 et0 e ver' iver hole l et1 e1 rv' xr hb hbr
      cases hc : (Nat.beq ver ver' && (Nat.beq rv rv' && Nat.beq et0 et1)) with
      | false => rw [hc] at hk; cases hk
      | true =>
       simp only [hc, cond_true] at hk
       obtain ⟨c1, c23⟩ := andB hc
       obtain ⟨c2, c3⟩ := andB c23
       have := Nat.eq_of_beq_eq_true c1
       subst this
       have := Nat.eq_of_beq_eq_true c2
       subst this
       have := Nat.eq_of_beq_eq_true c3
       subst this
       split at hk
       ·rename_i he
        subst he
        obtain ⟨hho, hk⟩ := Qe hk
        refine ⟨_, _, _, hk, fun bl2 hb2 => ?_⟩
        have hb' : bl2 b = some (.mat t0 et0 e1 ver iver hole l) := (hb2 b (by simp)).trans hb
        have hbr' : bl2 rr = some (.row et0 e1 rv xr) := (hb2 rr (by simp)).trans hbr
        intro ok0 base pl w a hr hxs K Q hK
        have hrb : rr ≠ b := by rintro rfl; rw [hb'] at hbr'; cases hbr'
        have hv := hxs x (by simp [ho, Op.operands])
        rw [hx] at hv
        obtain ⟨sv, svs, ad, hg, hav, hcur⟩ := hv
        obtain ⟨hi, g, n, c, hsv, rfl⟩ := (hcur _ _ _ _ _ _ _ hb').2 rfl
        have hvy := hxs y (by simp [ho, Op.operands])
        have hy := VRep.cells_of hnew hvy
        rw [hyv] at hvy
        obtain ⟨h1y, sr, svr, hpr, hcr⟩ := hvy
        have hyr := (hcr _ _ _ _ hbr').2 rfl
        have hpr : pl rr = some (.row sr svr) := hpr
        obtain ⟨p, hp, hB⟩ := hr.blks b _ hb'
        have : p = .row sv svs := by have h2 : pl b = some (.row sv svs) := hg; rw [hp] at h2; injection h2
        subst this
        obtain ⟨pr, hpr', hBr⟩ := hr.blks rr _ hbr'
        have : pr = .row sr svr := by rw [hpr] at hpr'; injection hpr' with h; exact h.symm
        subst this
        obtain ⟨h0, xs, hd, hown⟩ := hBr
        subst h0
        have hM : MatOk _ t0 et0 e1 hole l sv svs := hB
        obtain ⟨vs, ho1, ho2⟩ := hM.outer
        have hcy : (a.eval y).cells.toList = [a.eval y] := by
         rw [hyr]
         rcases hown.2 with ⟨h, _⟩ | ⟨g, cap, cur, h, _⟩ <;> rw [h] <;> rfl
        have hvl : vs.length = l.length := by rw [ho1.1, Nat.mul_one]
        have hly := hy.length
        obtain ⟨w', hst, hgb, hown'⟩ := Qej f ho1 (o := ix) hsv (v := a.eval y) hy.oneCell (by omega) (by rw [hcy]; simp; omega)
        rw [hcy] at hown'
        have hset : vs.take ix ++ [a.eval y] ++ vs.drop (ix + 1) = vs.set ix sr := by
         rw [hyr, List.set_eq_take_append_cons_drop, if_pos (by omega)]
         simp
        have hown2 : w'.ownsRow base t0 1 sv (l.set ix xr).length (vs.set ix sr) := by
         have hown' : w'.ownsRow base t0 1 sv l.length (vs.take ix ++ [a.eval y] ++ vs.drop (ix + [a.eval y].length)) := hown'
         rw [List.length_set, ← hset]
         simpa using hown'
        have hbl : sv.ownBlock = some g := by rw [hsv]; rfl
        have hi2 : ix < svs.length := by rw [hM.len]; exact hi
        have hown_b : ∀ g', (Pl.row sv svs).has g' → Qm pl bl2 b g' := fun g' h => ⟨_, _, hb', rfl, hp, h⟩
        have hown_r : ∀ g', sr.ownBlock = some g' → Qm pl bl2 rr g' := fun g' h => ⟨_, _, hbr', rfl, hpr, .inl h⟩
        have hsepr : ∀ g', sr.ownBlock = some g' → ¬ (Pl.row sv svs).has g' := fun g' h h2 => hr.sep rr b _ _ _ _ g' hrb hbr' hb' rfl rfl hpr hp (.inl h) h2
        have hsvs : ∀ (k : Nat) (s : Value), (svs.set ix (some sr))[k]? = some (some s) → (k = ix ∧ s = sr) ∨ (k ≠ ix ∧ svs[k]? = some (some s)) := fun k s h => by
         by_cases hki : k = ix
         ·subst hki
          rw [List.getElem?_set_self hi2] at h
          injection h with h
          injection h with h
          exact .inl ⟨rfl, h.symm⟩
         ·rw [List.getElem?_set_ne (fun h => hki h.symm)] at h
          exact .inr ⟨hki, h⟩
        have hnewhas : ∀ g', (Pl.row sv (svs.set ix (some sr))).has g' → Qm pl bl2 rr g' ∨ Qm pl bl2 b g' ∨ w.heap.size ≤ g' := fun g' h => by
         rcases h with h | ⟨k, s, hks, h⟩
         ·exact .inr (.inl (hown_b g' (.inl h)))
         ·rcases hsvs k s hks with ⟨_, rfl⟩ | ⟨_, hks⟩
          ·exact .inl (hown_r g' h)
          ·exact .inr (.inl (hown_b g' (.inr ⟨k, s, hks, h⟩)))
        have hog : ∀ g', some g = some g' → Qm pl bl2 rr g' ∨ Qm pl bl2 b g' := fun g' h => by injection h with h; subst h; exact .inr (hown_b _ (.inl hbl))
        have hstep : Step pl bl2 w (upd (upd pl rr (.row sr [])) b (.row sv (svs.set ix (some sr)))) (upd (upd bl2 rr .dead) b (.mat t0 et0 e1 ver (iver + 1) none (l.set ix xr))) w' := by
         refine Step.two hr hrb hgb hog (fun g' h => by cases h) (fun g' _ h => hnewhas g' h) (fun g' h => by rw [hpr] at h; cases h) (fun g' h => by rw [hp] at h; cases h) (fun sv0 svs0 h => ?_) (fun sv0 svs0 h => ?_)
         ·rw [hpr] at h
          injection h with h
          injection h with h h2
          subst h h2
          exact ⟨_, _, rfl, KeepR.ofDead⟩
         ·rw [hp] at h
          injection h with h
          injection h with h h2
          subst h h2
          refine ⟨_, _, rfl, ?_⟩
          rw [hb']
          exact KeepR.ofMat ⟨Nat.le_refl _, fun _ => ⟨rfl, by simp⟩⟩ ⟨by omega, fun h => by omega⟩
        have hext := hstep.ext (ok0 := ok0) (base := base)
        refine Q36 (hrun a w _ _ hav hst) (hK undef (upd (upd pl rr (.row sr [])) b (.row sv (svs.set ix (some sr)))) _ ?_ hstep trivial)
        have hsame : ∀ g', g' ≠ g → g' < w.heap.size → w'.heap[g']? = w.heap[g']? := fun g' hne hlt => hgb.block g' hlt (fun h2 => hne (by injection h2))
        refine RelB.two hr hrb hgb hog (fun g' h => by cases h) (fun g' _ h => hnewhas g' h) (fun g' h => by cases h) hstep trivial ?_
        refine ⟨⟨vs.set ix sr, hown2, fun k s hks => ?_⟩, by simp [hM.len], fun k hk => ?_, fun k s xx hks hkx => ?_, fun k s g' hks h => ?_, fun k j s s' g' hkj hks hjs h => ?_⟩
        ·rcases hsvs k s hks with ⟨rfl, rfl⟩ | ⟨hki, hks⟩
         ·rw [List.getElem?_set_self (by omega)]
         ·rw [List.getElem?_set_ne (fun h => hki h.symm)]
          exact ho2 k s hks
        ·exfalso
         by_cases hki : k = ix
         ·subst hki
          rw [List.getElem?_set_self hi2] at hk
          injection hk with hk
          cases hk
         ·rw [List.getElem?_set_ne (fun h => hki h.symm)] at hk
          have hh := hM.hole k hk
          subst hh
          have : ix = k := of_decide_eq_true hho
          exact hki this.symm
        ·rcases hsvs k s hks with ⟨rfl, rfl⟩ | ⟨hki, hks⟩
         ·rw [List.getElem?_set_self hi] at hkx
          injection hkx with hkx
          subst hkx
          refine ⟨xs, hd.mono fun x u hu => hu.mono hext.heap, Qw (Nat.le_refl _) (fun g' hg' => ?_) hown⟩
          refine hsame g' (fun h => ?_) (Own.lt hr ⟨rr, _, _, hbr', rfl, hpr, .inl hg'⟩)
          subst h
          exact hsepr _ hg' (.inl hbl)
         ·rw [List.getElem?_set_ne (fun h => hki h.symm)] at hkx
          obtain ⟨ys, q1, q2⟩ := hM.inner k s xx hks hkx
          refine ⟨ys, q1.mono fun x u hu => hu.mono hext.heap, Qw (Nat.le_refl _) (fun g' hg' => ?_) q2⟩
          refine hsame g' (fun h => ?_) (Own.lt hr ⟨b, _, _, hb', rfl, hp, .inr ⟨k, s, hks, hg'⟩⟩)
          subst h
          exact hM.sep0 k s _ hks hbl hg'
        ·rcases hsvs k s hks with ⟨rfl, rfl⟩ | ⟨hki, hks⟩
         ·exact fun h2 => hsepr g' h2 (.inl h)
         ·exact hM.sep0 k s g' hks h
        ·rcases hsvs k s hks with ⟨e1, e2⟩ | ⟨hki, hks1⟩
         ·rcases hsvs j s' hjs with ⟨e3, e4⟩ | ⟨hji, hjs1⟩
          ·exact absurd (e1.trans e3.symm) hkj
          ·exact fun h2 => hsepr g' (by rw [← e2]; exact h) (.inr ⟨j, s', hjs1, h2⟩)
         ·rcases hsvs j s' hjs with ⟨e3, e4⟩ | ⟨hji, hjs1⟩
          ·exact fun h2 => hsepr g' (by rw [← e4]; exact h2) (.inr ⟨k, s, hks1, h⟩)
          ·exact hM.sep k j s s' g' hkj hks1 hjs1 h
       ·cases hk
     ·cases hk
    ·cases hk
   ·cases hk
 ·cases hk
end
end Go.Lift
namespace Go.Lift
open Go.RowKit
theorem Q1b {a b : Nat} (h : Nat.blt a b = true) : a < b := by
 have := Nat.le_of_ble_eq_true h
 omega
section
variable {P : Program} {o : Oper} {ρ : Operand → V} {bl : Nat → Option Blk} {β : Type} {r : β}
theorem Q5x {β : Type} {i : Int} {kk : Nat → Option β} {r : β} : ∀ {m j : Nat}, Q5k i kk j m = some r → ∃ q, j ≤ q ∧ i = (q : Int) ∧ kk q = some r ∧ q < j + m
 | 0, j, h => by simp [Q5k] at h
 | m + 1, j, h => by
  simp only [Q5k] at h
  cases hd : decide (i = (j : Int)) with
  | true => rw [hd] at h; exact ⟨j, Nat.le_refl _, of_decide_eq_true hd, h, by omega⟩
  | false =>
   rw [hd] at h
   obtain ⟨q, h1, h2, h3, h4⟩ := Q5x (m := m) h
   exact ⟨q, by omega, h2, h3, by omega⟩
theorem Q29 {x : V} {k : IntKind} {n : Int} (h : ival x = some (k, n)) : x = .c (.int k n) := by
 unfold ival at h
 split at h
 ·simp only [Option.some.injEq, Prod.mk.injEq] at h
  rw [h.1, h.2]
 ·cases h
theorem Qcr {t : TypeId} {ti : TI} {i : TypeInfo} {d : TypeDesc} {z : Value} (f : TFacts P t ti i d z) {k off n : Nat} {g : Bool} (h : ti.flds[k]? = some (off, n, g)) :
  ∃ fs fd j e, d = .struct fs ∧ fs[k]? = some fd ∧ fd.offset = off ∧ P.info? fd.type = some j ∧ j.size = n ∧ P.underlying fd.type = some e ∧ Q37 P fd.type = g := by
 rw [f.flds] at h
 unfold Qe6 at h
 split at h
 ·rename_i fs
  rw [List.getElem?_map] at h
  cases hk : fs.toList[k]? with
  | none => rw [hk] at h; cases h
  | some fd =>
   rw [hk] at h
   simp only [Option.map_some, Option.some.injEq, Prod.mk.injEq] at h
   have hmem : fd ∈ fs.toList := List.mem_of_getElem? hk
   have hkn := f.known
   simp only [Q76, List.all_eq_true] at hkn
   have h1 := hkn fd hmem
   simp only [Bool.and_eq_true, Option.isSome_iff_exists] at h1
   obtain ⟨⟨j, hj⟩, ⟨e, he⟩⟩ := h1
   refine ⟨fs, fd, j, e, rfl, by simpa using hk, h.1, hj, ?_, he, h.2.2⟩
   rw [← h.2.1]
   simp [Program.cellsOf, hj]
 ·simp at h
theorem Qca {fd : Field} {j : TypeInfo} (hj : P.info? fd.type = some j) (hs : j.size ≠ 0) (a : Addr) (w : World) : (fieldPlace a fd).run P w = .ok (a.add fd.offset) w := by
 simp [fieldPlace, sizeOf, typeInfo, hj, hs]
theorem Qb4 {T : TypeId → Option TI} (hT : TOk P T) {kk : K β} {t : TypeId} {x : Operand} {fi : Nat} (ho : o.op = .fieldAddr t x fi) (hk : Q5r T t (ρ x) fi kk = some r) : Sound P o ρ bl kk r := by
 unfold Q5r at hk
 split at hk
 ·cases hk
 rename_i ti ht
 obtain ⟨i, d, z, f⟩ := hT.facts ht
 split at hk
 ·cases hk
 rename_i off n g hf
 obtain ⟨fs, fd, j, e, rfl, hfd, rfl, hj, hjn, he, hg⟩ := Qcr f hf
 cases hn : Nat.beq n 0 with
 | true => rw [hn] at hk; cases hk
 | false =>
  simp only [hn, cond_false] at hk
  have hs : j.size ≠ 0 := by rw [hjn]; rintro rfl; cases hn
  have hrun : ∀ (a : Act) (w : World) (ad : Addr), a.eval x = .pointer (some ad) → (execOp a.eval o).run P w = .ok (.value (.pointer (some (ad.add fd.offset)))) w := by
   intro a w ad ha
   simp [execOp, ho, ha, Instr.fieldAt, run_underlying f.under, hfd, Instr.sureAddr, Qca hj hs]
  split at hk
  ·rename_i b of hx
   refine Sound.pure hk fun bl2 _ ok0 base pl w a hr hxs => ?_
   have hv := hxs x (by simp [ho, Op.operands])
   rw [hx] at hv
   obtain ⟨g', hg', hav⟩ := hv
   refine ⟨_, hrun a w _ hav, g', hg', ?_⟩
   rw [Addr.add_lit]
  ·rename_i b ver ix of hx
   refine Sound.pure hk fun bl2 _ ok0 base pl w a hr hxs => ?_
   have hv := hxs x (by simp [ho, Op.operands])
   rw [hx] at hv
   obtain ⟨sv, svs, ad, hg', hav, hcur⟩ := hv
   refine ⟨_, hrun a w _ hav, sv, svs, _, hg', rfl, fun t1 e1 ver1 l1 hb1 => ?_⟩
   obtain ⟨h1, h2⟩ := hcur t1 e1 ver1 l1 hb1
   refine ⟨h1, fun he => ?_⟩
   obtain ⟨h3, g', n', c', h4, rfl⟩ := h2 he
   exact ⟨h3, g', n', c', h4, by rw [Addr.add_lit, Nat.add_assoc]⟩
  ·rename_i e' x0 of hx
   refine Sound.pure hk fun bl2 _ ok0 base pl w a hr hxs => ?_
   have hv := hxs x (by simp [ho, Op.operands])
   rw [hx] at hv
   obtain ⟨xs, ad, hd, hav, hc⟩ := hv
   refine ⟨_, hrun a w _ hav, xs, _, hd, rfl, fun j' u hj' => ?_⟩
   rw [Q1p, Q2l]
   have h2 : (xs.drop of)[fd.offset + j']? = some u := by
    rw [List.getElem?_drop] at hj' ⊢
    rw [← hj']
    congr 1
    omega
   obtain ⟨h3, h4⟩ := hc _ u h2
   exact ⟨h3, h4⟩
  ·rename_i b iver ix jx of hx
   refine Sound.pure hk fun bl2 _ ok0 base pl w a hr hxs => ?_
   have hv := hxs x (by simp [ho, Op.operands])
   rw [hx] at hv
   obtain ⟨sv, svs, ad, hg', hav, hcur⟩ := hv
   refine ⟨_, hrun a w _ hav, sv, svs, _, hg', rfl, fun t1 et1 e1 ver1 iver1 hole1 l1 hb1 => ?_⟩
   obtain ⟨h1, h2⟩ := hcur t1 et1 e1 ver1 iver1 hole1 l1 hb1
   refine ⟨h1, fun he => ?_⟩
   obtain ⟨s, xr, h3, h4, h5, g', n', c', h6, rfl⟩ := h2 he
   exact ⟨s, xr, h3, h4, h5, g', n', c', h6, by rw [Addr.add_lit, Nat.add_assoc]⟩
  ·cases hk
theorem Q3d {t : TypeId} {ti : TI} {i : TypeInfo} {d : TypeDesc} {z : Value} (f : TFacts P t ti i d z) {e : TypeId} {te : TI} {i' : TypeInfo} {d' : TypeDesc} {z' : Value} (fe : TFacts P e te i' d' z') (hd : d = .slice e)
  {k : IntKind} {ix : Int} {ad : Addr} {n c : Nat} (h0 : 0 ≤ ix) (h1 : ix < (n : Int)) (w : World) :
  (Instr.indexAt t (.slice (some ad) n c) (.int k ix)).run P w = .ok (.pointer (some (ad.add (ix.toNat * te.size)))) w := by
 subst hd
 have h := f.under
 simp [Instr.indexAt, asIntOf, run_underlying f.under, h0, h1, run_sizeOf fe]
theorem Ql {t : TypeId} {ti : TI} {i : TypeInfo} {d : TypeDesc} {z : Value} (f : TFacts P t ti i d z) {e : TypeId} (h : ti.elem = some e) (hl : ti.len = none) : d = .slice e := by
 rw [f.elem] at h
 rw [f.alen] at hl
 cases d <;> simp_all [Qe7, lenD]
theorem Q7s {t : TypeId} {ti : TI} {i : TypeInfo} {d : TypeDesc} {z : Value} (f : TFacts P t ti i d z) {e : TypeId} {n : Nat} (h : ti.elem = some e) (hl : ti.len = some n) : d = .array n e := by
 rw [f.elem] at h
 rw [f.alen] at hl
 cases d <;> simp_all [Qe7, lenD]
theorem Qky {w : World} {ok : Nat → Prop} {e : Ty} {l : List e.den} {v : Value} (h : DRep w ok (.slice e) l [v]) {i : Nat} (hi : i < l.length) (hs : 0 < e.size) :
  ∃ ad c u, v = .slice (some ad) l.length c ∧ DRep w ok e (l.getD i e.dflt) u ∧ ∀ j x, u[j]? = some x → ok ad.block ∧ w.cell? (ad.add (i * e.size + j)) = some x := by
 simp only [DRep] at h
 obtain ⟨A, c, xs, hv, hle, hcm, hd, hx⟩ := h
 obtain ⟨u, p, q, hxs, hp, hu⟩ := DList.get e.dflt hd hi
 have hul := hu.length
 have hpos : 0 < u.length := by omega
 have h0 : xs[i * e.size]? = some u[0] := by
  rw [hxs, List.getElem?_append_right (by omega), List.getElem?_append_left (by omega)]
  simp [hp]
 obtain ⟨ad, rfl, _, _⟩ := hx _ _ h0
 simp only [List.cons.injEq, and_true] at hv
 refine ⟨ad, c, u, hv, hu, fun j x hj => ?_⟩
 have hjl : j < u.length := (List.getElem?_eq_some_iff.1 hj).1
 have h1 : xs[i * e.size + j]? = some x := by
  rw [hxs, List.getElem?_append_right (by omega), List.getElem?_append_left (by omega), ← hj]
  congr 1
  omega
 obtain ⟨ad', ha, ho, hc⟩ := hx _ _ h1
 injection ha with ha
 subst ha
 exact ⟨ho, hc⟩
theorem Qb5 {T : TypeId → Option TI} (hT : TOk P T) {kk : K β} {t : TypeId} {x y : Operand} (ho : o.op = .indexAddr t x y) (hk : Q5s T bl t (ρ x) (ρ y) kk = some r) : Sound P o ρ bl kk r := by
 unfold Q5s at hk
 split at hk
 ·cases hk
 rename_i k ix hix
 have hy := Q29 hix
 have hyv : ∀ (a : Act) (E : Env), VRep E (ρ y) (a.eval y) → a.eval y = .int k ix := by
  intro a E h
  rw [hy] at h
  exact h
 have hrun : ∀ (a : Act) (w : World), execOp a.eval o = (do pure (.value (← Instr.indexAt t (a.eval x) (a.eval y)))) := by
  intro a w
  simp [execOp, ho]
 split at hk
 ·cases hk
 rename_i ti ht
 obtain ⟨i, d, z, f⟩ := hT.facts ht
 split at hk
 ·
  rename_i et hel hal
  have hd := Ql f hel hal
  split at hk
  ·cases hk
  rename_i te hte
  obtain ⟨i', d', z', fe⟩ := hT.facts hte
  split at hk
  ·rename_i e l hx
   cases hs : (Nat.beq e.size te.size && Nat.blt 0 te.size) with
   | false => rw [hs] at hk; cases hk
   | true =>
    obtain ⟨hs1, hs2⟩ := andB hs
    have hs1' := Nat.eq_of_beq_eq_true hs1
    have hs2' : 0 < te.size := Q1b hs2
    simp only [hs, cond_true] at hk
    obtain ⟨hc, hk⟩ := Qe hk
    obtain ⟨hc1, hc2⟩ := andB hc
    have hc1 := of_decide_eq_true hc1
    have hc2 := of_decide_eq_true hc2
    refine Sound.pure hk fun bl2 _ ok0 base pl w a hr hxs => ?_
    have hv := hxs x (by simp [ho, Op.operands])
    have hyv' := hyv a _ (hxs y (by simp [ho, Op.operands]))
    rw [hx] at hv
    obtain ⟨ad, c, u, hav, hu, hcell⟩ := Qky hv (i := ix.toNat) (by omega) (by omega)
    refine ⟨.pointer (some (ad.add (ix.toNat * te.size))), ?_, u, _, hu, rfl, fun j x hj => ?_⟩
    ·rw [hrun a w, hyv', hav]
     simp [Q3d f fe hd hc1 hc2]
    ·rw [Q1p, Q2l, ← hs1']
     exact hcell j x (by simpa using hj)
  ·rename_i b ver hx
   split at hk
   ·rename_i t0 e ver' l hb
    cases hs : (Nat.beq ver ver' && (Nat.beq e.size te.size && Nat.blt 0 te.size)) with
    | false => rw [hs] at hk; cases hk
    | true =>
     obtain ⟨hver, hs12⟩ := andB hs
     obtain ⟨hs1, hs2⟩ := andB hs12
     have hs1' := Nat.eq_of_beq_eq_true hs1
     have hs2' : 0 < te.size := Q1b hs2
     have := Nat.eq_of_beq_eq_true hver
     subst this
     simp only [hs, cond_true] at hk
     obtain ⟨hc, hk⟩ := Qe hk
     obtain ⟨hc1, hc2⟩ := andB hc
     have hc1 := of_decide_eq_true hc1
     have hc2 := of_decide_eq_true hc2
     refine Sound.pure hk fun bl2 hb2 ok0 base pl w a hr hxs => ?_
     have hb' : bl2 b = some (.row t0 e ver l) := (hb2 b (by simp)).trans hb
     have hv := hxs x (by simp [ho, Op.operands])
     have hyv' := hyv a _ (hxs y (by simp [ho, Op.operands]))
     rw [hx] at hv
     obtain ⟨_, sv, svs, hg, hcur⟩ := hv
     have hav := (hcur t0 e ver l hb').2 rfl
     obtain ⟨p, hp, hB⟩ := hr.blks b _ hb'
     have : p = .row sv svs := by have h2 : pl b = some (.row sv svs) := hg; rw [hp] at h2; injection h2
     subst this
     obtain ⟨h0, xs, hd', hown⟩ := hB
     rcases hown.2 with ⟨hsv, hn⟩ | ⟨g, cap, cur, hsv, _⟩
     ·omega
     ·refine ⟨.pointer (some ((⟨g, 0, none⟩ : Addr).add (ix.toNat * te.size))), ?_, sv, svs, _, hg, rfl, fun t1 e1 ver1 l1 hb1 => ?_⟩
      ·rw [hrun a w, hyv', hav, hsv]
       simp [Q3d f fe hd hc1 hc2]
      ·obtain ⟨h1, h2⟩ := hcur t1 e1 ver1 l1 hb1
       refine ⟨h1, fun he => ?_⟩
       have hb1' : bl2 b = some (.row t1 e1 ver1 l1) := hb1
       rw [hb'] at hb1'
       injection hb1' with hb1'
       injection hb1' with q1 q2 q3 q4
       subst q2
       simp only [heq_eq_eq] at q4
       subst q4
       refine ⟨by omega, g, _, _, hsv, ?_⟩
       rw [Addr.add_lit, hs1']
       simp
   ·cases hk
  ·
   rename_i b ver lo hi hx
   split at hk
   ·rename_i t0 e ver' l hb
    cases hs : (Nat.beq ver ver' && (Nat.beq e.size te.size && Nat.blt 0 te.size)) with
    | false => rw [hs] at hk; cases hk
    | true =>
     obtain ⟨hver, hs12⟩ := andB hs
     obtain ⟨hs1, hs2⟩ := andB hs12
     have hs1' := Nat.eq_of_beq_eq_true hs1
     have hs2' : 0 < te.size := Q1b hs2
     have := Nat.eq_of_beq_eq_true hver
     subst this
     simp only [hs, cond_true] at hk
     obtain ⟨hc, hk⟩ := Qe hk
     obtain ⟨hc1, hc2⟩ := andB hc
     have hc1 := of_decide_eq_true hc1
     have hc2 := of_decide_eq_true hc2
     refine Sound.pure hk fun bl2 hb2 ok0 base pl w a hr hxs => ?_
     have hb' : bl2 b = some (.row t0 e ver l) := (hb2 b (by simp)).trans hb
     have hv := hxs x (by simp [ho, Op.operands])
     have hyv' := hyv a _ (hxs y (by simp [ho, Op.operands]))
     rw [hx] at hv
     obtain ⟨_, sv, svs, hg, hcur⟩ := hv
     obtain ⟨q1, q2, A, A', n, c, hsv, hav, hA, _⟩ := (hcur t0 e ver l hb').2 rfl
     obtain ⟨p, hp, hB⟩ := hr.blks b _ hb'
     have : p = .row sv svs := by have h2 : pl b = some (.row sv svs) := hg; rw [hp] at h2; injection h2
     subst this
     obtain ⟨h0, xs, hd', hown⟩ := hB
     have hlt : lo < hi := by omega
     have hA := hA hlt
     rcases hown.2 with ⟨hsv2, hn⟩ | ⟨g, cap, cur, hsv2, _⟩
     ·omega
     ·have hAg : A = some ⟨g, 0, none⟩ := by rw [hsv] at hsv2; injection hsv2
      subst hAg
      have hA : A' = some ((⟨g, 0, none⟩ : Addr).add (lo * e.size)) := hA
      subst hA
      refine ⟨.pointer (some (((⟨g, 0, none⟩ : Addr).add (lo * e.size)).add (ix.toNat * te.size))), ?_, sv, svs, _, hg, rfl, fun t1 e1 ver1 l1 hb1 => ?_⟩
      ·rw [hrun a w, hyv', hav]
       simp [Q3d f fe hd hc1 hc2]
      ·obtain ⟨h1, _⟩ := hcur t1 e1 ver1 l1 hb1
       refine ⟨h1, fun he => ?_⟩
       have hb1' : bl2 b = some (.row t1 e1 ver1 l1) := hb1
       rw [hb'] at hb1'
       injection hb1' with hb1'
       injection hb1' with q1 q2 q3 q4
       subst q2
       simp only [heq_eq_eq] at q4
       subst q4
       refine ⟨by omega, g, _, _, hsv, ?_⟩
       rw [Q2l, Addr.add_lit, ← hs1', Nat.add_mul]
       simp
   ·cases hk
  ·
   rename_i b ver hx
   split at hk
   ·rename_i t0 et0 e0 ver' iver hole l hb
    cases hs : (Nat.beq ver ver' && Nat.beq 1 te.size) with
    | false => rw [hs] at hk; cases hk
    | true =>
     obtain ⟨hver, hs1⟩ := andB hs
     have hs1' := Nat.eq_of_beq_eq_true hs1
     have := Nat.eq_of_beq_eq_true hver
     subst this
     simp only [hs, cond_true] at hk
     obtain ⟨hc, hk⟩ := Qe hk
     obtain ⟨hc1, hc2⟩ := andB hc
     have hc1 := of_decide_eq_true hc1
     have hc2 := of_decide_eq_true hc2
     refine Sound.pure hk fun bl2 hb2 ok0 base pl w a hr hxs => ?_
     have hb' : bl2 b = some (.mat t0 et0 e0 ver iver hole l) := (hb2 b (by simp)).trans hb
     have hv := hxs x (by simp [ho, Op.operands])
     have hyv' := hyv a _ (hxs y (by simp [ho, Op.operands]))
     rw [hx] at hv
     obtain ⟨_, sv, svs, hg, hcur⟩ := hv
     have hav := (hcur _ _ _ _ _ _ _ hb').2 rfl
     obtain ⟨p, hp, hB⟩ := hr.blks b _ hb'
     have : p = .row sv svs := by have h2 : pl b = some (.row sv svs) := hg; rw [hp] at h2; injection h2
     subst this
     have hM : MatOk _ t0 et0 e0 hole l sv svs := hB
     obtain ⟨vs, hown, _⟩ := hM.outer
     rcases hown.2 with ⟨hsv, hn⟩ | ⟨g, cap, cur, hsv, _⟩
     ·omega
     ·refine ⟨.pointer (some ((⟨g, 0, none⟩ : Addr).add (ix.toNat * te.size))), ?_, sv, svs, _, hg, rfl, fun t1 et1 e1 ver1 iver1 hole1 l1 hb1 => ?_⟩
      ·rw [hrun a w, hyv', hav, hsv]
       simp [Q3d f fe hd hc1 hc2]
      ·obtain ⟨h1, h2⟩ := hcur t1 et1 e1 ver1 iver1 hole1 l1 hb1
       refine ⟨h1, fun he => ?_⟩
       have hb1' : bl2 b = some (.mat t1 et1 e1 ver1 iver1 hole1 l1) := hb1
       rw [hb'] at hb1'
       injection hb1' with hb1'
       injection hb1' with q1 q2 q3 q4 q5 q6 q7
       subst q3
       simp only [heq_eq_eq] at q7
       subst q7
       refine ⟨by omega, g, _, _, hsv, ?_⟩
       rw [Addr.add_lit, ← hs1']
       simp
   ·cases hk
  ·
   rename_i b iver ri hx
   split at hk
   ·rename_i t0 et0 e ver iver' hole l hb
    cases hs : (Nat.beq iver iver' && (Nat.beq e.size te.size && Nat.blt 0 te.size)) with
    | false => rw [hs] at hk; cases hk
    | true =>
     obtain ⟨hver, hs12⟩ := andB hs
     obtain ⟨hs1, hs2⟩ := andB hs12
     have hs1' := Nat.eq_of_beq_eq_true hs1
     have hs2' : 0 < te.size := Q1b hs2
     have := Nat.eq_of_beq_eq_true hver
     subst this
     simp only [hs, cond_true] at hk
     obtain ⟨hc, hk⟩ := Qe hk
     obtain ⟨hc1, hc2⟩ := andB hc
     have hc1 := of_decide_eq_true hc1
     have hc2 := of_decide_eq_true hc2
     refine Sound.pure hk fun bl2 hb2 ok0 base pl w a hr hxs => ?_
     have hb' : bl2 b = some (.mat t0 et0 e ver iver hole l) := (hb2 b (by simp)).trans hb
     have hv := hxs x (by simp [ho, Op.operands])
     have hyv' := hyv a _ (hxs y (by simp [ho, Op.operands]))
     rw [hx] at hv
     obtain ⟨_, sv, svs, hg, hcur⟩ := hv
     obtain ⟨hri, hss⟩ := (hcur _ _ _ _ _ _ _ hb').2 rfl
     obtain ⟨p, hp, hB⟩ := hr.blks b _ hb'
     have : p = .row sv svs := by have h2 : pl b = some (.row sv svs) := hg; rw [hp] at h2; injection h2
     subst this
     have hM : MatOk _ t0 et0 e hole l sv svs := hB
     obtain ⟨xs, hd', hown⟩ := hM.inner ri (a.eval x) l[ri] hss (List.getElem?_eq_getElem hri)
     have hgd : l.getD ri [] = l[ri] := by simp [List.getD, hri]
     rw [hgd] at hc2
     rcases hown.2 with ⟨hsv, hn⟩ | ⟨g, cap, cur, hsv, _⟩
     ·omega
     ·refine ⟨.pointer (some ((⟨g, 0, none⟩ : Addr).add (ix.toNat * te.size))), ?_, sv, svs, _, hg, rfl, fun t1 et1 e1 ver1 iver1 hole1 l1 hb1 => ?_⟩
      ·rw [hrun a w, hyv', hsv]
       simp [Q3d f fe hd hc1 hc2]
      ·obtain ⟨h1, h2⟩ := hcur t1 et1 e1 ver1 iver1 hole1 l1 hb1
       refine ⟨h1, fun he => ?_⟩
       have hb1' : bl2 b = some (.mat t1 et1 e1 ver1 iver1 hole1 l1) := hb1
       rw [hb'] at hb1'
       injection hb1' with hb1'
       injection hb1' with q1 q2 q3 q4 q5 q6 q7
       subst q3
       simp only [heq_eq_eq] at q7
       subst q7
       refine ⟨a.eval x, l[ri], List.getElem?_eq_getElem hri, hss, by omega, g, _, _, hsv, ?_⟩
       rw [Addr.add_lit, hs1']
       simp
   ·cases hk
  ·cases hk
 ·
  rename_i et n hel hal
  have hd := Q7s f hel hal
  subst hd
  split at hk
  ·rename_i b off hx
   split at hk
   ·rename_i te hte
    obtain ⟨i', d', z', fe⟩ := hT.facts hte
    obtain ⟨j, hj0, hj, hk, hj1⟩ := Q5x hk
    have hs' : j < n := by omega
    refine Sound.pure hk fun bl2 hb2 ok0 base pl w a hr hxs => ?_
    have hv := hxs x (by simp [ho, Op.operands])
    have hyv' := hyv a _ (hxs y (by simp [ho, Op.operands]))
    rw [hx] at hv
    obtain ⟨g, hg, hav⟩ := hv
    refine ⟨.pointer (some ((⟨g, off, none⟩ : Addr).add (j * te.size))), ?_, g, hg, by rw [Addr.add_lit]⟩
    rw [hrun a w, hyv', hav, hj]
    simp [Instr.indexAt, asIntOf, run_underlying f.under, Instr.sureAddr, hs', run_sizeOf fe]
   ·cases hk
  ·rename_i b ver q off hx
   split at hk
   ·rename_i te hte
    obtain ⟨i', d', z', fe⟩ := hT.facts hte
    obtain ⟨j, hj0, hj, hk, hj1⟩ := Q5x hk
    have hs' : j < n := by omega
    refine Sound.pure hk fun bl2 hb2 ok0 base pl w a hr hxs => ?_
    have hv := hxs x (by simp [ho, Op.operands])
    have hyv' := hyv a _ (hxs y (by simp [ho, Op.operands]))
    rw [hx] at hv
    obtain ⟨sv, svs, ad, hp, hav, hcur⟩ := hv
    refine ⟨.pointer (some (ad.add (j * te.size))), ?_, sv, svs, _, hp, rfl, fun t e ver' l hb => ?_⟩
    ·rw [hrun a w, hyv', hav, hj]
     simp [Instr.indexAt, asIntOf, run_underlying f.under, Instr.sureAddr, hs', run_sizeOf fe]
    ·obtain ⟨h1, h2⟩ := hcur t e ver' l hb
     refine ⟨h1, fun h => ?_⟩
     obtain ⟨h3, g, n', c, h4, h5⟩ := h2 h
     refine ⟨h3, g, n', c, h4, ?_⟩
     rw [h5, Addr.add_lit, Nat.add_assoc]
   ·cases hk
  ·cases hk
 ·cases hk
end
end Go.Lift
namespace Go.Lift
open Go.RowKit
theorem Q8p (l : List UInt8) : (⟨l.toArray⟩ : ByteArray).toList = l := by rw [ByteArray.toList_eq]
section
variable {P : Program} {o : Oper} {ρ : Operand → V} {bl : Nat → Option Blk} {β : Type} {r : β}
theorem Qg6 {w : World} {op : BinOp} {t : TypeId} {x y : Operand} {k k' : IntKind} {a b : Int} : (eqGuard op t x y (.int k a) (.int k' b)).run P w = .ok () w := by
 unfold eqGuard
 cases op <;> simp
theorem Qg7 {w : World} {op : BinOp} {t : TypeId} {x y : Operand} {a b : ByteArray} : (eqGuard op t x y (.string a) (.string b)).run P w = .ok () w := by
 unfold eqGuard
 cases op <;> simp
theorem Qel {w : World} {op : BinOp} {t : TypeId} {x y : Operand} {a b : Bool} : (eqGuard op t x y (.bool a) (.bool b)).run P w = .ok () w := by
 unfold eqGuard
 cases op <;> simp
theorem Q5y {t : TypeId} {k : BK} (h : Q4v P t = some k) (w : World) : (isAgg t).run P w = .ok false w := by
 unfold isAgg
 unfold Q4v at h
 split at h <;> first | (rename_i hu; simp [run_underlying hu]; done) | cases h
theorem Q7t {w : World} (d0 : Nat) {t : TypeId} {k : BK} (hb : Q4v P t = some k) {ks : List BK} {a b : C} {as bs : List C} {x y : Value} {E : Env} (ha : CRep E a x) (hy : CRep E b y) {q : Bool} (hq : Qd (k :: ks) (a :: as) (b :: bs) = some q) :
  ∃ q1 q2, (Op.equalIn (d0 + 1) t x y).run P w = .ok q1 w ∧ Qd ks as bs = some q2 ∧ q = (q1 && q2) := by
 unfold Q4v at hb
 cases k <;> cases a <;> try (simp [Qd] at hq; done)
 ·cases b <;> simp only [Qd] at hq <;> try (cases hq; done)
  rename_i a b
  split at hq
  ·rename_i q2 h2
   simp only [CRep] at ha hy
   subst ha hy
   simp only [Option.some.injEq] at hq
   split at hb <;> try (cases hb; done)
   rename_i hu
   exact ⟨_, q2, run_equalIn_bool' w d0 t _ _ hu, h2, hq.symm⟩
  ·cases hq
 ·cases b <;> simp only [Qd] at hq <;> try (cases hq; done)
  rename_i ka a kb b
  split at hq
  ·rename_i hk
   subst hk
   split at hq
   ·rename_i q2 h2
    simp only [CRep] at ha hy
    subst ha hy
    simp only [Option.some.injEq] at hq
    split at hb <;> try (cases hb; done)
    rename_i k' hu
    exact ⟨_, q2, run_equalIn_int w d0 t _ _ _ _ hu, h2, hq.symm⟩
   ·cases hq
  ·cases hq
 ·cases b <;> simp only [Qd] at hq <;> try (cases hq; done)
  rename_i a b
  split at hq
  ·rename_i q2 h2
   simp only [CRep] at ha hy
   subst ha hy
   simp only [Option.some.injEq] at hq
   split at hb <;> try (cases hb; done)
   rename_i hu
   refine ⟨_, q2, run_equalIn_string w d0 t _ _ hu, h2, ?_⟩
   rw [Q8p, Q8p, ← hq]
   by_cases h : a = b <;> simp [h]
  ·cases hq
theorem Q8q {w : World} (d0 : Nat) : ∀ (fs : List Field) (i : Nat) (ks : List BK) (as bs : List C) (xs ys : List Value) (E : Env) (xa ya : Array Value), Q53 P i fs = some ks → CReps E as xs → CReps E bs ys →
  xa.toList.drop i = xs → ya.toList.drop i = ys → ∀ {q : Bool}, Qd ks as bs = some q → (Op.eqFields (d0 + 1) xa ya fs).run P w = .ok q w := by
 intro fs
 induction fs with
 | nil =>
  intro i ks as bs xs ys E xa ya hf ha hb _ _ q hq
  simp only [Q53, Option.some.injEq] at hf
  subst hf
  cases as with
  | cons a as => simp [Qd] at hq
  | nil =>
   cases bs with
   | nil => simp only [Qd, Option.some.injEq] at hq; subst hq; simp [Op.eqFields]
   | cons b bs => simp [Qd] at hq
 | cons f fs ih =>
  intro i ks as bs xs ys E xa ya hf ha hb hxa hya q hq
  simp only [Q53] at hf
  cases hn : (f.name != "_" && Nat.beq f.offset i) with
  | false => rw [hn] at hf; cases hf
  | true =>
   simp only [hn, cond_true] at hf
   obtain ⟨hname, hoff⟩ := andB hn
   have hoff := Nat.eq_of_beq_eq_true hoff
   split at hf
   ·rename_i k ks' hbas hrest
    simp only [Option.some.injEq] at hf
    subst hf
    cases as with
    | nil => simp [Qd] at hq
    | cons a as =>
     cases bs with
     | nil => cases k <;> cases a <;> simp [Qd] at hq
     | cons b bs =>
      obtain ⟨x, xs', ex, ha1, ha2⟩ := ha
      obtain ⟨y, ys', ey, hb1, hb2⟩ := hb
      subst ex ey
      have hx0 : xa[i]? = some x := by
       have := congrArg (·[0]?) hxa
       simpa using this
      have hy0 : ya[i]? = some y := by
       have := congrArg (·[0]?) hya
       simpa using this
      have hx1 : xa.toList.drop (i + 1) = xs' := by
       have := congrArg List.tail hxa
       simpa using this
      have hy1 : ya.toList.drop (i + 1) = ys' := by
       have := congrArg List.tail hya
       simpa using this
      have hname' : f.name ≠ "_" := by simpa using hname
      have hagg := Q5y (P := P) hbas w
      have hpx : (part f.type xa f.offset).run P w = .ok x w := by
       simp [part, hagg, hoff, hx0]
      have hpy : (part f.type ya f.offset).run P w = .ok y w := by
       simp [part, hagg, hoff, hy0]
      obtain ⟨q1, q2, h1, h2, h3⟩ := Q7t (w := w) d0 hbas ha1 hb1 hq
      have hih := ih (i + 1) ks' as bs xs' ys' E xa ya hrest ha2 hb2 hx1 hy1 h2
      simp only [Op.eqFields, ne_eq, hname', not_false_eq_true, if_true, Sem.run_bind, hpx, hpy, h1, Result.andThen_ok]
      cases q1 with
      | false => simp [h3]
      | true => simp [h3, hih]
   ·cases hf
theorem Q78 : ∀ {js ks : List BK} {as bs : List C} {q : Bool}, Qd (js ++ ks) as bs = some q →
  ∃ a1 a2 b1 b2 q1 q2, as = a1 ++ a2 ∧ bs = b1 ++ b2 ∧ a1.length = js.length ∧ b1.length = js.length ∧ Qd js a1 b1 = some q1 ∧ Qd ks a2 b2 = some q2 ∧ q = (q1 && q2)
 | [], ks, as, bs, q, h => ⟨[], as, [], bs, true, q, rfl, rfl, rfl, rfl, rfl, h, rfl⟩
 | j :: js, ks, as, bs, q, h => by
  have key : ∃ x y as' bs' e r, as = x :: as' ∧ bs = y :: bs' ∧ Qd (js ++ ks) as' bs' = some r ∧ q = (e && r) ∧ ∀ ls u v s, Qd ls u v = some s → Qd (j :: ls) (x :: u) (y :: v) = some (e && s) := by
   rw [List.cons_append] at h
   cases j <;> cases as <;> try (simp [Qd] at h; done)
   ·rename_i x as'
    cases x <;> try (simp [Qd] at h; done)
    cases bs <;> try (simp [Qd] at h; done)
    rename_i y bs'
    cases y <;> simp only [Qd] at h <;> try (cases h; done)
    split at h
    ·rename_i r hr
     simp only [Option.some.injEq] at h
     exact ⟨_, _, _, _, _, r, rfl, rfl, hr, h.symm, fun ls u v s hs => by simp [Qd, hs]⟩
    ·cases h
   ·rename_i x as'
    cases x <;> try (simp [Qd] at h; done)
    cases bs <;> try (simp [Qd] at h; done)
    rename_i y bs'
    cases y <;> simp only [Qd] at h <;> try (cases h; done)
    split at h
    ·rename_i hk
     split at h
     ·rename_i r hr
      simp only [Option.some.injEq] at h
      exact ⟨_, _, _, _, _, r, rfl, rfl, hr, h.symm, fun ls u v s hs => by simp [Qd, hs, hk]⟩
     ·cases h
    ·cases h
   ·rename_i x as'
    cases x <;> try (simp [Qd] at h; done)
    cases bs <;> try (simp [Qd] at h; done)
    rename_i y bs'
    cases y <;> simp only [Qd] at h <;> try (cases h; done)
    split at h
    ·rename_i r hr
     simp only [Option.some.injEq] at h
     exact ⟨_, _, _, _, _, r, rfl, rfl, hr, h.symm, fun ls u v s hs => by simp [Qd, hs]⟩
    ·cases h
  obtain ⟨x, y, as', bs', e, r, rfl, rfl, hr, hq, hf⟩ := key
  obtain ⟨a1, a2, b1, b2, q1, q2, e1, e2, l1, l2, h1, h2, h3⟩ := Q78 hr
  exact ⟨x :: a1, a2, y :: b1, b2, (e && q1), q2, by rw [e1]; rfl, by rw [e2]; rfl, by simp [l1], by simp [l2], hf _ _ _ _ h1, h2, by rw [hq, h3, Bool.and_assoc]⟩
theorem CReps.parts {E : Env} : ∀ {cs ds : List C} {vs : List Value}, CReps E (cs ++ ds) vs → ∃ us ws, vs = us ++ ws ∧ us.length = cs.length ∧ CReps E cs us ∧ CReps E ds ws
 | [], _, vs, h => ⟨[], vs, rfl, rfl, rfl, h⟩
 | _ :: _, _, _, ⟨v, vs', e, h, ht⟩ => by
  obtain ⟨us, ws, e2, hl, h1, h2⟩ := CReps.parts ht
  exact ⟨v :: us, ws, by rw [e, e2]; rfl, by simp [hl], ⟨v, us, rfl, h, h1⟩, h2⟩
theorem Q9z {w : World} (d0 : Nat) : ∀ (fs : List Field) (i : Nat) (ks : List BK) (as bs : List C) (xs ys : List Value) (E : Env) (xa ya : Array Value), Q3u P i fs = some ks → CReps E as xs → CReps E bs ys →
  xa.toList.drop i = xs → ya.toList.drop i = ys → ∀ {q : Bool}, Qd ks as bs = some q → (Op.eqFields (d0 + 2) xa ya fs).run P w = .ok q w := by
 intro fs
 induction fs with
 | nil =>
  intro i ks as bs xs ys E xa ya hf ha hb _ _ q hq
  simp only [Q3u, Option.some.injEq] at hf
  subst hf
  cases as with
  | cons a as => simp [Qd] at hq
  | nil =>
   cases bs with
   | nil => simp only [Qd, Option.some.injEq] at hq; subst hq; simp [Op.eqFields]
   | cons b bs => simp [Qd] at hq
 | cons f fs ih =>
  intro i ks as bs xs ys E xa ya hf ha hb hxa hya q hq
  simp only [Q3u] at hf
  cases hn : (f.name != "_" && Nat.beq f.offset i) with
  | false => rw [hn] at hf; cases hf
  | true =>
   simp only [hn, cond_true] at hf
   obtain ⟨hname, hoff⟩ := andB hn
   have hoff := Nat.eq_of_beq_eq_true hoff
   have hname' : f.name ≠ "_" := by simpa using hname
   split at hf
   ·rename_i k hbas
    split at hf
    ·rename_i ks' hrest
     simp only [Option.some.injEq] at hf
     subst hf
     cases as with
     | nil => simp [Qd] at hq
     | cons a as =>
      cases bs with
      | nil => cases k <;> cases a <;> simp [Qd] at hq
      | cons b bs =>
       obtain ⟨x, xs', ex, ha1, ha2⟩ := ha
       obtain ⟨y, ys', ey, hb1, hb2⟩ := hb
       subst ex ey
       have hx0 : xa[i]? = some x := by
        have := congrArg (·[0]?) hxa
        simpa using this
       have hy0 : ya[i]? = some y := by
        have := congrArg (·[0]?) hya
        simpa using this
       have hx1 : xa.toList.drop (i + 1) = xs' := by
        have := congrArg List.tail hxa
        simpa using this
       have hy1 : ya.toList.drop (i + 1) = ys' := by
        have := congrArg List.tail hya
        simpa using this
       have hagg := Q5y (P := P) hbas w
       have hpx : (part f.type xa f.offset).run P w = .ok x w := by
        simp [part, hagg, hoff, hx0]
       have hpy : (part f.type ya f.offset).run P w = .ok y w := by
        simp [part, hagg, hoff, hy0]
       obtain ⟨q1, q2, h1, h2, h3⟩ := Q7t (w := w) (d0 + 1) hbas ha1 hb1 hq
       have hih := ih (i + 1) ks' as bs xs' ys' E xa ya hrest ha2 hb2 hx1 hy1 h2
       simp only [Op.eqFields, ne_eq, hname', not_false_eq_true, if_true, Sem.run_bind, hpx, hpy, h1, Result.andThen_ok]
       cases q1 with
       | false => simp [h3]
       | true => simp [h3, hih]
    ·cases hf
   ·split at hf
    ·rename_i js hflat
     split at hf
     ·rename_i ks' hrest
      simp only [Option.some.injEq] at hf
      subst hf
      obtain ⟨a1, a2, b1, b2, q1, q2, e1, e2, l1, l2, h1, h2, h3⟩ := Q78 hq
      subst e1 e2
      obtain ⟨x1, x2, ex, lx, hx1, hx2⟩ := CReps.parts ha
      obtain ⟨y1, y2, ey, ly, hy1, hy2⟩ := CReps.parts hb
      subst ex ey
      unfold Qgy at hflat
      split at hflat
      ·rename_i gs inf hu hinf
       split at hflat
       ·rename_i js' hjs
        cases hc : (!P.stoodInHeld f.type && Nat.beq inf.size js'.length) with
        | false => rw [hc] at hflat; cases hflat
        | true =>
         simp only [hc, cond_true, Option.some.injEq] at hflat
         subst hflat
         obtain ⟨c1, c2⟩ := andB hc
         have c2 := Nat.eq_of_beq_eq_true c2
         have hagg : (isAgg f.type).run P w = .ok true w := by unfold isAgg; simp [run_underlying hu]
         have hsz : (sizeOf f.type).run P w = .ok inf.size w := by simp [sizeOf, typeInfo, hinf]
         have cut : ∀ (za : Array Value) (z1 z2 : List Value), za.toList.drop i = z1 ++ z2 → z1.length = js'.length → za.extract i (i + inf.size) = z1.toArray := by
          intro za z1 z2 hz hl
          apply Array.ext'
          rw [Array.toList_extract]
          simp only [List.extract]
          rw [hz, Nat.add_sub_cancel_left, c2, ← hl, List.take_left]
         have hpx : (part f.type xa f.offset).run P w = .ok (.agg x1.toArray) w := by
          simp [part, hagg, hoff, hsz, cut xa x1 x2 hxa (lx.trans l1)]
         have hpy : (part f.type ya f.offset).run P w = .ok (.agg y1.toArray) w := by
          simp [part, hagg, hoff, hsz, cut ya y1 y2 hya (ly.trans l2)]
         have hfs : P.fieldsOf f.type = gs := by simp [Program.fieldsOf, hu]
         have hu' : P.underlying f.type = some (.struct (P.fieldsOf f.type)) := by rw [hfs]; exact hu
         have heq : (Op.equalIn (d0 + 2) f.type (.agg x1.toArray) (.agg y1.toArray)).run P w = .ok q1 w := by
          rw [run_equalIn_struct w (d0 + 1) f.type _ _ hu' (by simpa using c1), hfs]
          exact Q8q d0 gs.toList 0 js' a1 b1 x1 y1 E _ _ hjs hx1 hy1 (by simp) (by simp) h1
         have drp : ∀ (za : Array Value) (z1 z2 : List Value), za.toList.drop i = z1 ++ z2 → z1.length = js'.length → za.toList.drop (i + js'.length) = z2 := by
          intro za z1 z2 hz hl
          rw [← List.drop_drop, hz, ← hl, List.drop_left]
         have hih := ih (i + js'.length) ks' a2 b2 x2 y2 E xa ya hrest hx2 hy2 (drp xa x1 x2 hxa (lx.trans l1)) (drp ya y1 y2 hya (ly.trans l2)) h2
         simp only [Op.eqFields, ne_eq, hname', not_false_eq_true, if_true, Sem.run_bind, hpx, hpy, heq, Result.andThen_ok]
         cases q1 with
         | false => simp [h3]
         | true => simp [h3, hih]
       ·cases hflat
      ·cases hflat
     ·cases hf
    ·cases hf
theorem Qa0 {w : World} (d0 : Nat) {e : TypeId} {k : BK} (hbas : Q4v P e = some k) : ∀ (n i : Nat) (as bs : List C) (xs ys : List Value) (E : Env) (xa ya : Array Value), CReps E as xs → CReps E bs ys →
  xa.toList.drop i = xs → ya.toList.drop i = ys → ∀ {q : Bool}, Qd (List.replicate n k) as bs = some q → (Op.eqItems (d0 + 1) e 1 xa ya (List.range' i n)).run P w = .ok q w := by
 intro n
 induction n with
 | zero =>
  intro i as bs xs ys E xa ya ha hb _ _ q hq
  cases as with
  | cons a as => simp [Qd] at hq
  | nil =>
   cases bs with
   | nil => simp only [List.replicate, Qd, Option.some.injEq] at hq; subst hq; simp [Op.eqItems]
   | cons b bs => simp [Qd] at hq
 | succ n ih =>
  intro i as bs xs ys E xa ya ha hb hxa hya q hq
  rw [List.replicate_succ] at hq
  cases as with
  | nil => simp [Qd] at hq
  | cons a as =>
   cases bs with
   | nil => cases k <;> cases a <;> simp [Qd] at hq
   | cons b bs =>
    obtain ⟨x, xs', ex, ha1, ha2⟩ := ha
    obtain ⟨y, ys', ey, hb1, hb2⟩ := hb
    subst ex ey
    have hx0 : xa[i]? = some x := by
     have := congrArg (·[0]?) hxa
     simpa using this
    have hy0 : ya[i]? = some y := by
     have := congrArg (·[0]?) hya
     simpa using this
    have hx1 : xa.toList.drop (i + 1) = xs' := by
     have := congrArg List.tail hxa
     simpa using this
    have hy1 : ya.toList.drop (i + 1) = ys' := by
     have := congrArg List.tail hya
     simpa using this
    have hagg := Q5y (P := P) hbas w
    have hpx : (part e xa (i * 1)).run P w = .ok x w := by
     simp [part, hagg, hx0]
    have hpy : (part e ya (i * 1)).run P w = .ok y w := by
     simp [part, hagg, hy0]
    obtain ⟨q1, q2, h1, h2, h3⟩ := Q7t (w := w) d0 hbas ha1 hb1 hq
    have hih := ih (i + 1) as bs xs' ys' E xa ya ha2 hb2 hx1 hy1 h2
    simp only [List.range'_succ, Op.eqItems, Sem.run_bind, hpx, hpy, h1, Result.andThen_ok]
    cases q1 with
    | false => simp [h3]
    | true => simp [h3, hih]
theorem Qcs {t : TypeId} {ks : List BK} (he : Qb2 P t = some ks) {as bs : List C} {xs ys : List Value} {E : Env} (ha : CReps E as xs) (hb : CReps E bs ys) {q : Bool} (hq : Qd ks as bs = some q) (w : World) :
  (Op.equalIn 10000 t (.agg xs.toArray) (.agg ys.toArray)).run P w = .ok q w ∧ P.eqGuardType P.depth t = false := by
 unfold Qb2 at he
 split at he
 ·rename_i fs hu
  cases hc : (P.stoodInHeld t || P.eqGuardType P.depth t) with
  | true => rw [hc] at he; cases he
  | false =>
   simp only [hc, cond_false] at he
   have hc2 : P.stoodInHeld t = false ∧ P.eqGuardType P.depth t = false := by simpa using hc
   have hfs : P.fieldsOf t = fs := by simp [Program.fieldsOf, hu]
   have hu' : P.underlying t = some (.struct (P.fieldsOf t)) := by rw [hfs]; exact hu
   refine ⟨?_, hc2.2⟩
   rw [run_equalIn_struct w 9999 t _ _ hu' hc2.1, hfs]
   exact Q9z 9997 fs.toList 0 ks as bs xs ys E _ _ he ha hb (by simp) (by simp) hq
 ·rename_i n e hu
  split at he
  ·rename_i k hk
   cases hc : (Nat.beq (P.cellsOf e) 1 && !P.eqGuardType P.depth t) with
   | false => rw [hc] at he; cases he
   | true =>
    simp only [hc, cond_true, Option.some.injEq] at he
    subst he
    obtain ⟨hc1, hc2⟩ := andB hc
    have hc1 := Nat.eq_of_beq_eq_true hc1
    have hi : ∃ i, P.info? e = some i := by
     cases hi : P.info? e with
     | some i => exact ⟨i, rfl⟩
     | none => simp [Program.cellsOf, hi] at hc1
    obtain ⟨i, hi⟩ := hi
    refine ⟨?_, by simpa using hc2⟩
    rw [run_equalIn_array w 9999 _ _ hu hi, hc1, List.range_eq_range']
    exact Qa0 9998 hk n 0 as bs xs ys E _ _ ha hb (by simp) (by simp) hq
  ·cases he
 ·cases he
theorem Q86 {w : World} {op : BinOp} {t : TypeId} {x y : Operand} {a a' : Option Addr} {n n' c c' : Nat} : (eqGuard op t x y (.slice a n c) (.slice a' n' c')).run P w = .ok () w := by
 unfold eqGuard
 cases op <;> simp
theorem Q6j (w : World) (d : Nat) (t e : TypeId) (a : Option Addr) (l c : Nat) (h : P.underlying t = some (.slice e)) : (Op.equalIn (d + 1) t (.slice a l c) (.slice none 0 0)).run P w = .ok a.isNone w := by
 cases a <;> simp [Op.equalIn, run_underlying h]
theorem Q87 {T : TypeId → Option TI} (hT : TOk P T) {kk : K β} {op : BinOp} {t t' : TypeId} {x y : Operand} (ho : o.op = .binOp op t x y t') {cx : C} {b : Bool} (hx : ρ x = .c cx) (hy : ρ y = .c .nils)
  (hc : ∀ E v, CRep E cx v → ∃ a n c, v = .slice a n c ∧ a.isNone = b) (hk : Q9d T op t b kk = some r) : Sound P o ρ bl kk r := by
 have hx0 : x ∈ o.op.operands := by simp [ho, Op.operands]
 have hy0 : y ∈ o.op.operands := by simp [ho, Op.operands]
 unfold Q9d at hk
 split at hk
 ·rename_i ti ht
  obtain ⟨i, d, z, f⟩ := hT.facts ht
  have main : ∀ (q : Bool) (e : TypeId), ti.elem = some e → ti.len = none → kk (.c (.bool q)) [] [] = some r → ((op = .eql ∧ q = b) ∨ (op = .neq ∧ q = !b)) → Sound P o ρ bl kk r := by
   intro q e hel hal hk' hop
   have hd := Ql f hel hal
   subst hd
   refine Sound.pure hk' fun bl2 _ ok0 base pl w act hr hxs => ⟨.bool q, ?_, rfl⟩
   have h1 := hxs x hx0
   have h2 := hxs y hy0
   rw [hx] at h1
   rw [hy] at h2
   obtain ⟨a, n, c, h1', hb⟩ := hc _ _ h1
   have h2' : act.eval y = .slice none 0 0 := h2
   subst hb
   rcases hop with ⟨rfl, rfl⟩ | ⟨rfl, rfl⟩
   ·simp [execOp, ho, h1', h2', Q86, Go.binOp, Op.equal, Op.maxDepth, Q6j w 9999 t e a n c f.under]
   ·simp [execOp, ho, h1', h2', Q86, Go.binOp, Op.equal, Op.maxDepth, Q6j w 9999 t e a n c f.under]
  split at hk
  ·rename_i e hel hal
   exact main _ e hel hal hk (.inl ⟨rfl, rfl⟩)
  ·rename_i e hel hal
   exact main _ e hel hal hk (.inr ⟨rfl, rfl⟩)
  ·cases hk
 ·cases hk
theorem Qdl {T : TypeId → Option TI} (hT : TOk P T) {kk : K β} {op : BinOp} {t t' : TypeId} {x : Operand} (ho : o.op = .binOp op t x (.const .nilIface) t') {b : Bool} (hx : ρ x = .c (.err b)) (hk : Qc4 T op t b kk = some r) : Sound P o ρ bl kk r := by
 have hx0 : x ∈ o.op.operands := by simp [ho, Op.operands]
 unfold Qc4 at hk
 split at hk
 ·rename_i ti ht
  obtain ⟨i, d, z, f⟩ := hT.facts ht
  have main : ∀ (q : Bool), ti.ty = some .err → ti.agg = false → kk (.c (.bool q)) [] [] = some r → ((op = .eql ∧ q = b) ∨ (op = .neq ∧ q = !b)) → Sound P o ρ bl kk r := by
   intro q hty hag hk' hop
   rw [f.agg] at hag
   have hu : P.underlying t = some (.interface (P.methodsAt t)) := by
    rw [f.ty] at hty
    unfold tyOf at hty
    split at hty
    ·cases hty
    ·cases hty
    ·cases hty
    ·rename_i ms hm
     cases hd : decide (ms = P.methodsAt t) with
     | false => rw [hd] at hty; cases hty
     | true => rw [hm, of_decide_eq_true hd]
    ·rename_i e _; cases h : tyOf P 11 e <;> rw [h] at hty <;> cases hty
    ·rename_i hm; simp [Q37, hm] at hag
    ·rename_i hm; simp [Q37, hm] at hag
    ·cases hty
   refine Sound.pure hk' fun bl2 _ ok0 base pl w act hr hxs => ⟨.bool q, ?_, rfl⟩
   have h1 := hxs x hx0
   rw [hx] at h1
   have h1 : errRep b (act.eval x) := h1
   have h2 : act.eval (.const .nilIface) = .nilIface := rfl
   cases b with
   | true =>
    have h1 : act.eval x = .nilIface := h1
    rcases hop with ⟨rfl, rfl⟩ | ⟨rfl, rfl⟩
    ·simp [execOp, ho, h1, h2, eqGuard_nil_constR, Go.binOp, run_equal_nil_nil w t hu]
    ·simp [execOp, ho, h1, h2, eqGuard_nil_constR, Go.binOp, run_equal_nil_nil w t hu]
   | false =>
    obtain ⟨u, z, h1⟩ : ∃ u z, act.eval x = .iface u z := h1
    have hg : ∀ op, eqGuard op t x (.const .nilIface) (.iface u z) .nilIface = pure () := fun op => by cases op <;> rfl
    rcases hop with ⟨rfl, rfl⟩ | ⟨rfl, rfl⟩
    ·simp [execOp, ho, h1, h2, hg, Go.binOp, run_equal_held_nil w t u z hu]
    ·simp [execOp, ho, h1, h2, hg, Go.binOp, run_equal_held_nil w t u z hu]
  split at hk
  ·rename_i hty hag
   exact main _ hty hag hk (.inl ⟨rfl, rfl⟩)
  ·rename_i hty hag
   exact main _ hty hag hk (.inr ⟨rfl, rfl⟩)
  ·cases hk
 ·cases hk
theorem Qg8 {T : TypeId → Option TI} (hT : TOk P T) {kk : K β} {op : BinOp} {t t' : TypeId} {x y : Operand} (ho : o.op = .binOp op t x y t') (hk : Qe9 T op t (ρ x) (ρ y) kk = some r) : Sound P o ρ bl kk r := by
 have hx0 : x ∈ o.op.operands := by simp [ho, Op.operands]
 have hy0 : y ∈ o.op.operands := by simp [ho, Op.operands]
 unfold Qe9 at hk
 split at hk
 ·
  rename_i k a k' b hx hy
  cases hsh : Qc3 op with
  | true =>
   simp only [hsh, cond_true] at hk
   obtain ⟨hc, hk⟩ := Qe hk
   have hb0 : ¬ b < 0 := by have := of_decide_eq_true hc; omega
   refine Sound.pure hk fun bl2 _ ok0 base pl w act hr hxs => ⟨.int k (Q9c op k a b), ?_, rfl⟩
   have h1 := hxs x hx0
   have h2 := hxs y hy0
   rw [hx] at h1
   rw [hy] at h2
   have h1' : act.eval x = .int k a := h1
   have h2' : act.eval y = .int k' b := h2
   cases op <;> simp only [Qc3, Bool.false_eq_true] at hsh
   ·simp [execOp, ho, h1', h2', eqGuard, Go.binOp, Op.shift, hb0, Q9c]
   ·simp [execOp, ho, h1', h2', eqGuard, Go.binOp, Op.shift, hb0, Q9c]
  | false =>
  simp only [hsh, cond_false] at hk
  split at hk
  ·rename_i hkk
   subst hkk
   have main : ∀ (v : Value) (c : C), kk (.c c) [] [] = some r → (∀ w, (Go.binOp op t (.int k a) (.int k b)).run P w = .ok v w) → (∀ E, CRep E c v) → Sound P o ρ bl kk r := by
    intro v c hk' hv hc
    refine Sound.pure hk' fun bl2 _ ok0 base pl w act hr hxs => ⟨v, ?_, hc _⟩
    have h1 := hxs x hx0
    have h2 := hxs y hy0
    rw [hx] at h1
    rw [hy] at h2
    have h1' : act.eval x = .int k a := h1
    have h2' : act.eval y = .int k b := h2
    simp [execOp, ho, h1', h2', Qg6, hv]
   unfold Qis at hk
   split at hk
   ·exact main (.int k (k.wrap (a + b))) _ hk (fun w => by simp [Go.binOp, Op.intArith]) (fun _ => rfl)
   ·exact main (.int k (k.wrap (a - b))) _ hk (fun w => by simp [Go.binOp, Op.intArith]) (fun _ => rfl)
   ·exact main (.int k (k.wrap (a * b))) _ hk (fun w => by simp [Go.binOp, Op.intArith]) (fun _ => rfl)
   ·obtain ⟨hc, hk⟩ := Qe hk
    have hb : b ≠ 0 := by simpa using hc
    exact main (.int k (k.wrap (a.tdiv b))) _ hk (fun w => by simp [Go.binOp, Op.intDiv, hb]) (fun _ => rfl)
   ·obtain ⟨hc, hk⟩ := Qe hk
    have hb : b ≠ 0 := by simpa using hc
    exact main (.int k (a.tmod b)) _ hk (fun w => by simp [Go.binOp, Op.intDiv, hb]) (fun _ => rfl)
   ·exact main (.bool (decide (a = b))) _ hk (fun w => by simp [Go.binOp, Op.intCmp]; rfl) (fun _ => rfl)
   ·exact main (.bool (!decide (a = b))) _ hk (fun w => by simp [Go.binOp, Op.intCmp, bne]; rfl) (fun _ => rfl)
   ·exact main (.bool (decide (a < b))) _ hk (fun w => by simp [Go.binOp, Op.intCmp]) (fun _ => rfl)
   ·exact main (.bool (decide (a ≤ b))) _ hk (fun w => by simp [Go.binOp, Op.intCmp]) (fun _ => rfl)
   ·exact main (.bool (decide (b < a))) _ hk (fun w => by simp [Go.binOp, Op.intCmp]) (fun _ => rfl)
   ·exact main (.bool (decide (b ≤ a))) _ hk (fun w => by simp [Go.binOp, Op.intCmp]) (fun _ => rfl)
   ·exact main (.int k (Q2u .and k a b)) _ hk (fun w => by simp [Go.binOp, Op.intBits, Q2u]) (fun _ => rfl)
   ·exact main (.int k (Q2u .or k a b)) _ hk (fun w => by simp [Go.binOp, Op.intBits, Q2u]) (fun _ => rfl)
   ·exact main (.int k (Q2u .xor k a b)) _ hk (fun w => by simp [Go.binOp, Op.intBits, Q2u]) (fun _ => rfl)
   ·exact main (.int k (Q2u .andNot k a b)) _ hk (fun w => by simp [Go.binOp, Op.intBits, Q2u]) (fun _ => rfl)
   ·cases hk
  ·cases hk
 ·
  rename_i a b hx hy
  have main : ∀ (v : Value) (c : C), kk (.c c) [] [] = some r → (∀ w, (Go.binOp op t (.string ⟨a.toArray⟩) (.string ⟨b.toArray⟩)).run P w = .ok v w) → (∀ E, CRep E c v) → Sound P o ρ bl kk r := by
   intro v c hk' hv hc
   refine Sound.pure hk' fun bl2 _ ok0 base pl w act hr hxs => ⟨v, ?_, hc _⟩
   have h1 := hxs x hx0
   have h2 := hxs y hy0
   rw [hx] at h1
   rw [hy] at h2
   have h1' : act.eval x = .string ⟨a.toArray⟩ := h1
   have h2' : act.eval y = .string ⟨b.toArray⟩ := h2
   simp [execOp, ho, h1', h2', Qg7, hv]
  have hbeq : (a == b) = decide (a = b) := by
   by_cases h : a = b <;> simp [h]
  unfold Qit at hk
  split at hk
  ·obtain ⟨hc, hk⟩ := Qe hk
   have hle := of_decide_eq_true hc
   refine main (.string ⟨(a ++ b).toArray⟩) _ hk (fun w => ?_) (fun _ => rfl)
   have hsz : ¬ (((⟨a.toArray⟩ : ByteArray).size + (⟨b.toArray⟩ : ByteArray).size : Nat) : Int) > IntKind.i64.max := by
    show ¬ ((a.toArray.size + b.toArray.size : Nat) : Int) > 9223372036854775807
    simp only [List.size_toArray]
    omega
   have happ : (⟨a.toArray⟩ : ByteArray) ++ ⟨b.toArray⟩ = ⟨(a ++ b).toArray⟩ := by
    apply ByteArray.ext
    simp
   simp only [Go.binOp, Op.stringOp]
   rw [if_neg hsz, happ]
   rfl
  ·exact main (.bool (decide (a = b))) _ hk (fun w => by simp [Go.binOp, Op.stringOp, hbeq]) (fun _ => rfl)
  ·exact main (.bool (!decide (a = b))) _ hk (fun w => by simp [Go.binOp, Op.stringOp, hbeq]) (fun _ => rfl)
  ·exact main (.bool (Op.bytesLess a b)) _ hk (fun w => by simp [Go.binOp, Op.stringOp]) (fun _ => rfl)
  ·exact main (.bool (Op.bytesLess a b || decide (a = b))) _ hk (fun w => by simp [Go.binOp, Op.stringOp, hbeq]) (fun _ => rfl)
  ·exact main (.bool (!(Op.bytesLess a b || decide (a = b)))) _ hk (fun w => by simp [Go.binOp, Op.stringOp, hbeq]) (fun _ => rfl)
  ·exact main (.bool (!Op.bytesLess a b)) _ hk (fun w => by simp [Go.binOp, Op.stringOp]) (fun _ => rfl)
  ·cases hk
 ·
  rename_i a b hx hy
  split at hk
  ·rename_i ti ht
   obtain ⟨i, d, z, f⟩ := hT.facts ht
   cases hbool : ti.isBool with
   | false => rw [hbool] at hk; cases hk
   | true =>
    simp only [hbool, cond_true] at hk
    have hu : P.underlying t = some .bool := by
     rw [f.isBool] at hbool
     unfold Q9l at hbool
     split at hbool
     ·exact f.under
     ·cases hbool
    have main : ∀ (q : Bool), kk (.c (.bool q)) [] [] = some r → (∀ w, (Go.binOp op t (.bool a) (.bool b)).run P w = .ok (.bool q) w) → Sound P o ρ bl kk r := by
     intro q hk' hv
     refine Sound.pure hk' fun bl2 _ ok0 base pl w act hr hxs => ⟨.bool q, ?_, rfl⟩
     have h1 := hxs x hx0
     have h2 := hxs y hy0
     rw [hx] at h1
     rw [hy] at h2
     have h1' : act.eval x = .bool a := h1
     have h2' : act.eval y = .bool b := h2
     simp [execOp, ho, h1', h2', Qel, hv]
    split at hk
    ·exact main _ hk fun w => by
      simp only [Go.binOp]
      simp [Op.equal, Op.maxDepth, run_equalIn_bool' w 9999 t a b hu]
    ·exact main _ hk fun w => by
      simp only [Go.binOp]
      simp [Op.equal, Op.maxDepth, run_equalIn_bool' w 9999 t a b hu]
    ·cases hk
  ·cases hk
 ·
  rename_i a b hx hy
  split at hk
  ·rename_i ti ht
   obtain ⟨i, d, z, f⟩ := hT.facts ht
   split at hk
   ·rename_i ks heqs
    rw [f.eqs] at heqs
    have main : ∀ (q q' : Bool), Qd ks a b = some q → kk (.c (.bool q')) [] [] = some r → ((op = .eql ∧ q' = q) ∨ (op = .neq ∧ q' = !q)) → Sound P o ρ bl kk r := by
     intro q q' hq hk' hop
     refine Sound.pure hk' fun bl2 _ ok0 base pl w act hr hxs => ⟨.bool q', ?_, rfl⟩
     have h1 := hxs x hx0
     have h2 := hxs y hy0
     rw [hx] at h1
     rw [hy] at h2
     obtain ⟨xs, h1', h1''⟩ := h1
     obtain ⟨ys, h2', h2''⟩ := h2
     simp only [if_true] at h1'' h2''
     obtain ⟨he, hg⟩ := Qcs (P := P) heqs h1' h2' hq w
     rcases hop with ⟨rfl, rfl⟩ | ⟨rfl, rfl⟩
     ·simp [execOp, ho, h1'', h2'', run_eqGuard_agg w _ t x y _ _ hg, run_eql_struct, he]
     ·simp [execOp, ho, h1'', h2'', run_eqGuard_agg w _ t x y _ _ hg, run_neq_struct, he]
    split at hk
    ·rename_i q hq
     exact main _ _ hq hk (.inl ⟨rfl, rfl⟩)
    ·rename_i q hq
     exact main _ _ hq hk (.inr ⟨rfl, rfl⟩)
    ·cases hk
   ·cases hk
  ·cases hk
 ·rename_i hx hy
  exact Q87 hT ho hx hy (fun E v hv => by obtain ⟨c, rfl⟩ := hv; exact ⟨none, 0, c, rfl, rfl⟩) hk
 ·rename_i e l hx hy
  refine Q87 hT ho hx hy (fun E v hv => ?_) hk
  obtain ⟨hd, hn⟩ := hv
  simp only [DRep] at hd
  obtain ⟨A, c, xs, e1, _⟩ := hd
  simp only [List.cons.injEq, and_true] at e1
  subst e1
  cases A with
  | none => exact absurd rfl (hn _ _)
  | some a => exact ⟨some a, _, _, rfl, rfl⟩
 ·cases hk
theorem Qem {T : TypeId → Option TI} (hT : TOk P T) {kk : K β} {op : BinOp} {t t' : TypeId} {x y : Operand} (ho : o.op = .binOp op t x y t') (hk : Qc5 T op t (ρ x) (ρ y) y kk = some r) : Sound P o ρ bl kk r := by
 unfold Qc5 at hk
 split at hk
 ·rename_i b hx
  exact Qdl hT ho hx hk
 ·exact Qg8 hT ho hk
end
end Go.Lift
namespace Go.Lift
open Go.RowKit
theorem MRep.length {w : World} {ok : Nat → Prop} {k v : Ty} {vg : Bool} : ∀ {l : List (k.den × v.den)} {es : List MapEntry}, MRep w ok k v vg l es → es.length = l.length
 | [], _, h => by simp only [MRep] at h; simp [h]
 | _ :: l, _, ⟨e, r, h0, _, _, h4⟩ => by rw [h0, List.length_cons, List.length_cons, MRep.length h4]
theorem Q5z {P : Program} {t : TypeId} {ti : TI} {i : TypeInfo} {d : TypeDesc} {z : Value} (f : TFacts P t ti i d z) (h : ti.isStr = true) : d = .string := by
 rw [f.isStr] at h
 cases d <;> simp_all [Qb3]
theorem Qdm (l : List UInt8) (a b : Nat) : (⟨l.toArray⟩ : ByteArray).extract a b = ⟨((l.take b).drop a).toArray⟩ := by
 apply ByteArray.ext
 apply Array.ext'
 rw [Lib.extract_data]
 simp only
 rw [List.drop_take]
section
variable {P : Program} {o : Oper} {ρ : Operand → V} {bl : Nat → Option Blk} {β : Type} {r : β}
theorem Q2i {t : TypeId} {ti : TI} {i : TypeInfo} {d : TypeDesc} {z : Value} (f : TFacts P t ti i d z) (h : Q1t ti = true) : ∃ e, d = .slice e := by
 unfold Q1t at h
 split at h
 ·rename_i e h1 h2
  exact ⟨e, Ql f h1 h2⟩
 ·cases h
theorem Q15 {w : World} {a : Act} {x : Operand} {c : Call} {t : TypeId} (ho : o.op = .call c) (hc : c.callee = .builtin .len) (ha : c.args.toList = [x]) (ht : c.argTypes.toList = [t]) {v : Value}
  (h : (Builtin.len_ #[t] o.type #[a.eval x]).run P w = .ok v w) : (execOp a.eval o).run P w = .ok (.value v) w := by
 have h1 : c.args = #[x] := by rw [← Array.toArray_toList (xs := c.args), ha]
 have h2 : c.argTypes = #[t] := by rw [← Array.toArray_toList (xs := c.argTypes), ht]
 simp [execOp, ho, resolve, hc, h1, h2, invoke, builtin, h]
theorem Qiz {T : TypeId → Option TI} (hT : TOk P T) {kk : K β} {c : Call} (ho : o.op = .call c) (hc : c.callee = .builtin .len) {x : Operand} {t : TypeId} (ha : c.args.toList = [x]) (hty : c.argTypes.toList = [t]) (hk : Qeb T bl t (ρ x) kk = some r) : Sound P o ρ bl kk r := by
 have hx0 : x ∈ o.op.operands := by
  have h1 : c.args = #[x] := by rw [← Array.toArray_toList (xs := c.args), ha]
  simp [ho, Op.operands, Call.operands, h1]
 unfold Qeb at hk
 split at hk
 ·cases hk
 rename_i ti ht
 obtain ⟨i, d, z, f⟩ := hT.facts ht
 have hu := f.under
 split at hk
 ·rename_i s hx
  cases hs : ti.isStr with
  | false => rw [hs] at hk; cases hk
  | true =>
   simp only [hs, cond_true] at hk
   have := Q5z f hs
   subst this
   refine Sound.pure hk fun bl2 _ ok0 base pl w act hr hxs => ⟨_, Q15 ho hc ha hty (v := .int .i64 (s.length : Int)) ?_, rfl⟩
   have h1 := hxs x hx0
   rw [hx] at h1
   have h1' : act.eval x = .string ⟨s.toArray⟩ := h1
   simp [Builtin.len_, h1', run_underlying hu, goInt]
   rfl
 ·rename_i e l hx
  cases hs : Q1t ti with
  | false => rw [hs] at hk; cases hk
  | true =>
   simp only [hs, cond_true] at hk
   obtain ⟨et, rfl⟩ := Q2i f hs
   refine Sound.pure hk fun bl2 _ ok0 base pl w act hr hxs => ⟨_, Q15 ho hc ha hty (v := .int .i64 (l.length : Int)) ?_, rfl⟩
   have h1 := hxs x hx0
   rw [hx] at h1
   have h1' : DRep w _ (.slice e) l [act.eval x] := h1
   simp only [DRep] at h1'
   obtain ⟨A, cc, xs, hv, _⟩ := h1'
   simp only [List.cons.injEq, and_true] at hv
   simp [Builtin.len_, hv, run_underlying hu, goInt]
 ·rename_i hx
  cases hs : Q1t ti with
  | false => rw [hs] at hk; cases hk
  | true =>
   simp only [hs, cond_true] at hk
   obtain ⟨et, rfl⟩ := Q2i f hs
   refine Sound.pure hk fun bl2 _ ok0 base pl w act hr hxs => ⟨_, Q15 ho hc ha hty (v := .int .i64 0) ?_, rfl⟩
   have h1 := hxs x hx0
   rw [hx] at h1
   have h1' : act.eval x = .slice none 0 0 := h1
   simp [Builtin.len_, h1', run_underlying hu, goInt]
 ·rename_i b ver hx
  split at hk
  ·rename_i t0 e ver' l hb
   cases hs : (Nat.beq ver ver' && Q1t ti) with
   | false => rw [hs] at hk; cases hk
   | true =>
    obtain ⟨hver, hs1⟩ := andB hs
    have := Nat.eq_of_beq_eq_true hver
    subst this
    simp only [hs, cond_true] at hk
    obtain ⟨et, rfl⟩ := Q2i f hs1
    refine Sound.pure hk fun bl2 hb2 ok0 base pl w act hr hxs => ⟨_, Q15 ho hc ha hty (v := .int .i64 (l.length : Int)) ?_, rfl⟩
    have hb' : bl2 b = some (.row t0 e ver l) := (hb2 b (by simp)).trans hb
    have hv := hxs x hx0
    rw [hx] at hv
    obtain ⟨_, sv, svs, hg, hcur⟩ := hv
    have hav := (hcur t0 e ver l hb').2 rfl
    obtain ⟨p, hp, hB⟩ := hr.blks b _ hb'
    have : p = .row sv svs := by have h2 : pl b = some (.row sv svs) := hg; rw [hp] at h2; injection h2
    subst this
    obtain ⟨_, xs, hd', hown⟩ := hB
    rcases hown.2 with ⟨hsv, hn⟩ | ⟨g, cap, cur, hsv, _⟩
    ·simp [Builtin.len_, hav, hsv, run_underlying hu, goInt, hn]
    ·simp [Builtin.len_, hav, hsv, run_underlying hu, goInt]
  ·cases hk
 ·rename_i b ver lo hi hx
  split at hk
  ·rename_i t0 e ver' l hb
   cases hs : (Nat.beq ver ver' && Q1t ti) with
   | false => rw [hs] at hk; cases hk
   | true =>
    obtain ⟨hver, hs1⟩ := andB hs
    have := Nat.eq_of_beq_eq_true hver
    subst this
    simp only [hs, cond_true] at hk
    obtain ⟨et, rfl⟩ := Q2i f hs1
    refine Sound.pure hk fun bl2 hb2 ok0 base pl w act hr hxs => ⟨_, Q15 ho hc ha hty (v := .int .i64 ((hi - lo : Nat) : Int)) ?_, rfl⟩
    have hb' : bl2 b = some (.row t0 e ver l) := (hb2 b (by simp)).trans hb
    have hv := hxs x hx0
    rw [hx] at hv
    obtain ⟨_, sv, svs, hg, hcur⟩ := hv
    obtain ⟨_, _, A, A', n, cc, _, hav, _⟩ := (hcur t0 e ver l hb').2 rfl
    simp [Builtin.len_, hav, run_underlying hu, goInt]
  ·cases hk
 ·rename_i b ver hx
  split at hk
  ·rename_i t0 et0 e ver' iver hole l hb
   cases hs : (Nat.beq ver ver' && Q1t ti) with
   | false => rw [hs] at hk; cases hk
   | true =>
    obtain ⟨hver, hs1⟩ := andB hs
    have := Nat.eq_of_beq_eq_true hver
    subst this
    simp only [hs, cond_true] at hk
    obtain ⟨et, rfl⟩ := Q2i f hs1
    refine Sound.pure hk fun bl2 hb2 ok0 base pl w act hr hxs => ⟨_, Q15 ho hc ha hty (v := .int .i64 (l.length : Int)) ?_, rfl⟩
    have hb' : bl2 b = some (.mat t0 et0 e ver iver hole l) := (hb2 b (by simp)).trans hb
    have hv := hxs x hx0
    rw [hx] at hv
    obtain ⟨_, sv, svs, hg, hcur⟩ := hv
    have hav := (hcur _ _ _ _ _ _ _ hb').2 rfl
    obtain ⟨p, hp, hB⟩ := hr.blks b _ hb'
    have : p = .row sv svs := by have h2 : pl b = some (.row sv svs) := hg; rw [hp] at h2; injection h2
    subst this
    have hM : MatOk _ t0 et0 e hole l sv svs := hB
    obtain ⟨vs, hown, _⟩ := hM.outer
    rcases hown.2 with ⟨hsv, hn⟩ | ⟨g, cap, cur, hsv, _⟩
    ·simp [Builtin.len_, hav, hsv, run_underlying hu, goInt, hn]
    ·simp [Builtin.len_, hav, hsv, run_underlying hu, goInt]
  ·cases hk
 ·rename_i b iver ri hx
  split at hk
  ·rename_i t0 et0 e ver iver' hole l hb
   cases hs : (Nat.beq iver iver' && Q1t ti) with
   | false => rw [hs] at hk; cases hk
   | true =>
    obtain ⟨hver, hs1⟩ := andB hs
    have := Nat.eq_of_beq_eq_true hver
    subst this
    simp only [hs, cond_true] at hk
    obtain ⟨et, rfl⟩ := Q2i f hs1
    refine Sound.pure hk fun bl2 hb2 ok0 base pl w act hr hxs => ⟨_, Q15 ho hc ha hty (v := .int .i64 ((l.getD ri []).length : Int)) ?_, rfl⟩
    have hb' : bl2 b = some (.mat t0 et0 e ver iver hole l) := (hb2 b (by simp)).trans hb
    have hv := hxs x hx0
    rw [hx] at hv
    obtain ⟨_, sv, svs, hg, hcur⟩ := hv
    obtain ⟨hri, hss⟩ := (hcur _ _ _ _ _ _ _ hb').2 rfl
    obtain ⟨p, hp, hB⟩ := hr.blks b _ hb'
    have : p = .row sv svs := by have h2 : pl b = some (.row sv svs) := hg; rw [hp] at h2; injection h2
    subst this
    have hM : MatOk _ t0 et0 e hole l sv svs := hB
    obtain ⟨xs, hd', hown⟩ := hM.inner ri (act.eval x) l[ri] hss (List.getElem?_eq_getElem hri)
    have hgd : l.getD ri [] = l[ri] := by simp [List.getD, hri]
    rw [hgd]
    rcases hown.2 with ⟨hsv, hn⟩ | ⟨g, cap, cur, hsv, _⟩
    ·simp [Builtin.len_, hsv, run_underlying hu, goInt, hn]
    ·simp [Builtin.len_, hsv, run_underlying hu, goInt]
  ·cases hk
 ·rename_i b hx
  split at hk
  ·rename_i t0 k0 v0 vg l mp hb hmp
   obtain ⟨kt, vt, rfl⟩ : ∃ kt vt, d = .map kt vt := by
    have h1 := f.mp
    rw [hmp] at h1
    cases d <;> simp [mpD] at h1
    exact ⟨_, _, rfl⟩
   refine Sound.pure hk fun bl2 hb2 ok0 base pl w act hr hxs => ⟨_, Q15 ho hc ha hty (v := .int .i64 (l.length : Int)) ?_, rfl⟩
   have hb' : bl2 b = some (.map t0 k0 v0 vg l) := (hb2 b (by simp)).trans hb
   have hv := hxs x hx0
   rw [hx] at hv
   obtain ⟨g, hg, hav⟩ := hv
   obtain ⟨p, hp, hB⟩ := hr.blks b _ hb'
   have : p = .cells g := by have h2 : pl b = some (.cells g) := hg; rw [hp] at h2; injection h2
   subst this
   obtain ⟨es, clock, hh, hm⟩ := hB
   have hlen : es.size = l.length := by
    rw [← Array.length_toList]
    exact hm.length
   simp [Builtin.len_, hav, run_underlying hu, goInt, MapKept.run_getObj_map (show w.heap[g]? = some (.map es clock) from hh), hlen, Result.andThen]
  ·cases hk
 ·cases hk
theorem Q1f {E : Env} {a : Act} {lo : Option Operand} {d n : Int} (h : Q26 (lo.map ρ) d = some n) (hx : ∀ x, lo = some x → VRep E (ρ x) (a.eval x)) :
  (lo = none ∧ n = d) ∨ ∃ x k, lo = some x ∧ a.eval x = .int k n := by
 cases lo with
 | none => simp only [Option.map_none, Q26, Option.some.injEq] at h; exact .inl ⟨rfl, h.symm⟩
 | some x =>
  simp only [Option.map_some, Q26] at h
  split at h
  ·rename_i k m hm
   simp only [Option.some.injEq] at h
   subst h
   have h1 := hx x rfl
   rw [Q29 hm] at h1
   exact .inr ⟨x, k, rfl, h1⟩
  ·cases h
theorem Q38 {k : IntKind} {n : Int} {y : Nat} {code : BoundsCode} (h0 : 0 ≤ n) (h1 : n ≤ (y : Int)) (w : World) : (Instr.sliceBound (.int k n) y code).run P w = .ok n.toNat w := by
 simp [Instr.sliceBound, asIntOf, h0, h1]
theorem Q1g {isSl : Bool} {len cap : Nat} {a : Act} {lo hi : Option Operand} {m n : Int} (hlo : (lo = none ∧ m = 0) ∨ ∃ x k, lo = some x ∧ a.eval x = .int k m) (hhi : (hi = none ∧ n = (len : Int)) ∨ ∃ x k, hi = some x ∧ a.eval x = .int k n)
  (h0 : 0 ≤ m) (h1 : m ≤ n) (h2 : n ≤ (cap : Int)) (w : World) : (Instr.sliceBounds isSl len cap (lo.map a.eval) (hi.map a.eval) none).run P w = .ok (m.toNat, n.toNat, cap) w := by
 have hn : (n.toNat : Int) = n := Int.toNat_of_nonneg (by omega)
 unfold Instr.sliceBounds
 rcases hlo with ⟨rfl, rfl⟩ | ⟨x, k, rfl, hx⟩ <;> rcases hhi with ⟨rfl, rfl⟩ | ⟨y, k', rfl, hy⟩
 ·simp
 ·simp [hy, Q38 (P := P) (k := k') (by omega) h2]
 ·simp [hx, Q38 (P := P) (k := k) h0 h1]
 ·simp [hx, hy, Q38 (P := P) (k := k') (by omega) h2, Q38 (P := P) (k := k) (y := n.toNat) h0 (by omega)]
theorem Q6x {T : TypeId → Option TI} (hT : TOk P T) {kk : K β} {t : TypeId} {x : Operand} {lo hi : Option Operand} (ho : o.op = .slice t x lo hi none) (hk : Q5t T bl t (ρ x) (lo.map ρ) (hi.map ρ) kk = some r) : Sound P o ρ bl kk r := by
 have hx0 : x ∈ o.op.operands := by simp [ho, Op.operands]
 have hlo0 : ∀ y, lo = some y → y ∈ o.op.operands := by rintro y rfl; simp [ho, Op.operands]
 have hhi0 : ∀ y, hi = some y → y ∈ o.op.operands := by rintro y rfl; simp [ho, Op.operands]
 unfold Q5t at hk
 split at hk
 ·cases hk
 rename_i ti ht
 obtain ⟨i, d, z, f⟩ := hT.facts ht
 have hu := f.under
 split at hk
 ·rename_i s hx
  cases hs : ti.isStr with
  | false => rw [hs] at hk; cases hk
  | true =>
   simp only [hs, cond_true] at hk
   have := Q5z f hs
   subst this
   split at hk
   ·rename_i m n hm hn
    obtain ⟨hc, hk⟩ := Qe hk
    obtain ⟨c1, c23⟩ := andB hc
    obtain ⟨c2, c3⟩ := andB c23
    have c1 := of_decide_eq_true c1
    have c2 := of_decide_eq_true c2
    have c3 := of_decide_eq_true c3
    refine Sound.pure hk fun bl2 _ ok0 base pl w act hr hxs => ⟨.string ⟨((s.take n.toNat).drop m.toNat).toArray⟩, ?_, rfl⟩
    have h1 := hxs x hx0
    rw [hx] at h1
    have h1' : act.eval x = .string ⟨s.toArray⟩ := h1
    have hsz : (⟨s.toArray⟩ : ByteArray).size = s.length := rfl
    have hb := Q1g (P := P) (isSl := false) (len := s.length) (cap := s.length) (Q1f hm fun y hy => hxs y (hlo0 y hy)) (Q1f hn fun y hy => hxs y (hhi0 y hy)) c1 c2 c3 w
    simp [execOp, ho, Instr.sliceAt, run_underlying hu, Instr.slice, h1', hsz, hb, Qdm]
   ·cases hk
 ·rename_i e l hx
  split at hk
  ·rename_i et hel hal
   have hd := Ql f hel hal
   subst hd
   split at hk
   ·cases hk
   rename_i te hte
   obtain ⟨i', d', z', fe⟩ := hT.facts hte
   cases hs : (Nat.beq e.size te.size && Nat.blt 0 te.size) with
   | false => rw [hs] at hk; cases hk
   | true =>
    obtain ⟨hs1, hs2⟩ := andB hs
    have hs1 := Nat.eq_of_beq_eq_true hs1
    simp only [hs, cond_true] at hk
    split at hk
    ·rename_i m n hm hn
     obtain ⟨hc, hk⟩ := Qe hk
     obtain ⟨c1, c23⟩ := andB hc
     obtain ⟨c2, c3⟩ := andB c23
     have c1 := of_decide_eq_true c1
     have c2 := of_decide_eq_true c2
     have c3 := of_decide_eq_true c3
     refine Sound.pure hk fun bl2 _ ok0 base pl w act hr hxs => ?_
     have h1 := hxs x hx0
     rw [hx] at h1
     have h1' : DRep w (Q4 ok0 base pl bl2 w).ok (.slice e) l [act.eval x] := h1
     simp only [DRep] at h1'
     obtain ⟨A, cc, xs, hv, hle, hcm, hdl, hcell⟩ := h1'
     simp only [List.cons.injEq, and_true] at hv
     have hb := Q1g (P := P) (isSl := true) (len := l.length) (cap := cc) (Q1f hm fun y hy => hxs y (hlo0 y hy)) (Q1f hn fun y hy => hxs y (hhi0 y hy)) c1 c2 (by omega) w
     refine ⟨.slice (if cc = m.toNat then A else A.map (·.add (m.toNat * te.size))) (n.toNat - m.toNat) (cc - m.toNat), ?_, ?_⟩
     ·simp [execOp, ho, Instr.sliceAt, run_underlying hu, Instr.slice, hv, hb, run_sizeOf fe]
     ·show DRep w (Q4 ok0 base pl bl2 w).ok (.slice e) ((l.take n.toNat).drop m.toNat) [_]
      simp only [DRep]
      have hlen : ((l.take n.toNat).drop m.toNat).length = n.toNat - m.toNat := by simp; omega
      refine ⟨_, _, (xs.take (n.toNat * e.size)).drop (m.toNat * e.size), by rw [hlen], by rw [hlen]; omega, by omega, (hdl.take _).drop _, fun j v hj => ?_⟩
      rw [List.getElem?_drop, List.getElem?_take] at hj
      split at hj
      ·rename_i hlt
       obtain ⟨ad, rfl, ho', hc'⟩ := hcell _ _ hj
       by_cases hcc : cc = m.toNat
       ·exfalso
        have hnm : n.toNat = m.toNat := by omega
        rw [hnm] at hlt
        omega
       ·refine ⟨ad.add (m.toNat * te.size), by rw [if_neg hcc]; rfl, by rw [Q1p]; exact ho', ?_⟩
        rw [Q2l, ← hs1]
        exact hc'
      ·cases hj
    ·cases hk
  ·cases hk
 ·
  rename_i bb ver hx
  split at hk
  ·rename_i et hel hal
   have hd := Ql f hel hal
   subst hd
   split at hk
   ·cases hk
   rename_i te hte
   obtain ⟨i', d', z', fe⟩ := hT.facts hte
   split at hk
   ·rename_i t0 e ver' l hb
    cases hs : (Nat.beq ver ver' && (Nat.beq e.size te.size && Nat.blt 0 te.size)) with
    | false => rw [hs] at hk; cases hk
    | true =>
     obtain ⟨hver, hs12⟩ := andB hs
     obtain ⟨hs1, hs2⟩ := andB hs12
     have hs1 := Nat.eq_of_beq_eq_true hs1
     have := Nat.eq_of_beq_eq_true hver
     subst this
     simp only [hs, cond_true] at hk
     split at hk
     ·rename_i m n hm hn
      obtain ⟨hc, hk⟩ := Qe hk
      obtain ⟨c1, c23⟩ := andB hc
      obtain ⟨c2, c3⟩ := andB c23
      have c1 := of_decide_eq_true c1
      have c2 := of_decide_eq_true c2
      have c3 := of_decide_eq_true c3
      refine Sound.pure hk fun bl2 hb2 ok0 base pl w act hr hxs => ?_
      have hb' : bl2 bb = some (.row t0 e ver l) := (hb2 bb (by simp)).trans hb
      have h1 := hxs x hx0
      rw [hx] at h1
      obtain ⟨_, sv, svs, hg, hcur⟩ := h1
      have hav := (hcur t0 e ver l hb').2 rfl
      obtain ⟨p, hp, hB⟩ := hr.blks bb _ hb'
      have : p = .row sv svs := by have h2 : pl bb = some (.row sv svs) := hg; rw [hp] at h2; injection h2
      subst this
      obtain ⟨_, xs, hd', hown⟩ := hB
      obtain ⟨A, cc, hsv, hle⟩ : ∃ A cc, sv = .slice A l.length cc ∧ l.length ≤ cc := by
       rcases hown.2 with ⟨hsv, hn⟩ | ⟨g, cap, cur, hsv, _, _, hnc, _⟩
       ·exact ⟨none, 0, by rw [hsv, hn], by omega⟩
       ·exact ⟨_, cap, hsv, hnc⟩
      have hb3 := Q1g (P := P) (isSl := true) (len := l.length) (cap := cc) (Q1f hm fun y hy => hxs y (hlo0 y hy)) (Q1f hn fun y hy => hxs y (hhi0 y hy)) c1 c2 (by omega) w
      refine ⟨.slice (if cc = m.toNat then A else A.map (·.add (m.toNat * te.size))) (n.toNat - m.toNat) (cc - m.toNat), ?_, rfl, sv, svs, hp, fun t1 e1 ver1 l1 hb1 => ?_⟩
      ·simp [execOp, ho, Instr.sliceAt, run_underlying hu, Instr.slice, hav, hsv, hb3, run_sizeOf fe]
      ·have hb1' : bl2 bb = some (.row t1 e1 ver1 l1) := hb1
       rw [hb'] at hb1'
       injection hb1' with hb1'
       injection hb1' with q1 q2 q3 q4
       subst q2 q3
       simp only [heq_eq_eq] at q4
       subst q4
       refine ⟨Nat.le_refl _, fun _ => ⟨by omega, by omega, A, _, l.length, cc, hsv, rfl, fun hlt => ?_, fun h0 => ?_⟩⟩
       ·rw [if_neg (by omega), hs1]
       ·rw [h0]
        split
        ·rfl
        ·cases A <;> simp [Addr.add]
     ·cases hk
   ·cases hk
  ·cases hk
 ·
  rename_i bb ver lo' hi' hx
  split at hk
  ·rename_i et hel hal
   have hd := Ql f hel hal
   subst hd
   split at hk
   ·cases hk
   rename_i te hte
   obtain ⟨i', d', z', fe⟩ := hT.facts hte
   split at hk
   ·rename_i t0 e ver' l hb
    cases hs : (Nat.beq ver ver' && (Nat.beq e.size te.size && Nat.blt 0 te.size)) with
    | false => rw [hs] at hk; cases hk
    | true =>
     obtain ⟨hver, hs12⟩ := andB hs
     obtain ⟨hs1, hs2⟩ := andB hs12
     have hs1 := Nat.eq_of_beq_eq_true hs1
     have := Nat.eq_of_beq_eq_true hver
     subst this
     simp only [hs, cond_true] at hk
     split at hk
     ·rename_i m n hm hn
      obtain ⟨hc, hk⟩ := Qe hk
      obtain ⟨c1, c23⟩ := andB hc
      obtain ⟨c2, c3⟩ := andB c23
      have c1 := of_decide_eq_true c1
      have c2 := of_decide_eq_true c2
      have c3 := of_decide_eq_true c3
      refine Sound.pure hk fun bl2 hb2 ok0 base pl w act hr hxs => ?_
      have hb' : bl2 bb = some (.row t0 e ver l) := (hb2 bb (by simp)).trans hb
      have h1 := hxs x hx0
      rw [hx] at h1
      obtain ⟨_, sv, svs, hg, hcur⟩ := h1
      obtain ⟨r1, r2, A, A', nn, cc, hsv, hav, hA, hA0⟩ := (hcur t0 e ver l hb').2 rfl
      obtain ⟨p, hp, hB⟩ := hr.blks bb _ hb'
      have : p = .row sv svs := by have h2 : pl bb = some (.row sv svs) := hg; rw [hp] at h2; injection h2
      subst this
      obtain ⟨_, xs, hd', hown⟩ := hB
      have hle : l.length ≤ cc := by
       rcases hown.2 with ⟨hsv2, hn⟩ | ⟨g, cap, cur, hsv2, _, _, hnc, _⟩
       ·omega
       ·rw [hsv] at hsv2; injection hsv2 with _ _ e3; omega
      have hb3 := Q1g (P := P) (isSl := true) (len := hi' - lo') (cap := cc - lo') (Q1f hm fun y hy => hxs y (hlo0 y hy)) (Q1f hn fun y hy => hxs y (hhi0 y hy)) c1 c2 (by omega) w
      refine ⟨.slice (if cc - lo' = m.toNat then A' else A'.map (·.add (m.toNat * te.size))) (n.toNat - m.toNat) (cc - lo' - m.toNat), ?_, rfl, sv, svs, hp, fun t1 e1 ver1 l1 hb1 => ?_⟩
      ·simp [execOp, ho, Instr.sliceAt, run_underlying hu, Instr.slice, hav, hb3, run_sizeOf fe]
      ·have hb1' : bl2 bb = some (.row t1 e1 ver1 l1) := hb1
       rw [hb'] at hb1'
       injection hb1' with hb1'
       injection hb1' with q1 q2 q3 q4
       subst q2 q3
       simp only [heq_eq_eq] at q4
       subst q4
       have e1 : lo' + n.toNat - (lo' + m.toNat) = n.toNat - m.toNat := by omega
       have e2 : cc - lo' - m.toNat = cc - (lo' + m.toNat) := by omega
       refine ⟨Nat.le_refl _, fun _ => ⟨by omega, by omega, A, _, nn, cc, hsv, by rw [e1, e2], fun hlt => ?_, fun h0 => ?_⟩⟩
       ·rw [if_neg (by omega), hA (by omega), ← hs1]
        cases A with
        | none => rfl
        | some ad => simp only [Option.map_some, Q2l]; rw [Nat.add_mul]
       ·have h1 : lo' = 0 := by omega
        have h2 : m.toNat = 0 := by omega
        rw [h2]
        split
        ·exact hA0 h1
        ·rw [hA0 h1]
         cases A <;> simp [Addr.add]
     ·cases hk
   ·cases hk
  ·cases hk
 ·
  rename_i b off hx
  split at hk
  ·rename_i et n hel hal hlo hhi
   have hd := Q7s f hel hal
   subst hd
   have hlo : lo = none := by cases lo <;> simp_all
   have hhi : hi = none := by cases hi <;> simp_all
   subst hlo hhi
   split at hk
   ·cases hk
   rename_i te hte
   obtain ⟨i', d', z', fe⟩ := hT.facts hte
   split at hk
   ·rename_i e he
    cases hs : (Nat.beq e.size te.size && Nat.blt 0 n) with
    | false => rw [hs] at hk; cases hk
    | true =>
     obtain ⟨hs1, hs2⟩ := andB hs
     have hs2 : 0 < n := Nat.le_of_ble_eq_true hs2
     simp only [hs, cond_true] at hk
     refine Sound.pure hk fun bl2 _ ok0 base pl w act hr hxs => ?_
     have h1 := hxs x hx0
     rw [hx] at h1
     obtain ⟨g, hg, hv⟩ := h1
     have hb := Q1g (P := P) (isSl := false) (len := n) (cap := n) (a := act) (lo := none) (hi := none) (m := 0) (n := (n : Int)) (.inl ⟨rfl, rfl⟩) (.inl ⟨rfl, rfl⟩) (by omega) (by omega) (by omega) w
     refine ⟨.slice (some ⟨g, off, none⟩) n n, ?_, g, hg, rfl⟩
     simp only [Option.map_none, Int.toNat_zero, Int.toNat_natCast] at hb
     simp [execOp, ho, Instr.sliceAt, run_underlying hu, Instr.sureAddr, hv, hb, run_sizeOf fe, Nat.ne_of_gt hs2, Addr.add]
   ·cases hk
  ·cases hk
 ·
  rename_i hx
  split at hk
  ·rename_i et hel hal
   have hd := Ql f hel hal
   subst hd
   split at hk
   ·cases hk
   rename_i te hte
   obtain ⟨i', d', z', fe⟩ := hT.facts hte
   split at hk
   ·rename_i m n hm hn
    obtain ⟨hc, hk⟩ := Qe hk
    obtain ⟨c1, c23⟩ := andB hc
    obtain ⟨c2, c3⟩ := andB c23
    have c1 := of_decide_eq_true c1
    have c2 := of_decide_eq_true c2
    have c3 := of_decide_eq_true c3
    refine Sound.pure hk fun bl2 hb2 ok0 base pl w act hr hxs => ⟨.slice none 0 0, ?_, rfl⟩
    have h1 := hxs x hx0
    rw [hx] at h1
    have hav : act.eval x = .slice none 0 0 := h1
    have hb3 := Q1g (P := P) (isSl := true) (len := 0) (cap := 0) (Q1f hm fun y hy => hxs y (hlo0 y hy)) (Q1f hn fun y hy => hxs y (hhi0 y hy)) c1 c2 (by omega) w
    have hm0 : m = 0 := by omega
    have hn0 : n = 0 := by omega
    subst hm0 hn0
    simp [execOp, ho, Instr.sliceAt, run_underlying hu, Instr.slice, hav, hb3, run_sizeOf fe]
   ·cases hk
  ·cases hk
 ·cases hk
theorem Q2j {w : World} {b b' : Nat} {e : TypeId} {size : Nat} {v : Value} {n : Nat} {xs : List Value} (h : w.ownsRow b e size v n xs) (hb : b' ≤ b) : w.ownsRow b' e size v n xs := by
 refine ⟨h.1, ?_⟩
 rcases h.2 with h2 | ⟨g, cap, cur, hv, hg, r⟩
 ·exact .inl h2
 ·exact .inr ⟨g, cap, cur, hv, Nat.le_trans hb hg, r⟩
def Reads (w : World) (okI : Nat → Prop) (e : Ty) (l : List e.den) (src : Value) : Prop :=
 ∃ A c ys, src = .slice A l.length c ∧ l.length ≤ c ∧ c ≤ maxLen ∧ DList (fun x u => DRep w okI e x u) l ys ∧ ∀ j v, ys[j]? = some v → ∃ ad, A = some ad ∧ w.cell? (ad.add j) = some v
theorem Q4l {w : World} {ok : Nat → Prop} (base : Nat) {t ty et : TypeId} {te : TI} {i : TypeInfo} {d : TypeDesc} {z : Value} (fe : TFacts P et te i d z) (ht : P.underlying t = some (.slice et)) {e : Ty} (hes : e.size = te.size) (hpos : 0 < te.size) (hby : 0 < te.bytes)
  {v : Value} {n : Nat} {xs : List Value} (hown : w.ownsRow base et e.size v n xs) {src : Value} {l : List e.den} (hsrc : Reads w ok e l src) (hroom : (n + l.length) * te.bytes ≤ Q5) (hbase : base ≤ w.heap.size) :
  ∃ v' w' ys, (Builtin.append_ #[t, t] ty #[v, src]).run P w = .ok v' w' ∧ w'.ownsRow base et e.size v' (n + l.length) (xs ++ ys) ∧ w.grownBy w' v.ownBlock ∧ (v'.ownBlock = v.ownBlock ∨ v'.ownBlock = some w.heap.size) ∧ DList (fun x u => DRep w ok e x u) l ys := by
 have hsize : i.size = e.size := by rw [← fe.size, hes]
 have hzs : z.cells.size = e.size := by
  have := fe.len
  rw [Array.length_toList] at this
  rw [this, hsize]
 obtain ⟨A, c, ys, rfl, hle, hcm, hd, hcell⟩ := hsrc
 have hl : ys.length = l.length * e.size := hd.length
 have h1 := hd.oneCell
 have hroom' : (n + l.length) * i.bytes ≤ 140737488355328 := by rw [← fe.bytes]; exact hroom
 have h63 : n + l.length ≤ maxLen := by
  have h2 : n + l.length ≤ (n + l.length) * te.bytes := Nat.le_mul_of_pos_right _ hby
  simp only [Q5] at hroom
  simp only [maxLen]
  omega
 cases A with
 | some ad =>
  obtain ⟨v', w', hrun, h2, h3, _, h5⟩ := run_append_own_at (P := P) w base t ty et i z e.size i.bytes ht fe.info fe.zero hsize rfl hzs (by omega) v n xs hown ad l.length c ys hl
   (fun j u hj => by
    obtain ⟨ad', ha, hc⟩ := hcell j u hj
    injection ha with ha
    subst ha
    exact hc) h1 h63 hroom' hbase
  exact ⟨v', w', ys, hrun, h2, h3, h5, hd⟩
 | none =>
  have hy : ys = [] := by
   cases ys with
   | nil => rfl
   | cons y ys =>
    obtain ⟨ad, ha, _⟩ := hcell 0 y rfl
    cases ha
  subst hy
  have hl0 : l.length = 0 := by
   rcases Nat.eq_zero_or_pos l.length with h0 | h0
   ·exact h0
   ·have : 0 < l.length * e.size := Nat.mul_pos h0 (by omega)
    simp at hl
    omega
  refine ⟨v, w, [], ?_, by simpa [hl0] using hown, ⟨rfl, rfl, rfl, Nat.le_refl _, fun _ _ _ => rfl⟩, .inl rfl, hd⟩
  rcases hown.2 with ⟨rfl, rfl⟩ | ⟨g, cap, cur, rfl, _, _, hnc, _⟩
  ·simp [Builtin.append_, run_underlying ht, sizeOf, typeInfo, fe.info, Builtin.lenOf, Builtin.firstCells, hl0]
  ·simp [Builtin.append_, run_underlying ht, sizeOf, typeInfo, fe.info, Builtin.lenOf, Builtin.firstCells, hl0, hnc, storeCells]
theorem Reads.of_own {w : World} {okI : Nat → Prop} {base : Nat} {t : TypeId} {e : Ty} {l : List e.den} {sv : Value} {xs : List Value} (hd : DList (fun x u => DRep w okI e x u) l xs) (ho : w.ownsRow base t e.size sv l.length xs) : Reads w okI e l sv := by
 have hown := ho
 rcases ho.2 with ⟨rfl, hn⟩ | ⟨g, cap, cur, rfl, hbase, hh, hnc, hcm, hcs, htake⟩
 ·have hl : l = [] := List.eq_nil_of_length_eq_zero hn
  subst hl
  simp only [DList] at hd
  subst hd
  exact ⟨none, 0, [], rfl, by simp, by simp [maxLen], rfl, by simp⟩
 ·exact ⟨some ⟨g, 0, none⟩, cap, xs, rfl, hnc, hcm, hd, fun j u hj => ⟨_, rfl, hown.cells (g := g) rfl j u hj⟩⟩
theorem Q3w {E : Env} {blp : Nat → Option Blk} (hb : Q1m E) {e : Ty} {y : V} {l : List e.den} {rd : List Nat} (h : Qaw blp e y = some (l, rd)) (hsub : ∀ b ∈ rd, ∀ B, blp b = some B → E.bl b = some B) {v : Value} (hv : VRep E y v) : Reads E.w E.ok e l v := by
 unfold Qaw at h
 split at h
 ·simp only [Option.some.injEq, Prod.mk.injEq] at h
  obtain ⟨rfl, _⟩ := h
  have : v = .slice none 0 0 := hv
  subst this
  exact ⟨none, 0, [], rfl, by simp, by simp [maxLen], rfl, by simp⟩
 ·split at h
  ·rename_i he
   subst he
   simp only [Option.some.injEq, Prod.mk.injEq] at h
   obtain ⟨rfl, _⟩ := h
   have hv' : DRep E.w E.ok (.slice _) _ [v] := hv
   simp only [DRep] at hv'
   obtain ⟨A, c, xs, e1, hl, hc, hd, hx⟩ := hv'
   simp only [List.cons.injEq, and_true] at e1
   exact ⟨A, c, xs, e1, hl, hc, hd, fun j u hj => by obtain ⟨ad, h1, _, h2⟩ := hx j u hj; exact ⟨ad, h1, h2⟩⟩
  ·cases h
 ·split at h
  ·rename_i he
   subst he
   simp only [Option.some.injEq, Prod.mk.injEq] at h
   obtain ⟨rfl, _⟩ := h
   have hv' : DRep E.w E.ok (.slice _) _ [v] := (show _ ∧ _ from hv).1
   simp only [DRep] at hv'
   obtain ⟨A, c, xs, e1, hl, hc, hd, hx⟩ := hv'
   simp only [List.cons.injEq, and_true] at e1
   exact ⟨A, c, xs, e1, hl, hc, hd, fun j u hj => by obtain ⟨ad, h1, _, h2⟩ := hx j u hj; exact ⟨ad, h1, h2⟩⟩
  ·cases h
 ·rename_i b ver
  cases hr : Q30 blp b ver e with
  | none => rw [hr] at h; cases h
  | some l' =>
   rw [hr] at h
   simp only [Option.map_some, Option.some.injEq, Prod.mk.injEq] at h
   obtain ⟨rfl, rfl⟩ := h
   obtain ⟨t, sv, xs, hbl, hpl, rfl, hd, ho⟩ := Q8n hb (fun t e ver l h => hsub b (by simp) _ h) hr hv
   exact Reads.of_own hd ho
 ·rename_i b ver i j
  cases hr : Q30 blp b ver e with
  | none => rw [hr] at h; cases h
  | some l' =>
   rw [hr] at h
   simp only [Option.map_some, Option.some.injEq, Prod.mk.injEq] at h
   obtain ⟨rfl, rfl⟩ := h
   obtain ⟨t, sv, xs, hB, hbl, hpl, hd, ho⟩ := Q6g hb (fun t e ver l h => hsub b (by simp) _ h) hr
   obtain ⟨_, sv2, svs2, hpl2, hcur⟩ := hv
   rw [hpl] at hpl2
   injection hpl2 with hpl2
   injection hpl2 with hpl2 _
   subst hpl2
   obtain ⟨A, c, ys, q1, q2, q3, q4, q5⟩ := Q6u ((hcur _ _ _ _ hbl).2 rfl) hd ho
   exact ⟨A, c, ys, q1, q2, q3, q4, fun k u hk => by obtain ⟨ad, r1, _, r3⟩ := q5 k u hk; exact ⟨ad, r1, r3⟩⟩
 ·cases h
theorem Q1r {w w' : World} {a : Act} {x y : Operand} {c : Call} {t : TypeId} (ho : o.op = .call c) (hc : c.callee = .builtin .append) (ha : c.args.toList = [x, y]) (ht : c.argTypes.toList = [t, t]) {v : Value}
  (h : (Builtin.append_ #[t, t] o.type #[a.eval x, a.eval y]).run P w = .ok v w') : (execOp a.eval o).run P w = .ok (.value v) w' := by
 have h1 : c.args = #[x, y] := by rw [← Array.toArray_toList (xs := c.args), ha]
 have h2 : c.argTypes = #[t, t] := by rw [← Array.toArray_toList (xs := c.argTypes), ht]
 simp [execOp, ho, resolve, hc, h1, h2, invoke, builtin, h]
theorem Qen {T : TypeId → Option TI} (hT : TOk P T) {kk : K β} {c : Call} (ho : o.op = .call c) (hc : c.callee = .builtin .append) {x y : Operand} {t : TypeId} {nx : Nat} (ha : c.args.toList = [x, y]) (hty : c.argTypes.toList = [t, t])
  (hk : Q8g T bl nx t (ρ x) (ρ y) kk = some r) : Sound P o ρ bl kk r := by
 have hargs : c.args = #[x, y] := by rw [← Array.toArray_toList (xs := c.args), ha]
 have hx0 : x ∈ o.op.operands := by simp [ho, Op.operands, Call.operands, hargs]
 have hy0 : y ∈ o.op.operands := by simp [ho, Op.operands, Call.operands, hargs]
 unfold Q8g at hk
 split at hk
 ·cases hk
 rename_i ti ht
 obtain ⟨i, d, z, f⟩ := hT.facts ht
 split at hk
 ·rename_i et hel hal
  have hd := Ql f hel hal
  subst hd
  split at hk
  ·cases hk
  rename_i te hte
  obtain ⟨i', d', z', fe⟩ := hT.facts hte
  split at hk
  ·cases hk
  rename_i e hety
  cases hs : (Nat.beq e.size te.size && (Nat.blt 0 te.size && Nat.blt 0 te.bytes)) with
  | false => rw [hs] at hk; cases hk
  | true =>
   obtain ⟨hs1, hs23⟩ := andB hs
   obtain ⟨hs2, hs3⟩ := andB hs23
   have hs1 := Nat.eq_of_beq_eq_true hs1
   have hs2 := Q1b hs2
   have hs3 := Q1b hs3
   simp only [hs, cond_true] at hk
   split at hk
   ·cases hk
   rename_i new rd hsrc
   split at hk
   ·
    rename_i hx
    split at hk
    ·rename_i hn
     obtain ⟨hroom, hk⟩ := Qe hk
     have hroom := of_decide_eq_true hroom
     refine ⟨_, _, _, hk, fun bl2 hb2 => ?_⟩
     have hn2 : bl2 nx = none := (hb2 nx (by simp)).trans hn
     intro ok0 base pl w a hr hxs K Q hK
     have hv : a.eval x = .slice none 0 0 := by have := hxs x hx0; rw [hx] at this; exact this
     have hrd : Reads w (Q4 ok0 base pl bl2 w).ok e new (a.eval y) := Q3w hr.blksOk hsrc (fun b hb B hB => (hb2 b (by simp [hb])).trans hB) (hxs y hy0)
     obtain ⟨v', w', ys, hrun, hown, hgr, hloc, hdl⟩ := Q4l (P := P) w.heap.size fe f.under (ty := o.type) hs1 hs2 hs3 (World.ownsRow_nil w w.heap.size et e.size) hrd (by simpa using hroom) (Nat.le_refl _)
     have hgr' : w.grownBy w' none := hgr
     have hp : ∀ g, (Pl.row v' []).has g → w.heap.size ≤ g := fun g hg => (hown.lt g (Pl.has_row hg)).1
     have hst : Step pl bl2 w (upd pl nx (.row v' [])) (upd bl2 nx (.row et e 0 new)) w' := Step.new hr hn2 hgr' hp
     refine Qn (Q1r ho hc ha hty (by rw [hv]; exact hrun)) (hK v' (upd pl nx (.row v' [])) w' ?_ hst ?_)
     ·refine RelB.new hr hn2 hgr' hp ⟨rfl, ys, hdl.mono fun x u hu => hu.mono hst.ext.heap, ?_⟩
      simp only [Nat.zero_add, List.nil_append] at hown
      exact Q2j hown hr.baseLe
     ·refine ⟨?_, v', [], by simp [Q4, upd], fun t1 e1 ver1 l1 h1 => ?_⟩
      ·rcases hown.2 with ⟨rfl, _⟩ | ⟨g, cap, cur, rfl, _⟩ <;> rfl
      ·simp only [Q4, updL, upd, if_true, Option.some.injEq] at h1
       injection h1 with q1 q2 q3 q4
       subst q3
       exact ⟨Nat.le_refl _, fun _ => rfl⟩
    ·cases hk
   ·
    rename_i b ver hx
    split at hk
    ·rename_i t0 e0 ver' l hb
     cases hvt : (Nat.beq ver ver' && Nat.beq t0 et) with
     | false => rw [hvt] at hk; cases hk
     | true =>
      obtain ⟨hver, ht0⟩ := andB hvt
      have := Nat.eq_of_beq_eq_true hver
      subst this
      have := Nat.eq_of_beq_eq_true ht0
      subst this
      simp only [hvt, cond_true] at hk
      split at hk
      ·rename_i he
       subst he
       obtain ⟨hroom, hk⟩ := Qe hk
       have hroom := of_decide_eq_true hroom
       refine ⟨_, _, _, hk, fun bl2 hb2 => ?_⟩
       have hb' : bl2 b = some (.row t0 e0 ver l) := (hb2 b (by simp)).trans hb
       intro ok0 base pl w a hr hxs K Q hK
       have hv := hxs x hx0
       rw [hx] at hv
       obtain ⟨_, sv, svs, hg, hcur⟩ := hv
       have hav := (hcur t0 e0 ver l hb').2 rfl
       obtain ⟨p, hp, hB⟩ := hr.blks b _ hb'
       have : p = .row sv svs := by have h2 : pl b = some (.row sv svs) := hg; rw [hp] at h2; injection h2
       subst this
       obtain ⟨h0, xs, hd', hown0⟩ := hB
       subst h0
       have hrd : Reads w (Q4 ok0 base pl bl2 w).ok e0 new (a.eval y) := Q3w hr.blksOk hsrc (fun b hb B hB => (hb2 b (by simp [hb])).trans hB) (hxs y hy0)
       obtain ⟨v', w', ys, hrun, hown, hgr, hloc, hdl⟩ := Q4l (P := P) base fe f.under (ty := o.type) hs1 hs2 hs3 hown0 hrd hroom hr.baseLe
       have hloc' : v'.ownBlock = sv.ownBlock ∨ ∀ g, v'.ownBlock = some g → w.heap.size ≤ g := by
        rcases hloc with h | h
        ·exact .inl h
        ·exact .inr fun g hg => by rw [h] at hg; injection hg with hg; exact Nat.le_of_eq hg
       have hst := Step.grown (l' := l ++ new) (ver' := ver + 1) hr hb' hp hgr hloc' ⟨by omega, fun h => by omega⟩
       refine Qn (Q1r ho hc ha hty (by rw [hav]; exact hrun)) (hK v' (upd pl b (.row v' [])) w' ?_ hst ?_)
       ·refine RelB.grown hr hb' hp hgr hloc' ⟨by omega, fun h => by omega⟩ ⟨rfl, xs ++ ys, (hd'.mono fun x u hu => hu.mono hst.ext.heap).append (hdl.mono fun x u hu => hu.mono hst.ext.heap), ?_⟩
        rw [List.length_append]
        exact hown
       ·refine ⟨?_, v', [], by simp [Q4, upd], fun t1 e1 ver1 l1 h1 => ?_⟩
        ·rcases hown.2 with ⟨rfl, _⟩ | ⟨g, cap, cur, rfl, _⟩ <;> rfl
        ·simp only [Q4, updL, upd, if_true, Option.some.injEq] at h1
         injection h1 with q1 q2 q3 q4
         subst q3
         exact ⟨Nat.le_refl _, fun _ => rfl⟩
      ·cases hk
    ·cases hk
   ·
    rename_i b iver ix hx
    split at hk
    ·rename_i t0 et0 e0 ver iver' l hb hn
     cases hvt : (Nat.beq iver iver' && Nat.beq et0 et) with
     | false => rw [hvt] at hk; cases hk
     | true =>
      obtain ⟨hver, ht0⟩ := andB hvt
      have := Nat.eq_of_beq_eq_true hver
      subst this
      have := Nat.eq_of_beq_eq_true ht0
      subst this
      simp only [hvt, cond_true] at hk
      split at hk
      ·rename_i he
       subst he
       obtain ⟨hroom, hk⟩ := Qe hk
       have hroom := of_decide_eq_true hroom
       refine ⟨_, _, _, hk, fun bl2 hb2 => ?_⟩
       have hb' : bl2 b = some (.mat t0 et0 e0 ver iver none l) := (hb2 b (by simp)).trans hb
       have hn2 : bl2 nx = none := (hb2 nx (by simp)).trans hn
       intro ok0 base pl w a hr hxs K Q hK
       have hbn : b ≠ nx := by rintro rfl; rw [hb'] at hn2; cases hn2
       have hv := hxs x hx0
       rw [hx] at hv
       obtain ⟨_, sv, svs, hg, hcur⟩ := hv
       obtain ⟨hri, hss⟩ := (hcur _ _ _ _ _ _ _ hb').2 rfl
       obtain ⟨p, hp, hB⟩ := hr.blks b _ hb'
       have : p = .row sv svs := by have h2 : pl b = some (.row sv svs) := hg; rw [hp] at h2; injection h2
       subst this
       have hM : MatOk _ t0 et0 e0 none l sv svs := hB
       obtain ⟨xs, hd', hown0⟩ := hM.inner ix (a.eval x) l[ix] hss (List.getElem?_eq_getElem hri)
       have hgd : l.getD ix [] = l[ix] := by simp [List.getD, hri]
       rw [hgd] at hroom hK
       generalize hlx : l[ix] = xr at *
       have hrd : Reads w (Q4 ok0 base pl bl2 w).ok e0 new (a.eval y) := Q3w hr.blksOk hsrc (fun b hb B hB => (hb2 b (by simp [hb])).trans hB) (hxs y hy0)
       obtain ⟨v', w', ys, hrun, hown, hgr, hloc, hdl⟩ := Q4l (P := P) base fe f.under (ty := o.type) hs1 hs2 hs3 hown0 hrd hroom hr.baseLe
       have hnone : ∀ k : Nat, svs[k]? ≠ some none := fun k h => by have := hM.hole k h; cases this
       have hix2 : ix < svs.length := by rw [hM.len]; exact hri
       have hset : ∀ (k : Nat) (s : Value), (svs.set ix none)[k]? = some (some s) → k ≠ ix ∧ svs[k]? = some (some s) := fun k s h => by
        by_cases hki : k = ix
        ·subst hki
         rw [List.getElem?_set_self hix2] at h
         injection h with h
         cases h
        ·rw [List.getElem?_set_ne (fun h => hki h.symm)] at h
         exact ⟨hki, h⟩
       have hownb : ∀ g, (Pl.row sv svs).has g → Qm pl bl2 b g := fun g h => ⟨_, _, hb', rfl, hp, h⟩
       have hltb : ∀ g, (Pl.row sv svs).has g → g < w.heap.size := fun g h => Own.lt hr ⟨b, _, _, hb', rfl, hp, h⟩
       have hhas' : ∀ g, (Pl.row sv (svs.set ix none)).has g → (Pl.row sv svs).has g ∧ (a.eval x).ownBlock ≠ some g := fun g h => by
        rcases h with h | ⟨k, s, hks, h⟩
        ·exact ⟨.inl h, hM.sep0 ix _ g hss h⟩
        ·obtain ⟨hki, hks⟩ := hset k s hks
         exact ⟨.inr ⟨k, s, hks, h⟩, fun h2 => hM.sep k ix s _ g hki hks hss h h2⟩
       have hog : ∀ g, (a.eval x).ownBlock = some g → Qm pl bl2 b g ∨ Qm pl bl2 nx g := fun g h => .inl (hownb g (.inr ⟨ix, _, hss, h⟩))
       have hj : ∀ g, v'.ownBlock = some g → Qm pl bl2 b g ∨ Qm pl bl2 nx g ∨ w.heap.size ≤ g := fun g h => by
        rcases hloc with h2 | h2
        ·rw [h2] at h
         exact .inl (hownb g (.inr ⟨ix, _, hss, h⟩))
        ·rw [h2] at h
         injection h with h
         exact .inr (.inr (Nat.le_of_eq h))
       have hpn := hr.fresh nx hn2
       have hst : Step pl bl2 w (upd (upd pl b (.row sv (svs.set ix none))) nx (.row v' [])) (upd (upd bl2 b (.mat t0 et0 e0 ver (iver + 1) (some ix) l)) nx (.row et0 e0 0 (xr ++ new))) w' := by
        refine Step.two hr hbn hgr hog (fun g _ h => .inl (hownb g (hhas' g h).1)) (fun g _ h => hj g (Pl.has_row h)) (fun g h => by rw [hp] at h; cases h) (fun g h => by rw [hpn] at h; cases h) (fun sv0 svs0 h => ?_) (fun sv0 svs0 h => by rw [hpn] at h; cases h)
        rw [hp] at h
        injection h with h
        injection h with h h2
        subst h h2
        refine ⟨_, _, rfl, ?_⟩
        rw [hb']
        exact KeepR.ofMat ⟨Nat.le_refl _, fun _ => ⟨rfl, rfl⟩⟩ ⟨by omega, fun h => by omega⟩
       have hext := hst.ext (ok0 := ok0) (base := base)
       have hsame : ∀ g, (Pl.row sv svs).has g → (a.eval x).ownBlock ≠ some g → w'.heap[g]? = w.heap[g]? := fun g h hne => hgr.block g (hltb g h) (fun h2 => hne h2.symm)
       refine Qn (Q1r ho hc ha hty hrun) (hK v' (upd (upd pl b (.row sv (svs.set ix none))) nx (.row v' [])) w' ?_ hst ?_)
       ·refine RelB.two hr hbn hgr hog (fun g _ h => .inl (hownb g (hhas' g h).1)) (fun g _ h => hj g (Pl.has_row h)) (fun g _ _ h h2 => ?_) hst ?_ ?_
        ·have h2 := Pl.has_row h2
         obtain ⟨h3, h4⟩ := hhas' g h
         rcases hloc with h5 | h5
         ·rw [h5] at h2; exact h4 h2
         ·rw [h5] at h2
          have h6 := Option.some.inj h2
          have h7 := hltb g h3
          rw [← h6] at h7
          exact Nat.lt_irrefl _ h7
        ·obtain ⟨vs, ho1, ho2⟩ := hM.outer
         refine ⟨⟨vs, Qw (Nat.le_refl _) (fun g h => hsame g (.inl h) (hM.sep0 ix _ g hss h)) ho1, fun k s hks => ho2 k s (hset k s hks).2⟩, by simp [hM.len], fun k hk => ?_, fun k s xx hks hkx => ?_, fun k s g hks => hM.sep0 k s g (hset k s hks).2, fun k j s s' g hkj hks hjs => hM.sep k j s s' g hkj (hset k s hks).2 (hset j s' hjs).2⟩
         ·by_cases hki : k = ix
          ·rw [hki]
          ·rw [List.getElem?_set_ne (fun h => hki h.symm)] at hk
           exact absurd hk (hnone k)
         ·obtain ⟨hki, hks⟩ := hset k s hks
          obtain ⟨zs, q1, q2⟩ := hM.inner k s xx hks hkx
          exact ⟨zs, q1.mono fun x u hu => hu.mono hext.heap, Qw (Nat.le_refl _) (fun g h => hsame g (.inr ⟨k, s, hks, h⟩) (fun h2 => hM.sep k ix s _ g hki hks hss h h2)) q2⟩
        ·refine ⟨rfl, xs ++ ys, (hd'.mono fun x u hu => hu.mono hext.heap).append (hdl.mono fun x u hu => hu.mono hext.heap), ?_⟩
         rw [List.length_append]
         exact hown
       ·refine ⟨?_, v', [], by simp [Q4, upd], fun t1 e1 ver1 l1 h1 => ?_⟩
        ·rcases hown.2 with ⟨rfl, _⟩ | ⟨g, cap, cur, rfl, _⟩ <;> rfl
        ·simp only [Q4, updL, upd, if_true, Option.some.injEq] at h1
         injection h1 with q1 q2 q3 q4
         subst q3
         exact ⟨Nat.le_refl _, fun _ => rfl⟩
      ·cases hk
    ·cases hk
   ·cases hk
 ·cases hk
end
end Go.Lift
