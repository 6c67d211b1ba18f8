/- Part2: LiftQ, LiftR, LiftS, LiftT, LiftU, LiftV, LiftW, LiftX. -/
import Derived.LoopN
import Derived.KernelRfl
import Derived.Below
import Derived.IntWalk
import Derived.Deep.Slices
import Derived.Deep.Fields
import Derived.ChangeSame
import Derived.OpenShut
import Derived.WalkKit
import Derived.ProofKit
import Derived.Test.YtfgmlgnpnoijcadGreatPart1
set_option linter.unusedVariables false
set_option linter.unusedSimpArgs false
namespace Go.Lift
open Go.RowKit
def AExit.toExit : AExit → Exit
 | .normal => .normal
 | .exit id => .exit id
 | .ret => .ret
section
variable {P : Program} {n m : Nat} {β : Type} {r : β}
def Sim (P : Program) (n m : Nat) (c : Code) (σ : St) (k : Kx β) (r : β) : Prop :=
 ∃ e' σ', k e' σ' = some r ∧ ∀ (ok0 : OK0 P) (base : Nat) (pl : Nat → Option Pl) (a : Act) (w : World), Rel n ok0 base pl (look σ.tm) (look σ.bl) a w →
  c.wp P (fun e a' w' => e = e'.toExit ∧ ∃ pl', Rel n ok0 base pl' (look σ'.tm) (look σ'.bl) a' w' ∧ StepM m pl (look σ.bl) w pl' (look σ'.bl) w') a w
def Q7v (P : Program) (n m : Nat) (c : Code) (cut : Cut) : Prop :=
 ∀ {β : Type} (σ : St) (k : Kx β) (r : β), cut.run σ k = some r → Sim P n m c σ k r
def find (q : Nat) : Nat → Code → List Code
 | p, c =>
  let here : List Code := bif Nat.beq p q then [c] else []
  match c with
  | .seq a b => here ++ (find q (2 * p) a ++ find q (2 * p + 1) b)
  | .cond _ a b => here ++ (find q (2 * p) a ++ find q (2 * p + 1) b)
  | .block _ a => here ++ find q (2 * p) a
  | _ => here
theorem Q2k (p : Nat) (c : Code) : c ∈ find p p c := by
 unfold find
 cases c <;> simp
theorem Q65 : ∀ (l : List Oper) (s : Nat), (Q1w s l).map (·.1) = List.range' s l.length
 | [], _ => rfl
 | o :: l, s => by simp [Q1w, Q65 l, List.range'_succ]
theorem Q66 {ops : Array Oper} : ∀ (l : List Oper) (s : Nat), ops.toList.drop s = l → ∀ p ∈ Q1w s l, ops[p.1]? = some p.2
 | [], _, _, p, hp => by simp [Q1w] at hp
 | o :: l, s, h, p, hp => by
  have hs : s < ops.toList.length := by
   rcases Nat.lt_or_ge s ops.toList.length with h1 | h1
   ·exact h1
   ·rw [List.drop_eq_nil_of_le h1] at h; cases h
  rw [List.drop_eq_getElem_cons hs] at h
  injection h with h1 h2
  simp only [Q1w, List.mem_cons] at hp
  rcases hp with e | hp
  ·subst e
   simp only [Array.getElem_toList] at h1
   rw [← h1]
   exact Array.getElem?_eq_getElem (by simpa using hs)
  ·exact Q66 l (s + 1) h2 p hp
theorem Q7f : ∀ {l : List (Nat × Oper)}, Q34 l = true → ∀ p ∈ l, ∀ e ∈ p.2.after, Region.binds .any e = true → e.on < p.1
 | [], _, p, hp => by simp at hp
 | (i, o) :: l, h, p, hp => by
  simp only [Q34, Bool.and_eq_true, List.all_eq_true] at h
  rcases List.mem_cons.1 hp with e | hp
  ·subst e
   intro e he hb
   have := h.1 e (by simpa using he)
   simp only [hb, Bool.not_true, Bool.false_or] at this
   exact Q1b this
  ·exact Q7f h.2 p hp
theorem Qbg {m : Nat} {y : LogE} : ∀ {l : List LogE}, Qe5 m y l = true → ∀ x ∈ l, Q9j x y = false ∨ Nat.testBit m x.i = true
 | [], _, x, hx => by simp at hx
 | z :: l, h, x, hx => by
  simp only [Qe5, Bool.and_eq_true, Bool.or_eq_true, Bool.not_eq_true'] at h
  rcases List.mem_cons.1 hx with e | hx
  ·subst e; exact h.1
  ·exact Qbg h.2 x hx
theorem Qd2 {ms : List Nat} : ∀ {l : List LogE}, fine ms l = true → l.Pairwise (fun y x => Q9j x y = false ∨ Nat.testBit (ms.getD y.i 0) x.i = true)
 | [], _ => List.Pairwise.nil
 | y :: l, h => by
  simp only [fine, Bool.and_eq_true] at h
  exact List.pairwise_cons.2 ⟨fun x hx => Qbg h.1 x hx, Qd2 h.2⟩
theorem Rel.drawn {ok0 : OK0 P} {base : Nat} {pl : Nat → Option Pl} {tm : Nat → Option V} {bl : Nat → Option Blk} {a : Act} {w w' : World} (h : Rel n ok0 base pl tm bl a w) (hw : w'.heap = w.heap) : Rel n ok0 base pl tm bl a w' := by
 have hk : Ext (Q4 ok0 base pl bl w) (Q4 ok0 base pl bl w') :=
  ⟨Nat.le_refl _, fun g hg _ => ⟨hg, by show w'.heap[g]? = w.heap[g]?; rw [hw]⟩, fun _ _ h => h, fun _ sv svs h => ⟨sv, svs, h, KeepR.refl _ _ _⟩⟩
 refine ⟨h.defers, h.size, fun t v ht => (h.tmps t v ht).mono hk, by rw [hw]; exact h.rel.baseLe, fun i B hB => ?_, h.rel.sep, h.rel.fresh, h.rel.glob.out (by rw [hw]; exact Nat.le_refl _) (fun g _ ho => ⟨by rw [hw], ho⟩)⟩
 obtain ⟨p, hp, hb⟩ := h.rel.blks i B hB
 exact ⟨p, hp, hb.mono hk fun g _ => by show w'.heap[g]? = w.heap[g]?; rw [hw]⟩
theorem Qi5 (hm : P.follows .mixedOrders = true) {X : Ctx} (hT : TOk P X.T) (hΓ : ΓOk P X.Γ) {id : Nat} {ops : Array Oper} {draw : Bool} {σ : St} {k : Kx β}
  (h : (Q44 X n ops (Q1w 0 ops.toList) σ [] fun σ' log => bif !draw || (Q34 (Q1w 0 ops.toList) && fine (Q2n ops.toList []) log) then k .normal σ' else none) = some r) : Sim P n m (.region id ops draw) σ k r := by
 obtain ⟨es, σ', h1, h2, h3, h4, h5⟩ := Q64 hT hΓ (Q66 ops.toList 0 (by simp)) h
 rw [Q65] at h2
 have h2' : es.map (·.i) = List.range ops.size := by rw [h2, List.range_eq_range']; simp
 simp only [List.append_nil] at h1
 have hc : (!draw || (Q34 (Q1w 0 ops.toList) && fine (Q2n ops.toList []) es.reverse)) = true ∧ k .normal σ' = some r := by
  cases hb : (!draw || (Q34 (Q1w 0 ops.toList) && fine (Q2n ops.toList []) es.reverse)) with
  | false => rw [hb] at h1; cases h1
  | true => rw [hb] at h1; exact ⟨rfl, h1⟩
 refine ⟨.normal, σ', hc.2, fun ok0 base pl a w hr => ?_⟩
 cases draw with
 | false =>
  refine wp_region ?_
  rw [← h2']
  refine Qab h3 hr fun pl' a' w' hr' hs' => ⟨rfl, pl', ?_, ?_⟩
  ·rw [h4, h5]; exact hr'
  ·rw [h5]; exact hs'.toM
 | true =>
  have hcc := hc.1
  simp only [Bool.not_true, Bool.false_or, Bool.and_eq_true] at hcc
  obtain ⟨hb, hf⟩ := hcc
  have hback : ∀ (j : Nat) (o : Oper), ops[j]? = some o → ∀ e ∈ o.after, Region.binds .any e = true → e.on < j := by
   intro j o ho
   have hj : j < ops.size := (Array.getElem?_eq_some_iff.1 ho).1
   have hmem : j ∈ (Q1w 0 ops.toList).map (·.1) := by
    rw [Q65]; simp only [Array.length_toList, List.mem_range'_1]; omega
   obtain ⟨p, hp, e⟩ := List.mem_map.1 hmem
   have h6 := Q66 (ops := ops) ops.toList 0 (by simp) p hp
   rw [e, ho] at h6
   injection h6 with h6
   have := Q7f hb p hp
   rw [e, ← h6] at this
   exact this
  have hmap : ∀ i, (∃ e ∈ es, e.i = i) ↔ i < ops.size := by
   intro i
   rw [← List.mem_range, ← h2', List.mem_map]
  refine wp_region_any hm ?_
  refine Qgk hback ops.size (es := es) ?_ (by simp) ?_ (fun i hi => ?_) ?_ (fun e he => (hmap e.i).1 ⟨e, he, rfl⟩) ?_ h3 (hr.drawn (w' := { w with drawn := w.drawn + 1 }) rfl) fun pl' a' w' hr' hs' => ⟨rfl, pl', ?_, ?_⟩
  ·have := congrArg List.length h2'
   simpa using this
  ·intro j o _ hj
   exfalso
   rw [Array.getD_eq_getD_getElem?] at hj
   rcases Nat.lt_or_ge j ops.size with h7 | h7
   ·simp [h7] at hj
   ·simp [Nat.not_lt.2 h7] at hj
  ·constructor
   ·intro _; exact (hmap i).2 hi
   ·intro _; simp [Array.getD_eq_getD_getElem?, hi]
  ·have : (es.map (·.i)).Pairwise (· < ·) := by rw [h2']; exact List.pairwise_lt_range
   exact List.pairwise_map.1 this
  ·have := Qd2 hf
   exact List.pairwise_reverse.1 this
  ·rw [h4, h5]; exact hr'
  ·rw [h5]
   exact ⟨hs'.os, hs'.tape, hs'.output, hs'.size, hs'.out, fun b g _ => hs'.cells b g, (hs'.toM (m := m)).rows⟩
theorem Q1h {c : Code} {Q Q' : Exit → Act → World → Prop} {a : Act} {w : World} (h : c.wp P Q a w) (hq : ∀ e a w, Q e a w → Q' e a w) : c.wp P Q' a w := by
 intro b k cs
 obtain ⟨e, a', w', h1, h2⟩ := h b k cs
 exact ⟨e, a', w', hq _ _ _ h1, h2⟩
theorem Q7w (hm : P.follows .mixedOrders = true) {X : Ctx} (hT : TOk P X.T) (hΓ : ΓOk P X.Γ) {Λ : Nat → Option Cut} : ∀ {c : Code} {p : Nat} {σ : St} {k : Kx β}, (∀ q cut, Λ q = some cut → ∀ c' ∈ find q p c, Q7v P n m c' cut) →
  exec X n Λ p c σ k = some r → Sim P n m c σ k r := by
 intro c
 induction c with
 | region id ops draw =>
  intro p σ k hΛ h
  unfold exec at h
  split at h
  ·rename_i cut hc; exact hΛ p cut hc _ (Q2k p _) σ k r h
  ·exact Qi5 hm hT hΓ h
 | skip =>
  intro p σ k hΛ h
  unfold exec at h
  split at h
  ·rename_i cut hc; exact hΛ p cut hc _ (Q2k p _) σ k r h
  ·exact ⟨.normal, σ, h, fun ok0 base pl a w hr => wp_skip ⟨rfl, pl, hr, StepM.refl _ _ _ _⟩⟩
 | exit id =>
  intro p σ k hΛ h
  unfold exec at h
  split at h
  ·rename_i cut hc; exact hΛ p cut hc _ (Q2k p _) σ k r h
  ·exact ⟨.exit id, σ, h, fun ok0 base pl a w hr => wp_exit ⟨rfl, pl, hr, StepM.refl _ _ _ _⟩⟩
 | ret =>
  intro p σ k hΛ h
  unfold exec at h
  split at h
  ·rename_i cut hc; exact hΛ p cut hc _ (Q2k p _) σ k r h
  ·exact ⟨.ret, σ, h, fun ok0 base pl a w hr => wp_ret ⟨rfl, pl, hr, StepM.refl _ _ _ _⟩⟩
 | seq x y ihx ihy =>
  intro p σ k hΛ h
  unfold exec at h
  split at h
  ·rename_i cut hc; exact hΛ p cut hc _ (Q2k p _) σ k r h
  ·simp only at h
   obtain ⟨e1, σ1, h1, hw1⟩ := ihx (fun q cut hq c' hc' => hΛ q cut hq c' (by unfold find; simp [hc'])) h
   have hy : ∀ {k' : Kx β}, exec X n Λ (2 * p + 1) y σ1 k' = some r → Sim P n m y σ1 k' r := ihy (fun q cut hq c' hc' => hΛ q cut hq c' (by unfold find; simp [hc']))
   cases e1 with
   | normal =>
    simp only at h1
    obtain ⟨e2, σ2, h2, hw2⟩ := hy h1
    refine ⟨e2, σ2, h2, fun ok0 base pl a w hr => wp_seq (Q1h (hw1 ok0 base pl a w hr) fun e a' w' ⟨he, pl', hr', hs'⟩ => ?_)⟩
    subst he
    exact Q1h (hw2 ok0 base pl' a' w' hr') fun e a2 w2 ⟨he2, pl2, hr2, hs2⟩ => ⟨he2, pl2, hr2, hs'.trans hs2⟩
   | exit id =>
    refine ⟨.exit id, σ1, h1, fun ok0 base pl a w hr => wp_seq (Q1h (hw1 ok0 base pl a w hr) fun e a' w' hq => ?_)⟩
    have he := hq.1
    subst he
    exact hq
   | ret =>
    refine ⟨.ret, σ1, h1, fun ok0 base pl a w hr => wp_seq (Q1h (hw1 ok0 base pl a w hr) fun e a' w' hq => ?_)⟩
    have he := hq.1
    subst he
    exact hq
 | cond x a b iha ihb =>
  intro p σ k hΛ h
  unfold exec at h
  split at h
  ·rename_i cut hc; exact hΛ p cut hc _ (Q2k p _) σ k r h
  ·simp only at h
   split at h
   ·rename_i g hg
    have hev : ∀ (ok0 : OK0 P) (base : Nat) (pl : Nat → Option Pl) (a : Act) (w : World), Rel n ok0 base pl (look σ.tm) (look σ.bl) a w → a.eval x = .bool g := by
     intro ok0 base pl a w hr
     have := Qd0 hr x
     rw [← Qf1, hg] at this
     exact this
    cases g with
    | true =>
     obtain ⟨e1, σ1, h1, hw1⟩ := iha (fun q cut hq c' hc' => hΛ q cut hq c' (by unfold find; simp [hc'])) h
     exact ⟨e1, σ1, h1, fun ok0 base pl a w hr => wp_cond_true (hev ok0 base pl a w hr) (hw1 ok0 base pl a w hr)⟩
    | false =>
     obtain ⟨e1, σ1, h1, hw1⟩ := ihb (fun q cut hq c' hc' => hΛ q cut hq c' (by unfold find; simp [hc'])) h
     exact ⟨e1, σ1, h1, fun ok0 base pl a w hr => wp_cond_false (hev ok0 base pl a w hr) (hw1 ok0 base pl a w hr)⟩
   ·cases h
 | block id a iha =>
  intro p σ k hΛ h
  unfold exec at h
  split at h
  ·rename_i cut hc; exact hΛ p cut hc _ (Q2k p _) σ k r h
  ·simp only at h
   obtain ⟨e1, σ1, h1, hw1⟩ := iha (fun q cut hq c' hc' => hΛ q cut hq c' (by unfold find; simp [hc'])) h
   cases e1 with
   | normal =>
    refine ⟨.normal, σ1, h1, fun ok0 base pl a w hr => wp_block (Q1h (hw1 ok0 base pl a w hr) fun e a' w' hq => ?_)⟩
    have he := hq.1
    subst he
    exact hq
   | ret =>
    refine ⟨.ret, σ1, h1, fun ok0 base pl a w hr => wp_block (Q1h (hw1 ok0 base pl a w hr) fun e a' w' hq => ?_)⟩
    have he := hq.1
    subst he
    exact hq
   | exit id' =>
    simp only at h1
    cases hid : Nat.beq id' id with
    | true =>
     rw [hid] at h1
     have hid := Nat.eq_of_beq_eq_true hid
     refine ⟨.normal, σ1, h1, fun ok0 base pl a w hr => wp_block (Q1h (hw1 ok0 base pl a w hr) fun e a' w' hq => ?_)⟩
     have he := hq.1
     subst he
     simp only [AExit.toExit, Exit.inBlock, hid, if_true]
     exact ⟨trivial, hq.2⟩
    | false =>
     rw [hid] at h1
     have hne : id' ≠ id := fun e => by rw [e, Q3n] at hid; cases hid
     refine ⟨.exit id', σ1, h1, fun ok0 base pl a w hr => wp_block (Q1h (hw1 ok0 base pl a w hr) fun e a' w' hq => ?_)⟩
     have he := hq.1
     subst he
     simp only [AExit.toExit, Exit.inBlock, hne, if_false]
     exact ⟨trivial, hq.2⟩
 | _ =>
  intro p σ k hΛ h
  unfold exec at h
  split at h
  ·rename_i cut hc; exact hΛ p cut hc _ (Q2k p _) σ k r h
  ·cases h
end
end Go.Lift
namespace Go.Lift
open Go.RowKit
structure View where
 m : Nat
 slots : List Nat
 params : List (Bool × List CT)
 ins : List BT
abbrev View.den (v : View) : Type := ST.dens v.params × BT.dens v.ins
def idsB (bl : Nat → Option Blk) (nx : Nat) : List BT → Nat → List (Nat × Nat) → Option (List Nat)
 | [], _, _ => some []
 | t :: r, j, ps =>
  match look ps j with
  | some i =>
   match t, bl i with
   | .cells _ l, some (.cells _ cs) =>
    match idsB bl nx r (j + 1) (ps ++ Q5a l cs) with
    | some is => some (i :: is)
    | none => none
   | _, _ =>
    match idsB bl nx r (j + 1) ps with
    | some is => some (i :: is)
    | none => none
  | none =>
   match idsB bl (nx + 1) r (j + 1) ps with
   | some is => some (nx :: is)
   | none => none
def Qo (bl : Nat → Option Blk) (ids : List Nat) : (l : List BT) → List Nat → Option (BT.dens l)
 | [], [] => some ()
 | .cells t l :: r, i :: is =>
  match bl i with
  | some (.cells t' cs) =>
   bif Nat.beq t t' then
    match Qf bl ids l cs with
    | none => none
    | some y =>
     match Qo bl ids r is with
     | none => none
     | some z => some (y, z)
   else none
  | _ => none
 | .row t e :: r, i :: is =>
  match bl i with
  | some (.row t' e' _ l) =>
   bif Nat.beq t t' then
    if h : e' = e then
     match Qo bl ids r is with
     | none => none
     | some z => some ((h ▸ l : List e.den), z)
    else none
   else none
  | none =>
   match Qo bl ids r is with
   | none => none
   | some z => some (([] : List e.den), z)
  | _ => none
 | .map t k v vg :: r, i :: is =>
  match bl i with
  | some (.map t' k' v' vg' l) =>
   bif Nat.beq t t' && (vg == vg') then
    if h : k' = k then
     if h2 : v' = v then
      match Qo bl ids r is with
      | none => none
      | some z => some ((h ▸ (h2 ▸ l : List (k'.den × v.den)) : List (k.den × v.den)), z)
     else none
    else none
   else none
  | _ => none
 | .mat t et e :: r, i :: is =>
  match bl i with
  | some (.mat t' et' e' _ _ none l) =>
   bif Nat.beq t t' && Nat.beq et et' then
    if h : e' = e then
     match Qo bl ids r is with
     | none => none
     | some z => some ((h ▸ l : List (List e.den)), z)
    else none
   else none
  | none =>
   match Qo bl ids r is with
   | none => none
   | some z => some (([] : List (List e.den)), z)
  | _ => none
 | _, _ => none
def Q12 : List CT → List C → List Nat
 | .data τ :: l, cs => Qg (cs.take τ.size) ++ Q12 l (cs.drop τ.size)
 | _ :: l, _ :: cs => Q12 l cs
 | _, _ => []
def Q2p : List (Bool × List CT) → List V → List Nat
 | t :: l, v :: vs =>
  match v.cells with
  | some cs => Q12 t.2 cs ++ Q2p l vs
  | none => Q2p l vs
 | _, _ => []
def Q1x (bl : Nat → Option Blk) : List BT → List Nat → List Nat
 | .cells _ l :: r, i :: is =>
  match bl i with
  | some (.cells _ cs) => Q12 l cs ++ Q1x bl r is
  | _ => Q1x bl r is
 | _ :: r, _ :: is => Q1x bl r is
 | _, _ => []
def Q5o (tm : List (Nat × V)) : List Nat → Option (List V)
 | [] => some []
 | t :: r =>
  match look tm t with
  | some v =>
   match Q5o tm r with
   | some vs => some (v :: vs)
   | none => none
  | none => none
def Qmo (m : Nat) : List (Nat × Nat) := (Q7 0 m).zip (Q7 0 m)
def Q67 : List Nat → List Nat → Bool
 | [], [] => true
 | x :: r, y :: s => Nat.beq x y && Q67 r s
 | _, _ => false
def View.read (v : View) (σ : St) : Option v.den :=
 match Q5o σ.tm v.slots with
 | none => none
 | some vs =>
  match idsB (look σ.bl) σ.nx v.ins 0 (Qmo v.m ++ Qay v.params vs) with
  | none => none
  | some ids =>
   match Q31 (look σ.bl) ids v.params vs with
   | none => none
   | some x =>
    match Qo (look σ.bl) ids v.ins ids with
    | none => none
    | some y =>
     bif Nat.ble v.m v.ins.length && (Q67 (ids.take v.m) (Q7 0 v.m) && (Q8i ids && !meet (Q2p v.params vs ++ Q1x (look σ.bl) v.ins ids) ids)) then some (x, y) else none
def mkT (ids : List Nat) : List Nat → (l : List (Bool × List CT)) → ST.dens l → List (Nat × V)
 | s :: ss, t :: l, x => (s, V.mk t.1 (mkC ids t.2 x.1)) :: mkT ids ss l x.2
 | _, _, _ => []
def Q55 : Nat → List Blk → List (Nat × Blk)
 | _, [] => []
 | i, b :: r => (i, b) :: Q55 (i + 1) r
def View.mk' (v : View) (d : v.den) : St :=
 ⟨mkT (Q7 0 v.ins.length) v.slots v.params d.1, Q55 0 (mkB (Q7 0 v.ins.length) v.ins d.2), v.ins.length⟩
theorem Q7g : ∀ (l : List Blk) (s i : Nat), look (Q55 s l) i = if s ≤ i then l[i - s]? else none
 | [], s, i => by simp [Q55, look]
 | b :: l, s, i => by
  simp only [Q55, look]
  by_cases h : s = i
  ·subst h; simp
  ·rw [Q3c (fun e => h e.symm), cond_false, Q7g]
   by_cases h2 : s ≤ i
   ·have h3 : s + 1 ≤ i := by omega
    have h4 : i - s = (i - (s + 1)) + 1 := by omega
    simp [h2, h3, h4]
   ·have h3 : ¬ s + 1 ≤ i := by omega
    simp [h2, h3]
theorem Q5e (v : View) (d : v.den) : look (v.mk' d).bl = fnBl (mkB (Q7 0 v.ins.length) v.ins d.2) := by
 funext i
 simp [View.mk', Q7g, fnBl]
theorem Q7x {bl : Nat → Option Blk} : ∀ {τ : Ty} {cs : List C} {x : τ.den} {r : List C}, pack bl τ cs = some (x, r) → ∃ ds, cs = ds ++ r ∧ ds.length = τ.size ∧ pack bl τ ds = some (x, [])
 | .bool, cs, x, r, h => by
  cases cs with
  | nil => simp [pack] at h
  | cons c cs =>
   cases c <;> simp only [pack] at h <;> try (cases h; done)
   simp only [Option.some.injEq, Prod.mk.injEq] at h
   obtain ⟨h1, h2⟩ := h
   subst h1 h2
   exact ⟨[_], rfl, rfl, rfl⟩
 | .int k, cs, x, r, h => by
  cases cs with
  | nil => simp [pack] at h
  | cons c cs =>
   cases c <;> simp only [pack] at h <;> try (cases h; done)
   split at h
   ·rename_i hk
    subst hk
    simp only [Option.some.injEq, Prod.mk.injEq] at h
    obtain ⟨h1, h2⟩ := h
    subst h1 h2
    exact ⟨[_], rfl, rfl, by simp [pack]⟩
   ·cases h
 | .err, cs, x, r, h => by
  cases cs with
  | nil => simp [pack] at h
  | cons c cs =>
   cases c <;> simp only [pack] at h <;> try (cases h; done)
   simp only [Option.some.injEq, Prod.mk.injEq] at h
   obtain ⟨h1, h2⟩ := h
   subst h1 h2
   exact ⟨[_], rfl, rfl, rfl⟩
 | .str, cs, x, r, h => by
  cases cs with
  | nil => simp [pack] at h
  | cons c cs =>
   cases c <;> simp only [pack] at h <;> try (cases h; done)
   simp only [Option.some.injEq, Prod.mk.injEq] at h
   obtain ⟨h1, h2⟩ := h
   subst h1 h2
   exact ⟨[_], rfl, rfl, rfl⟩
 | .unit, cs, x, r, h => by
  simp only [pack, Option.some.injEq, Prod.mk.injEq] at h
  obtain ⟨_, h2⟩ := h
  subst h2
  exact ⟨[], rfl, rfl, rfl⟩
 | .prod a b, cs, x, r, h => by
  simp only [pack] at h
  split at h
  ·cases h
  ·rename_i x1 r1 h1
   split at h
   ·cases h
   ·rename_i x2 r2 h2
    simp only [Option.some.injEq, Prod.mk.injEq] at h
    obtain ⟨e1, e2⟩ := h
    subst e1 e2
    obtain ⟨ds, e3, e4, e5⟩ := Q7x h1
    obtain ⟨es, e6, e7, e8⟩ := Q7x h2
    refine ⟨ds ++ es, by rw [e3, e6, List.append_assoc], by simp [e4, e7, Ty.size], ?_⟩
    have := pack_append e5 (s := es)
    simp only [pack, this, List.nil_append, e8]
 | .slice e, cs, x, r, h => by
  cases cs with
  | nil => simp [pack] at h
  | cons c cs =>
   cases c <;> simp only [pack] at h <;> try (cases h; done)
   ·split at h
    ·rename_i e' l he
     subst he
     simp only [Option.some.injEq, Prod.mk.injEq] at h
     obtain ⟨h1, h2⟩ := h
     subst h1 h2
     exact ⟨[_], rfl, rfl, by simp [pack]⟩
    ·cases h
   ·simp only [Option.some.injEq, Prod.mk.injEq] at h
    obtain ⟨h1, h2⟩ := h
    subst h1 h2
    exact ⟨[_], rfl, rfl, rfl⟩
   ·split at h
    ·cases h
    ·rename_i l hl
     simp only [Option.some.injEq, Prod.mk.injEq] at h
     obtain ⟨h1, h2⟩ := h
     subst h1 h2
     exact ⟨[_], rfl, rfl, by simp [pack, hl]⟩
   ·split at h
    ·cases h
    ·rename_i l hl
     simp only [Option.some.injEq, Prod.mk.injEq] at h
     obtain ⟨h1, h2⟩ := h
     subst h1 h2
     exact ⟨[_], rfl, rfl, by simp [pack, hl]⟩
   ·split at h
    ·cases h
    ·rename_i l hl
     simp only [Option.some.injEq, Prod.mk.injEq] at h
     obtain ⟨h1, h2⟩ := h
     subst h1 h2
     exact ⟨[_], rfl, rfl, by simp [pack, hl]⟩
 where
 pack_append {bl : Nat → Option Blk} : ∀ {τ : Ty} {cs : List C} {x : τ.den} {r s : List C}, pack bl τ cs = some (x, r) → pack bl τ (cs ++ s) = some (x, r ++ s)
 | .bool, cs, x, r, s, h => by
  cases cs with
  | nil => simp [pack] at h
  | cons c cs => cases c <;> simp only [pack, List.cons_append] at h ⊢ <;> first | (cases h; done) | (simp_all; done)
 | .int k, cs, x, r, s, h => by
  cases cs with
  | nil => simp [pack] at h
  | cons c cs =>
   cases c <;> simp only [pack, List.cons_append] at h ⊢ <;> try (cases h; done)
   split at h
   ·rename_i hk; subst hk; simp_all
   ·cases h
 | .err, cs, x, r, s, h => by
  cases cs with
  | nil => simp [pack] at h
  | cons c cs => cases c <;> simp only [pack, List.cons_append] at h ⊢ <;> first | (cases h; done) | (simp_all; done)
 | .str, cs, x, r, s, h => by
  cases cs with
  | nil => simp [pack] at h
  | cons c cs => cases c <;> simp only [pack, List.cons_append] at h ⊢ <;> first | (cases h; done) | (simp_all; done)
 | .unit, cs, x, r, s, h => by simp only [pack] at h ⊢; simp_all
 | .prod a b, cs, x, r, s, h => by
  simp only [pack] at h ⊢
  split at h
  ·cases h
  ·rename_i x1 r1 h1
   split at h
   ·cases h
   ·rename_i x2 r2 h2
    rw [pack_append h1]
    simp only
    rw [pack_append h2]
    simp_all
 | .slice e, cs, x, r, s, h => by
  cases cs with
  | nil => simp [pack] at h
  | cons c cs =>
   cases c <;> simp only [pack, List.cons_append] at h ⊢ <;> try (cases h; done)
   ·split at h
    ·rename_i e' l he; subst he; simp_all
    ·cases h
   ·simp_all
   ·split at h
    ·cases h
    ·simp_all
   ·split at h
    ·cases h
    ·simp_all
   ·split at h
    ·cases h
    ·simp_all
end Go.Lift
namespace Go.Lift
open Go.RowKit
theorem Qv {E E' : Env} {ids ids' : List Nat} (hb : Q1m E) (hw : E'.w = E.w) (hr : Ren E E' ids ids') : ∀ {l : List CT} {cs : List C} {vs : List Value} {y : CT.dens l},
  Rows E E.bl E'.ok (Q12 l cs) → CReps E cs vs → Qf E.bl ids l cs = some y → CReps E' (mkC ids' l y) vs
 | [], cs, vs, y, hrw, h, hp => by
  cases cs with
  | nil => exact h
  | cons c cs => simp [Qf] at hp
 | .data τ :: l, cs, vs, y, hrw, h, hp => by
  simp only [Qf] at hp
  split at hp
  ·cases hp
  ·rename_i x r hx
   split at hp
   ·cases hp
   ·rename_i y' hy
    simp only [Option.some.injEq] at hp
    subst hp
    obtain ⟨ds, e1, e2, e3⟩ := Q7x hx
    subst e1
    have hd : Q12 (.data τ :: l) (ds ++ r) = Qg ds ++ Q12 l r := by
     simp only [Q12, ← e2, List.take_left, List.drop_left]
    rw [hd] at hrw
    obtain ⟨us, ws, e, h1, h2⟩ := CReps.split h
    subst e
    obtain ⟨us1, us2, e, d, c, _⟩ := Q4j hb (hrw.sub fun b hbm => List.mem_append_left _ hbm) h1 e3
    simp only [CReps] at c
    subst c
    rw [List.append_nil] at e
    subst e
    exact CReps.append (Q1a (by rw [hw]; exact d)) (Qv hb hw hr (hrw.sub fun b hbm => List.mem_append_right _ hbm) h2 hy)
 | .ptr b o :: l, cs, vs, y, hrw, h, hp => by
  cases cs with
  | nil => simp [Qf] at hp
  | cons c cs =>
   have hrw' : Rows E E.bl E'.ok (Q12 l cs) := hrw
   cases c <;> simp only [Qf] at hp <;> try (cases hp; done)
   rename_i b' o'
   split at hp
   ·rename_i i hi
    cases hc : (Nat.beq i b' && Nat.beq o o') with
    | false => rw [hc] at hp; cases hp
    | true =>
     simp only [hc, cond_true] at hp
     obtain ⟨h1, h2⟩ := andB hc
     have h1 := Nat.eq_of_beq_eq_true h1
     have h2 := Nat.eq_of_beq_eq_true h2
     subst h1 h2
     obtain ⟨v, vs', e, ⟨g, hg, hv⟩, ht⟩ := h
     exact ⟨v, vs', e, ⟨g, hr.cells b i g hi hg, hv⟩, Qv hb hw hr hrw' ht hp⟩
   ·cases hp
 | .rowh b :: l, cs, vs, y, hrw, h, hp => by
  cases cs with
  | nil => simp [Qf] at hp
  | cons c cs =>
   have hrw' : Rows E E.bl E'.ok (Q12 l cs) := hrw
   cases c <;> simp only [Qf] at hp <;> try (cases hp; done)
   ·split at hp
    ·rename_i i hi
     split at hp
     ·rename_i hn
      obtain ⟨v, vs', e, hv, ht⟩ := h
      simp only [CRep] at hv
      subst hv
      exact ⟨_, vs', e, ⟨rfl, _, _, hr.nil b i hi hn, fun _ _ _ _ _ => ⟨Nat.zero_le _, fun _ => rfl⟩⟩, Qv hb hw hr hrw' ht hp⟩
     ·cases hp
    ·cases hp
   ·rename_i b' ver
    split at hp
    ·rename_i i hi
     cases hc : Nat.beq i b' with
     | false => rw [hc] at hp; cases hp
     | true =>
      have := Nat.eq_of_beq_eq_true hc
      subst this
      simp only [hc, cond_true] at hp
      split at hp
      ·rename_i t e ver' l' hbl
       cases hv' : Nat.beq ver ver' with
       | false => rw [hv'] at hp; cases hp
       | true =>
        have := Nat.eq_of_beq_eq_true hv'
        subst this
        simp only [hv', cond_true] at hp
        obtain ⟨v, vs', ev, ⟨h1, sv, svs, hsv, hcur⟩, ht⟩ := h
        have hvs := (hcur t e ver l' hbl).2 rfl
        exact ⟨v, vs', ev, ⟨h1, sv, svs, hr.row b i sv svs t e ver l' hi hbl hsv, fun _ _ _ _ _ => ⟨Nat.zero_le _, fun _ => hvs⟩⟩, Qv hb hw hr hrw' ht hp⟩
      ·cases hp
    ·cases hp
 | .fn f caps :: l, cs, vs, y, hrw, h, hp => by
  cases cs with
  | nil => simp [Qf] at hp
  | cons c cs =>
   have hrw' : Rows E E.bl E'.ok (Q12 l cs) := hrw
   cases c <;> simp only [Qf] at hp <;> try (cases hp; done)
   rename_i f' caps'
   cases hc : (Nat.beq f f' && decide (caps.map (ids[·]?) = caps'.map some)) with
   | false => rw [hc] at hp; cases hp
   | true =>
    simp only [hc, cond_true] at hp
    obtain ⟨h1, h2⟩ := andB hc
    have h1 := Nat.eq_of_beq_eq_true h1
    have h2 := of_decide_eq_true h2
    subst h1
    obtain ⟨v, vs', e, ⟨gs, hg, hv⟩, ht⟩ := h
    refine ⟨v, vs', e, ⟨gs, ?_, hv⟩, Qv hb hw hr hrw' ht hp⟩
    exact Qes hr caps caps' gs h2 hg
 | .bself b :: l, cs, vs, y, hrw, h, hp => by
  cases cs with
  | nil => simp [Qf] at hp
  | cons c cs =>
   have hrw' : Rows E E.bl E'.ok (Q12 l cs) := hrw
   cases c <;> simp only [Qf] at hp <;> try (cases hp; done)
   ·obtain ⟨v, vs', e, hv, ht⟩ := h
    exact ⟨v, vs', e, .inl hv, Qv hb hw hr hrw' ht hp⟩
   ·rename_i b'
    split at hp
    ·rename_i i hi
     cases hc : Nat.beq i b' with
     | false => rw [hc] at hp; cases hp
     | true =>
      simp only [hc, cond_true] at hp
      have h1 := Nat.eq_of_beq_eq_true hc
      subst h1
      obtain ⟨v, vs', e, hg, ht⟩ := h
      refine ⟨v, vs', e, ?_, Qv hb hw hr hrw' ht hp⟩
      rcases hg with hg | ⟨g, hg, hv⟩
      ·exact .inl hg
      ·exact .inr ⟨g, hr.cells b i g hi hg, hv⟩
    ·cases hp
 | .maph b :: l, cs, vs, y, hrw, h, hp => by
  cases cs with
  | nil => simp [Qf] at hp
  | cons c cs =>
   have hrw' : Rows E E.bl E'.ok (Q12 l cs) := hrw
   cases c <;> simp only [Qf] at hp <;> try (cases hp; done)
   rename_i b'
   split at hp
   ·rename_i i hi
    cases hc : Nat.beq i b' with
    | false => rw [hc] at hp; cases hp
    | true =>
     simp only [hc, cond_true] at hp
     have h1 := Nat.eq_of_beq_eq_true hc
     subst h1
     obtain ⟨v, vs', e, ⟨g, hg, hv⟩, ht⟩ := h
     exact ⟨v, vs', e, ⟨g, hr.cells b i g hi hg, hv⟩, Qv hb hw hr hrw' ht hp⟩
   ·cases hp
 | .math b :: l, cs, vs, y, hrw, h, hp => by
  cases cs with
  | nil => simp [Qf] at hp
  | cons c cs =>
   have hrw' : Rows E E.bl E'.ok (Q12 l cs) := hrw
   cases c <;> simp only [Qf] at hp <;> try (cases hp; done)
   ·split at hp
    ·rename_i i hi
     split at hp
     ·rename_i hn
      obtain ⟨v, vs', e, hv, ht⟩ := h
      simp only [CRep] at hv
      subst hv
      exact ⟨_, vs', e, ⟨rfl, _, _, hr.nil b i hi hn, fun _ _ _ _ _ _ _ _ => ⟨Nat.zero_le _, fun _ => rfl⟩⟩, Qv hb hw hr hrw' ht hp⟩
     ·cases hp
    ·cases hp
   ·rename_i b' ver
    split at hp
    ·rename_i i hi
     cases hc : Nat.beq i b' with
     | false => rw [hc] at hp; cases hp
     | true =>
      have := Nat.eq_of_beq_eq_true hc
      subst this
      simp only [hc, cond_true] at hp
      split at hp
      ·rename_i t et e ver' iver l' hbl
       cases hv' : Nat.beq ver ver' with
       | false => rw [hv'] at hp; cases hp
       | true =>
        have := Nat.eq_of_beq_eq_true hv'
        subst this
        simp only [hv', cond_true] at hp
        obtain ⟨v, vs', ev, ⟨h1, sv, svs, hsv, hcur⟩, ht⟩ := h
        have hvs := (hcur _ _ _ _ _ _ _ hbl).2 rfl
        exact ⟨v, vs', ev, ⟨h1, sv, svs, hr.mat b i sv svs _ _ _ _ _ _ _ hi hbl hsv, fun _ _ _ _ _ _ _ _ => ⟨Nat.zero_le _, fun _ => hvs⟩⟩, Qv hb hw hr hrw' ht hp⟩
      ·cases hp
    ·cases hp
 | .nilc :: l, cs, vs, y, hrw, h, hp => by
  cases cs with
  | nil => simp [Qf] at hp
  | cons c cs => cases c <;> simp [Qf] at hp
 | .lsome _ :: l, cs, vs, y, hrw, h, hp => by
  cases cs with
  | nil => simp [Qf] at hp
  | cons c cs => cases c <;> simp [Qf] at hp
 | .nils :: l, cs, vs, y, hrw, h, hp => by
  cases cs with
  | nil => simp [Qf] at hp
  | cons c cs =>
   have hrw' : Rows E E.bl E'.ok (Q12 l cs) := hrw
   cases c <;> simp only [Qf] at hp <;> first | (cases hp; done) | skip
   obtain ⟨v, vs', e, hv, ht⟩ := h
   exact ⟨v, vs', e, hv, Qv hb hw hr hrw' ht hp⟩
 | .junk :: l, cs, vs, y, hrw, h, hp => by
  cases cs with
  | nil => simp [Qf] at hp
  | cons c cs =>
   have hrw' : Rows E E.bl E'.ok (Q12 l cs) := hrw
   simp only [Qf] at hp
   obtain ⟨v, vs', e, hv, ht⟩ := h
   exact ⟨v, vs', e, CRep.oneCell hv, Qv hb hw hr hrw' ht hp⟩
theorem Q7y {E E' : Env} {ids ids' : List Nat} (hb : Q1m E) (hw : E'.w = E.w) (hr : Ren E E' ids ids') : ∀ {l : List (Bool × List CT)} {vs : List V} {us : List Value} {y : ST.dens l},
  Rows E E.bl E'.ok (Q2p l vs) → VReps E vs us → Q31 E.bl ids l vs = some y → TReps E' (mkS ids' l y) us
 | [], vs, us, y, hrw, h, hp => by
  cases vs with
  | nil => exact h
  | cons v vs => simp [Q31] at hp
 | t :: l, vs, us, y, hrw, h, hp => by
  cases vs with
  | nil => simp [Q31] at hp
  | cons v vs =>
   obtain ⟨u, us', e, hv, ht⟩ := h
   obtain ⟨agg, ct⟩ := t
   cases agg with
   | false =>
    cases v <;> simp only [Q31] at hp <;> try (cases hp; done)
    rename_i x
    split at hp
    ·cases hp
    ·rename_i y1 h1
     split at hp
     ·cases hp
     ·rename_i z h2
      simp only [Option.some.injEq] at hp
      subst hp
      have hrow : Q2p ((false, ct) :: l) (V.c x :: vs) = Q12 ct [x] ++ Q2p l vs := rfl
      rw [hrow] at hrw
      refine ⟨u, us', e, ⟨[u], ?_, by simp⟩, Q7y hb hw hr (hrw.sub fun b hbm => List.mem_append_right _ hbm) ht h2⟩
      exact Qv hb hw hr (hrw.sub fun b hbm => List.mem_append_left _ hbm) (show CReps E [x] [u] from ⟨u, [], rfl, hv, rfl⟩) h1
   | true =>
    cases v <;> simp only [Q31] at hp <;> try (cases hp; done)
    rename_i cs
    split at hp
    ·cases hp
    ·rename_i y1 h1
     split at hp
     ·cases hp
     ·rename_i z h2
      simp only [Option.some.injEq] at hp
      subst hp
      have hrow : Q2p ((true, ct) :: l) (V.agg cs :: vs) = Q12 ct cs ++ Q2p l vs := rfl
      rw [hrow] at hrw
      obtain ⟨xs, hxs, hu⟩ := hv
      refine ⟨u, us', e, ⟨xs, ?_, hu⟩, Q7y hb hw hr (hrw.sub fun b hbm => List.mem_append_right _ hbm) ht h2⟩
      exact Qv hb hw hr (hrw.sub fun b hbm => List.mem_append_left _ hbm) hxs h1
def plOf (E : Env) (i : Nat) : Pl :=
 match E.bl i with
 | some _ => (E.pl i).getD (.row (.slice none 0 0) [])
 | none => .row (.slice none 0 0) []
theorem Q2q {E E' : Env} {ids ids' : List Nat} (hb : Q1m E) (hw : E'.w = E.w) (hbase : E'.base = E.base) (hr : Ren E E' ids ids') (hmono : ∀ g, E.ok g → E'.ok g) : ∀ {l : List BT} {is : List Nat} {y : BT.dens l},
  Rows E E.bl E'.ok (Q1x E.bl l is) → Qo E.bl ids l is = some y →
  is.length = l.length ∧ ∀ (j i : Nat), is[j]? = some i → ∃ B, (mkB ids' l y)[j]? = some B ∧ BRep E' B (plOf E i) ∧ (∀ B0, E.bl i = some B0 → B0.live = true)
 | [], is, y, hrw, hp => by
  cases is with
  | nil => exact ⟨rfl, fun j i h => by simp at h⟩
  | cons i is => simp [Qo] at hp
 | .row t e :: r, is, y, hrw, hp => by
  cases is with
  | nil => simp [Qo] at hp
  | cons i is =>
   have hrw' : Rows E E.bl E'.ok (Q1x E.bl r is) := hrw
   simp only [Qo] at hp
   split at hp
   ·rename_i t' e' ver l hbl
    cases ht : Nat.beq t t' with
    | false => rw [ht] at hp; cases hp
    | true =>
     have := Nat.eq_of_beq_eq_true ht
     subst this
     simp only [ht, cond_true] at hp
     split at hp
     ·rename_i he
      subst he
      split at hp
      ·cases hp
      ·rename_i z h2
       simp only [Option.some.injEq] at hp
       subst hp
       obtain ⟨hl, hrest⟩ := Q2q hb hw hbase hr hmono hrw' h2
       refine ⟨by simp [hl], fun j k hj => ?_⟩
       cases j with
       | zero =>
        simp only [List.getElem?_cons_zero, Option.some.injEq] at hj
        subst hj
        refine ⟨_, rfl, ?_, fun B0 h0 => by rw [hbl] at h0; injection h0 with h0; subst h0; rfl⟩
        obtain ⟨p, hp', hB⟩ := hb i _ hbl
        have hpl : plOf E i = p := by simp [plOf, hbl, hp']
        rw [hpl]
        cases p with
        | cells _ => exact hB.elim
        | row sv svs =>
         obtain ⟨h0, xs, h3, h4⟩ := hB
         refine ⟨h0, xs, h3.mono fun x u hu => ?_, by rw [hw, hbase]; exact h4⟩
         rw [hw]
         exact hu.mono fun g hg _ => ⟨hmono g hg, rfl⟩
       | succ j =>
        obtain ⟨B, h3, h4⟩ := hrest j k (by simpa using hj)
        exact ⟨B, by simpa [mkB] using h3, h4⟩
     ·cases hp
   ·rename_i hbl
    split at hp
    ·cases hp
    ·rename_i z h2
     simp only [Option.some.injEq] at hp
     subst hp
     obtain ⟨hl, hrest⟩ := Q2q hb hw hbase hr hmono hrw' h2
     refine ⟨by simp [hl], fun j k hj => ?_⟩
     cases j with
     | zero =>
      simp only [List.getElem?_cons_zero, Option.some.injEq] at hj
      subst hj
      refine ⟨_, rfl, ?_, fun B0 h0 => by rw [hbl] at h0; cases h0⟩
      have hpl : plOf E i = .row (.slice none 0 0) [] := by simp [plOf, hbl]
      rw [hpl]
      exact ⟨rfl, [], rfl, by simp, .inl ⟨rfl, rfl⟩⟩
     | succ j =>
      obtain ⟨B, h3, h4⟩ := hrest j k (by simpa using hj)
      exact ⟨B, by simpa [mkB] using h3, h4⟩
   ·cases hp
 | .mat t et e :: r, is, y, hrw, hp => by
  cases is with
  | nil => simp [Qo] at hp
  | cons i is =>
   have hrw' : Rows E E.bl E'.ok (Q1x E.bl r is) := hrw
   simp only [Qo] at hp
   split at hp
   ·rename_i t' et' e' ver iver l hbl
    cases ht : (Nat.beq t t' && Nat.beq et et') with
    | false => rw [ht] at hp; cases hp
    | true =>
     obtain ⟨ht1, ht2⟩ := andB ht
     have := Nat.eq_of_beq_eq_true ht1
     subst this
     have := Nat.eq_of_beq_eq_true ht2
     subst this
     simp only [ht, cond_true] at hp
     split at hp
     ·rename_i he
      subst he
      split at hp
      ·cases hp
      ·rename_i z h2
       simp only [Option.some.injEq] at hp
       subst hp
       obtain ⟨hl, hrest⟩ := Q2q hb hw hbase hr hmono hrw' h2
       refine ⟨by simp [hl], fun j k hj => ?_⟩
       cases j with
       | zero =>
        simp only [List.getElem?_cons_zero, Option.some.injEq] at hj
        subst hj
        refine ⟨_, rfl, ?_, fun B0 h0 => by rw [hbl] at h0; injection h0 with h0; subst h0; rfl⟩
        obtain ⟨p, hp', hB⟩ := hb i _ hbl
        have hpl : plOf E i = p := by simp [plOf, hbl, hp']
        rw [hpl]
        cases p with
        | cells _ => exact hB.elim
        | row sv svs =>
         have hM : MatOk E t et e' none l sv svs := hB
         obtain ⟨vs, h3, h4⟩ := hM.outer
         refine ⟨⟨vs, by rw [hw, hbase]; exact h3, h4⟩, hM.len, hM.hole, fun i s x hs hx => ?_, hM.sep0, hM.sep⟩
         obtain ⟨xs, h5, h6⟩ := hM.inner i s x hs hx
         refine ⟨xs, h5.mono fun x u hu => ?_, by rw [hw, hbase]; exact h6⟩
         rw [hw]
         exact hu.mono fun g hg _ => ⟨hmono g hg, rfl⟩
       | succ j =>
        obtain ⟨B, h3, h4⟩ := hrest j k (by simpa using hj)
        exact ⟨B, by simpa [mkB] using h3, h4⟩
     ·cases hp
   ·rename_i hbl
    split at hp
    ·cases hp
    ·rename_i z h2
     simp only [Option.some.injEq] at hp
     subst hp
     obtain ⟨hl, hrest⟩ := Q2q hb hw hbase hr hmono hrw' h2
     refine ⟨by simp [hl], fun j k hj => ?_⟩
     cases j with
     | zero =>
      simp only [List.getElem?_cons_zero, Option.some.injEq] at hj
      subst hj
      refine ⟨_, rfl, ?_, fun B0 h0 => by rw [hbl] at h0; cases h0⟩
      have hpl : plOf E i = .row (.slice none 0 0) [] := by simp [plOf, hbl]
      rw [hpl]
      exact MatOk.nil E' t et e
     | succ j =>
      obtain ⟨B, h3, h4⟩ := hrest j k (by simpa using hj)
      exact ⟨B, by simpa [mkB] using h3, h4⟩
   ·cases hp
 | .map t k v vg :: r, is, y, hrw, hp => by
  cases is with
  | nil => simp [Qo] at hp
  | cons i is =>
   have hrw' : Rows E E.bl E'.ok (Q1x E.bl r is) := hrw
   simp only [Qo] at hp
   split at hp
   ·rename_i t' k' v' vg' l hbl
    cases ht : (Nat.beq t t' && (vg == vg')) with
    | false => rw [ht] at hp; cases hp
    | true =>
     obtain ⟨ht1, ht2⟩ := andB ht
     have := Nat.eq_of_beq_eq_true ht1
     subst this
     have : vg = vg' := by simpa using ht2
     subst this
     simp only [ht, cond_true] at hp
     split at hp
     ·rename_i he
      subst he
      split at hp
      ·rename_i he
       subst he
       split at hp
       ·cases hp
       ·rename_i z h2
        simp only [Option.some.injEq] at hp
        subst hp
        obtain ⟨hl, hrest⟩ := Q2q hb hw hbase hr hmono hrw' h2
        refine ⟨by simp [hl], fun j k hj => ?_⟩
        cases j with
        | zero =>
         simp only [List.getElem?_cons_zero, Option.some.injEq] at hj
         subst hj
         refine ⟨_, rfl, ?_, fun B0 h0 => by rw [hbl] at h0; injection h0 with h0; subst h0; rfl⟩
         obtain ⟨p, hp', hB⟩ := hb i _ hbl
         have hpl : plOf E i = p := by simp [plOf, hbl, hp']
         rw [hpl]
         cases p with
         | row _ _ => exact hB.elim
         | cells g =>
          obtain ⟨es, clock, h3, h4⟩ := hB
          refine ⟨es, clock, by rw [hw]; exact h3, h4.mono (fun x u hu => ?_) (fun x u hu => ?_)⟩
          ·rw [hw]
           exact hu.mono fun g hg _ => ⟨hmono g hg, rfl⟩
          ·rw [hw]
           exact hu.mono fun g hg _ => ⟨hmono g hg, rfl⟩
        | succ j =>
         obtain ⟨B, h3, h4⟩ := hrest j k (by simpa using hj)
         exact ⟨B, by simpa [mkB] using h3, h4⟩
      ·cases hp
     ·cases hp
   ·cases hp
 | .cells t l :: r, is, y, hrw, hp => by
  cases is with
  | nil => simp [Qo] at hp
  | cons i is =>
   simp only [Qo] at hp
   split at hp
   ·rename_i t' cs hbl
    cases ht : Nat.beq t t' with
    | false => rw [ht] at hp; cases hp
    | true =>
     have := Nat.eq_of_beq_eq_true ht
     subst this
     simp only [ht, cond_true] at hp
     split at hp
     ·cases hp
     ·rename_i y1 h1
      split at hp
      ·cases hp
      ·rename_i z h2
       simp only [Option.some.injEq] at hp
       subst hp
       have hrow : Q1x E.bl (.cells t l :: r) (i :: is) = Q12 l cs ++ Q1x E.bl r is := by simp [Q1x, hbl]
       rw [hrow] at hrw
       obtain ⟨hl, hrest⟩ := Q2q hb hw hbase hr hmono (hrw.sub fun b hbm => List.mem_append_right _ hbm) h2
       refine ⟨by simp [hl], fun j k hj => ?_⟩
       cases j with
       | zero =>
        simp only [List.getElem?_cons_zero, Option.some.injEq] at hj
        subst hj
        refine ⟨_, rfl, ?_, fun B0 h0 => by rw [hbl] at h0; injection h0 with h0; subst h0; rfl⟩
        obtain ⟨p, hp', hB⟩ := hb i _ hbl
        have hpl : plOf E i = p := by simp [plOf, hbl, hp']
        rw [hpl]
        cases p with
        | row _ _ => exact hB.elim
        | cells g =>
         obtain ⟨vs, hh, hcs⟩ := hB
         refine ⟨vs, by rw [hw]; exact hh, ?_⟩
         exact Qv hb hw hr (hrw.sub fun b hbm => List.mem_append_left _ hbm) hcs h1
       | succ j =>
        obtain ⟨B, h3, h4⟩ := hrest j k (by simpa using hj)
        exact ⟨B, by simpa [mkB] using h3, h4⟩
   ·cases hp
theorem Qac {E : Env} {tm : List (Nat × V)} {tmps : Array Value} (h : ∀ t v, look tm t = some v → VRep E v (tmps.getD t undef)) : ∀ {l : List Nat} {vs : List V}, Q5o tm l = some vs → VReps E vs (l.map fun t => tmps.getD t undef)
 | [], vs, hl => by simp only [Q5o, Option.some.injEq] at hl; subst hl; rfl
 | t :: l, vs, hl => by
  simp only [Q5o] at hl
  split at hl
  ·rename_i v hv
   split at hl
   ·rename_i vs' hvs
    simp only [Option.some.injEq] at hl
    subst hl
    exact ⟨_, _, rfl, h t v hv, Qac h hvs⟩
   ·cases hl
  ·cases hl
theorem Qh3 {E : Env} {ids : List Nat} {tmps : Array Value} : ∀ {slots : List Nat} {l : List (Bool × List CT)} {x : ST.dens l}, TReps E (mkS ids l x) (slots.map fun t => tmps.getD t undef) → ∀ t v, look (mkT ids slots l x) t = some v → VRep E v (tmps.getD t undef)
 | [], _, _, _, t, v, h => by simp [mkT, look] at h
 | _ :: _, [], _, _, t, v, h => by simp [mkT, look] at h
 | s :: ss, p :: l, x, hr, t, v, h => by
  obtain ⟨u, us, e, h1, h2⟩ := hr
  simp only [List.map_cons, List.cons.injEq] at e
  obtain ⟨e1, e2⟩ := e
  subst e1 e2
  simp only [mkT, look] at h
  by_cases hts : t = s
  ·subst hts
   rw [Q3n, cond_true, Option.some.injEq] at h
   subst h
   exact VRep.mk h1
  ·rw [Q3c hts, cond_false] at h
   exact Qh3 h2 t v h
theorem Qbh : ∀ {a b : List Nat}, Q67 a b = true → a = b
 | [], [], _ => rfl
 | x :: r, y :: s, h => by
  simp only [Q67, Bool.and_eq_true] at h
  rw [Nat.eq_of_beq_eq_true h.1, Qbh h.2]
 | [], _ :: _, h => by simp [Q67] at h
 | _ :: _, [], h => by simp [Q67] at h
theorem View.weaken {P : Program} {n : Nat} {v : View} {σ : St} {d : v.den} (hd : v.read σ = some d) {ok0 : OK0 P} {base : Nat} {pl : Nat → Option Pl} {a : Act} {w : World} (hr : Rel n ok0 base pl (look σ.tm) (look σ.bl) a w) :
  ∃ plv, Rel n ok0 base plv (look (v.mk' d).tm) (look (v.mk' d).bl) a w ∧ StepM v.m pl (look σ.bl) w plv (look (v.mk' d).bl) w := by
 unfold View.read at hd
 split at hd
 ·cases hd
 rename_i vs hvs
 split at hd
 ·cases hd
 rename_i ids _
 split at hd
 ·cases hd
 rename_i x hx
 split at hd
 ·cases hd
 rename_i y hy
 cases hc : (Nat.ble v.m v.ins.length && (Q67 (ids.take v.m) (Q7 0 v.m) && (Q8i ids && !meet (Q2p v.params vs ++ Q1x (look σ.bl) v.ins ids) ids))) with
 | false => rw [hc] at hd; cases hd
 | true =>
  simp only [hc, cond_true, Option.some.injEq] at hd
  subst hd
  obtain ⟨c1, hc⟩ := andB hc
  obtain ⟨c2, hc⟩ := andB hc
  obtain ⟨c3, c4⟩ := andB hc
  have c1 := Nat.le_of_ble_eq_true c1
  have c2 := Qbh c2
  have c3 := Q7u c3
  simp only [Bool.not_eq_true'] at c4
  have c4 := Qan.1 c4
  rw [Q5e]
  generalize hbl : look σ.bl = bl at *
  let E : Env := Q4 ok0 base pl bl w
  let plv : Nat → Option Pl := fun b => (ids[b]?).map (plOf E)
  let blv : Nat → Option Blk := fnBl (mkB (Q7 0 v.ins.length) v.ins y)
  let Ev : Env := Q4 ok0 base plv blv w
  have hblks : Q1m E := hr.rel.blksOk
  have hplv : ∀ b p g, plv b = some p → p.has g → ∃ i B, ids[b]? = some i ∧ bl i = some B ∧ pl i = some p := by
   intro b p g hp hg
   cases hb : ids[b]? with
   | none => simp [plv, hb] at hp
   | some i =>
    simp only [plv, hb, Option.map_some, Option.some.injEq] at hp
    cases hbi : bl i with
    | none =>
     have : plOf E i = .row (.slice none 0 0) [] := by simp [plOf, E, Q4, hbi]
     rw [this] at hp
     subst hp
     have hg := Pl.has_row hg
     simp [Value.ownBlock] at hg
    | some B =>
     obtain ⟨q, hq, _⟩ := hr.rel.blks i B hbi
     have : plOf E i = q := by simp [plOf, E, Q4, hbi, hq]
     rw [this] at hp
     subst hp
     exact ⟨i, B, rfl, hbi, hq⟩
  have hlive : ∀ {l : List BT} {is : List Nat} {y : BT.dens l}, Qo bl ids l is = some y → ∀ i ∈ is, ∀ B, bl i = some B → B.live = true := by
   intro l
   induction l with
   | nil => intro is y h i hi; cases is with
    | nil => simp at hi
    | cons _ _ => simp [Qo] at h
   | cons t r ih =>
    intro is y h i hi B hB
    cases is with
    | nil => simp at hi
    | cons j is =>
     cases t with
     | cells t l =>
      simp only [Qo] at h
      split at h
      ·rename_i t' cs hbj
       cases ht : Nat.beq t t' with
       | false => rw [ht] at h; cases h
       | true =>
        simp only [ht, cond_true] at h
        split at h
        ·cases h
        ·split at h
         ·cases h
         ·rename_i z hz
          rcases List.mem_cons.1 hi with e | hi
          ·subst e; rw [hbj] at hB; injection hB with hB; subst hB; rfl
          ·exact ih hz i hi B hB
      ·cases h
     | map t k v vg =>
      simp only [Qo] at h
      split at h
      ·rename_i t' k' v' vg' l' hbj
       cases ht : (Nat.beq t t' && (vg == vg')) with
       | false => rw [ht] at h; cases h
       | true =>
        simp only [ht, cond_true] at h
        split at h
        ·split at h
         ·split at h
          ·cases h
          ·rename_i z hz
           rcases List.mem_cons.1 hi with e | hi
           ·subst e; rw [hbj] at hB; injection hB with hB; subst hB; rfl
           ·exact ih hz i hi B hB
         ·cases h
        ·cases h
      ·cases h
     | row t e =>
      simp only [Qo] at h
      split at h
      ·rename_i t' e' ver l' hbj
       cases ht : Nat.beq t t' with
       | false => rw [ht] at h; cases h
       | true =>
        simp only [ht, cond_true] at h
        split at h
        ·split at h
         ·cases h
         ·rename_i z hz
          rcases List.mem_cons.1 hi with e | hi
          ·subst e; rw [hbj] at hB; injection hB with hB; subst hB; rfl
          ·exact ih hz i hi B hB
        ·cases h
      ·rename_i hbj
       split at h
       ·cases h
       ·rename_i z hz
        rcases List.mem_cons.1 hi with e | hi
        ·subst e; rw [hbj] at hB; cases hB
        ·exact ih hz i hi B hB
      ·cases h
     | mat t et e =>
      simp only [Qo] at h
      split at h
      ·rename_i t' et' e' ver iver l' hbj
       cases ht : (Nat.beq t t' && Nat.beq et et') with
       | false => rw [ht] at h; cases h
       | true =>
        simp only [ht, cond_true] at h
        split at h
        ·split at h
         ·cases h
         ·rename_i z hz
          rcases List.mem_cons.1 hi with e | hi
          ·subst e; rw [hbj] at hB; injection hB with hB; subst hB; rfl
          ·exact ih hz i hi B hB
        ·cases h
      ·rename_i hbj
       split at h
       ·cases h
       ·rename_i z hz
        rcases List.mem_cons.1 hi with e | hi
        ·subst e; rw [hbj] at hB; cases hB
        ·exact ih hz i hi B hB
      ·cases h
  have hlive := hlive hy
  have hown : ∀ g, Own plv blv g → ∃ i B p, i ∈ ids ∧ bl i = some B ∧ B.live = true ∧ pl i = some p ∧ p.has g := by
   rintro g ⟨b, B, p, hB, hl, hp, hg⟩
   obtain ⟨i, B', h1, h2, h3⟩ := hplv b p g hp hg
   have hi := List.mem_of_getElem? h1
   exact ⟨i, B', p, hi, h2, hlive i hi B' h2, h3, hg⟩
  have hown' : ∀ g, Own plv blv g → Own pl bl g := fun g h => by
   obtain ⟨i, B, p, _, h1, h2, h3, h4⟩ := hown g h
   exact ⟨i, B, p, h1, h2, h3, h4⟩
  have hok : ∀ g, E.ok g → Ev.ok g := fun g h => ⟨h.1, fun ho => h.2 (hown' g ho)⟩
  have hrows : ∀ l : List Nat, (∀ b ∈ l, b ∉ ids) → Rows E E.bl Ev.ok l := fun l hl => ⟨hok, fun b hb t e ver l' hbl' => ⟨hbl', fun sv g hsv hg => by
   have hbl2 : bl b = some (.row t e ver l') := hbl'
   have hsv2 : pl b = some (.row sv []) := hsv
   refine ⟨.inr ?_, fun ho => ?_⟩
   ·obtain ⟨p, hp, hB⟩ := hr.rel.blks b _ hbl2
    rw [hsv2] at hp
    injection hp with hp
    subst hp
    obtain ⟨_, xs, _, ho⟩ := hB
    rcases ho.2 with ⟨h1, _⟩ | ⟨g', cap, cur, h1, h2, _⟩
    ·rw [h1] at hg; simp [Value.ownBlock] at hg
    ·rw [h1] at hg
     simp only [Value.ownBlock, Option.some.injEq] at hg
     subst hg
     exact h2
   ·obtain ⟨i, B, p, hi, h1, h2, h3, h4⟩ := hown g ho
    have hne : i ≠ b := by rintro rfl; exact hl i hb hi
    exact hr.rel.sep i b _ _ p (.row sv []) g hne h1 hbl2 h2 rfl h3 hsv2 h4 (.inl hg)⟩, fun b hb t et e ver iver hole l' hbl' => ⟨hbl', fun sv svs g hsv hg => by
   have hbl2 : bl b = some (.mat t et e ver iver hole l') := hbl'
   have hsv2 : pl b = some (.row sv svs) := hsv
   refine ⟨.inr ?_, fun ho => ?_⟩
   ·obtain ⟨p, hp, hB⟩ := hr.rel.blks b _ hbl2
    rw [hsv2] at hp
    injection hp with hp
    subst hp
    have hM : MatOk (Q4 ok0 base pl bl w) t et e hole l' sv svs := hB
    rcases hg with hg | ⟨k, s, hks, hg⟩
    ·obtain ⟨vs, h1, _⟩ := hM.outer
     exact (h1.lt g hg).1
    ·have hlt : k < l'.length := by rw [← hM.len]; exact (List.getElem?_eq_some_iff.1 hks).1
     obtain ⟨xs, _, h2⟩ := hM.inner k s l'[k] hks (List.getElem?_eq_getElem hlt)
     exact (h2.lt g hg).1
   ·obtain ⟨i, B, p, hi, h1, h2, h3, h4⟩ := hown g ho
    have hne : i ≠ b := by rintro rfl; exact hl i hb hi
    exact hr.rel.sep i b _ _ p (.row sv svs) g hne h1 hbl2 h2 rfl h3 hsv2 h4 hg⟩⟩
  have hlen : ids.length = v.ins.length := by
   have : ∀ {l : List BT} {is : List Nat} {y : BT.dens l}, Qo bl ids l is = some y → is.length = l.length := by
    intro l
    induction l with
    | nil => intro is y h; cases is with
     | nil => rfl
     | cons _ _ => simp [Qo] at h
    | cons t r ih =>
     intro is y h
     cases is with
     | nil => cases t <;> simp [Qo] at h
     | cons j is =>
      cases t with
      | cells t l =>
       simp only [Qo] at h
       split at h
       ·rename_i t' cs hbj
        cases ht : Nat.beq t t' with
        | false => rw [ht] at h; cases h
        | true =>
         simp only [ht, cond_true] at h
         split at h
         ·cases h
         ·split at h
          ·cases h
          ·rename_i z hz; simp [ih hz]
       ·cases h
      | map t k v vg =>
       simp only [Qo] at h
       split at h
       ·rename_i t' k' v' vg' l' hbj
        cases ht : (Nat.beq t t' && (vg == vg')) with
        | false => rw [ht] at h; cases h
        | true =>
         simp only [ht, cond_true] at h
         split at h
         ·split at h
          ·split at h
           ·cases h
           ·rename_i z hz; simp [ih hz]
          ·cases h
         ·cases h
       ·cases h
      | row t e =>
       simp only [Qo] at h
       split at h
       ·rename_i t' e' ver l' hbj
        cases ht : Nat.beq t t' with
        | false => rw [ht] at h; cases h
        | true =>
         simp only [ht, cond_true] at h
         split at h
         ·split at h
          ·cases h
          ·rename_i z hz; simp [ih hz]
         ·cases h
       ·split at h
        ·cases h
        ·rename_i z hz; simp [ih hz]
       ·cases h
      | mat t et e =>
       simp only [Qo] at h
       split at h
       ·rename_i t' et' e' ver iver l' hbj
        cases ht : (Nat.beq t t' && Nat.beq et et') with
        | false => rw [ht] at h; cases h
        | true =>
         simp only [ht, cond_true] at h
         split at h
         ·split at h
          ·cases h
          ·rename_i z hz; simp [ih hz]
         ·cases h
       ·split at h
        ·cases h
        ·rename_i z hz; simp [ih hz]
       ·cases h
   exact this hy
  have hren : Ren E Ev ids (Q7 0 v.ins.length) := by
   have key : ∀ b i, ids[b]? = some i → Ev.pl ((Q7 0 v.ins.length).getD b 0) = some (plOf E i) := by
    intro b i hi
    have hlt : b < v.ins.length := by rw [← hlen]; exact (List.getElem?_eq_some_iff.1 hi).1
    rw [Q4w hlt]
    simp [Ev, Q4, plv, hi]
   refine ⟨fun b i g hi h => ?_, fun b i sv svs t e ver l hi hb h => ?_, fun b i sv svs t et e ver iver hole l hi hb h => ?_, fun b i hi h => ?_⟩
   ·rw [key b i hi]
    have h' : pl i = some (.cells g) := h
    cases hbi : bl i with
    | none => rw [hr.rel.fresh i hbi] at h'; cases h'
    | some B => simp [plOf, E, Q4, hbi, h']
   ·rw [key b i hi]
    have h' : pl i = some (.row sv svs) := h
    have hb' : bl i = some _ := hb
    simp [plOf, E, Q4, hb', h']
   ·rw [key b i hi]
    have h' : pl i = some (.row sv svs) := h
    have hb' : bl i = some _ := hb
    simp [plOf, E, Q4, hb', h']
   ·rw [key b i hi]
    have h' : bl i = none := h
    simp [plOf, E, Q4, h']
  have hS := Q7y hblks (show Ev.w = E.w from rfl) hren (hrows _ fun b hb => c4 b (List.mem_append_left _ hb)) (Qac hr.tmps hvs) hx
  obtain ⟨_, hB⟩ := Q2q hblks (show Ev.w = E.w from rfl) rfl hren hok (hrows _ fun b hb => c4 b (List.mem_append_right _ hb)) hy
  refine ⟨plv, ⟨hr.defers, hr.size, fun t v' ht => Qh3 hS t v' ht, hr.rel.baseLe, fun i B hBi => ?_, fun i j B C p q g hij hBi hCj hl hlC hp hq hpg hqg => ?_, fun i hi => ?_, hr.rel.glob.mono hown'⟩, rfl, rfl, rfl, Nat.le_refl _, fun g _ ho => ⟨rfl, fun h => ho (hown' g h)⟩, fun b g hb hp => ?_, fun b sv svs hb hp => ?_⟩
  ·have hlt : i < ids.length := by
    have := (List.getElem?_eq_some_iff.1 (show (mkB (Q7 0 v.ins.length) v.ins y)[i]? = some B from hBi)).1
    rw [Q17] at this
    omega
   obtain ⟨B', h1, h2, _⟩ := hB i ids[i] (List.getElem?_eq_getElem hlt)
   have h4 : (mkB (Q7 0 v.ins.length) v.ins y)[i]? = some B := hBi
   rw [h1] at h4
   injection h4 with h4
   subst h4
   exact ⟨_, by simp [plv, List.getElem?_eq_getElem hlt], h2⟩
  ·obtain ⟨i', B', h1, h2, h3⟩ := hplv i p g hp hpg
   obtain ⟨j', C', h4, h5, h6⟩ := hplv j q g hq hqg
   have hne : i' ≠ j' := by
    rintro rfl
    have q1 := Q3q c3 h1
    have q2 := Q3q c3 h4
    rw [q1] at q2
    injection q2 with q2
    exact hij q2
   exact hr.rel.sep i' j' B' C' p q g hne h2 h5 (hlive i' (List.mem_of_getElem? h1) B' h2) (hlive j' (List.mem_of_getElem? h4) C' h5) h3 h6 hpg hqg
  ·have hge : ids.length ≤ i := by
    have h1 : (mkB (Q7 0 v.ins.length) v.ins y)[i]? = none := hi
    rw [List.getElem?_eq_none_iff, Q17] at h1
    omega
   simp [plv, List.getElem?_eq_none hge]
  ·have hget : ids[b]? = some b := by
    have h1 : (ids.take v.m)[b]? = some b := by rw [c2]; simpa using Q5c (n := v.m) (s := 0) hb
    rwa [List.getElem?_take_of_lt hb] at h1
   cases hbi : bl b with
   | none => rw [hr.rel.fresh b hbi] at hp; cases hp
   | some B => simp [plv, hget, plOf, E, Q4, hbi, hp]
  ·have hget : ids[b]? = some b := by
    have h1 : (ids.take v.m)[b]? = some b := by rw [c2]; simpa using Q5c (n := v.m) (s := 0) hb
    rwa [List.getElem?_take_of_lt hb] at h1
   cases hbi : bl b with
   | none => rw [hr.rel.fresh b hbi] at hp; cases hp
   | some B => exact ⟨sv, svs, by simp [plv, hget, plOf, E, Q4, hbi, hp]⟩
end Go.Lift
namespace Go.Lift
open Go.RowKit
def eqE : AExit → AExit → Bool
 | .normal, .normal => true
 | .exit a, .exit b => Nat.beq a b
 | .ret, .ret => true
 | _, _ => false
theorem Qmp {a b : AExit} (h : eqE a b = true) : a = b := by
 cases a <;> cases b <;> simp only [eqE] at h <;> first | rfl | (cases h; done) | (rw [Nat.eq_of_beq_eq_true h])
@[reducible] def Outs.den : List (AExit × View) → Type
 | [] => Empty
 | x :: r => x.2.den ⊕ Outs.den r
@[reducible] def Outs.K (β : Type) : List (AExit × View) → Type
 | [] => Unit
 | x :: r => (x.2.den → Option β) × Outs.K β r
def outK {β : Type} : (outs : List (AExit × View)) → Outs.K β outs → Kx β
 | [], _, _, _ => none
 | x :: r, ks, e, σ =>
  bif eqE e x.1 then
   match x.2.read σ with
   | some d => ks.1 d
   | none => none
  else outK r ks.2 e σ
def Outs.app {β : Type} : (outs : List (AExit × View)) → Outs.K β outs → Outs.den outs → Option β
 | _ :: _, ks, .inl d => ks.1 d
 | _ :: r, ks, .inr o => Outs.app r ks.2 o
def mkK {β : Type} (k : Kx β) : (outs : List (AExit × View)) → Outs.K β outs
 | [] => ()
 | x :: r => (fun d => k x.1 (x.2.mk' d), mkK k r)
def Q11 : (outs : List (AExit × View)) → Outs.den outs → AExit × St
 | x :: _, .inl d => (x.1, x.2.mk' d)
 | _ :: r, .inr o => Q11 r o
def Qbi {β : Type} (v : View) (g : v.den → Option β) (outs : List (AExit × View)) (kk : Outs.K β outs) : Kx β
 | .normal, σ =>
  match v.read σ with
  | some d => g d
  | none => none
 | e, σ => outK outs kk e σ
section
variable {P : Program} {n m : Nat}
structure PieceOk (P : Program) (n m : Nat) (c : Code) (v : View) (outs : List (AExit × View)) (G : {β : Type} → v.den → Outs.K β outs → Option β) : Prop where
 ok : ∀ {β : Type} (d : v.den) (kk : Outs.K β outs) (r : β), G d kk = some r → ∃ o, Outs.app outs kk o = some r ∧
  ∀ (ok0 : OK0 P) (base : Nat) (pl : Nat → Option Pl) (a : Act) (w : World), Rel n ok0 base pl (look (v.mk' d).tm) (look (v.mk' d).bl) a w →
   c.wp P (fun e a' w' => e = (Q11 outs o).1.toExit ∧ ∃ pl', Rel n ok0 base pl' (look (Q11 outs o).2.tm) (look (Q11 outs o).2.bl) a' w' ∧ StepM m pl (look (v.mk' d).bl) w pl' (look (Q11 outs o).2.bl) w') a w
def Q7z (v : View) (outs : List (AExit × View)) (G : {β : Type} → v.den → Outs.K β outs → Option β) : Cut :=
 ⟨fun σ k =>
  match v.read σ with
  | some d => G d (mkK k outs)
  | none => none⟩
theorem Qh4 {β : Type} {k : Kx β} : ∀ {outs : List (AExit × View)} (o : Outs.den outs), Outs.app outs (mkK k outs) o = k (Q11 outs o).1 (Q11 outs o).2
 | [], o => o.elim
 | _ :: _, .inl _ => rfl
 | _ :: r, .inr o => Qh4 (outs := r) o
theorem Qgm {c : Code} {v : View} {outs : List (AExit × View)} {G : {β : Type} → v.den → Outs.K β outs → Option β} (hv : v.m = m) (h : PieceOk P n m c v outs G) : Q7v P n m c (Q7z v outs G) := by
 intro β σ k r hr
 simp only [Q7z] at hr
 split at hr
 ·rename_i d hd
  obtain ⟨o, ho, hw⟩ := h.ok d _ r hr
  rw [Qh4] at ho
  refine ⟨_, _, ho, fun ok0 base pl a w hrel => ?_⟩
  obtain ⟨plv, h1, h2⟩ := View.weaken hd hrel
  rw [hv] at h2
  exact Q1h (hw ok0 base plv a w h1) fun e a' w' ⟨he, pl', h3, h4⟩ => ⟨he, pl', h3, h2.trans h4⟩
 ·cases hr
theorem Q92 {β : Type} {r : β} {e : AExit} {σ : St} : ∀ {outs : List (AExit × View)} {kk : Outs.K β outs}, (∀ x ∈ outs, x.2.m = m) → outK outs kk e σ = some r →
  ∃ o, Outs.app outs kk o = some r ∧ (Q11 outs o).1 = e ∧ ∀ (ok0 : OK0 P) (base : Nat) (pl : Nat → Option Pl) (a : Act) (w : World), Rel n ok0 base pl (look σ.tm) (look σ.bl) a w →
   ∃ plv, Rel n ok0 base plv (look (Q11 outs o).2.tm) (look (Q11 outs o).2.bl) a w ∧ StepM m pl (look σ.bl) w plv (look (Q11 outs o).2.bl) w
 | [], kk, _, h => by simp [outK] at h
 | x :: l, kk, hm, h => by
  simp only [outK] at h
  cases he : eqE e x.1 with
  | true =>
   rw [he, cond_true] at h
   split at h
   ·rename_i d hd
    refine ⟨.inl d, h, (Qmp he).symm, fun ok0 base pl a w hr => ?_⟩
    have := View.weaken hd hr
    rw [hm x (by simp)] at this
    exact this
   ·cases h
  | false =>
   rw [he, cond_false] at h
   obtain ⟨o, h1, h2, h3⟩ := Q92 (fun y hy => hm y (by simp [hy])) h
   exact ⟨.inr o, h1, h2, h3⟩
theorem Qmq {β : Type} {r : β} {c : Code} {σ : St} {outs : List (AExit × View)} {kk : Outs.K β outs} (hm : ∀ x ∈ outs, x.2.m = m) (h : Sim P n m c σ (outK outs kk) r) :
  ∃ o, Outs.app outs kk o = some r ∧ ∀ (ok0 : OK0 P) (base : Nat) (pl : Nat → Option Pl) (a : Act) (w : World), Rel n ok0 base pl (look σ.tm) (look σ.bl) a w →
   c.wp P (fun e a' w' => e = (Q11 outs o).1.toExit ∧ ∃ pl', Rel n ok0 base pl' (look (Q11 outs o).2.tm) (look (Q11 outs o).2.bl) a' w' ∧ StepM m pl (look σ.bl) w pl' (look (Q11 outs o).2.bl) w') a w := by
 obtain ⟨e', σ', h1, h2⟩ := h
 obtain ⟨o, h3, h4, h5⟩ := Q92 (n := n) hm h1
 refine ⟨o, h3, fun ok0 base pl a w hr => Q1h (h2 ok0 base pl a w hr) fun e a' w' ⟨he, pl', hr', hs'⟩ => ?_⟩
 obtain ⟨plv, h6, h7⟩ := h5 ok0 base pl' a' w' hr'
 exact ⟨by rw [he, h4], plv, h6, hs'.trans h7⟩
theorem Qm7 {outs : List (AExit × View)} (h : (outs.all fun x => Nat.beq x.2.m m) = true) : ∀ x ∈ outs, x.2.m = m := fun x hx => Nat.eq_of_beq_eq_true (List.all_eq_true.1 h x hx)
theorem Qi6 (hmx : P.follows .mixedOrders = true) {X : Ctx} (hT : TOk P X.T) (hΓ : ΓOk P X.Γ) {Λ : Nat → Option Cut} {p : Nat} {c : Code} {v : View} {outs : List (AExit × View)} {G : {β : Type} → v.den → Outs.K β outs → Option β}
  (hmB : (outs.all fun x => Nat.beq x.2.m m) = true) (hΛ : ∀ q cut, Λ q = some cut → ∀ c' ∈ find q p c, Q7v P n m c' cut)
  (h : ∀ {β : Type} (d : v.den) (kk : Outs.K β outs) (r : β), G d kk = some r → exec X n Λ p c (v.mk' d) (outK outs kk) = some r) : PieceOk P n m c v outs G :=
 ⟨fun d kk r hr => Qmq (Qm7 hmB) (Q7w hmx hT hΓ hΛ (h d kk r hr))⟩
theorem Qi7 (hmx : P.follows .mixedOrders = true) {X : Ctx} (hT : TOk P X.T) (hΓ : ΓOk P X.Γ) {Λ : Nat → Option Cut} {p : Nat} {c : Code} {v : View} {outs : List (AExit × View)} {G : Nat → {β : Type} → v.den → Outs.K β outs → Option β}
  (hv : v.m = m) (hmB : (outs.all fun x => Nat.beq x.2.m m) = true) (hΛ : ∀ q cut, Λ q = some cut → ∀ c' ∈ find q p c, Q7v P n m c' cut)
  (h0 : ∀ {β : Type} (d : v.den) (kk : Outs.K β outs), G 0 d kk = none)
  (hs : ∀ (i : Nat) {β : Type} (d : v.den) (kk : Outs.K β outs) (r : β), G (i + 1) d kk = some r → exec X n Λ p c (v.mk' d) (Qbi v (fun d' => G i d' kk) outs kk) = some r) :
  ∀ i, PieceOk P n m (.loop c) v outs (G i) := by
 have hm := Qm7 hmB
 have key : ∀ (i : Nat) {β : Type} (d : v.den) (kk : Outs.K β outs) (r : β), G i d kk = some r → ∃ o, Outs.app outs kk o = some r ∧
   ∀ (ok0 : OK0 P) (base : Nat) (pl : Nat → Option Pl) (a : Act) (w : World), Rel n ok0 base pl (look (v.mk' d).tm) (look (v.mk' d).bl) a w →
    Code.rounds P c (fun e a' w' => e = (Q11 outs o).1.toExit ∧ ∃ pl', Rel n ok0 base pl' (look (Q11 outs o).2.tm) (look (Q11 outs o).2.bl) a' w' ∧ StepM m pl (look (v.mk' d).bl) w pl' (look (Q11 outs o).2.bl) w') i a w := by
  intro i
  induction i with
  | zero => intro β d kk r h; rw [h0] at h; cases h
  | succ i ih =>
   intro β d kk r h
   obtain ⟨e', σ', h1, h2⟩ := Q7w hmx hT hΓ hΛ (hs i d kk r h)
   have hb : (e' = .normal ∧ ∃ d', v.read σ' = some d' ∧ G i d' kk = some r) ∨ (e' ≠ .normal ∧ outK outs kk e' σ' = some r) := by
    cases e' with
    | normal =>
     simp only [Qbi] at h1
     split at h1
     ·rename_i d' hd; exact .inl ⟨rfl, d', hd, h1⟩
     ·cases h1
    | exit id => exact .inr ⟨fun h => (by cases h), h1⟩
    | ret => exact .inr ⟨fun h => (by cases h), h1⟩
   rcases hb with ⟨he, d', hd, hg⟩ | ⟨he, hk⟩
   ·subst he
    obtain ⟨o, ho, hw⟩ := ih d' kk r hg
    refine ⟨o, ho, fun ok0 base pl a w hr => ?_⟩
    rw [rounds_succ]
    refine Q1h (h2 ok0 base pl a w hr) fun e a' w' ⟨he, pl', hr', hs'⟩ => ?_
    subst he
    obtain ⟨plv, h6, h7⟩ := View.weaken hd hr'
    rw [hv] at h7
    have hmono : ∀ (j : Nat) {Q Q' : Exit → Act → World → Prop} {a : Act} {w : World}, (∀ e a w, Q e a w → Q' e a w) → Code.rounds P c Q j a w → Code.rounds P c Q' j a w := by
     intro j
     induction j with
     | zero => intro _ _ _ _ _ h; exact h
     | succ j ihj =>
      intro Q Q' a w hq h
      rw [rounds_succ] at h ⊢
      refine Q1h h fun e a w h => ?_
      cases e with
      | normal => exact ihj hq h
      | _ => exact hq _ _ _ h
    exact hmono i (fun e a2 w2 ⟨q1, pl2, q2, q3⟩ => ⟨q1, pl2, q2, (hs'.trans h7).trans q3⟩) (hw ok0 base plv a' w' h6)
   ·obtain ⟨o, h3, h4, h5⟩ := Q92 (n := n) hm hk
    refine ⟨o, h3, fun ok0 base pl a w hr => ?_⟩
    rw [rounds_succ]
    refine Q1h (h2 ok0 base pl a w hr) fun e a' w' ⟨he', pl', hr', hs'⟩ => ?_
    obtain ⟨plv, h6, h7⟩ := h5 ok0 base pl' a' w' hr'
    subst he'
    have hQ : e'.toExit = (Q11 outs o).1.toExit ∧ ∃ pl', Rel n ok0 base pl' (look (Q11 outs o).2.tm) (look (Q11 outs o).2.bl) a' w' ∧ StepM m pl (look (v.mk' d).bl) w pl' (look (Q11 outs o).2.bl) w' :=
     ⟨by rw [h4], plv, h6, hs'.trans h7⟩
    cases e' with
    | normal => exact absurd rfl he
    | exit id => exact hQ
    | ret => exact hQ
 refine fun i => ⟨fun {β} d kk r h => ?_⟩
 obtain ⟨o, ho, hw⟩ := key i d kk r h
 exact ⟨o, ho, fun ok0 base pl a w hr => wp_loop_rounds i (hw ok0 base pl a w hr)⟩
def vIn (S : Spec) : View := { m := S.ins.length, slots := Q7 0 S.params.length, params := S.params, ins := S.ins }
inductive RS where
 | tmp (t : Nat)
 | cell (a : Nat) (t : TypeId)
def RS.toVar : RS → ResultVar
 | .tmp t => .tmp t
 | .cell a t => .cell a t
def Qi8 (T : TypeId → Option TI) (tm : List (Nat × V)) (bl : List (Nat × Blk)) : RS → Option V
 | .tmp t => look tm t
 | .cell a t =>
  match T t with
  | none => none
  | some ti =>
   bif ti.agg || Nat.beq ti.size 1 then
    match look tm a with
    | some (.c (.ptr b o)) =>
     match look bl b with
     | some (.cells _ cs) =>
      match sub cs o ti.size with
      | some rc => some (V.mk ti.agg rc)
      | none => none
     | _ => none
    | _ => none
   else none
def Q5f (T : TypeId → Option TI) (tm : List (Nat × V)) (bl : List (Nat × Blk)) : List RS → Option (List V)
 | [] => some []
 | x :: r =>
  match Qi8 T tm bl x with
  | none => none
  | some v =>
   match Q5f T tm bl r with
   | none => none
   | some vs => some (v :: vs)
def numV : Nat → List V → List (Nat × V)
 | _, [] => []
 | i, v :: r => (i, v) :: numV (i + 1) r
def vRes (S : Spec) : View := { m := S.ins.length, slots := Q7 0 S.res.length, params := S.res, ins := S.outs }
def Qbj {β : Type} (T : TypeId → Option TI) (S : Spec) (rs : List RS) (k : ST.dens S.res × BT.dens S.outs → Option β) (σ : St) : Option β :=
 match Q5f T σ.tm σ.bl rs with
 | none => none
 | some vs =>
  match (vRes S).read ⟨numV 0 vs, σ.bl, σ.nx⟩ with
  | some y => k y
  | none => none
def retK {β : Type} (T : TypeId → Option TI) (S : Spec) (rs : List RS) (k : ST.dens S.res × BT.dens S.outs → Option β) : Kx β
 | .exit _, _ => none
 | .normal, σ => Qbj T S rs k σ
 | .ret, σ => Qbj T S rs k σ
theorem Q7h {E : Env} {ids : List Nat} {tmps : Array Value} : ∀ {l : List (Bool × List CT)} {x : ST.dens l} {us : List Value} {s : Nat}, TReps E (mkS ids l x) us → (∀ j, j < us.length → tmps.getD (s + j) undef = us.getD j undef) →
  ∀ t v, look (mkT ids (Q7 s l.length) l x) t = some v → VRep E v (tmps.getD t undef)
 | [], _, _, s, _, _, t, v, h => by simp [mkT, Q7, look] at h
 | p :: l, x, us, s, hr, hg, t, v, h => by
  obtain ⟨u, us', e, h1, h2⟩ := hr
  subst e
  simp only [List.length_cons, Q7, mkT, look] at h
  by_cases hts : t = s
  ·subst hts
   rw [Q3n, cond_true, Option.some.injEq] at h
   subst h
   have := hg 0 (by simp)
   simp only [Nat.add_zero, List.getD_cons_zero] at this
   rw [this]
   exact VRep.mk h1
  ·rw [Q3c hts, cond_false] at h
   refine Q7h h2 (fun j hj => ?_) t v h
   have := hg (j + 1) (by simpa using hj)
   rw [show s + 1 + j = s + (j + 1) by omega, this]
   simp
theorem TReps.length {E : Env} : ∀ {ts : List (Bool × List C)} {vs : List Value}, TReps E ts vs → vs.length = ts.length
 | [], vs, h => by simp only [TReps] at h; simp [h]
 | _ :: ts, vs, ⟨_, _, e, _, h⟩ => by rw [e, List.length_cons, List.length_cons, TReps.length h]
theorem Qbk {ids : List Nat} : ∀ {l : List (Bool × List CT)} {x : ST.dens l}, (mkS ids l x).length = l.length
 | [], _ => rfl
 | _ :: l, x => by simp [mkS, Qbk (l := l)]
def CT.count : List CT → Nat
 | [] => 0
 | .data τ :: r => τ.size + CT.count r
 | _ :: r => CT.count r + 1
def ST.tidy : List (Bool × List CT) → Bool
 | [] => true
 | p :: r => (p.1 || Nat.beq (CT.count p.2) 1) && ST.tidy r
theorem Q18 {ids : List Nat} : ∀ {l : List CT} {x : CT.dens l}, (mkC ids l x).length = CT.count l
 | [], _ => rfl
 | .data τ :: l, x => by simp [mkC, CT.count, Q5v, Q18 (l := l)]
 | .ptr _ _ :: l, x => by simp [mkC, CT.count, Q18 (l := l)]
 | .rowh _ :: l, x => by simp [mkC, CT.count, Q18 (l := l)]
 | .fn _ _ :: l, x => by simp [mkC, CT.count, Q18 (l := l)]
 | .maph _ :: l, x => by simp [mkC, CT.count, Q18 (l := l)]
 | .math _ :: l, x => by simp [mkC, CT.count, Q18 (l := l)]
 | .bself _ :: l, x => by simp [mkC, CT.count, Q18 (l := l)]
 | .nilc :: l, x => by simp [mkC, CT.count, Q18 (l := l)]
 | .nils :: l, x => by simp [mkC, CT.count, Q18 (l := l)]
 | .lsome _ :: l, x => by simp [mkC, CT.count, Q18 (l := l)]
 | .junk :: l, x => by simp [mkC, CT.count, Q18 (l := l)]
theorem Q93 {ids : List Nat} : ∀ {slots : List Nat} {l : List (Bool × List CT)} {x : ST.dens l} {t : Nat} {v : V}, look (mkT ids slots l x) t = some v → t ∈ slots
 | [], _, _, t, v, h => by simp [mkT, look] at h
 | _ :: _, [], _, t, v, h => by simp [mkT, look] at h
 | s :: ss, p :: l, x, t, v, h => by
  simp only [mkT, look] at h
  by_cases hts : t = s
  ·simp [hts]
  ·rw [Q3c hts, cond_false] at h
   exact List.mem_cons_of_mem _ (Q93 h)
theorem Qf2 {E : Env} {ids : List Nat} {tmps : Array Value} : ∀ {slots : List Nat} {l : List (Bool × List CT)} {x : ST.dens l}, slots.length = l.length → (∀ t v, look (mkT ids slots l x) t = some v → VRep E v (tmps.getD t undef)) → slots.Nodup → ST.tidy l = true →
  TReps E (mkS ids l x) (slots.map fun t => tmps.getD t undef)
 | [], [], _, _, _, _, _ => rfl
 | [], _ :: _, _, hl, _, _, _ => by simp at hl
 | _ :: _, [], _, hl, _, _, _ => by simp at hl
 | s :: ss, p :: l, x, hl, h, hn, ht => by
  obtain ⟨t1, t2⟩ := andB (show ((p.1 || Nat.beq (CT.count p.2) 1) && ST.tidy l) = true from ht)
  obtain ⟨n1, n2⟩ := List.nodup_cons.1 hn
  have h1 := h s (V.mk p.1 (mkC ids p.2 x.1)) (by simp [mkT, look])
  refine ⟨_, _, rfl, ?_, Qf2 (by simpa using hl) (fun t v hv => h t v ?_) n2 t2⟩
  ·cases ha : p.1 with
   | true =>
    rw [ha] at h1
    exact h1
   | false =>
    rw [ha] at h1 t1
    simp only [Bool.false_or] at t1
    have hlen := Q18 (ids := ids) (l := p.2) (x := x.1)
    rw [Nat.eq_of_beq_eq_true t1] at hlen
    show SRep E false (mkC ids p.2 x.1) _
    match hc : mkC ids p.2 x.1, hlen with
    | [y], _ =>
     rw [hc] at h1
     exact ⟨[_], ⟨_, _, rfl, h1, rfl⟩, by simp⟩
  ·have : t ∈ ss := Q93 hv
   have hne : t ≠ s := fun e => n1 (e ▸ this)
   rw [mkT, look, Q3c hne, cond_false]
   exact hv
theorem VReps.length {E : Env} : ∀ {vs : List V} {us : List Value}, VReps E vs us → us.length = vs.length
 | [], us, h => by simp only [VReps] at h; simp [h]
 | _ :: vs, us, ⟨_, _, e, _, h⟩ => by rw [e, List.length_cons, List.length_cons, VReps.length h]
theorem VReps.get {E : Env} : ∀ {vs : List V} {us : List Value} {s t : Nat} {v : V}, VReps E vs us → look (numV s vs) t = some v → s ≤ t ∧ ∃ u, us[t - s]? = some u ∧ VRep E v u
 | [], us, s, t, v, h, hl => by simp [numV, look] at hl
 | x :: vs, us, s, t, v, ⟨u, us', e, h1, h2⟩, hl => by
  simp only [numV, look] at hl
  by_cases hts : t = s
  ·subst hts
   rw [Q3n, cond_true, Option.some.injEq] at hl
   subst hl
   exact ⟨Nat.le_refl _, u, by simp [e], h1⟩
  ·rw [Q3c hts, cond_false] at hl
   obtain ⟨h3, u', h4, h5⟩ := VReps.get h2 hl
   refine ⟨by omega, u', ?_, h5⟩
   have h6 : t - s = (t - (s + 1)) + 1 := by omega
   rw [e, h6, List.getElem?_cons_succ]
   exact h4
theorem Qjb {P : Program} {n : Nat} {T : TypeId → Option TI} (hT : TOk P T) {tm : List (Nat × V)} {bl : List (Nat × Blk)} {x : RS} {v : V} (hv : Qi8 T tm bl x = some v) {ok0 : OK0 P} {base : Nat} {pl : Nat → Option Pl} {a : Act} {w : World}
  (hr : Rel n ok0 base pl (look tm) (look bl) a w) : ∃ val, (match x.toVar with | .tmp t => (pure (a.tmps.getD t undef) : Sem Value) | .cell b t => do loadVar t (← asAddr (a.tmps.getD b undef))).run P w = .ok val w ∧ VRep (Q4 ok0 base pl (look bl) w) v val := by
 cases x with
 | tmp t =>
  exact ⟨_, by simp only [RS.toVar, Sem.run_pure], hr.tmps t v hv⟩
 | cell b t =>
  simp only [Qi8] at hv
  split at hv
  ·cases hv
  rename_i ti ht
  obtain ⟨i, d, z, f⟩ := hT.facts ht
  cases h1 : (ti.agg || Nat.beq ti.size 1) with
  | false => rw [h1] at hv; cases hv
  | true =>
   have h1' : ti.agg = true ∨ ti.size = 1 := by
    rcases (Bool.or_eq_true _ _).mp h1 with h | h
    ·exact .inl h
    ·exact .inr (Nat.eq_of_beq_eq_true h)
   simp only [h1, cond_true] at hv
   split at hv
   ·rename_i b' o hb
    split at hv
    ·rename_i t0 cs hbl
     split at hv
     ·rename_i rc hsub
      simp only [Option.some.injEq] at hv
      subst hv
      obtain ⟨g, hg, hav⟩ := hr.tmps b _ hb
      obtain ⟨p, hp, hB⟩ := hr.rel.blks b' _ hbl
      have : p = .cells g := by have h2 : pl b' = some (.cells g) := hg; rw [hp] at h2; injection h2
      subst this
      obtain ⟨vs, hh, hcs⟩ := hB
      obtain ⟨s1, s2, s3⟩ := Q5m hcs hsub
      obtain ⟨val, hv1, hv2⟩ := Q28 f s2 h1' (fun j u hj => Q58 hh hj) s1
      refine ⟨val, ?_, hv2⟩
      simp only [RS.toVar, hav, asAddr, pure_bind]
      exact hv1
     ·cases hv
    ·cases hv
   ·cases hv
theorem Qgn {P : Program} {n : Nat} {T : TypeId → Option TI} (hT : TOk P T) {fn : Func} {rs : List RS} (h : fn.results.toList = rs.map RS.toVar) {tm : List (Nat × V)} {bl : List (Nat × Blk)} {vs : List V} (hv : Q5f T tm bl rs = some vs)
  {ok0 : OK0 P} {base : Nat} {pl : Nat → Option Pl} {a : Act} {w : World} (hr : Rel n ok0 base pl (look tm) (look bl) a w) : ∃ vals, (results fn a.tmps).run P w = .ok (Q3e vals) w ∧ VReps (Q4 ok0 base pl (look bl) w) vs vals := by
 have h' : fn.results = (rs.map RS.toVar).toArray := by
  apply Array.ext'; simpa using h
 let F : ResultVar → Sem Value := fun x => match x with | .tmp t => pure (a.tmps.getD t undef) | .cell b t => do loadVar t (← asAddr (a.tmps.getD b undef))
 have hl : ∀ (rs : List RS) (vs : List V), Q5f T tm bl rs = some vs → ∃ vals, ((rs.map RS.toVar).mapM F).run P w = .ok vals w ∧ VReps (Q4 ok0 base pl (look bl) w) vs vals := by
  intro rs
  induction rs with
  | nil => intro vs h; simp only [Q5f, Option.some.injEq] at h; subst h; exact ⟨[], by simp, rfl⟩
  | cons x rs ih =>
   intro vs h
   simp only [Q5f] at h
   split at h
   ·cases h
   ·rename_i v hv1
    split at h
    ·cases h
    ·rename_i vs' hvs'
     simp only [Option.some.injEq] at h
     subst h
     obtain ⟨val, h1, h2⟩ := Qjb hT hv1 hr
     obtain ⟨vals, h3, h4⟩ := ih vs' hvs'
     refine ⟨val :: vals, ?_, val, vals, rfl, h2, h4⟩
     rw [List.map_cons, List.mapM_cons]
     simp only [Sem.run_bind]
     have h1' : (F x.toVar).run P w = .ok val w := h1
     rw [h1']
     simp only [Result.andThen_ok]
     rw [h3]
     simp
 obtain ⟨vals, h1, h2⟩ := hl rs vs hv
 refine ⟨vals, ?_, h2⟩
 have hm : (fn.results.mapM F).run P w = .ok vals.toArray w := by
  rw [h', List.mapM_toArray, map_eq_pure_bind, Sem.run_bind, h1]
  simp only [Result.andThen_ok, Sem.run_pure]
 have key : (results fn a.tmps).run P w = ((fn.results.mapM F) >>= fun vs => pure (if h : vs.size = 1 then vs[0] else .tuple vs)).run P w := rfl
 rw [key, Sem.run_bind, hm]
 simp only [Result.andThen_ok, Sem.run_pure]
 congr 1
 cases vals with
 | nil => simp [Q3e]
 | cons s ss =>
  cases ss with
  | nil => simp [Q3e]
  | cons _ _ => simp [Q3e]
theorem Qbl {us : List Value} : ∀ {l s : Nat} {pre : List Value}, pre.length = s → us.length = l → ((Q7 s l).map fun t => (pre ++ us).toArray.getD t undef) = us := by
 induction us with
 | nil => intro l s pre hp hl; simp at hl; subst hl; rfl
 | cons u us ih =>
  intro l s pre hp hl
  cases l with
  | zero => simp at hl
  | succ l =>
   simp only [Q7, List.map_cons, List.cons.injEq]
   refine ⟨?_, ?_⟩
   ·simp [Array.getD_eq_getD_getElem?, ← hp]
   ·have := ih (l := l) (s := s + 1) (pre := pre ++ [u]) (by simp [hp]) (by simpa using hl)
    simpa [List.append_assoc] using this
structure SpecOkB (P : Program) (f : FuncId) (S : Spec) : Prop where
 fn : ∃ fn, P.funcs[f]? = some fn ∧ (fn.name == "runtime.NumGoroutine") = false ∧ fn.body.isNone = false
 ok : ∀ {β : Type} (x : ST.dens S.params × BT.dens S.ins) (k : ST.dens S.res × BT.dens S.outs → Option β) (r : β), S.run x k = some r →
  ∃ y, k y = some r ∧ ∀ (ok0 : OK0 P) (base : Nat) (pl : Nat → Option Pl) (w : World) (args : List Value), base ≤ w.heap.size →
   RelB ok0 base pl (fnBl (mkB (Q7 0 S.ins.length) S.ins x.2)) w →
   TReps (Q4 ok0 base pl (fnBl (mkB (Q7 0 S.ins.length) S.ins x.2)) w) (mkS (Q7 0 S.ins.length) S.params x.1) args →
   Calls P f args.toArray w fun e w' => ∃ vals pl', e = .returned (Q3e vals) ∧
    RelB ok0 base pl' (fnBl (mkB (Q7 0 S.outs.length) S.outs y.2)) w' ∧
    StepM S.ins.length pl (fnBl (mkB (Q7 0 S.ins.length) S.ins x.2)) w pl' (fnBl (mkB (Q7 0 S.outs.length) S.outs y.2)) w' ∧
    TReps (Q4 ok0 base pl' (fnBl (mkB (Q7 0 S.outs.length) S.outs y.2)) w') (mkS (Q7 0 S.outs.length) S.res y.1) vals
theorem SpecOkB.spec {P : Program} {f : FuncId} {S : Spec} (h : SpecOkB P f S) : SpecOk P f S :=
 ⟨h.fn, fun x k r hr => by
  obtain ⟨y, hy, hc⟩ := h.ok x k r hr
  exact ⟨y, hy, fun ok0 pl w args hrel hargs => hc ok0 w.heap.size pl w args (Nat.le_refl _) hrel hargs⟩⟩
theorem Qi9 {P : Program} (hmx : P.follows .mixedOrders = true) {X : Ctx} (hT : TOk P X.T) (hΓ : ΓOk P X.Γ) {Λ : Nat → Option Cut} {S : Spec} {f : FuncId} {fn : Func} {c : Code} {rs : List RS}
  (hf : P.funcs[f]? = some fn) (hname : (fn.name == "runtime.NumGoroutine") = false) (hb : fn.body = some c) (hres : fn.results.toList = rs.map RS.toVar)
  (hok : (Nat.beq rs.length S.res.length && (ST.tidy S.res && Nat.ble S.params.length fn.ntmps)) = true)
  (hΛ : ∀ q cut, Λ q = some cut → ∀ c' ∈ find q 1 c, Q7v P fn.ntmps S.ins.length c' cut)
  (h : ∀ {β : Type} (x : ST.dens S.params × BT.dens S.ins) (k : ST.dens S.res × BT.dens S.outs → Option β) (r : β), S.run x k = some r →
   exec X fn.ntmps Λ 1 c ((vIn S).mk' x) (retK X.T S rs k) = some r) : SpecOkB P f S := by
 obtain ⟨o2, hok⟩ := andB hok
 obtain ⟨o3, o4⟩ := andB hok
 have o2 := Nat.eq_of_beq_eq_true o2
 have o4 := Nat.le_of_ble_eq_true o4
 refine ⟨⟨fn, hf, hname, by rw [hb]; rfl⟩, fun x k r hr => ?_⟩
 obtain ⟨e', σ', hk, hw⟩ := Q7w hmx hT hΓ (m := S.ins.length) hΛ (h x k r hr)
 have hk' : (e' = .normal ∨ e' = .ret) ∧ Qbj X.T S rs k σ' = some r := by
  cases e' with
  | normal => exact ⟨.inl rfl, hk⟩
  | ret => exact ⟨.inr rfl, hk⟩
  | exit id => cases hk
 obtain ⟨he', hk⟩ := hk'
 unfold Qbj at hk
 split at hk
 ·cases hk
 rename_i vs hvs
 split at hk
 ·rename_i y hy
  refine ⟨y, hk, fun ok0 base pl w args _hbase hrel hargs => ?_⟩
  have hlen : args.length = S.params.length := by rw [TReps.length hargs, Qbk]
  refine calls_of_wp hf hb ?_
  have hstart : Rel fn.ntmps ok0 base pl (look ((vIn S).mk' x).tm) (look ((vIn S).mk' x).bl) { tmps := args.toArray ++ Array.replicate (fn.ntmps - args.toArray.size) undef, defers := [] } w := by
   have ebl : look ((vIn S).mk' x).bl = fnBl (mkB (Q7 0 S.ins.length) S.ins x.2) := Q5e (vIn S) x
   rw [ebl]
   refine ⟨rfl, by simp; omega, fun t v ht => ?_, hrel⟩
   refine Q7h (s := 0) hargs (fun j hj => ?_) t v ht
   simp only [Nat.zero_add, Array.getD_eq_getD_getElem?]
   rw [Array.getElem?_append_left (by simpa using hj)]
   simp [List.getD]
  refine Q1h (hw ok0 base pl _ w hstart) fun e a' w' ⟨he, pl', hr', hs'⟩ => ?_
  obtain ⟨vals, hrun, hreps⟩ := Qgn hT hres hvs hr'
  have hsyn : Rel vals.length ok0 base pl' (look (numV 0 vs)) (look σ'.bl) { tmps := vals.toArray, defers := [] } w' := by
   refine ⟨rfl, by simp, fun t v ht => ?_, hr'.rel⟩
   obtain ⟨_, u, h1, h2⟩ := VReps.get hreps ht
   simp only [Nat.sub_zero] at h1
   simp only [Array.getD_eq_getD_getElem?, List.getElem?_toArray, h1, Option.getD_some]
   exact h2
  obtain ⟨plv, hv1, hv2⟩ := View.weaken (σ := ⟨numV 0 vs, σ'.bl, σ'.nx⟩) hy hsyn
  have hvlen : vals.length = S.res.length := by
   have : ∃ us, Q5o (numV 0 vs) (Q7 0 S.res.length) = some us ∧ True := by
    unfold View.read at hy
    split at hy
    ·cases hy
    ·rename_i us hus; exact ⟨us, hus, trivial⟩
   rw [VReps.length hreps]
   have hres' : ∀ (rs : List RS) (vs : List V), Q5f X.T σ'.tm σ'.bl rs = some vs → vs.length = rs.length := by
    intro rs
    induction rs with
    | nil => intro vs h; simp only [Q5f, Option.some.injEq] at h; subst h; rfl
    | cons x rs ih =>
     intro vs h
     simp only [Q5f] at h
     split at h
     ·cases h
     ·split at h
      ·cases h
      ·rename_i vs' hvs'
       simp only [Option.some.injEq] at h
       subst h
       simp [ih vs' hvs']
   rw [hres' rs vs hvs, o2]
  have ebl : look ((vIn S).mk' x).bl = fnBl (mkB (Q7 0 S.ins.length) S.ins x.2) := Q5e (vIn S) x
  have ebo : look ((vRes S).mk' y).bl = fnBl (mkB (Q7 0 S.outs.length) S.outs y.2) := Q5e (vRes S) y
  rw [ebo] at hv1 hv2
  rw [ebl] at hs'
  have hback := Qf2 (ids := Q7 0 S.outs.length) (l := S.res) (x := y.1) Q59 hv1.tmps Q61 o3
  have hvals : ((Q7 0 S.res.length).map fun t => vals.toArray.getD t undef) = vals := by
   have := Qbl (us := vals) (l := S.res.length) (s := 0) (pre := []) rfl hvlen
   simpa using this
  have hpost : a'.defers = [] ∧ ∃ v, (results fn a'.tmps).run P w' = .ok v w' ∧ (∃ vals pl', Ending.returned v = .returned (Q3e vals) ∧ RelB ok0 base pl' (fnBl (mkB (Q7 0 S.outs.length) S.outs y.2)) w' ∧
     StepM S.ins.length pl (fnBl (mkB (Q7 0 S.ins.length) S.ins x.2)) w pl' (fnBl (mkB (Q7 0 S.outs.length) S.outs y.2)) w' ∧
     TReps (Q4 ok0 base pl' (fnBl (mkB (Q7 0 S.outs.length) S.outs y.2)) w') (mkS (Q7 0 S.outs.length) S.res y.1) vals) := by
   refine ⟨hr'.defers, _, hrun, vals, plv, rfl, hv1.rel, hs'.trans hv2, ?_⟩
   rw [hvals] at hback
   exact hback
  rcases he' with e1 | e1 <;> rw [e1] at he <;> subst he <;> exact hpost
 ·cases hk
theorem Qjc {P : Program} (hmx : P.follows .mixedOrders = true) {X : Ctx} (hT : TOk P X.T) (hΓ : ΓOk P X.Γ) {Λ : Nat → Option Cut} {S : Spec} {f : FuncId} {fn : Func} {c : Code} {rs : List RS}
  (hf : P.funcs[f]? = some fn) (hname : (fn.name == "runtime.NumGoroutine") = false) (hb : fn.body = some c) (hres : fn.results.toList = rs.map RS.toVar)
  (hok : (Nat.beq rs.length S.res.length && (ST.tidy S.res && Nat.ble S.params.length fn.ntmps)) = true)
  (hΛ : ∀ q cut, Λ q = some cut → ∀ c' ∈ find q 1 c, Q7v P fn.ntmps S.ins.length c' cut)
  (h : ∀ {β : Type} (x : ST.dens S.params × BT.dens S.ins) (k : ST.dens S.res × BT.dens S.outs → Option β) (r : β), S.run x k = some r →
   exec X fn.ntmps Λ 1 c ((vIn S).mk' x) (retK X.T S rs k) = some r) : SpecOk P f S :=
 (Qi9 hmx hT hΓ hf hname hb hres hok hΛ h).spec
end
end Go.Lift
namespace Go.Lift
open Go.RowKit
def Q1l {α : Type 1} : List (Nat × α) → Nat → Option α
 | [], _ => none
 | (j, x) :: r, i => bif Nat.beq i j then some x else Q1l r i
theorem Qf3 {α : Type} : ∀ {l : List (Nat × α)} {i : Nat} {x : α}, look l i = some x → (i, x) ∈ l
 | [], _, _, h => by simp [look] at h
 | (j, y) :: r, i, x, h => by
  simp only [look] at h
  cases hb : Nat.beq i j with
  | true =>
   rw [hb, cond_true] at h
   injection h with h
   rw [Nat.eq_of_beq_eq_true hb, h]
   exact List.mem_cons_self
  | false =>
   rw [hb, cond_false] at h
   exact List.mem_cons_of_mem _ (Qf3 h)
theorem Qnt {P : Program} {tab : List (Nat × TI)} (h : tab.map (fun p => tiOf P p.1) = tab.map (fun p => some p.2)) : TOk P (look tab) := by
 intro t ti ht
 have hm := Qf3 ht
 have key : ∀ {l : List (Nat × TI)}, l.map (fun p => tiOf P p.1) = l.map (fun p => some p.2) → ∀ p ∈ l, tiOf P p.1 = some p.2 := by
  intro l
  induction l with
  | nil => intro _ p hp; simp at hp
  | cons q l ih =>
   intro h p hp
   simp only [List.map_cons, List.cons.injEq] at h
   rcases List.mem_cons.1 hp with e | hp
   ·rw [e]; exact h.1
   ·exact ih h.2 p hp
 exact key h _ hm
theorem SpecOk.never {P : Program} {f : FuncId} {S : Spec} (hf : ∃ fn, P.funcs[f]? = some fn ∧ (fn.name == "runtime.NumGoroutine") = false ∧ fn.body.isNone = false)
  (h : ∀ {β : Type} (x : ST.dens S.params × BT.dens S.ins) (k : ST.dens S.res × BT.dens S.outs → Option β), S.run x k = none) : SpecOk P f S :=
 ⟨hf, fun x k r hr => by rw [h x k] at hr; cases hr⟩
theorem ΓOk_nil {P : Program} : ΓOk P (Q1l []) := ⟨fun _ _ h => by simp [Q1l] at h, fun _ _ h => by simp [Q1l] at h, fun _ _ h => by simp [Q1l] at h⟩
theorem ΓOk_cons {P : Program} {f : Nat} {S : Spec} {l : List (Nat × Fun)} (h : SpecOk P f S) (hl : ΓOk P (Q1l l)) : ΓOk P (Q1l ((f, .spec S) :: l)) := by
 constructor
 all_goals
  intro g S' hg
  simp only [Q1l] at hg
  cases hb : Nat.beq g f with
  | true =>
   rw [hb, cond_true] at hg
   first
   | (simp only [Option.some.injEq, Fun.spec.injEq] at hg; have hgf := Nat.eq_of_beq_eq_true hb; rw [hgf, ← hg]; exact h)
   | cases hg
  | false =>
   rw [hb, cond_false] at hg
   first | exact hl.spec g S' hg | exact hl.rows g S' hg | exact hl.bld g S' hg
theorem ΓOk_row {P : Program} {f : Nat} {F : RowF} {l : List (Nat × Fun)} (h : RowOk P f F) (hl : ΓOk P (Q1l l)) : ΓOk P (Q1l ((f, .rows F) :: l)) := by
 constructor
 all_goals
  intro g S' hg
  simp only [Q1l] at hg
  cases hb : Nat.beq g f with
  | true =>
   rw [hb, cond_true] at hg
   first
   | (simp only [Option.some.injEq, Fun.rows.injEq] at hg; have hgf := Nat.eq_of_beq_eq_true hb; rw [hgf, ← hg]; exact h)
   | cases hg
  | false =>
   rw [hb, cond_false] at hg
   first | exact hl.spec g S' hg | exact hl.rows g S' hg | exact hl.bld g S' hg
theorem ΓOk_bld {P : Program} {f : Nat} {F : BldF} {l : List (Nat × Fun)} (h : BldOk P f F) (hl : ΓOk P (Q1l l)) : ΓOk P (Q1l ((f, .bld F) :: l)) := by
 constructor
 all_goals
  intro g S' hg
  simp only [Q1l] at hg
  cases hb : Nat.beq g f with
  | true =>
   rw [hb, cond_true] at hg
   first
   | (simp only [Option.some.injEq, Fun.bld.injEq] at hg; have hgf := Nat.eq_of_beq_eq_true hb; rw [hgf, ← hg]; exact h)
   | cases hg
  | false =>
   rw [hb, cond_false] at hg
   first | exact hl.spec g S' hg | exact hl.rows g S' hg | exact hl.bld g S' hg
def Q68 (P : Program) (n m p : Nat) (c : Code) (Λ : Nat → Option Cut) : Prop := ∀ q cut, Λ q = some cut → ∀ c' ∈ find q p c, Q7v P n m c' cut
theorem Qia {P : Program} {n m p : Nat} {c : Code} : Q68 P n m p c (Q1l []) := fun _ _ h => by simp [Q1l] at h
theorem Qgo {P : Program} {n m p : Nat} {c c' : Code} {q : Nat} {v : View} {outs : List (AExit × View)} {G : {β : Type} → v.den → Outs.K β outs → Option β} {l : List (Nat × Cut)}
  (hf : find q p c = [c']) (hv : v.m = m) (h : PieceOk P n m c' v outs G) (hl : Q68 P n m p c (Q1l l)) : Q68 P n m p c (Q1l ((q, Q7z v outs G) :: l)) := by
 intro q' cut hq c2 hc2
 simp only [Q1l] at hq
 cases hb : Nat.beq q' q with
 | true =>
  rw [hb, cond_true] at hq
  injection hq with hq
  have hqq := Nat.eq_of_beq_eq_true hb
  rw [hqq, hf] at hc2
  simp only [List.mem_singleton] at hc2
  rw [hc2, ← hq]
  intro β σ k r hr
  exact Qgm hv h σ k r hr
 | false =>
  rw [hb, cond_false] at hq
  exact hl q' cut hq c2 hc2
def Q2 (fn : Func) : Code := fn.body.getD .skip
def Q1 (q : Nat) (c : Code) : Code :=
 match find q 1 c with
 | c' :: _ => c'
 | [] => .skip
def Qb : Code → Code
 | .loop c => c
 | _ => .skip
structure Pc where
 n : Nat
 m : Nat
 c : Code
 v : View
 o : List (AExit × View)
abbrev Pc.G (p : Pc) := {β : Type} → p.v.den → Outs.K β p.o → Option β
abbrev Pc.Ok (P : Program) (p : Pc) (G : p.G) : Prop := PieceOk P p.n p.m p.c p.v p.o G
abbrev Pc.cut (p : Pc) (G : p.G) : Cut := Q7z p.v p.o G
theorem pcE {P : Program} (hmx : P.follows .mixedOrders = true) (X : Ctx) (hT : TOk P X.T) (hΓ : ΓOk P X.Γ) (q : Nat) {p : Pc} {G : p.G} (Λ : Nat → Option Cut) (hm : (p.o.all fun x => Nat.beq x.2.m p.m) = true) (hΛ : Q68 P p.n p.m q p.c Λ)
  (h : ∀ {β : Type} (d : p.v.den) (ks : Outs.K β p.o), exec X p.n Λ q p.c (p.v.mk' d) (outK p.o ks) = G d ks) : p.Ok P G :=
 Qi6 hmx hT hΓ hm hΛ fun d ks r hr => (h d ks).trans hr
theorem pcL {P : Program} (hmx : P.follows .mixedOrders = true) (X : Ctx) (hT : TOk P X.T) (hΓ : ΓOk P X.Γ) {p : Pc} {G : Nat → p.G} (Λ : Nat → Option Cut) (hc : p.c = .loop (Qb p.c)) (hv : p.v.m = p.m) (hm : (p.o.all fun x => Nat.beq x.2.m p.m) = true)
  (hΛ : Q68 P p.n p.m 1 (Qb p.c) Λ) (h0 : ∀ {β : Type} (d : p.v.den) (ks : Outs.K β p.o), G 0 d ks = none)
  (h : ∀ (i : Nat) {β : Type} (d : p.v.den) (ks : Outs.K β p.o), exec X p.n Λ 1 (Qb p.c) (p.v.mk' d) (Qbi p.v (fun d' => G i d' ks) p.o ks) = G (i + 1) d ks) (i : Nat) : p.Ok P (G i) := by
 have key := Qi7 hmx hT hΓ hv hm hΛ (G := G) h0 (fun i β d ks r hr => (h i d ks).trans hr) i
 rw [← hc] at key
 exact key
theorem pcS {P : Program} (hmx : P.follows .mixedOrders = true) (X : Ctx) (hT : TOk P X.T) (hΓ : ΓOk P X.Γ) (Λ : Nat → Option Cut) {S : Spec} {f : FuncId} {fn : Func} (rs : List RS)
  (hf : P.funcs[f]? = some fn) (hname : (fn.name == "runtime.NumGoroutine") = false) (hb : fn.body = some (Q2 fn)) (hres : fn.results.toList = rs.map RS.toVar)
  (hok : (Nat.beq rs.length S.res.length && (ST.tidy S.res && Nat.ble S.params.length fn.ntmps)) = true) (hΛ : Q68 P fn.ntmps S.ins.length 1 (Q2 fn) Λ)
  (h : ∀ {β : Type} (x : ST.dens S.params × BT.dens S.ins) (k : ST.dens S.res × BT.dens S.outs → Option β), exec X fn.ntmps Λ 1 (Q2 fn) ((vIn S).mk' x) (retK X.T S rs k) = S.run x k) : SpecOk P f S :=
 Qjc hmx hT hΓ hf hname hb hres hok hΛ fun x k r hr => (h x k).trans hr
end Go.Lift
namespace Go.Lift
open Go.RowKit
def env0 (P : Program) (w : World) : Env := Q4 (P := P) ⟨fun _ => True⟩ w.heap.size (fun _ => none) (fun _ => none) w
theorem SpecOk.call0 {P : Program} {f : FuncId} {S : Spec} (h : SpecOk P f S) (hi : S.ins = []) (x : ST.dens S.params × BT.dens S.ins) (y : ST.dens S.res × BT.dens S.outs)
  (hy : S.run x (fun z => some z) = some y) (w : World) (hw : Opened P w) (args : List Value)
  (hargs : TReps (env0 P w) (mkS [] S.params x.1) args) :
  Calls P f args.toArray w fun e w' => ∃ vals pl', e = .returned (Q3e vals) ∧ Below w.heap.size w w' ∧
   TReps (Q4 (P := P) ⟨fun _ => True⟩ w.heap.size pl' (fnBl (mkB (Q7 0 S.outs.length) S.outs y.2)) w') (mkS (Q7 0 S.outs.length) S.res y.1) vals := by
 obtain ⟨y', hy', hcall⟩ := h.ok x (fun z => some z) y hy
 simp only [Option.some.injEq] at hy'
 subst hy'
 have hlen : S.ins.length = 0 := by rw [hi]; rfl
 have hmk : mkB (Q7 0 S.ins.length) S.ins x.2 = [] := by
  have := Q17 (ids := Q7 0 S.ins.length) (l := S.ins) (y := x.2)
  rw [hlen] at this
  exact List.eq_nil_of_length_eq_zero (by rw [hlen]; exact this)
 have hbl : fnBl (mkB (Q7 0 S.ins.length) S.ins x.2) = fun _ => none := by
  rw [hmk]; funext b; simp [fnBl]
 have hids : Q7 0 S.ins.length = [] := by rw [hlen]; rfl
 have hrel : RelB (P := P) ⟨fun _ => True⟩ w.heap.size (fun _ => none) (fun _ => none) w :=
  ⟨Nat.le_refl _, fun i B h => (by cases h), fun i j B C p q g _ h => (by cases h), fun _ _ => rfl,
   w, hw, Nat.le_refl _, fun g _ => ⟨rfl, fun ⟨_, _, _, h, _⟩ => by cases h⟩⟩
 have := hcall ⟨fun _ => True⟩ (fun _ => none) w args (by rw [hbl]; exact hrel) (by rw [hbl, hids]; exact hargs)
 refine this.mono fun e w' ⟨vals, pl', he, _, hst, ht⟩ => ⟨vals, pl', he, ⟨hst.os, hst.tape, hst.output, hst.size, fun k hk => ?_⟩, ht⟩
 refine (hst.out k hk ?_).1
 rintro ⟨i, B, p, hB, _⟩
 rw [hbl] at hB
 cases hB
theorem TReps.bool {E : Env} {b : Bool} {vals : List Value} (h : TReps E [(false, [.bool b])] vals) : vals = [.bool b] := by
 obtain ⟨v, vs, e, ⟨us, ⟨u, us', e1, h1, h2⟩, h3⟩, h4⟩ := h
 simp only [TReps] at h4
 simp only [CReps] at h2
 simp only [CRep] at h1
 simp only [Bool.false_eq_true, if_false] at h3
 subst h4 h2 h1 e1
 simp only [List.cons.injEq, and_true] at h3
 subst h3
 exact e
theorem TReps.int {E : Env} {k : IntKind} {n : Int} {ts : List (Bool × List C)} {vals : List Value} (h : TReps E ts vals) : TReps E ((false, [.int k n]) :: ts) (.int k n :: vals) :=
 ⟨_, _, rfl, ⟨[_], ⟨_, _, rfl, rfl, rfl⟩, by simp⟩, h⟩
end Go.Lift
namespace Go.Lift
open Go.RowKit Go.IntWalk
def fuel : Nat := 18446744073709551616
theorem Q3 {n : Nat} (h : n < 18446744073709551616) : n < fuel := h
end Go.Lift
namespace Go.Lift
open Go.RowKit Go.ChangeShapes Go.WideShapes Go.Deep
def fitF (P : Program) (F : TypeId → Ty → Bool) : List Field → Nat → Ty → Bool
 | [], _, .unit => true
 | [f], o, τ => Nat.beq f.offset o && (Nat.beq (P.cellsOf f.type) τ.size && F f.type τ)
 | f :: g :: r, o, .prod a b => Nat.beq f.offset o && (Nat.beq (P.cellsOf f.type) a.size && (F f.type a && fitF P F (g :: r) (o + a.size) b))
 | _, _, _ => false
def fitA (C : Nat) (F : Ty → Bool) : Nat → Ty → Bool
 | 0, .unit => true
 | 1, τ => Nat.beq C τ.size && F τ
 | m + 2, .prod a b => Nat.beq C a.size && (F a && fitA C F (m + 1) b)
 | _, _ => false
def Q48 (P : Program) : Nat → TypeId → Ty → Bool
 | 0, _, _ => false
 | n + 1, t, τ =>
  match P.underlying t with
  | some .bool => match τ with | .bool => true | _ => false
  | some (.int k) => match τ with | .int k' => decide (k = k') | _ => false
  | some .string => match τ with | .str => true | _ => false
  | some (.slice e) => match τ with | .slice ε => Nat.beq (P.cellsOf e) ε.size && Q48 P n e ε | _ => false
  | some (.struct fs) => Nat.beq (P.cellsOf t) τ.size && fitF P (Q48 P n) fs.toList 0 τ
  | some (.array m e) => Nat.beq (P.cellsOf t) τ.size && fitA (P.cellsOf e) (Q48 P n e) m τ
  | _ => false
def Wf : (τ : Ty) → τ.den → Prop
 | .int k, n => (Lit.int k n).wf = true
 | .str, s => s.length ≤ maxLen
 | .prod a b, x => Wf a x.1 ∧ Wf b x.2
 | .slice e, l => l.length ≤ maxLen ∧ ∀ x ∈ l, Wf e x
 | .bool, _ => True
 | .unit, _ => True
 | .err, _ => True
section
variable {H : Type} {enc : TypeId × Value → H} {P : Program} {w : World}
theorem Qad {F : TypeId → Ty → Bool} {cs : List Value} (hF : ∀ {t : TypeId} {τ : Ty} {c : List Value}, F t τ = true → (∃ n sp hd y, DataW.trod enc P w 0 sp hd n t c = some y) → ∃ d : τ.den, DRep w (fun _ => True) τ d c ∧ Wf τ d) :
  ∀ (fs : List Field) (o : Nat) (τ : Ty), fitF P F fs o τ = true → (∀ f ∈ fs, ∃ n sp hd y, DataW.trod enc P w 0 sp hd n f.type ((cs.drop f.offset).take (P.cellsOf f.type)) = some y) → o + τ.size = cs.length →
   ∃ d : τ.den, DRep w (fun _ => True) τ d (cs.drop o) ∧ Wf τ d
 | [], o, τ, hf, _, hl => by
  cases τ <;> simp only [fitF] at hf <;> first | (cases hf; done) | skip
  refine ⟨(), ?_, trivial⟩
  simp only [DRep]
  simp only [Ty.size] at hl
  exact List.drop_eq_nil_of_le (by omega)
 | [f], o, τ, hf, h, hl => by
  simp only [fitF, Bool.and_eq_true] at hf
  obtain ⟨h1, h2, h3⟩ := hf
  have h1 := Nat.eq_of_beq_eq_true h1
  have h2 := Nat.eq_of_beq_eq_true h2
  obtain ⟨n, sp, hd, y, hy⟩ := h f (by simp)
  rw [h1, h2, List.take_of_length_le (by rw [List.length_drop]; omega)] at hy
  exact hF h3 ⟨n, sp, hd, y, hy⟩
 | f :: g :: r, o, τ, hf, h, hl => by
  cases τ with
  | prod a b =>
   simp only [fitF, Bool.and_eq_true] at hf
   obtain ⟨h1, h2, h3, h4⟩ := hf
   have h1 := Nat.eq_of_beq_eq_true h1
   have h2 := Nat.eq_of_beq_eq_true h2
   simp only [Ty.size] at hl
   obtain ⟨n, sp, hd, y, hy⟩ := h f (by simp)
   rw [h1, h2] at hy
   obtain ⟨d1, k1, w1⟩ := hF h3 ⟨n, sp, hd, y, hy⟩
   obtain ⟨d2, k2, w2⟩ := Qad hF (g :: r) (o + a.size) b h4 (fun f' hf' => h f' (by simp at hf' ⊢; right; exact hf')) (by omega)
   refine ⟨(d1, d2), ?_, w1, w2⟩
   simp only [DRep]
   refine ⟨_, _, ?_, k1, k2⟩
   rw [← List.drop_drop, List.take_append_drop]
  | bool => simp [fitF] at hf
  | int k => simp [fitF] at hf
  | str => simp [fitF] at hf
  | unit => simp [fitF] at hf
  | err => simp [fitF] at hf
  | slice e => simp [fitF] at hf
theorem Qbm {C : Nat} {e : TypeId} {F : Ty → Bool} {cs : List Value} (hF : ∀ {τ : Ty} {c : List Value}, F τ = true → (∃ n sp hd y, DataW.trod enc P w 0 sp hd n e c = some y) → ∃ d : τ.den, DRep w (fun _ => True) τ d c ∧ Wf τ d) :
  ∀ (m i : Nat) (τ : Ty), fitA C F m τ = true → (∀ j, i ≤ j → j < i + m → ∃ n sp hd y, DataW.trod enc P w 0 sp hd n e ((cs.drop (j * C)).take C) = some y) → i * C + τ.size = cs.length →
   ∃ d : τ.den, DRep w (fun _ => True) τ d (cs.drop (i * C)) ∧ Wf τ d
 | 0, i, τ, hf, _, hl => by
  cases τ <;> simp only [fitA] at hf <;> first | (cases hf; done) | skip
  refine ⟨(), ?_, trivial⟩
  simp only [DRep]
  simp only [Ty.size] at hl
  exact List.drop_eq_nil_of_le (by omega)
 | 1, i, τ, hf, h, hl => by
  simp only [fitA, Bool.and_eq_true] at hf
  obtain ⟨h2, h3⟩ := hf
  have h2 := Nat.eq_of_beq_eq_true h2
  obtain ⟨n, sp, hd, y, hy⟩ := h i (Nat.le_refl _) (by omega)
  rw [List.take_of_length_le (by rw [List.length_drop]; omega)] at hy
  exact hF h3 ⟨n, sp, hd, y, hy⟩
 | m + 2, i, τ, hf, h, hl => by
  cases τ with
  | prod a b =>
   simp only [fitA, Bool.and_eq_true] at hf
   obtain ⟨h2, h3, h4⟩ := hf
   have h2 := Nat.eq_of_beq_eq_true h2
   simp only [Ty.size] at hl
   obtain ⟨n, sp, hd, y, hy⟩ := h i (Nat.le_refl _) (by omega)
   obtain ⟨d1, k1, w1⟩ := hF h3 ⟨n, sp, hd, y, hy⟩
   have hs : (i + 1) * C = i * C + C := Nat.succ_mul _ _
   obtain ⟨d2, k2, w2⟩ := Qbm hF (m + 1) (i + 1) b h4 (fun j hj hj' => h j (by omega) (by omega)) (by omega)
   refine ⟨(d1, d2), ?_, w1, w2⟩
   simp only [DRep]
   refine ⟨_, _, ?_, k1, k2⟩
   rw [hs, ← List.drop_drop, List.take_append_drop]
  | bool => simp [fitA] at hf
  | int k => simp [fitA] at hf
  | str => simp [fitA] at hf
  | unit => simp [fitA] at hf
  | err => simp [fitA] at hf
  | slice e => simp [fitA] at hf
theorem Qf4 {ε : Ty} {a : Addr} {C : Nat} (hC : C = ε.size) : ∀ (len : Nat), (∀ i, i < len → ∃ cs' : List Value, cs'.length = C ∧ (∀ j, j < C → w.cell? ((a.add (i * C)).add j) = cs'[j]?) ∧ ∃ d : ε.den, DRep w (fun _ => True) ε d cs' ∧ Wf ε d) →
  ∃ (l : List ε.den) (xs : List Value), l.length = len ∧ xs.length = len * C ∧ DList (fun x u => DRep w (fun _ => True) ε x u) l xs ∧ (∀ j v, xs[j]? = some v → w.cell? (a.add j) = some v) ∧ ∀ x ∈ l, Wf ε x
 | 0, _ => ⟨[], [], rfl, by simp, rfl, by simp, by simp⟩
 | len + 1, h => by
  obtain ⟨l, xs, h1, h2, h3, h4, h5⟩ := Qf4 hC len fun i hi => h i (by omega)
  obtain ⟨cs', k1, k2, d, k3, k4⟩ := h len (by omega)
  refine ⟨l ++ [d], xs ++ cs', by simp [h1], by rw [List.length_append, h2, k1, Nat.succ_mul], DList.append h3 ⟨cs', [], by simp, k3, rfl⟩, fun j v hj => ?_, ?_⟩
  ·rw [List.getElem?_append] at hj
   split at hj
   ·exact h4 j v hj
   ·rename_i hlt
    obtain ⟨hlt2, _⟩ := List.getElem?_eq_some_iff.1 hj
    have := k2 (j - xs.length) (by omega)
    rw [Q2l, ← h2, show xs.length + (j - xs.length) = j by omega] at this
    rw [this, hj]
  ·intro x hx
   rcases List.mem_append.1 hx with hx | hx
   ·exact h5 x hx
   ·simp only [List.mem_singleton] at hx
    subst hx
    exact k4
theorem Q9o : ∀ (n : Nat) {t : TypeId} {τ : Ty} {cs : List Value}, Q48 P n t τ = true → (∃ m sp hd y, DataW.trod enc P w 0 sp hd m t cs = some y) → ∃ d : τ.den, DRep w (fun _ => True) τ d cs ∧ Wf τ d
 | 0, _, _, _, h, _ => by simp [Q48] at h
 | n + 1, t, τ, cs, hf, ⟨m, sp, hd, y, hy⟩ => by
  simp only [Q48] at hf
  split at hf
  ·rename_i hu
   cases τ <;> simp only at hf <;> first | (cases hf; done) | skip
   obtain ⟨b, rfl, -⟩ := DataW.trod_bool hu hy
   exact ⟨b, rfl, trivial⟩
  ·rename_i k hu
   cases τ <;> simp only at hf <;> first | (cases hf; done) | skip
   obtain rfl := of_decide_eq_true hf
   obtain ⟨b, rfl, -, hw⟩ := DataW.trod_int hu hy
   exact ⟨b, rfl, hw⟩
  ·rename_i hu
   cases τ <;> simp only at hf <;> first | (cases hf; done) | skip
   obtain ⟨s, rfl, -, hs⟩ := DataW.trod_string hu hy
   exact ⟨s.data.toList, by simp only [DRep], by show s.data.toList.length ≤ maxLen; rw [Array.length_toList]; exact hs⟩
  ·rename_i e hu
   cases τ <;> simp only at hf <;> first | (cases hf; done) | skip
   rename_i ε
   simp only [Bool.and_eq_true] at hf
   obtain ⟨h1, h2⟩ := hf
   have h1 := Nat.eq_of_beq_eq_true h1
   rcases open_slice hu hy with ⟨rfl, -⟩ | ⟨a, len, cap, m', n', D, Pl, rfl, hb, hl, hm, hmm, -, hi⟩
   ·refine ⟨[], ?_, Nat.zero_le _, by simp⟩
    simp only [DRep]
    exact ⟨none, 0, [], rfl, Nat.le_refl _, Nat.zero_le _, rfl, by simp⟩
   ·obtain ⟨l, xs, k1, k2, k3, k4, k5⟩ := Qf4 (w := w) (ε := ε) (a := a) h1 len (fun i hil => by
     have him : i < m' := by rw [hmm]; split <;> omega
     obtain ⟨cs', c1, c2⟩ := hi i him
     obtain ⟨-, q1, q2⟩ := World.cells?_some c1
     exact ⟨cs', q1, q2, Q9o n h2 ⟨_, _, _, _, c2⟩⟩)
    refine ⟨l, ?_, ?_, k5⟩
    ·simp only [DRep]
     exact ⟨some a, cap, xs, by rw [k1], by omega, hm, k3, fun j v hj => ⟨a, rfl, trivial, k4 j v hj⟩⟩
    ·show l.length ≤ maxLen
     omega
  ·rename_i fs hu
   simp only [Bool.and_eq_true] at hf
   obtain ⟨h1, h2⟩ := hf
   have h1 := Nat.eq_of_beq_eq_true h1
   obtain ⟨xs, m', -, -, hlen, hxs, hg⟩ := DataW.trod_struct hu hy
   have := Qad (enc := enc) (P := P) (w := w) (cs := cs) (fun {t τ c} h1 h2 => Q9o n h1 h2) fs.toList 0 τ h2 (fun f hf => by
    obtain ⟨i, hi, rfl⟩ := List.getElem_of_mem hf
    have := hg i fs[i] (by simp at hi; simp [hi])
    simp at hi
    rw [List.getElem?_eq_getElem (by omega)] at this
    exact ⟨_, _, _, _, this⟩) (by omega)
   simpa using this
  ·rename_i k e hu
   simp only [Bool.and_eq_true] at hf
   obtain ⟨h1, h2⟩ := hf
   have h1 := Nat.eq_of_beq_eq_true h1
   obtain ⟨xs, m', -, -, hlen, hxs, hg⟩ := DataW.trod_array hu hy
   have := Qbm (enc := enc) (P := P) (w := w) (C := P.cellsOf e) (e := e) (cs := cs) (fun {τ c} h1 h2 => Q9o n h1 h2) k 0 τ h2 (fun j _ hj => by
    have := hg j (by omega)
    rw [List.getElem?_eq_getElem (by omega)] at this
    exact ⟨_, _, _, _, this⟩) (by omega)
   simpa using this
  ·cases hf
def isAgg (P : Program) (t : TypeId) : Bool :=
 match P.underlying t with
 | some (.struct _) => true
 | some (.array _ _) => true
 | _ => false
def fitP (P : Program) : List TypeId → List (Bool × List CT) → Bool
 | [], [] => true
 | t :: ts, (g, [.data τ]) :: ps => (g == isAgg P t) && (Q48 P 12 t τ && fitP P ts ps)
 | _, _ => false
def WfC : (l : List CT) → CT.dens l → Prop
 | [], _ => True
 | .data τ :: r, x => Wf τ x.1 ∧ WfC r x.2
 | .ptr _ _ :: r, x => WfC r x
 | .rowh _ :: r, x => WfC r x
 | .fn _ _ :: r, x => WfC r x
 | .maph _ :: r, x => WfC r x
 | .math _ :: r, x => WfC r x
 | .bself _ :: r, x => WfC r x
 | .nilc :: r, x => WfC r x
 | .nils :: r, x => WfC r x
 | .lsome _ :: r, x => WfC r x.2
 | .junk :: r, x => WfC r x
def WfS : (l : List (Bool × List CT)) → ST.dens l → Prop
 | [], _ => True
 | p :: r, x => WfC p.2 x.1 ∧ WfS r x.2
theorem Qbn {n base : Nat} {t : TypeId} {v : Value} (h : Value.okWide P w .any base t v) (hf : ∃ τ, Q48 P (n + 1) t τ = true) : if isAgg P t = true then v = .agg v.cells.toList.toArray else v.cells.toList = [v] := by
 obtain ⟨τ, hf⟩ := hf
 simp only [Q48] at hf
 split at hf
 ·rename_i hu
  rw [show isAgg P t = false by simp only [isAgg, hu]]
  simp only [Value.okWide, hu] at h
  cases v with
  | agg cs => simp only [Cell.okWide, Cell.ok, hu] at h
  | _ => rfl
 ·rename_i k hu
  rw [show isAgg P t = false by simp only [isAgg, hu]]
  simp only [Value.okWide, hu] at h
  cases v with
  | agg cs => simp only [Cell.okWide, Cell.ok, hu] at h
  | _ => rfl
 ·rename_i hu
  rw [show isAgg P t = false by simp only [isAgg, hu]]
  simp only [Value.okWide, hu] at h
  cases v with
  | agg cs => simp only [Cell.okWide, Cell.ok, hu] at h
  | _ => rfl
 ·rename_i e hu
  rw [show isAgg P t = false by simp only [isAgg, hu]]
  simp only [Value.okWide, hu] at h
  cases v with
  | agg cs => simp only [Cell.okWide, Cell.ok, hu] at h
  | _ => rfl
 ·rename_i fs hu
  rw [show isAgg P t = true by simp only [isAgg, hu]]
  simp only [Value.okWide, hu] at h
  obtain ⟨cs, rfl, -⟩ := h
  rfl
 ·rename_i k e hu
  rw [show isAgg P t = true by simp only [isAgg, hu]]
  simp only [Value.okWide, hu] at h
  obtain ⟨cs, rfl, -⟩ := h
  rfl
 ·cases hf
theorem Qf5 {base : Nat} : ∀ {ts : List TypeId} {ps : List (Bool × List CT)} {vs : List Value} {ds : List (DataW H)} {pl : List MemPlace}, fitP P ts ps = true → DataW.TrodAll enc P w 0 (fun _ => true) true ts vs ds pl →
  (∀ (j : Nat) t v, ts[j]? = some t → vs[j]? = some v → Value.okWide P w .any base t v) → ∃ x : ST.dens ps, TReps (env0 P w) (mkS [] ps x) vs ∧ WfS ps x
 | [], [], vs, ds, pl, _, h, _ => by
  cases vs with
  | nil => exact ⟨(), rfl, trivial⟩
  | cons v vs => cases ds <;> simp [DataW.TrodAll] at h
 | [], _ :: _, _, _, _, hf, _, _ => by simp [fitP] at hf
 | _ :: _, [], _, _, _, hf, _, _ => by simp [fitP] at hf
 | t :: ts, (g, cts) :: ps, vs, ds, pl, hf, h, hok => by
  match cts, hf with
  | [.data τ], hf =>
   simp only [fitP, Bool.and_eq_true, beq_iff_eq] at hf
   obtain ⟨hg, h1, h2⟩ := hf
   obtain ⟨v, vs', d, ds', p, q, rfl, rfl, rfl, hd, hrest⟩ := trodAll_cons h
   obtain ⟨x2, r2, w2⟩ := Qf5 (base := base) h2 hrest fun j t v hj hv => hok (j + 1) t v (by simpa using hj) (by simpa using hv)
   obtain ⟨m, hm⟩ := hd
   obtain ⟨x1, r1, w1⟩ := Q9o (enc := enc) (P := P) (w := w) 12 h1 ⟨m, _, _, _, hm⟩
   have hv := Qbn (n := 11) (hok 0 t v rfl rfl) ⟨τ, h1⟩
   refine ⟨((x1, ()), x2), ⟨v, vs', rfl, ?_, r2⟩, ⟨w1, trivial⟩, w2⟩
   have hreps : CReps (env0 P w) (cells τ x1 ++ []) v.cells.toList := by
    rw [List.append_nil]
    refine Q1a ?_
    refine DRep.mono ?_ r1
    exact fun g hg hlt => ⟨⟨.inl trivial, fun ⟨i, B, p, hB, _⟩ => by cases hB⟩, rfl⟩
   refine ⟨v.cells.toList, hreps, ?_⟩
   rw [← hg] at hv
   exact hv
  | [], hf => simp [fitP] at hf
  | [.ptr _ _], hf => simp [fitP] at hf
  | [.rowh _], hf => simp [fitP] at hf
  | [.fn _ _], hf => simp [fitP] at hf
  | [.maph _], hf => simp [fitP] at hf
  | [.math _], hf => simp [fitP] at hf
  | [.bself _], hf => simp [fitP] at hf
  | [.nilc], hf => simp [fitP] at hf
  | [.nils], hf => simp [fitP] at hf
  | [.lsome _], hf => simp [fitP] at hf
  | [.junk], hf => simp [fitP] at hf
  | .data _ :: _ :: _, hf => simp [fitP] at hf
  | .ptr _ _ :: _ :: _, hf => simp [fitP] at hf
  | .rowh _ :: _ :: _, hf => simp [fitP] at hf
  | .fn _ _ :: _ :: _, hf => simp [fitP] at hf
  | .maph _ :: _ :: _, hf => simp [fitP] at hf
  | .math _ :: _ :: _, hf => simp [fitP] at hf
  | .bself _ :: _ :: _, hf => simp [fitP] at hf
  | .nilc :: _ :: _, hf => simp [fitP] at hf
  | .nils :: _ :: _, hf => simp [fitP] at hf
  | .lsome _ :: _ :: _, hf => simp [fitP] at hf
  | .junk :: _ :: _, hf => simp [fitP] at hf
theorem Qdu {f : Func} {s : ChangeSpec} {apart fresh handsOn again : Bool} {W W' : World} {args : Array Value} {v : Value} {ds gs : List (DataW H)} {before pa pv : List MemPlace}
  (hW : DataW.Whole enc P f.params.toList s.vars apart W args.toList ds gs before)
  (hres : ∀ (b : Nat) (sp : Nat → Bool) (hd : Bool), DataW.TrodAll enc P W' b sp hd f.resultTypes.toList (v.resultList f.resultTypes.size) (s.fn H (ds ++ gs)).results [])
  (hargs : ∀ sp : Nat → Bool, (∀ p ∈ before, sp p.block = true) → DataW.TrodAll enc P W' 0 sp true f.params.toList args.toList (s.fn H (ds ++ gs)).args pa)
  (hvars : ∀ sp : Nat → Bool, (∀ p ∈ before, sp p.block = true) → DataW.TrodVars enc P W' sp s.vars (s.fn H (ds ++ gs)).vars pv)
  (hps : before = pa ++ pv) (hb : Below W.heap.size W W')
  (hok : ∀ (j : Nat) (t : TypeId) (r : Value), f.resultTypes[j]? = some t → (v.resultList f.resultTypes.size)[j]? = some r → Value.okWide P W' .any 0 t r) :
  s.post enc P f apart fresh handsOn again W args v W' := by
 have hlt : ∀ p ∈ before, p.block < W.heap.size := fun p hp => hW.lt p hp
 have hold : ∀ p ∈ before, (fun b => decide (b < W.heap.size)) p.block = true := fun p hp => by simpa using hlt p hp
 refine ⟨ds, gs, before, [], pa, pv, hW, hres _ _ _, hargs _ hold, hvars _ hold, World.keptBut_mono (fun p hp => ⟨hp, ?_⟩) (hb.frame (· ∈ before)), fun _ => ?_⟩
 ·rw [hps, List.mem_append] at hp
  exact Or.inr hp
 ·obtain ⟨_, _, _, _, _, hz, hn⟩ := hW
  refine ⟨hok, _, _, ([] ++ pa) ++ pv, ⟨[] ++ pa, pv, trodAll_append (hargs _ (fun _ _ => rfl)) (hres _ _ _), hvars _ (fun _ _ => rfl), rfl, ?_, ?_⟩, ?_⟩
  ·intro b off hp
   have hin : MemPlace.cell b off ∈ before := by rw [hps]; simpa using hp
   rw [hb.frozen (hlt _ hin)]
   exact hz b off hin
  ·intro ha
   have := hn ha
   rw [hps] at this
   simpa using this
  ·intro p hp _
   rw [hps]
   simpa using hp
theorem Q8a (hl : laidOutB P = true) {W W' : World} {sp : Nat → Bool} : ∀ {ts : List TypeId} {vs : List Value} {ds : List (DataW H)} {ps : List MemPlace}, (ts.all fun t => P.readableRec t && Nat.blt t P.types.size) = true →
  DataW.TrodAll enc P W 0 (fun _ => true) true ts vs ds ps → Below W.heap.size W W' → (∀ x ∈ ps, x.block < W.heap.size) → (∀ x ∈ ps, sp x.block = true) → DataW.TrodAll enc P W' 0 sp true ts vs ds ps
 | [], vs, ds, ps, _, h, _, _, _ => by cases vs <;> cases ds <;> simp_all [DataW.TrodAll]
 | t :: ts, vs, ds, ps, hr, h, hb, hlt, hsp => by
  obtain ⟨v, vs', d, ds', p, q, rfl, rfl, rfl, hd, hrest⟩ := trodAll_cons h
  simp only [List.all_cons, Bool.and_eq_true] at hr
  refine ⟨p, q, WideElems.Trod_stays hl hr.1.1 (Nat.blt_eq ▸ hr.1.2) hd (fun x hx => hb.same (hlt x (by simp [hx]))) (fun x hx => hsp x (by simp [hx])), ?_, rfl⟩
  exact Q8a hl (by simpa using hr.2) hrest hb (fun x hx => hlt x (by simp [hx])) (fun x hx => hsp x (by simp [hx]))
theorem Qjd {f : FuncId} {fn : Func} {s : ChangeSpec} {S : Spec} {apart fresh handsOn again : Bool} {tb : TypeId} (hS : SpecOk P f S) (hi : S.ins = []) (_hr : S.res = [(false, [.data .bool])]) (ho : S.outs = [])
  (hfit : fitP P fn.params.toList S.params = true) (hl : laidOutB P = true) (hrd : (fn.params.toList.all fun t => P.readableRec t && Nat.blt t P.types.size) = true)
  (hrt : fn.resultTypes = #[tb]) (htb : P.underlying tb = some .bool) (hvars : s.vars = [])
  (hfn : ∀ ds : List (DataW H), ds.length = fn.params.size → (s.fn H (ds ++ [])).results = [.lit (.bool true)] ∧ (s.fn H (ds ++ [])).args = ds ∧ (s.fn H (ds ++ [])).vars = [])
  (hlaw : ∀ {β : Type} (x : ST.dens S.params) (y : BT.dens S.ins) (k : ST.dens S.res × BT.dens S.outs → Option β), WfS S.params x → ∃ z, mkS [] S.res z.1 = [(false, [.bool true])] ∧ S.run (x, y) k = k z)
  {W : World} {base : Nat} {args : Array Value} {ds gs : List (DataW H)} {before : List MemPlace}
  (hval : ∀ (j : Nat) t v, fn.params[j]? = some t → args[j]? = some v → Value.okWide P W .any base t v)
  (hopen : Opened P W) (hW : DataW.Whole enc P fn.params.toList s.vars apart W args.toList ds gs before) :
  Calls P f args W fun e W' => ∃ v, e = .returned v ∧ s.post enc P fn apart fresh handsOn again W args v W' := by
 have hW' := hW
 obtain ⟨p, q, hA, hV, rfl, hfz, hnd⟩ := hW'
 rw [hvars] at hV
 obtain ⟨rfl, rfl⟩ : gs = [] ∧ q = [] := by
  cases gs with
  | nil => exact ⟨rfl, hV⟩
  | cons g gs => simp [DataW.TrodVars] at hV
 obtain ⟨x, hx, hwf⟩ := Qf5 (base := base) hfit hA (fun j t v hj hv => hval j t v (by simpa using hj) (by simpa using hv))
 have hy : BT.dens S.ins := by rw [hi]; exact ()
 obtain ⟨z, hz, hrun⟩ := hlaw x hy (fun z => some z) hwf
 have hc := hS.call0 hi (x, hy) z hrun W hopen args.toList hx
 have hlen : ds.length = fn.params.size := by
  have : ∀ {ts : List TypeId} {vs : List Value} {ds : List (DataW H)} {ps : List MemPlace}, DataW.TrodAll enc P W 0 (fun _ => true) true ts vs ds ps → ds.length = ts.length := by
   intro ts
   induction ts with
   | nil => intro vs ds ps h; cases vs <;> cases ds <;> simp_all [DataW.TrodAll]
   | cons t ts ih =>
    intro vs ds ps h
    obtain ⟨v, vs', d, ds', p, q, rfl, rfl, rfl, hd, hrest⟩ := trodAll_cons h
    simp [ih hrest]
  simpa using this hA
 obtain ⟨f1, f2, f3⟩ := hfn ds hlen
 refine hc.mono fun e W' ⟨vals, pl', he, hb, ht⟩ => ?_
 have hids : Q7 0 S.outs.length = [] := by rw [ho]; rfl
 rw [hids, hz] at ht
 obtain rfl := TReps.bool ht
 refine ⟨.bool true, he, Qdu (pa := p) (pv := []) hW (fun b sp hd => ?_) (fun sp hsp => ?_) (fun sp hsp => ?_) rfl hb ?_⟩
 ·rw [f1, hrt]
  exact trodAll_cons_mk (shut_bool htb _) trodAll_mk0
 ·rw [f2]
  exact Q8a hl hrd hA hb (fun x hx => hW.lt x (by simpa using hx)) (fun x hx => hsp x (by simpa using hx))
 ·rw [f3, hvars]; rfl
 ·exact ok_one hrt rfl (okWide_bool_mk htb _)
end
end Go.Lift
