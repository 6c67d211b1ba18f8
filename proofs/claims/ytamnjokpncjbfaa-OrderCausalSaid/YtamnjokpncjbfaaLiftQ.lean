/- The lifter, part Q: code. -/
import Derived.Test.YtamnjokpncjbfaaLiftP
namespace Go.Lift
open Go.RowKit

def AExit.toExit : AExit → Exit
  | .normal => .normal
  | .exit id => .exit id
  | .ret => .ret

section
variable {P : Program} {n m : Nat} {β : Type} {r : β}

/-- The code does what the evaluator says. -/
def Sim (P : Program) (n m : Nat) (c : Code) (σ : St) (k : Kx β) (r : β) : Prop :=
  ∃ e' σ', k e' σ' = some r ∧ ∀ (ok0 : Nat → Prop) (base : Nat) (pl : Nat → Option Pl) (a : Act) (w : World), Rel n ok0 base pl (look σ.tm) (look σ.bl) a w →
    c.wp P (fun e a' w' => e = e'.toExit ∧ ∃ pl', Rel n ok0 base pl' (look σ'.tm) (look σ'.bl) a' w' ∧ StepM m pl (look σ.bl) w pl' (look σ'.bl) w') a w

def CutOk (P : Program) (n m : Nat) (c : Code) (cut : Cut) : Prop :=
  ∀ {β : Type} (σ : St) (k : Kx β) (r : β), cut.run σ k = some r → Sim P n m c σ k r

/-- The parts of the code at a place. -/
def find (q : Nat) : Nat → Code → List Code
  | p, c =>
    let here : List Code := bif Nat.beq p q then [c] else []
    match c with
    | .seq a b => here ++ (find q (2 * p) a ++ find q (2 * p + 1) b)
    | .cond _ a b => here ++ (find q (2 * p) a ++ find q (2 * p + 1) b)
    | .block _ a => here ++ find q (2 * p) a
    | _ => here

theorem find_self (p : Nat) (c : Code) : c ∈ find p p c := by
  unfold find
  cases c <;> simp

/-! ### Regions -/
theorem numbered_fst : ∀ (l : List Oper) (s : Nat), (numbered s l).map (·.1) = List.range' s l.length
  | [], _ => rfl
  | o :: l, s => by simp [numbered, numbered_fst l, List.range'_succ]

theorem numbered_get {ops : Array Oper} : ∀ (l : List Oper) (s : Nat), ops.toList.drop s = l → ∀ p ∈ numbered s l, ops[p.1]? = some p.2
  | [], _, _, p, hp => by simp [numbered] at hp
  | o :: l, s, h, p, hp => by
    have hs : s < ops.toList.length := by
      rcases Nat.lt_or_ge s ops.toList.length with h1 | h1
      · exact h1
      · rw [List.drop_eq_nil_of_le h1] at h; cases h
    rw [List.drop_eq_getElem_cons hs] at h
    injection h with h1 h2
    simp only [numbered, List.mem_cons] at hp
    rcases hp with e | hp
    · subst e
      simp only [Array.getElem_toList] at h1
      rw [← h1]
      exact Array.getElem?_eq_getElem (by simpa using hs)
    · exact numbered_get l (s + 1) h2 p hp

theorem edgesBack_spec : ∀ {l : List (Nat × Oper)}, edgesBack l = true → ∀ p ∈ l, ∀ e ∈ p.2.after, Region.binds .any e = true → e.on < p.1
  | [], _, p, hp => by simp at hp
  | (i, o) :: l, h, p, hp => by
    simp only [edgesBack, Bool.and_eq_true, List.all_eq_true] at h
    rcases List.mem_cons.1 hp with e | hp
    · subst e
      intro e he hb
      have := h.1 e (by simpa using he)
      simp only [hb, Bool.not_true, Bool.false_or] at this
      exact blt_lt this
    · exact edgesBack_spec h.2 p hp

theorem fine1_spec {m : Nat} {y : LogE} : ∀ {l : List LogE}, fine1 m y l = true → ∀ x ∈ l, clash x y = false ∨ Nat.testBit m x.i = true
  | [], _, x, hx => by simp at hx
  | z :: l, h, x, hx => by
    simp only [fine1, Bool.and_eq_true, Bool.or_eq_true, Bool.not_eq_true'] at h
    rcases List.mem_cons.1 hx with e | hx
    · subst e; exact h.1
    · exact fine1_spec h.2 x hx

theorem fine_spec {ms : List Nat} : ∀ {l : List LogE}, fine ms l = true → l.Pairwise (fun y x => clash x y = false ∨ Nat.testBit (ms.getD y.i 0) x.i = true)
  | [], _ => List.Pairwise.nil
  | y :: l, h => by
    simp only [fine, Bool.and_eq_true] at h
    exact List.pairwise_cons.2 ⟨fun x hx => fine1_spec h.1 x hx, fine_spec h.2⟩

theorem Rel.drawn {ok0 : Nat → Prop} {base : Nat} {pl : Nat → Option Pl} {tm : Nat → Option V} {bl : Nat → Option Blk} {a : Act} {w w' : World} (h : Rel n ok0 base pl tm bl a w) (hw : w'.heap = w.heap) : Rel n ok0 base pl tm bl a w' := by
  have hk : Ext (envOf ok0 base pl bl w) (envOf ok0 base pl bl w') :=
    ⟨Nat.le_refl _, fun g hg _ => ⟨hg, by show w'.heap[g]? = w.heap[g]?; rw [hw]⟩, fun _ _ h => h, fun _ sv svs h => ⟨sv, svs, h, KeepR.refl _ _ _⟩⟩
  refine ⟨h.defers, h.size, fun t v ht => (h.tmps t v ht).mono hk, by rw [hw]; exact h.rel.baseLe, fun i B hB => ?_, h.rel.sep, h.rel.fresh⟩
  obtain ⟨p, hp, hb⟩ := h.rel.blks i B hB
  exact ⟨p, hp, hb.mono hk fun g _ => by show w'.heap[g]? = w.heap[g]?; rw [hw]⟩

theorem sim_region (hm : P.follows .mixedOrders = true) {X : Ctx} (hT : TOk P X.T) (hΓ : ΓOk P X.Γ) {id : Nat} {ops : Array Oper} {draw : Bool} {σ : St} {k : Kx β}
    (h : (regRun X n ops (numbered 0 ops.toList) σ [] fun σ' log => bif !draw || (edgesBack (numbered 0 ops.toList) && fine (masks ops.toList []) log) then k .normal σ' else none) = some r) : Sim P n m (.region id ops draw) σ k r := by
  obtain ⟨es, σ', h1, h2, h3, h4, h5⟩ := regRun_sound hT hΓ (numbered_get ops.toList 0 (by simp)) h
  rw [numbered_fst] at h2
  have h2' : es.map (·.i) = List.range ops.size := by rw [h2, List.range_eq_range']; simp
  simp only [List.append_nil] at h1
  have hc : (!draw || (edgesBack (numbered 0 ops.toList) && fine (masks ops.toList []) es.reverse)) = true ∧ k .normal σ' = some r := by
    cases hb : (!draw || (edgesBack (numbered 0 ops.toList) && fine (masks ops.toList []) es.reverse)) with
    | false => rw [hb] at h1; cases h1
    | true => rw [hb] at h1; exact ⟨rfl, h1⟩
  refine ⟨.normal, σ', hc.2, fun ok0 base pl a w hr => ?_⟩
  cases draw with
  | false =>
    refine wp_region ?_
    rw [← h2']
    refine wpOps_valid h3 hr fun pl' a' w' hr' hs' => ⟨rfl, pl', ?_, ?_⟩
    · rw [h4, h5]; exact hr'
    · rw [h5]; exact hs'.toM
  | true =>
    have hcc := hc.1
    simp only [Bool.not_true, Bool.false_or, Bool.and_eq_true] at hcc
    obtain ⟨hb, hf⟩ := hcc
    have hback : ∀ (j : Nat) (o : Oper), ops[j]? = some o → ∀ e ∈ o.after, Region.binds .any e = true → e.on < j := by
      intro j o ho
      have hj : j < ops.size := (Array.getElem?_eq_some_iff.1 ho).1
      have hmem : j ∈ (numbered 0 ops.toList).map (·.1) := by
        rw [numbered_fst]; simp only [Array.length_toList, List.mem_range'_1]; omega
      obtain ⟨p, hp, e⟩ := List.mem_map.1 hmem
      have h6 := numbered_get (ops := ops) ops.toList 0 (by simp) p hp
      rw [e, ho] at h6
      injection h6 with h6
      have := edgesBack_spec hb p hp
      rw [e, ← h6] at this
      exact this
    have hmap : ∀ i, (∃ e ∈ es, e.i = i) ↔ i < ops.size := by
      intro i
      rw [← List.mem_range, ← h2', List.mem_map]
    refine wp_region_any hm ?_
    refine wpAny_valid hback ops.size (es := es) ?_ (by simp) ?_ (fun i hi => ?_) ?_ (fun e he => (hmap e.i).1 ⟨e, he, rfl⟩) ?_ h3 (hr.drawn (w' := { w with drawn := w.drawn + 1 }) rfl) fun pl' a' w' hr' hs' => ⟨rfl, pl', ?_, ?_⟩
    · have := congrArg List.length h2'
      simpa using this
    · intro j o _ hj
      exfalso
      rw [Array.getD_eq_getD_getElem?] at hj
      rcases Nat.lt_or_ge j ops.size with h7 | h7
      · simp [h7] at hj
      · simp [Nat.not_lt.2 h7] at hj
    · constructor
      · intro _; exact (hmap i).2 hi
      · intro _; simp [Array.getD_eq_getD_getElem?, hi]
    · have : (es.map (·.i)).Pairwise (· < ·) := by rw [h2']; exact List.pairwise_lt_range
      exact List.pairwise_map.1 this
    · have := fine_spec hf
      exact List.pairwise_reverse.1 this
    · rw [h4, h5]; exact hr'
    · rw [h5]
      exact ⟨hs'.os, hs'.tape, hs'.output, hs'.size, hs'.out, fun b g _ => hs'.cells b g, (hs'.toM (m := m)).rows⟩

/-! ### Code -/
theorem wp_mono' {c : Code} {Q Q' : Exit → Act → World → Prop} {a : Act} {w : World} (h : c.wp P Q a w) (hq : ∀ e a w, Q e a w → Q' e a w) : c.wp P Q' a w := by
  intro b k cs
  obtain ⟨e, a', w', h1, h2⟩ := h b k cs
  exact ⟨e, a', w', hq _ _ _ h1, h2⟩

theorem exec_sound (hm : P.follows .mixedOrders = true) {X : Ctx} (hT : TOk P X.T) (hΓ : ΓOk P X.Γ) {Λ : Nat → Option Cut} : ∀ {c : Code} {p : Nat} {σ : St} {k : Kx β}, (∀ q cut, Λ q = some cut → ∀ c' ∈ find q p c, CutOk P n m c' cut) →
    exec X n Λ p c σ k = some r → Sim P n m c σ k r := by
  intro c
  induction c with
  | region id ops draw =>
    intro p σ k hΛ h
    unfold exec at h
    split at h
    · rename_i cut hc; exact hΛ p cut hc _ (find_self p _) σ k r h
    · exact sim_region hm hT hΓ h
  | skip =>
    intro p σ k hΛ h
    unfold exec at h
    split at h
    · rename_i cut hc; exact hΛ p cut hc _ (find_self p _) σ k r h
    · exact ⟨.normal, σ, h, fun ok0 base pl a w hr => wp_skip ⟨rfl, pl, hr, StepM.refl _ _ _ _⟩⟩
  | exit id =>
    intro p σ k hΛ h
    unfold exec at h
    split at h
    · rename_i cut hc; exact hΛ p cut hc _ (find_self p _) σ k r h
    · exact ⟨.exit id, σ, h, fun ok0 base pl a w hr => wp_exit ⟨rfl, pl, hr, StepM.refl _ _ _ _⟩⟩
  | ret =>
    intro p σ k hΛ h
    unfold exec at h
    split at h
    · rename_i cut hc; exact hΛ p cut hc _ (find_self p _) σ k r h
    · exact ⟨.ret, σ, h, fun ok0 base pl a w hr => wp_ret ⟨rfl, pl, hr, StepM.refl _ _ _ _⟩⟩
  | seq x y ihx ihy =>
    intro p σ k hΛ h
    unfold exec at h
    split at h
    · rename_i cut hc; exact hΛ p cut hc _ (find_self p _) σ k r h
    · simp only at h
      obtain ⟨e1, σ1, h1, hw1⟩ := ihx (fun q cut hq c' hc' => hΛ q cut hq c' (by unfold find; simp [hc'])) h
      have hy : ∀ {k' : Kx β}, exec X n Λ (2 * p + 1) y σ1 k' = some r → Sim P n m y σ1 k' r := ihy (fun q cut hq c' hc' => hΛ q cut hq c' (by unfold find; simp [hc']))
      cases e1 with
      | normal =>
        simp only at h1
        obtain ⟨e2, σ2, h2, hw2⟩ := hy h1
        refine ⟨e2, σ2, h2, fun ok0 base pl a w hr => wp_seq (wp_mono' (hw1 ok0 base pl a w hr) fun e a' w' ⟨he, pl', hr', hs'⟩ => ?_)⟩
        subst he
        exact wp_mono' (hw2 ok0 base pl' a' w' hr') fun e a2 w2 ⟨he2, pl2, hr2, hs2⟩ => ⟨he2, pl2, hr2, hs'.trans hs2⟩
      | exit id =>
        refine ⟨.exit id, σ1, h1, fun ok0 base pl a w hr => wp_seq (wp_mono' (hw1 ok0 base pl a w hr) fun e a' w' hq => ?_)⟩
        have he := hq.1
        subst he
        exact hq
      | ret =>
        refine ⟨.ret, σ1, h1, fun ok0 base pl a w hr => wp_seq (wp_mono' (hw1 ok0 base pl a w hr) fun e a' w' hq => ?_)⟩
        have he := hq.1
        subst he
        exact hq
  | cond x a b iha ihb =>
    intro p σ k hΛ h
    unfold exec at h
    split at h
    · rename_i cut hc; exact hΛ p cut hc _ (find_self p _) σ k r h
    · simp only at h
      split at h
      · rename_i g hg
        have hev : ∀ (ok0 : Nat → Prop) (base : Nat) (pl : Nat → Option Pl) (a : Act) (w : World), Rel n ok0 base pl (look σ.tm) (look σ.bl) a w → a.eval x = .bool g := by
          intro ok0 base pl a w hr
          have := evalF_rep hr x
          rw [← evalV_eq, hg] at this
          exact this
        cases g with
        | true =>
          obtain ⟨e1, σ1, h1, hw1⟩ := iha (fun q cut hq c' hc' => hΛ q cut hq c' (by unfold find; simp [hc'])) h
          exact ⟨e1, σ1, h1, fun ok0 base pl a w hr => wp_cond_true (hev ok0 base pl a w hr) (hw1 ok0 base pl a w hr)⟩
        | false =>
          obtain ⟨e1, σ1, h1, hw1⟩ := ihb (fun q cut hq c' hc' => hΛ q cut hq c' (by unfold find; simp [hc'])) h
          exact ⟨e1, σ1, h1, fun ok0 base pl a w hr => wp_cond_false (hev ok0 base pl a w hr) (hw1 ok0 base pl a w hr)⟩
      · cases h
  | block id a iha =>
    intro p σ k hΛ h
    unfold exec at h
    split at h
    · rename_i cut hc; exact hΛ p cut hc _ (find_self p _) σ k r h
    · simp only at h
      obtain ⟨e1, σ1, h1, hw1⟩ := iha (fun q cut hq c' hc' => hΛ q cut hq c' (by unfold find; simp [hc'])) h
      cases e1 with
      | normal =>
        refine ⟨.normal, σ1, h1, fun ok0 base pl a w hr => wp_block (wp_mono' (hw1 ok0 base pl a w hr) fun e a' w' hq => ?_)⟩
        have he := hq.1
        subst he
        exact hq
      | ret =>
        refine ⟨.ret, σ1, h1, fun ok0 base pl a w hr => wp_block (wp_mono' (hw1 ok0 base pl a w hr) fun e a' w' hq => ?_)⟩
        have he := hq.1
        subst he
        exact hq
      | exit id' =>
        simp only at h1
        cases hid : Nat.beq id' id with
        | true =>
          rw [hid] at h1
          have hid := Nat.eq_of_beq_eq_true hid
          refine ⟨.normal, σ1, h1, fun ok0 base pl a w hr => wp_block (wp_mono' (hw1 ok0 base pl a w hr) fun e a' w' hq => ?_)⟩
          have he := hq.1
          subst he
          simp only [AExit.toExit, Exit.inBlock, hid, if_true]
          exact ⟨trivial, hq.2⟩
        | false =>
          rw [hid] at h1
          have hne : id' ≠ id := fun e => by rw [e, beq_self] at hid; cases hid
          refine ⟨.exit id', σ1, h1, fun ok0 base pl a w hr => wp_block (wp_mono' (hw1 ok0 base pl a w hr) fun e a' w' hq => ?_)⟩
          have he := hq.1
          subst he
          simp only [AExit.toExit, Exit.inBlock, hne, if_false]
          exact ⟨trivial, hq.2⟩
  | _ =>
    intro p σ k hΛ h
    unfold exec at h
    split at h
    · rename_i cut hc; exact hΛ p cut hc _ (find_self p _) σ k r h
    · cases h
end
end Go.Lift
