/- The lifter, part P: regions. -/
import Derived.Test.YtamnjokpncjbfaaLiftO
namespace Go.Lift
open Go.RowKit

section
variable {P : Program} {ops : Array Oper} {n : Nat} {β : Type} {r : β}

theorem Rel.put {ok0 : Nat → Prop} {base : Nat} {pl pl' : Nat → Option Pl} {tm : Nat → Option V} {bl bl' : Nat → Option Blk} {a : Act} {w w' : World} (h : Rel n ok0 base pl tm bl a w)
    {dst : Option Nat} (hd : dstOk n dst = true) {v : V} {val : Value} (hr : RelB ok0 base pl' bl' w') (hs : Step pl bl w pl' bl' w') (hv : VRep (envOf ok0 base pl' bl' w') v val) : Rel n ok0 base pl' (updD tm dst v) bl' (a.put dst val) w' := by
  have hold : ∀ t v, tm t = some v → VRep (envOf ok0 base pl' bl' w') v (a.tmps.getD t undef) := fun t v ht => (h.tmps t v ht).mono hs.ext
  cases dst with
  | none => exact ⟨h.defers, h.size, hold, hr⟩
  | some d =>
    have hdn : d < n := blt_lt hd
    refine ⟨h.defers, by simp [Act.put, h.size], fun t v' ht => ?_, hr⟩
    simp only [updD, upd] at ht
    simp only [Act.put, Array.getD_eq_getD_getElem?, Array.getElem?_setIfInBounds]
    by_cases e : t = d
    · subst e
      simp only [if_true, Option.some.injEq] at ht
      subst ht
      have : t < a.tmps.size := by rw [h.size]; exact hdn
      simp [this, hv]
    · rw [if_neg e] at ht
      rw [if_neg (fun h => e h.symm)]
      have := hold t v' ht
      rwa [Array.getD_eq_getD_getElem?] at this

theorem mem_tmpsOf {t : Nat} : ∀ {l : List Operand}, Operand.tmp t ∈ l → t ∈ tmpsOf l
  | x :: l, h => by
    rcases List.mem_cons.1 h with h | h
    · subst h; simp [tmpsOf]
    · have := mem_tmpsOf h
      cases x <;> simp_all [tmpsOf]

theorem evalF_agree {tm tm' : Nat → Option V} {l : List Operand} (h : ∀ t ∈ tmpsOf l, tm t = tm' t) {x : Operand} (hx : x ∈ l) : evalF tm x = evalF tm' x := by
  cases x with
  | tmp t => simp only [evalF, h t (mem_tmpsOf hx)]
  | _ => rfl

theorem eok_take {i : Nat} {o : Oper} (ho : ops[i]? = some o) (hd : dstOk n o.dst = true) {σ : St} {v : V} {rd : List Nat} {wr : List (Nat × Blk)} {tin : List Nat}
    (hg : o.guard = none ∧ tin = tmpsOf o.op.operands.toList ∨ ∃ t want, guardTmp ops o = some (t, want) ∧ look σ.tm t = some (.c (.bool want)) ∧ tin = t :: tmpsOf o.op.operands.toList)
    (hs : ∀ bl2, (∀ b ∈ rd, bl2 b = look σ.bl b) → OpOk P o (evalV σ.tm) bl2 v wr) : EOk P ops n ⟨i, o.dst, v, tin, rd, wr⟩ (look σ.tm) (look σ.bl) := by
  intro tm bl ht hb ok0 base pl a w hr K Q hk
  have hin : ∀ t ∈ tmpsOf o.op.operands.toList, tm t = look σ.tm t := by
    intro t htm
    rcases hg with ⟨_, e⟩ | ⟨t', want, _, _, e⟩
    · exact ht t (by rw [e]; exact htm)
    · exact ht t (by rw [e]; exact List.mem_cons_of_mem _ htm)
  have hw : Region.wanted o (yielded ops a.tmps) = true := by
    unfold Region.wanted
    rcases hg with ⟨e, _⟩ | ⟨t', want, e1, e2, e3⟩
    · rw [e]
    · unfold guardTmp at e1
      split at e1
      · cases e1
      · rename_i j want' hgd
        rw [hgd]
        cases hj : (ops[j]?).bind (·.dst) with
        | none => rw [hj] at e1; cases e1
        | some t2 =>
          rw [hj] at e1
          simp only [Option.map_some, Option.some.injEq, Prod.mk.injEq] at e1
          obtain ⟨e4, e5⟩ := e1
          subst e4 e5
          have h1 := ht t2 (by rw [e3]; simp)
          rw [e2] at h1
          have h2 := hr.tmps t2 _ h1
          simp only [VRep, CRep] at h2
          simp only [yielded, hj, Option.bind_some]
          rw [Array.getD_eq_getD_getElem?] at h2
          cases h3 : a.tmps[t2]? with
          | none => rw [h3] at h2; simp [undef] at h2
          | some u =>
            rw [h3] at h2
            simp only [Option.getD_some] at h2
            subst h2
            simp
  unfold wpOp
  rw [ho]
  simp only [hw, if_true]
  refine .inl (hs bl hb ok0 base pl w a hr.rel (fun x hx => ?_) K Q fun val pl' w' hr' hst hv => hk pl' _ w' (hr.put hd hr' hst hv) hst)
  have hx' : x ∈ o.op.operands.toList := by simpa using hx
  rw [evalV_eq, ← evalF_agree hin hx']
  exact evalF_rep hr x

theorem eok_skip {i : Nat} {o : Oper} (ho : ops[i]? = some o) (hd : dstOk n o.dst = true) {tmA : Nat → Option V} {blA : Nat → Option Blk} {t : Nat} {want : Bool} (hg : guardTmp ops o = some (t, want)) {u : V}
    (ht : tmA t = some u) (hu : u = .tup [] ∨ u = .c (.bool (!want))) : EOk P ops n ⟨i, o.dst, .tup [], [t], [], []⟩ tmA blA := by
  intro tm bl htm hb ok0 base pl a w hr K Q hk
  have h1 := htm t (by simp)
  rw [ht] at h1
  have h2 := hr.tmps t _ h1
  have hw : Region.wanted o (yielded ops a.tmps) = false := by
    unfold Region.wanted
    unfold guardTmp at hg
    split at hg
    · cases hg
    · rename_i j want' hgd
      rw [hgd]
      cases hj : (ops[j]?).bind (·.dst) with
      | none => rw [hj] at hg; cases hg
      | some t2 =>
        rw [hj] at hg
        simp only [Option.map_some, Option.some.injEq, Prod.mk.injEq] at hg
        obtain ⟨e4, e5⟩ := hg
        subst e4 e5
        simp only [yielded, hj, Option.bind_some]
        rw [Array.getD_eq_getD_getElem?] at h2
        cases h3 : a.tmps[t2]? with
        | none => rfl
        | some u' =>
          rw [h3] at h2
          simp only [Option.getD_some] at h2
          rcases hu with e | e
          · subst e
            obtain ⟨vs, h4, h5⟩ := h2
            simp only [TReps] at h5
            subst h5 h4
            rfl
          · subst e
            simp only [VRep, CRep] at h2
            subst h2
            cases want' <;> rfl
  unfold wpOp
  rw [ho]
  simp only [hw, Bool.false_eq_true, if_false]
  have hundef : VRep (envOf ok0 base pl bl w) (.tup []) undef := ⟨[], rfl, rfl⟩
  exact hk pl _ w (hr.put hd hr.rel (Step.refl pl bl w) hundef) (Step.refl pl bl w)

theorem look_put_same {tm : List (Nat × V)} {t : Nat} {v : V} (h : look tm t = some v) : look (put tm t v) = look tm := by
  funext j
  rw [look_put]
  split
  · rename_i e; rw [e, h]
  · rfl

theorem regRun_sound {X : Ctx} (hT : TOk P X.T) (hΓ : ΓOk P X.Γ) {k : St → List LogE → Option β} : ∀ {l : List (Nat × Oper)} {σ : St} {log : List LogE}, (∀ p ∈ l, ops[p.1]? = some p.2) → regRun X n ops l σ log k = some r →
    ∃ es σ', k σ' (es.reverse ++ log) = some r ∧ es.map (·.i) = l.map (·.1) ∧ Valid P ops n es (look σ.tm) (look σ.bl) ∧ look σ'.tm = finT es (look σ.tm) ∧ look σ'.bl = finB es (look σ.bl)
  | [], σ, log, _, h => ⟨[], σ, h, rfl, trivial, rfl, rfl⟩
  | (i, o) :: rest, σ, log, hl, h => by
    have ho : ops[i]? = some o := hl (i, o) (by simp)
    have hl' : ∀ p ∈ rest, ops[p.1]? = some p.2 := fun p hp => hl p (by simp [hp])
    simp only [regRun] at h
    cases hd : dstOk n o.dst with
    | false => rw [hd] at h; cases h
    | true =>
      rw [hd] at h
      simp only [cond_true] at h
      -- taken, from whatever state says the same
      have take : ∀ (σ1 : St) (tin : List Nat), look σ1.tm = look σ.tm → look σ1.bl = look σ.bl →
          (o.guard = none ∧ tin = tmpsOf o.op.operands.toList ∨ ∃ t want, guardTmp ops o = some (t, want) ∧ look σ1.tm t = some (.c (.bool want)) ∧ tin = t :: tmpsOf o.op.operands.toList) →
          (opRun X o (evalV σ1.tm) (look σ1.bl) σ1.nx fun v rd wr => regRun X n ops rest ⟨putD σ1.tm o.dst v, puts σ1.bl wr, nextId σ1.nx wr⟩ (⟨i, o.dst, v, tin, rd, wr⟩ :: log) k) = some r →
          ∃ es σ', k σ' (es.reverse ++ log) = some r ∧ es.map (·.i) = ((i, o) :: rest).map (·.1) ∧ Valid P ops n es (look σ.tm) (look σ.bl) ∧ look σ'.tm = finT es (look σ.tm) ∧ look σ'.bl = finB es (look σ.bl) := by
        intro σ1 tin et eb hg h
        obtain ⟨v, rd, wr, hk, hs⟩ := opRun_sound hT hΓ h
        obtain ⟨es, σ', h1, h2, h3, h4, h5⟩ := regRun_sound hT hΓ hl' hk
        refine ⟨⟨i, o.dst, v, tin, rd, wr⟩ :: es, σ', by simpa using h1, by simp [h2], ⟨?_, ?_⟩, ?_, ?_⟩
        · rw [← et, ← eb]
          exact eok_take ho hd hg hs
        · simp only [look_putD, look_puts, et, eb] at h3
          exact h3
        · rw [h4]; simp only [look_putD, et, finT]
        · rw [h5]; simp only [look_puts, eb, finB]
      have skip : ∀ (σ1 : St) (t : Nat) (want : Bool) (u : V), look σ1.tm = look σ.tm → look σ1.bl = look σ.bl → guardTmp ops o = some (t, want) → look σ.tm t = some u → (u = .tup [] ∨ u = .c (.bool (!want))) →
          (regRun X n ops rest ⟨putD σ1.tm o.dst (.tup []), σ1.bl, σ1.nx⟩ (⟨i, o.dst, .tup [], [t], [], []⟩ :: log) k) = some r →
          ∃ es σ', k σ' (es.reverse ++ log) = some r ∧ es.map (·.i) = ((i, o) :: rest).map (·.1) ∧ Valid P ops n es (look σ.tm) (look σ.bl) ∧ look σ'.tm = finT es (look σ.tm) ∧ look σ'.bl = finB es (look σ.bl) := by
        intro σ1 t want u et eb hg ht hu h
        obtain ⟨es, σ', h1, h2, h3, h4, h5⟩ := regRun_sound hT hΓ hl' h
        refine ⟨⟨i, o.dst, .tup [], [t], [], []⟩ :: es, σ', by simpa using h1, by simp [h2], ⟨eok_skip ho hd hg ht hu, ?_⟩, ?_, ?_⟩
        · simp only [look_putD, et, eb] at h3
          exact h3
        · rw [h4]; simp only [look_putD, et, finT]
        · rw [h5]; simp only [eb, finB, updL]
      split at h
      · rename_i hgd
        exact take σ _ rfl rfl (.inl ⟨hgd, rfl⟩) h
      · split at h
        · cases h
        · rename_i t want hg
          split at h
          · rename_i ht
            exact skip σ t want _ rfl rfl hg ht (.inl rfl) h
          · rename_i g ht
            cases want <;> cases g <;> simp only [cond_true, cond_false, Bool.not_true, Bool.not_false] at h
            · exact take ⟨put σ.tm t (.c (.bool false)), σ.bl, σ.nx⟩ _ (look_put_same ht) rfl (.inr ⟨t, false, hg, by rw [look_put_same ht, ht], rfl⟩) h
            · exact skip ⟨put σ.tm t (.c (.bool true)), σ.bl, σ.nx⟩ t false _ (look_put_same ht) rfl hg ht (.inr rfl) h
            · exact skip ⟨put σ.tm t (.c (.bool false)), σ.bl, σ.nx⟩ t true _ (look_put_same ht) rfl hg ht (.inr rfl) h
            · exact take ⟨put σ.tm t (.c (.bool true)), σ.bl, σ.nx⟩ _ (look_put_same ht) rfl (.inr ⟨t, true, hg, by rw [look_put_same ht, ht], rfl⟩) h
          · cases h
end
end Go.Lift
