/- The lifter, part Mf: rows that become data; an array's element. -/
import Derived.Test.YtamnjokpncjbfaaLiftMm
namespace Go.Lift
open Go.RowKit

theorem over_eq : ∀ (l : List (Nat × Blk)) (bl : Nat → Option Blk), over_ bl l = updL bl l
  | [], _ => rfl
  | (j, x) :: r, bl => by
    funext i
    simp only [over_, updL]
    rw [over_eq r]
    congr 1
    funext k
    simp only [upd]
    by_cases h : k = j
    · subst h; simp
    · simp [beq_ne h, h]

theorem killRows_mem {bl : Nat → Option Blk} : ∀ {rds : List Nat} {p : Nat × Blk}, p ∈ killRows bl rds → p.2 = .dead ∧ p.1 ∈ rds ∧ ∃ t e ver l, bl p.1 = some (.row t e ver l)
  | [], p, h => by simp [killRows] at h
  | b :: r, p, h => by
    simp only [killRows] at h
    split at h
    · rename_i t e ver l hb
      rcases List.mem_cons.1 h with rfl | h
      · exact ⟨rfl, by simp, t, e, ver, l, hb⟩
      · obtain ⟨h1, h2, h3⟩ := killRows_mem h
        exact ⟨h1, List.mem_cons_of_mem _ h2, h3⟩
    · obtain ⟨h1, h2, h3⟩ := killRows_mem h
      exact ⟨h1, List.mem_cons_of_mem _ h2, h3⟩

theorem killRows_all {bl : Nat → Option Blk} : ∀ {rds : List Nat} {b : Nat} {t : TypeId} {e : Ty} {ver : Nat} {l : List e.den}, b ∈ rds → bl b = some (.row t e ver l) → (b, Blk.dead) ∈ killRows bl rds
  | [], b, _, _, _, _, h, _ => by simp at h
  | c :: r, b, t, e, ver, l, h, hb => by
    simp only [killRows]
    rcases List.mem_cons.1 h with rfl | h
    · rw [hb]; exact List.mem_cons_self
    · have := killRows_all (rds := r) h hb
      split
      · exact List.mem_cons_of_mem _ this
      · exact this

theorem updL_other : ∀ {wr : List (Nat × Blk)} {bl : Nat → Option Blk} {b : Nat}, b ∉ wids wr → updL bl wr b = bl b
  | [], _, _, _ => rfl
  | (i, x) :: r, bl, b, h => by
    simp only [wids, List.mem_cons, not_or] at h
    rw [updL, updL_other h.2]
    simp [upd, h.1]

theorem updL_mem : ∀ {wr : List (Nat × Blk)} {bl bl' : Nat → Option Blk} {b : Nat}, b ∈ wids wr → updL bl wr b = updL bl' wr b
  | [], _, _, _, h => by simp [wids] at h
  | (i, x) :: r, bl, bl', b, h => by
    simp only [updL]
    by_cases hr : b ∈ wids r
    · exact updL_mem hr
    · rw [updL_other hr, updL_other hr]
      have hbi : b = i := by
        simp only [wids, List.mem_cons] at h
        exact h.resolve_right hr
      simp [upd, hbi]

section
variable {P : Program} {o : Oper} {ρ : Operand → V} {bl : Nat → Option Blk} {β : Type} {r : β}

/-- Killing rows turns nothing in memory. -/
theorem freeze {ok0 : Nat → Prop} {base : Nat} {pl : Nat → Option Pl} {bl2 : Nat → Option Blk} {w : World} (hr : RelB ok0 base pl bl2 w) (rds : List Nat) (hag : ∀ b ∈ rds, bl2 b = bl b) :
    RelB ok0 base pl (updL bl2 (killRows bl rds)) w ∧ Step pl bl2 w pl (updL bl2 (killRows bl rds)) w ∧
      ∀ (v : V) (u : Value), (∀ b ∈ rowsOfV [v], b ∈ rds) → VRep (envOf ok0 base pl bl2 w) v u → VRep (envOf ok0 base pl (updL bl2 (killRows bl rds)) w) (frzV bl v) u := by
  have hkl : ∀ p ∈ killRows bl rds, p.2 = Blk.dead ∧ p.1 ∈ rds ∧ ∃ t e ver l, bl2 p.1 = some (.row t e ver l) := fun p hp => by
    obtain ⟨h1, h2, t, e, ver, l, h3⟩ := killRows_mem hp
    exact ⟨h1, h2, t, e, ver, l, by rw [hag _ h2]; exact h3⟩
  generalize hkills : killRows bl rds = kills at *
  have hblk : ∀ i, updL bl2 kills i = bl2 i ∨ (updL bl2 kills i = some .dead ∧ ∃ t e ver l, bl2 i = some (.row t e ver l)) := fun i => by
    rcases updL_dead (l := kills) (f := bl2) i (fun p hp => (hkl p hp).1) with ⟨h1, _⟩ | ⟨h1, p, hp, h2⟩
    · exact .inl h1
    · have := hkl p hp
      rw [h2] at this
      exact .inr ⟨h1, this.2.2⟩
  have hblkL : ∀ i B, updL bl2 kills i = some B → B.live = true → bl2 i = some B := fun i B hB hl => by
    rcases hblk i with h | ⟨h, _⟩
    · rw [← h]; exact hB
    · rw [h] at hB
      injection hB with hB
      subst hB
      cases hl
  have hown : ∀ g, Own pl (updL bl2 kills) g → Own pl bl2 g := fun g ⟨i, B, p, hB, hl, hp, hg⟩ => ⟨i, B, p, hblkL i B hB hl, hl, hp, hg⟩
  have hs : Step pl bl2 w pl (updL bl2 kills) w := ⟨rfl, rfl, rfl, Nat.le_refl _, fun g _ ho => ⟨rfl, fun h => ho (hown g h)⟩, fun _ _ h => h,
    fun b sv svs hb => ⟨sv, svs, hb, KeepR.of_live (fun C h hC => hblkL b _ h (by cases C <;> first | rfl | exact absurd rfl hC)) _ _⟩⟩
  refine ⟨⟨hr.baseLe, fun i B hB => ?_, fun i j B C p q g hij hB hC hlB hlC hp hq hg => ?_, fun i hi => ?_⟩, hs, fun v u hrows hv => ?_⟩
  · cases hl : B.live with
    | false =>
      have hex : ∃ B0, bl2 i = some B0 := by
        rcases hblk i with h | ⟨_, t, e, ver, l, h⟩
        · exact ⟨B, by rw [← h]; exact hB⟩
        · exact ⟨_, h⟩
      obtain ⟨B0, hB0⟩ := hex
      obtain ⟨p, hp, _⟩ := hr.blks i B0 hB0
      refine ⟨p, hp, ?_⟩
      cases B <;> first | exact trivial | simp [Blk.live] at hl
    | true =>
      obtain ⟨p, hp, hR⟩ := hr.blks i B (hblkL i B hB hl)
      exact ⟨p, hp, BRep.mono hs.ext hR fun _ _ => rfl⟩
  · exact hr.sep i j B C p q g hij (hblkL i B hB hlB) (hblkL j C hC hlC) hlB hlC hp hq hg
  · rcases hblk i with h | ⟨h, _⟩
    · exact hr.fresh i (by rw [← h]; exact hi)
    · rw [h] at hi; cases hi
  · -- values
    generalize hE : envOf ok0 base pl bl2 w = E at hv
    generalize hE' : envOf ok0 base pl (updL bl2 kills) w = E'
    have hx : Ext E E' := by rw [← hE, ← hE']; exact hs.ext
    have hblks : BlksOk E := by rw [← hE]; exact hr.blksOk
    have hEbl : E.bl = bl2 := by rw [← hE]; rfl
    have hEpl : E.pl = pl := by rw [← hE]; rfl
    have hEw : E.w = w := by rw [← hE]; rfl
    have hEw' : E'.w = w := by rw [← hE']; rfl
    have hEok : E.ok = fun g => (ok0 g ∨ base ≤ g) ∧ ¬ Own pl bl2 g := by rw [← hE]; rfl
    have hEok' : E'.ok = fun g => (ok0 g ∨ base ≤ g) ∧ ¬ Own pl (updL bl2 kills) g := by rw [← hE']; rfl
    have hok : ∀ g, E.ok g → E'.ok g := fun g hg => by
      rw [hEok] at hg
      rw [hEok']
      exact ⟨hg.1, fun h => hg.2 (hown g h)⟩
    have hgo : ∀ (b : Nat) (t : TypeId) (e : Ty) (ver : Nat) (l : List e.den) (t' : TypeId) (n : Nat) (sv : Value) (xs : List Value), b ∈ rds → bl b = some (.row t e ver l) → E.pl b = some (.row sv []) → E.w.ownsRow E.base t' n sv l.length xs → ∀ g, sv.ownBlock = some g → E'.ok g := by
      intro b t e ver l t' n sv xs hin hb h2 h5 g hg
      have hb2 : bl2 b = some (.row t e ver l) := by rw [hag b hin]; exact hb
      rw [hEok']
      refine ⟨.inr ?_, fun ho => ?_⟩
      · have hbase : base = E.base := by rw [← hE]; rfl
        rcases h5.2 with ⟨q1, _⟩ | ⟨g', cap, cur, q1, q2, _⟩
        · rw [q1] at hg; simp [Value.ownBlock] at hg
        · rw [q1] at hg
          simp only [Value.ownBlock, Option.some.injEq] at hg
          subst hg
          rw [hbase]
          exact q2
      · obtain ⟨j, B, p, hB, hl, hp, hpg⟩ := ho
        have hB2 := hblkL j B hB hl
        rw [hEpl] at h2
        by_cases hjb : j = b
        · subst hjb
          have hmem : (j, Blk.dead) ∈ kills := by rw [← hkills]; exact killRows_all hin hb
          rcases updL_dead (l := kills) (f := bl2) j (fun p hp => (hkl p hp).1) with ⟨_, q⟩ | ⟨q, _⟩
          · exact q _ hmem rfl
          · rw [q] at hB
            injection hB with hB
            subst hB
            cases hl
        · exact hr.sep j b B _ p (.row sv []) g hjb hB2 hb2 hl rfl hp h2 hpg (.inl hg)
    have hone : ∀ (c : C) (u : Value), (∀ b ∈ rowIds [c], b ∈ rds) → CRep E c u → CRep E' (frzC bl c) u := by
      intro c u hcr hc
      cases c with
      | sub b ver i j =>
        simp only [frzC]
        split
        · rename_i t e ver' l hb
          cases hver : Nat.beq ver ver' with
          | false => exact CRep.mono hx hc
          | true =>
            simp only [cond_true]
            have hver' := Nat.eq_of_beq_eq_true hver
            subst hver'
            have hin : b ∈ rds := hcr b (by simp [rowIds])
            have hb2 : bl2 b = some (.row t e ver l) := by rw [hag b hin]; exact hb
            have hrow : rowOf bl2 b ver e = some l := by simp [rowOf, hb2]
            obtain ⟨t', sv, xs, _, h1, h2, h4, h5⟩ := rowOf_get (blp := bl2) hblks (fun t e ver l h => by rw [hEbl]; exact h) hrow
            obtain ⟨_, sv2, svs2, hpl2, hcur⟩ := hc
            rw [h2] at hpl2
            injection hpl2 with hpl2
            injection hpl2 with hpl2 _
            subst hpl2
            obtain ⟨A, c, ys, q1, q2, q3, q4, q5⟩ := subRow_core ((hcur _ _ _ _ h1).2 rfl) h4 h5
            show DRep E'.w E'.ok (.slice e) ((l.take j).drop i) [u]
            rw [hEw', ← hEw]
            simp only [DRep]
            refine ⟨A, c, ys, by rw [q1], q2, q3, q4.mono fun x u hu => hu.mono (fun g h1 _ => ⟨hok g h1, rfl⟩), fun k v hk => ?_⟩
            obtain ⟨ad, r1, r2, r3⟩ := q5 k v hk
            exact ⟨ad, r1, hgo b t e ver l _ _ sv xs hin hb h2 h5 _ r2, r3⟩
        · exact CRep.mono hx hc
      | row b ver =>
        simp only [frzC]
        split
        · rename_i t e ver' l hb
          cases hver : Nat.beq ver ver' with
          | false => exact CRep.mono hx hc
          | true =>
            simp only [cond_true]
            have hver' := Nat.eq_of_beq_eq_true hver
            subst hver'
            have hin : b ∈ rds := hcr b (by simp [rowIds])
            have hb2 : bl2 b = some (.row t e ver l) := by rw [hag b hin]; exact hb
            have hrow : rowOf bl2 b ver e = some l := by simp [rowOf, hb2]
            obtain ⟨t', sv, xs, h1, h2, h3, h4, h5⟩ := rowOf_rep (blp := bl2) hblks (fun t e ver l h => by rw [hEbl]; exact h) hrow hc
            subst h3
            have := ownsRow_rep (okp := E'.ok) hok (hgo b t e ver l _ _ u xs hin hb h2 h5) h4 h5
            show DRep E'.w E'.ok (.slice e) l [u]
            rw [hEw', ← hEw]
            exact this
        · exact CRep.mono hx hc
      | _ => exact CRep.mono hx hc
    have hall : ∀ (cs : List C) (us : List Value), (∀ b ∈ rowIds cs, b ∈ rds) → CReps E cs us → CReps E' (cs.map (frzC bl)) us := by
      intro cs
      induction cs with
      | nil => intro us _ h; exact h
      | cons c cs ih =>
        rintro us hc ⟨u, us', e, h1, h2⟩
        refine ⟨u, us', e, hone c u (fun b hb => hc b ?_) h1, ih us' (fun b hb => hc b (rowIds_cons_mem hb)) h2⟩
        have : rowIds (c :: cs) = rowIds [c] ++ rowIds cs := rowIds_append [c] cs
        rw [this]
        exact List.mem_append_left _ hb
    cases v with
    | c x => exact hone x u (fun b hb => hrows b (by simpa [rowsOfV, V.cells] using hb)) hv
    | agg cs =>
      obtain ⟨vs, h1, h2⟩ := hv
      exact ⟨vs, hall cs vs (fun b hb => hrows b (by simpa [rowsOfV, V.cells] using hb)) h1, h2⟩
    | _ => exact VRep.mono hx hv

/-- An operation after the freezing of rows. -/
theorem sound_frz {rds : List Nat} {ρ' : Operand → V} {kk : K β} (hρ : ∀ x ∈ o.op.operands, ρ' x = ρ x ∨ (ρ' x = frzV bl (ρ x) ∧ ∀ b ∈ rowsOfV [ρ x], b ∈ rds))
    (h : Sound P o ρ' (updL bl (killRows bl rds)) (fun v rd wr => kk v (rds ++ rd) (killRows bl rds ++ wr)) r) : Sound P o ρ bl kk r := by
  obtain ⟨v, rd, wr, hk, h⟩ := h
  refine ⟨v, rds ++ rd, killRows bl rds ++ wr, hk, fun bl2 hb2 => ?_⟩
  have hag : ∀ b ∈ rds, bl2 b = bl b := fun b hb => hb2 b (List.mem_append_left _ hb)
  have hrd : ∀ b ∈ rd, updL bl2 (killRows bl rds) b = updL bl (killRows bl rds) b := fun b hb => by
    by_cases hm : b ∈ wids (killRows bl rds)
    · exact updL_mem hm
    · rw [updL_other hm, updL_other hm]
      exact hb2 b (List.mem_append_right _ hb)
  intro ok0 base pl w a hr hx K Q hK
  obtain ⟨h1, h2, h3⟩ := freeze (bl := bl) hr rds hag
  refine h _ hrd ok0 base pl w a h1 (fun x hxo => ?_) K Q fun val pl' w' k1 k2 k3 => ?_
  · rcases hρ x hxo with e | ⟨e, hsub⟩
    · rw [e]; exact VRep.mono h2.ext (hx x hxo)
    · rw [e]; exact h3 _ _ hsub (hx x hxo)
  · rw [updL_append] at hK
    exact hK val pl' w' k1 (h2.trans k2) k3

theorem rowsOfV_mem : ∀ {vs : List V} {v : V}, v ∈ vs → ∀ b ∈ rowsOfV [v], b ∈ rowsOfV vs
  | [], _, h => by simp at h
  | u :: us, v, h => by
    intro b hb
    have hrow : ∀ (u : V) (us : List V), rowsOfV (u :: us) = rowsOfV [u] ++ rowsOfV us := by
      intro u us
      simp only [rowsOfV]
      split <;> simp
    rw [hrow]
    rcases List.mem_cons.1 h with rfl | h
    · exact List.mem_append_left _ hb
    · exact List.mem_append_right _ (rowsOfV_mem h b hb)

theorem sound_frzAll {xs : List Operand} {kk : K β} {run : (Nat → Option Blk) → K β → Option β} (hops : ∀ x ∈ o.op.operands, x ∈ xs) (hk : frzRun bl (rowsOfV (xs.map ρ)) run kk = some r)
    (h : ∀ (bl' : Nat → Option Blk) (kk' : K β), run bl' kk' = some r → Sound P o (fun x => frzV bl (ρ x)) bl' kk' r) : Sound P o ρ bl kk r := by
  unfold frzRun at hk
  rw [over_eq] at hk
  exact sound_frz (rds := rowsOfV (xs.map ρ)) (ρ' := fun x => frzV bl (ρ x)) (fun x hx => .inr ⟨rfl, rowsOfV_mem (List.mem_map.2 ⟨x, hops x hx, rfl⟩)⟩) (h _ _ hk)

/-- An array's element. -/
theorem sound_indexArr {T : TypeId → Option TI} (hT : TOk P T) {kk : K β} {t : TypeId} {x y : Operand} (ho : o.op = .index t x y) {ti : TI} (ht : T t = some ti) {cs : List C} (hx : ρ x = .agg cs) {k : IntKind} {i : Int} (hy : ival (ρ y) = some (k, i))
    (hk : indexArrRun T ti cs i kk = some r) : Sound P o ρ bl kk r := by
  obtain ⟨inf, d, z, f⟩ := hT.facts ht
  unfold indexArrRun at hk
  split at hk
  · rename_i et n hel hal
    have := array_type f hel hal
    subst this
    split at hk
    · rename_i te hte
      obtain ⟨i', d', z', fe⟩ := hT.facts hte
      split at hk
      · rename_i e hety
        split at hk
        · rename_i l hl
          cases hs : (Nat.beq e.size te.size && (te.agg || Nat.beq te.size 1)) with
          | false => rw [hs] at hk; cases hk
          | true =>
            simp only [hs, cond_true] at hk
            obtain ⟨hs1, hs2⟩ := andB hs
            have hs1 := Nat.eq_of_beq_eq_true hs1
            obtain ⟨hc, hk⟩ := given_some hk
            obtain ⟨hc1, hc2⟩ := andB hc
            have hc1 := of_decide_eq_true hc1
            have hc2 := of_decide_eq_true hc2
            refine Sound.pure hk fun bl2 _ ok0 base pl w a hr hxs => ?_
            have hx1 := hxs x (by simp [ho, Op.operands])
            have hy1 := hxs y (by simp [ho, Op.operands])
            rw [hx] at hx1
            rw [ival_some hy] at hy1
            have hy2 : a.eval y = .int k i := hy1
            obtain ⟨vs, hvs, hav⟩ := hx1
            have hav : a.eval x = .agg vs.toArray := hav
            obtain ⟨hd, hll⟩ := packs_rep hr.blksOk (Rows.none _ _) hvs hl
            obtain ⟨u, p, q, hpq, hp, hde⟩ := DList.get e.dflt hd (i := i.toNat) (by omega)
            have hul := hde.length
            have hvl : vs.length = n * e.size := by
              have := DList.length hd
              rw [this, hll]
            have hin : i < (n : Int) := by omega
            have hag := run_isAgg fe w
            cases hagg : te.agg with
            | true =>
              rw [hagg] at hag
              refine ⟨.agg u.toArray, ?_, VRep.mk ⟨u, cells_rep hde, by simp⟩⟩
              have hext : List.take te.size (List.drop (i.toNat * te.size) vs) = u := by
                rw [hpq, ← hs1, ← hp, ← hul]
                simp
              simp [execOp, ho, hav, hy2, Instr.index, asIntOf, run_underlying f.under, hc1, hin, part, hag, run_sizeOf fe, hext]
            | false =>
              rw [hagg] at hag hs2
              have hone : te.size = 1 := Nat.eq_of_beq_eq_true (by simpa using hs2)
              have hu1 : u.length = 1 := by omega
              match u, hu1 with
              | [u0], _ =>
                refine ⟨u0, ?_, VRep.mk ⟨[u0], cells_rep hde, by simp⟩⟩
                have hget : vs[i.toNat * te.size]? = some u0 := by
                  rw [hpq, ← hs1, ← hp]
                  simp
                simp [execOp, ho, hav, hy2, Instr.index, asIntOf, run_underlying f.under, hc1, hin, part, hag, run_sizeOf fe, hget]
        · cases hk
      · cases hk
    · cases hk
  · cases hk
end
end Go.Lift
