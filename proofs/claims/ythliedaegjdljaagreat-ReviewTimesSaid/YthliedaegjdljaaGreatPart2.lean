/- Part2: LiftMf, LiftN, LiftO, LiftP, LiftQ, LiftR, LiftS, LiftT, LiftU, LiftV, LiftW, LiftX. -/
import Derived.LoopN
import Derived.KernelRfl
import Derived.Below
import Derived.IntWalk
import Derived.Deep.Slices
import Derived.Deep.Fields
import Derived.ChangeSame
import Derived.OpenShut
import Derived.WalkKit
import Derived.ProofKit
import Derived.Test.YthliedaegjdljaaGreatPart1
set_option linter.unusedVariables false
set_option linter.unusedSimpArgs false
namespace Go.Lift
open Go.RowKit
theorem over_eq : ∀ (l : List (Nat × Blk)) (bl : Nat → Option Blk), over_ bl l = updL bl l
 | [], _ => rfl
 | (j, x) :: r, bl => by
  funext i
  simp only [over_, updL]
  rw [over_eq r]
  congr 1
  funext k
  simp only [upd]
  by_cases h : k = j
  ·subst h; simp
  ·simp [beq_ne h, h]
theorem killRows_mem {bl : Nat → Option Blk} : ∀ {rds : List Nat} {p : Nat × Blk}, p ∈ killRows bl rds → p.2 = .dead ∧ p.1 ∈ rds ∧ ∃ t e ver l, bl p.1 = some (.row t e ver l)
 | [], p, h => by simp [killRows] at h
 | b :: r, p, h => by
  simp only [killRows] at h
  split at h
  ·rename_i t e ver l hb
   rcases List.mem_cons.1 h with rfl | h
   ·exact ⟨rfl, by simp, t, e, ver, l, hb⟩
   ·obtain ⟨h1, h2, h3⟩ := killRows_mem h
    exact ⟨h1, List.mem_cons_of_mem _ h2, h3⟩
  ·obtain ⟨h1, h2, h3⟩ := killRows_mem h
   exact ⟨h1, List.mem_cons_of_mem _ h2, h3⟩
theorem killRows_all {bl : Nat → Option Blk} : ∀ {rds : List Nat} {b : Nat} {t : TypeId} {e : Ty} {ver : Nat} {l : List e.den}, b ∈ rds → bl b = some (.row t e ver l) → (b, Blk.dead) ∈ killRows bl rds
 | [], b, _, _, _, _, h, _ => by simp at h
 | c :: r, b, t, e, ver, l, h, hb => by
  simp only [killRows]
  rcases List.mem_cons.1 h with rfl | h
  ·rw [hb]; exact List.mem_cons_self
  ·have := killRows_all (rds := r) h hb
   split
   ·exact List.mem_cons_of_mem _ this
   ·exact this
theorem updL_other : ∀ {wr : List (Nat × Blk)} {bl : Nat → Option Blk} {b : Nat}, b ∉ wids wr → updL bl wr b = bl b
 | [], _, _, _ => rfl
 | (i, x) :: r, bl, b, h => by
  simp only [wids, List.mem_cons, not_or] at h
  rw [updL, updL_other h.2]
  simp [upd, h.1]
theorem updL_mem : ∀ {wr : List (Nat × Blk)} {bl bl' : Nat → Option Blk} {b : Nat}, b ∈ wids wr → updL bl wr b = updL bl' wr b
 | [], _, _, _, h => by simp [wids] at h
 | (i, x) :: r, bl, bl', b, h => by
  simp only [updL]
  by_cases hr : b ∈ wids r
  ·exact updL_mem hr
  ·rw [updL_other hr, updL_other hr]
   have hbi : b = i := by
    simp only [wids, List.mem_cons] at h
    exact h.resolve_right hr
   simp [upd, hbi]
section
variable {P : Program} {o : Oper} {ρ : Operand → V} {bl : Nat → Option Blk} {β : Type} {r : β}
theorem freeze {ok0 : OK0 P} {base : Nat} {pl : Nat → Option Pl} {bl2 : Nat → Option Blk} {w : World} (hr : RelB ok0 base pl bl2 w) (rds : List Nat) (hag : ∀ b ∈ rds, bl2 b = bl b) :
  RelB ok0 base pl (updL bl2 (killRows bl rds)) w ∧ Step pl bl2 w pl (updL bl2 (killRows bl rds)) w ∧
   ∀ (v : V) (u : Value), (∀ b ∈ rowsOfV [v], b ∈ rds) → VRep (envOf ok0 base pl bl2 w) v u → VRep (envOf ok0 base pl (updL bl2 (killRows bl rds)) w) (frzV bl v) u := by
 have hkl : ∀ p ∈ killRows bl rds, p.2 = Blk.dead ∧ p.1 ∈ rds ∧ ∃ t e ver l, bl2 p.1 = some (.row t e ver l) := fun p hp => by
  obtain ⟨h1, h2, t, e, ver, l, h3⟩ := killRows_mem hp
  exact ⟨h1, h2, t, e, ver, l, by rw [hag _ h2]; exact h3⟩
 generalize hkills : killRows bl rds = kills at *
 have hblk : ∀ i, updL bl2 kills i = bl2 i ∨ (updL bl2 kills i = some .dead ∧ ∃ t e ver l, bl2 i = some (.row t e ver l)) := fun i => by
  rcases updL_dead (l := kills) (f := bl2) i (fun p hp => (hkl p hp).1) with ⟨h1, _⟩ | ⟨h1, p, hp, h2⟩
  ·exact .inl h1
  ·have := hkl p hp
   rw [h2] at this
   exact .inr ⟨h1, this.2.2⟩
 have hblkL : ∀ i B, updL bl2 kills i = some B → B.live = true → bl2 i = some B := fun i B hB hl => by
  rcases hblk i with h | ⟨h, _⟩
  ·rw [← h]; exact hB
  ·rw [h] at hB
   injection hB with hB
   subst hB
   cases hl
 have hown : ∀ g, Own pl (updL bl2 kills) g → Own pl bl2 g := fun g ⟨i, B, p, hB, hl, hp, hg⟩ => ⟨i, B, p, hblkL i B hB hl, hl, hp, hg⟩
 have hs : Step pl bl2 w pl (updL bl2 kills) w := ⟨rfl, rfl, rfl, Nat.le_refl _, fun g _ ho => ⟨rfl, fun h => ho (hown g h)⟩, fun _ _ h => h,
  fun b sv svs hb => ⟨sv, svs, hb, KeepR.of_live (fun C h hC => hblkL b _ h (by cases C <;> first | rfl | exact absurd rfl hC)) _ _⟩⟩
 refine ⟨⟨hr.baseLe, fun i B hB => ?_, fun i j B C p q g hij hB hC hlB hlC hp hq hg => ?_, fun i hi => ?_, hr.glob.mono hown⟩, hs, fun v u hrows hv => ?_⟩
 ·cases hl : B.live with
  | false =>
   have hex : ∃ B0, bl2 i = some B0 := by
    rcases hblk i with h | ⟨_, t, e, ver, l, h⟩
    ·exact ⟨B, by rw [← h]; exact hB⟩
    ·exact ⟨_, h⟩
   obtain ⟨B0, hB0⟩ := hex
   obtain ⟨p, hp, _⟩ := hr.blks i B0 hB0
   refine ⟨p, hp, ?_⟩
   cases B <;> first | exact trivial | simp [Blk.live] at hl
  | true =>
   obtain ⟨p, hp, hR⟩ := hr.blks i B (hblkL i B hB hl)
   exact ⟨p, hp, BRep.mono hs.ext hR fun _ _ => rfl⟩
 ·exact hr.sep i j B C p q g hij (hblkL i B hB hlB) (hblkL j C hC hlC) hlB hlC hp hq hg
 ·rcases hblk i with h | ⟨h, _⟩
  ·exact hr.fresh i (by rw [← h]; exact hi)
  ·rw [h] at hi; cases hi
 ·
  generalize hE : envOf ok0 base pl bl2 w = E at hv
  generalize hE' : envOf ok0 base pl (updL bl2 kills) w = E'
  have hx : Ext E E' := by rw [← hE, ← hE']; exact hs.ext
  have hblks : BlksOk E := by rw [← hE]; exact hr.blksOk
  have hEbl : E.bl = bl2 := by rw [← hE]; rfl
  have hEpl : E.pl = pl := by rw [← hE]; rfl
  have hEw : E.w = w := by rw [← hE]; rfl
  have hEw' : E'.w = w := by rw [← hE']; rfl
  have hEok : E.ok = fun g => (ok0 g ∨ base ≤ g) ∧ ¬ Own pl bl2 g := by rw [← hE]; rfl
  have hEok' : E'.ok = fun g => (ok0 g ∨ base ≤ g) ∧ ¬ Own pl (updL bl2 kills) g := by rw [← hE']; rfl
  have hok : ∀ g, E.ok g → E'.ok g := fun g hg => by
   rw [hEok] at hg
   rw [hEok']
   exact ⟨hg.1, fun h => hg.2 (hown g h)⟩
  have hgo : ∀ (b : Nat) (t : TypeId) (e : Ty) (ver : Nat) (l : List e.den) (t' : TypeId) (n : Nat) (sv : Value) (xs : List Value), b ∈ rds → bl b = some (.row t e ver l) → E.pl b = some (.row sv []) → E.w.ownsRow E.base t' n sv l.length xs → ∀ g, sv.ownBlock = some g → E'.ok g := by
   intro b t e ver l t' n sv xs hin hb h2 h5 g hg
   have hb2 : bl2 b = some (.row t e ver l) := by rw [hag b hin]; exact hb
   rw [hEok']
   refine ⟨.inr ?_, fun ho => ?_⟩
   ·have hbase : base = E.base := by rw [← hE]; rfl
    rcases h5.2 with ⟨q1, _⟩ | ⟨g', cap, cur, q1, q2, _⟩
    ·rw [q1] at hg; simp [Value.ownBlock] at hg
    ·rw [q1] at hg
     simp only [Value.ownBlock, Option.some.injEq] at hg
     subst hg
     rw [hbase]
     exact q2
   ·obtain ⟨j, B, p, hB, hl, hp, hpg⟩ := ho
    have hB2 := hblkL j B hB hl
    rw [hEpl] at h2
    by_cases hjb : j = b
    ·subst hjb
     have hmem : (j, Blk.dead) ∈ kills := by rw [← hkills]; exact killRows_all hin hb
     rcases updL_dead (l := kills) (f := bl2) j (fun p hp => (hkl p hp).1) with ⟨_, q⟩ | ⟨q, _⟩
     ·exact q _ hmem rfl
     ·rw [q] at hB
      injection hB with hB
      subst hB
      cases hl
    ·exact hr.sep j b B _ p (.row sv []) g hjb hB2 hb2 hl rfl hp h2 hpg (.inl hg)
  have hone : ∀ (c : C) (u : Value), (∀ b ∈ rowIds [c], b ∈ rds) → CRep E c u → CRep E' (frzC bl c) u := by
   intro c u hcr hc
   cases c with
   | sub b ver i j =>
    simp only [frzC]
    split
    ·rename_i t e ver' l hb
     cases hver : Nat.beq ver ver' with
     | false => exact CRep.mono hx hc
     | true =>
      simp only [cond_true]
      have hver' := Nat.eq_of_beq_eq_true hver
      subst hver'
      have hin : b ∈ rds := hcr b (by simp [rowIds])
      have hb2 : bl2 b = some (.row t e ver l) := by rw [hag b hin]; exact hb
      have hrow : rowOf bl2 b ver e = some l := by simp [rowOf, hb2]
      obtain ⟨t', sv, xs, _, h1, h2, h4, h5⟩ := rowOf_get (blp := bl2) hblks (fun t e ver l h => by rw [hEbl]; exact h) hrow
      obtain ⟨_, sv2, svs2, hpl2, hcur⟩ := hc
      rw [h2] at hpl2
      injection hpl2 with hpl2
      injection hpl2 with hpl2 _
      subst hpl2
      obtain ⟨A, c, ys, q1, q2, q3, q4, q5⟩ := subRow_core ((hcur _ _ _ _ h1).2 rfl) h4 h5
      show DRep E'.w E'.ok (.slice e) ((l.take j).drop i) [u]
      rw [hEw', ← hEw]
      simp only [DRep]
      refine ⟨A, c, ys, by rw [q1], q2, q3, q4.mono fun x u hu => hu.mono (fun g h1 _ => ⟨hok g h1, rfl⟩), fun k v hk => ?_⟩
      obtain ⟨ad, r1, r2, r3⟩ := q5 k v hk
      exact ⟨ad, r1, hgo b t e ver l _ _ sv xs hin hb h2 h5 _ r2, r3⟩
    ·exact CRep.mono hx hc
   | row b ver =>
    simp only [frzC]
    split
    ·rename_i t e ver' l hb
     cases hver : Nat.beq ver ver' with
     | false => exact CRep.mono hx hc
     | true =>
      simp only [cond_true]
      have hver' := Nat.eq_of_beq_eq_true hver
      subst hver'
      have hin : b ∈ rds := hcr b (by simp [rowIds])
      have hb2 : bl2 b = some (.row t e ver l) := by rw [hag b hin]; exact hb
      have hrow : rowOf bl2 b ver e = some l := by simp [rowOf, hb2]
      obtain ⟨t', sv, xs, h1, h2, h3, h4, h5⟩ := rowOf_rep (blp := bl2) hblks (fun t e ver l h => by rw [hEbl]; exact h) hrow hc
      subst h3
      have := ownsRow_rep (okp := E'.ok) hok (hgo b t e ver l _ _ u xs hin hb h2 h5) h4 h5
      show DRep E'.w E'.ok (.slice e) l [u]
      rw [hEw', ← hEw]
      exact this
    ·exact CRep.mono hx hc
   | _ => exact CRep.mono hx hc
  have hall : ∀ (cs : List C) (us : List Value), (∀ b ∈ rowIds cs, b ∈ rds) → CReps E cs us → CReps E' (cs.map (frzC bl)) us := by
   intro cs
   induction cs with
   | nil => intro us _ h; exact h
   | cons c cs ih =>
    rintro us hc ⟨u, us', e, h1, h2⟩
    refine ⟨u, us', e, hone c u (fun b hb => hc b ?_) h1, ih us' (fun b hb => hc b (rowIds_cons_mem hb)) h2⟩
    have : rowIds (c :: cs) = rowIds [c] ++ rowIds cs := rowIds_append [c] cs
    rw [this]
    exact List.mem_append_left _ hb
  cases v with
  | c x => exact hone x u (fun b hb => hrows b (by simpa [rowsOfV, V.cells] using hb)) hv
  | agg cs =>
   obtain ⟨vs, h1, h2⟩ := hv
   exact ⟨vs, hall cs vs (fun b hb => hrows b (by simpa [rowsOfV, V.cells] using hb)) h1, h2⟩
  | _ => exact VRep.mono hx hv
theorem sound_frz {rds : List Nat} {ρ' : Operand → V} {kk : K β} (hρ : ∀ x ∈ o.op.operands, ρ' x = ρ x ∨ (ρ' x = frzV bl (ρ x) ∧ ∀ b ∈ rowsOfV [ρ x], b ∈ rds))
  (h : Sound P o ρ' (updL bl (killRows bl rds)) (fun v rd wr => kk v (rds ++ rd) (killRows bl rds ++ wr)) r) : Sound P o ρ bl kk r := by
 obtain ⟨v, rd, wr, hk, h⟩ := h
 refine ⟨v, rds ++ rd, killRows bl rds ++ wr, hk, fun bl2 hb2 => ?_⟩
 have hag : ∀ b ∈ rds, bl2 b = bl b := fun b hb => hb2 b (List.mem_append_left _ hb)
 have hrd : ∀ b ∈ rd, updL bl2 (killRows bl rds) b = updL bl (killRows bl rds) b := fun b hb => by
  by_cases hm : b ∈ wids (killRows bl rds)
  ·exact updL_mem hm
  ·rw [updL_other hm, updL_other hm]
   exact hb2 b (List.mem_append_right _ hb)
 intro ok0 base pl w a hr hx K Q hK
 obtain ⟨h1, h2, h3⟩ := freeze (bl := bl) hr rds hag
 refine h _ hrd ok0 base pl w a h1 (fun x hxo => ?_) K Q fun val pl' w' k1 k2 k3 => ?_
 ·rcases hρ x hxo with e | ⟨e, hsub⟩
  ·rw [e]; exact VRep.mono h2.ext (hx x hxo)
  ·rw [e]; exact h3 _ _ hsub (hx x hxo)
 ·rw [updL_append] at hK
  exact hK val pl' w' k1 (h2.trans k2) k3
theorem rowsOfV_mem : ∀ {vs : List V} {v : V}, v ∈ vs → ∀ b ∈ rowsOfV [v], b ∈ rowsOfV vs
 | [], _, h => by simp at h
 | u :: us, v, h => by
  intro b hb
  have hrow : ∀ (u : V) (us : List V), rowsOfV (u :: us) = rowsOfV [u] ++ rowsOfV us := by
   intro u us
   simp only [rowsOfV]
   split <;> simp
  rw [hrow]
  rcases List.mem_cons.1 h with rfl | h
  ·exact List.mem_append_left _ hb
  ·exact List.mem_append_right _ (rowsOfV_mem h b hb)
theorem sound_frzAll {xs : List Operand} {kk : K β} {run : (Nat → Option Blk) → K β → Option β} (hops : ∀ x ∈ o.op.operands, x ∈ xs) (hk : frzRun bl (rowsOfV (xs.map ρ)) run kk = some r)
  (h : ∀ (bl' : Nat → Option Blk) (kk' : K β), run bl' kk' = some r → Sound P o (fun x => frzV bl (ρ x)) bl' kk' r) : Sound P o ρ bl kk r := by
 unfold frzRun at hk
 rw [over_eq] at hk
 exact sound_frz (rds := rowsOfV (xs.map ρ)) (ρ' := fun x => frzV bl (ρ x)) (fun x hx => .inr ⟨rfl, rowsOfV_mem (List.mem_map.2 ⟨x, hops x hx, rfl⟩)⟩) (h _ _ hk)
theorem frzAt_rep {E E' : Env} {rds : List Nat} (hx : Ext E E') (h : ∀ (c : C) (u : Value), (∀ b ∈ rowIds [c], b ∈ rds) → CRep E c u → CRep E' (frzC bl c) u) : ∀ (i : Nat) (ps : List Nat) {cs : List C} {vs : List Value}, (∀ b ∈ rowsAt i ps cs, b ∈ rds) → CReps E cs vs → CReps E' (frzAt bl i ps cs) vs
 | _, _, [], _, _, hc => hc
 | i, ps, c :: cs, _, hr, ⟨u, us, e, h1, h2⟩ => by
  cases hm : memB i ps with
  | true =>
   have hr' : ∀ b ∈ rowIds [c] ++ rowsAt (i + 1) ps cs, b ∈ rds := by simpa [rowsAt, hm] using hr
   refine ⟨u, us, e, ?_, frzAt_rep hx h (i + 1) ps (fun b hb => hr' b (List.mem_append_right _ hb)) h2⟩
   rw [hm]
   exact h c u (fun b hb => hr' b (List.mem_append_left _ hb)) h1
  | false =>
   have hr' : ∀ b ∈ rowsAt (i + 1) ps cs, b ∈ rds := by simpa [rowsAt, hm] using hr
   refine ⟨u, us, e, ?_, frzAt_rep hx h (i + 1) ps hr' h2⟩
   rw [hm]
   exact CRep.mono hx h1
theorem sound_frzBlk {b : Nat} {t0 : TypeId} {ps : List Nat} {cs : List C} {kk : K β} (hb : bl b = some (.cells t0 cs))
  (h : Sound P o ρ (updL (updL bl (killRows bl (rowsAt 0 ps cs))) [(b, .cells t0 (frzAt bl 0 ps cs))]) (fun v rd wr => kk v (rowsAt 0 ps cs ++ (b :: rd)) (killRows bl (rowsAt 0 ps cs) ++ ((b, .cells t0 (frzAt bl 0 ps cs)) :: wr))) r) : Sound P o ρ bl kk r := by
 obtain ⟨v, rd, wr, hk, h⟩ := h
 refine ⟨v, rowsAt 0 ps cs ++ (b :: rd), _, hk, fun bl2 hb2 => ?_⟩
 have hag : ∀ i ∈ rowsAt 0 ps cs, bl2 i = bl i := fun i hi => hb2 i (List.mem_append_left _ hi)
 have hbb : bl2 b = some (.cells t0 cs) := (hb2 b (by simp)).trans hb
 have hbk : b ∉ wids (killRows bl (rowsAt 0 ps cs)) := fun hm => by
  have : ∀ (l : List (Nat × Blk)), b ∈ wids l → ∃ x, (b, x) ∈ l := by
   intro l
   induction l with
   | nil => intro h; simp [wids] at h
   | cons p l ih =>
    intro h
    simp only [wids, List.mem_cons] at h
    rcases h with rfl | h
    ·exact ⟨p.2, by simp⟩
    ·obtain ⟨x, hx⟩ := ih h
     exact ⟨x, List.mem_cons_of_mem _ hx⟩
  obtain ⟨x, hx⟩ := this _ hm
  obtain ⟨_, _, t, e, ver, l, h3⟩ := killRows_mem hx
  rw [show bl b = _ from h3] at hb
  cases hb
 have hrd : ∀ i ∈ rd, updL (updL bl2 (killRows bl (rowsAt 0 ps cs))) [(b, Blk.cells t0 (frzAt bl 0 ps cs))] i = updL (updL bl (killRows bl (rowsAt 0 ps cs))) [(b, Blk.cells t0 (frzAt bl 0 ps cs))] i := fun i hi => by
  simp only [updL, upd]
  by_cases hib : i = b
  ·simp [hib]
  ·simp only [hib, if_false]
   by_cases hm : i ∈ wids (killRows bl (rowsAt 0 ps cs))
   ·exact updL_mem hm
   ·rw [updL_other hm, updL_other hm]
    exact hb2 i (by simp [hi])
 intro ok0 base pl w a hr hx K Q hK
 obtain ⟨h1, h2, h3⟩ := freeze (bl := bl) hr (rowsAt 0 ps cs) hag
 obtain ⟨p, hp, hB⟩ := hr.blks b _ hbb
 cases p with
 | row _ _ => exact hB.elim
 | cells g =>
  obtain ⟨vs, hh, hcs⟩ := hB
  have hcs' := frzAt_rep (bl := bl) h2.ext (rds := rowsAt 0 ps cs) (fun c u hc h => h3 (.c c) u (fun b hb => hc b (by simpa [rowsOfV, V.cells] using hb)) h) 0 ps (fun _ h => h) hcs
  have hb1 : updL bl2 (killRows bl (rowsAt 0 ps cs)) b = some (.cells t0 cs) := (updL_other hbk).trans hbb
  rw [updL_append] at hK
  generalize updL bl2 (killRows bl (rowsAt 0 ps cs)) = bl1 at *
  have hpl : upd pl b (.cells g) = pl := by
   funext j
   simp only [upd]
   split
   ·rename_i h; rw [h]; exact hp.symm
   ·rfl
  have hstep : Step pl bl1 w (upd pl b (.cells g)) (upd bl1 b (.cells t0 (frzAt bl 0 ps cs))) w := by
   rw [hpl]
   refine ⟨rfl, rfl, rfl, Nat.le_refl _, fun g' _ ho => ⟨rfl, ?_⟩, fun _ _ h => h, fun b' sv svs hb' => ⟨sv, svs, hb', ?_⟩⟩
   ·rintro ⟨j, C, q, hC, hl, hq, hqg⟩
    by_cases hj : j = b
    ·subst hj
     exact ho ⟨j, _, q, hb1, rfl, hq, hqg⟩
    ·simp only [upd, hj, if_false] at hC
     exact ho ⟨j, C, q, hC, hl, hq, hqg⟩
   ·have hne : b' ≠ b := by rintro rfl; rw [hp] at hb'; cases hb'
    exact KeepR.of_eq (fun C hC => by simpa [upd, hne] using hC) _ _
  have hput := h1.put hstep (BRep.mono hstep.ext (B := .cells t0 (frzAt bl 0 ps cs)) (p := .cells g) ⟨vs, hh, hcs'⟩ fun _ _ => rfl) fun j C q g' hj hC hl hq hqg => ⟨rfl, fun hpg => h1.sep j b C _ q _ g' hj hC hb1 hl rfl hq hp hqg hpg⟩
  rw [hpl] at hput hstep
  refine h _ hrd ok0 base pl w a hput (fun x hxo => VRep.mono (h2.trans hstep).ext (hx x hxo)) K Q fun val pl' w' k1 k2 k3 => ?_
  exact hK val pl' w' k1 ((h2.trans hstep).trans k2) k3
theorem sound_loadFrz {T : TypeId → Option TI} (hT : TOk P T) {kk : K β} {t : TypeId} {ps : List Nat} {x : Operand} (ho : o.op = .load t x) (hk : loadFrzRun T bl t ps (ρ x) kk = some r) : Sound P o ρ bl kk r := by
 unfold loadFrzRun at hk
 split at hk
 ·rename_i b of hx
  split at hk
  ·rename_i t0 cs hb
   rw [over_eq, over_eq] at hk
   rw [← hx] at hk
   exact sound_frzBlk hb (sound_load hT ho hk)
  ·cases hk
 ·exact sound_load hT ho hk
theorem sound_indexArr {T : TypeId → Option TI} (hT : TOk P T) {kk : K β} {t : TypeId} {x y : Operand} (ho : o.op = .index t x y) {ti : TI} (ht : T t = some ti) {cs : List C} (hx : ρ x = .agg cs) {k : IntKind} {i : Int} (hy : ival (ρ y) = some (k, i))
  (hk : indexArrRun T ti cs i kk = some r) : Sound P o ρ bl kk r := by
 obtain ⟨inf, d, z, f⟩ := hT.facts ht
 unfold indexArrRun at hk
 split at hk
 ·rename_i et n hel hal
  have := array_type f hel hal
  subst this
  split at hk
  ·rename_i te hte
   obtain ⟨i', d', z', fe⟩ := hT.facts hte
   split at hk
   ·rename_i e hety
    split at hk
    ·rename_i l hl
     cases hs : (Nat.beq e.size te.size && (te.agg || Nat.beq te.size 1)) with
     | false => rw [hs] at hk; cases hk
     | true =>
      simp only [hs, cond_true] at hk
      obtain ⟨hs1, hs2⟩ := andB hs
      have hs1 := Nat.eq_of_beq_eq_true hs1
      obtain ⟨hc, hk⟩ := given_some hk
      obtain ⟨hc1, hc2⟩ := andB hc
      have hc1 := of_decide_eq_true hc1
      have hc2 := of_decide_eq_true hc2
      refine Sound.pure hk fun bl2 _ ok0 base pl w a hr hxs => ?_
      have hx1 := hxs x (by simp [ho, Op.operands])
      have hy1 := hxs y (by simp [ho, Op.operands])
      rw [hx] at hx1
      rw [ival_some hy] at hy1
      have hy2 : a.eval y = .int k i := hy1
      obtain ⟨vs, hvs, hav⟩ := hx1
      have hav : a.eval x = .agg vs.toArray := hav
      obtain ⟨hd, hll⟩ := packs_rep hr.blksOk (Rows.none _ _) hvs hl
      obtain ⟨u, p, q, hpq, hp, hde⟩ := DList.get e.dflt hd (i := i.toNat) (by omega)
      have hul := hde.length
      have hvl : vs.length = n * e.size := by
       have := DList.length hd
       rw [this, hll]
      have hin : i < (n : Int) := by omega
      have hag := run_isAgg fe w
      cases hagg : te.agg with
      | true =>
       rw [hagg] at hag
       refine ⟨.agg u.toArray, ?_, VRep.mk ⟨u, cells_rep hde, by simp⟩⟩
       have hext : List.take te.size (List.drop (i.toNat * te.size) vs) = u := by
        rw [hpq, ← hs1, ← hp, ← hul]
        simp
       simp [execOp, ho, hav, hy2, Instr.index, asIntOf, run_underlying f.under, hc1, hin, part, hag, run_sizeOf fe, hext]
      | false =>
       rw [hagg] at hag hs2
       have hone : te.size = 1 := Nat.eq_of_beq_eq_true (by simpa using hs2)
       have hu1 : u.length = 1 := by omega
       match u, hu1 with
       | [u0], _ =>
        refine ⟨u0, ?_, VRep.mk ⟨[u0], cells_rep hde, by simp⟩⟩
        have hget : vs[i.toNat * te.size]? = some u0 := by
         rw [hpq, ← hs1, ← hp]
         simp
        simp [execOp, ho, hav, hy2, Instr.index, asIntOf, run_underlying f.under, hc1, hin, part, hag, run_sizeOf fe, hget]
    ·cases hk
   ·cases hk
  ·cases hk
 ·cases hk
end
end Go.Lift
namespace Go.Lift
open Go.RowKit
section
variable {P : Program} {o : Oper} {ρ : Operand → V} {bl : Nat → Option Blk} {β : Type} {r : β}
theorem vreps_map {E : Env} {a : Act} : ∀ {xs : List Operand}, (∀ x ∈ xs, VRep E (ρ x) (a.eval x)) → VReps E (xs.map ρ) (xs.map a.eval)
 | [], _ => rfl
 | x :: xs, h => ⟨_, _, rfl, h x (by simp), vreps_map fun y hy => h y (by simp [hy])⟩
theorem VReps.append {E : Env} : ∀ {vs us ws xs}, VReps E vs us → VReps E ws xs → VReps E (vs ++ ws) (us ++ xs)
 | [], us, _, _, h, k => by have h' : us = [] := h; subst h'; exact k
 | _ :: _, _, _, _, ⟨u, us', e, h1, h2⟩, k => ⟨u, us' ++ _, by rw [e]; rfl, h1, VReps.append h2 k⟩
theorem caps_rep {E : Env} : ∀ {caps gs : List Nat}, caps.map E.pl = gs.map (fun g => some (.cells g)) → VReps E (caps.map fun b => .c (.ptr b 0)) (gs.map fun g => .pointer (some ⟨g, 0, none⟩))
 | [], gs, h => by cases gs with | nil => rfl | cons g gs => simp at h
 | b :: bs, gs, h => by
  cases gs with
  | nil => simp at h
  | cons g gs =>
   simp only [List.map_cons, List.cons.injEq] at h
   exact ⟨_, _, rfl, ⟨g, h.1, rfl⟩, caps_rep h.2⟩
theorem sound_callFn {X : Ctx} (hΓ : ΓOk P X.Γ) {kk : K β} {nx : Nat} {c : Call} (ho : o.op = .call c) {x : Operand} (hc : c.callee = .value x) {f : FuncId} {caps : List Nat} (hx : ρ x = .c (.fn f caps))
  (hk : callRun X bl nx f (c.args.toList.map ρ ++ caps.map fun b => .c (.ptr b 0)) kk = some r) : Sound P o ρ bl kk r := by
 refine sound_call hΓ hk fun bl2 ok0 base pl w a hr hxs => ?_
 have hv := hxs x (by simp [ho, Op.operands, Call.operands, hc])
 rw [hx] at hv
 obtain ⟨gs, hg, hv⟩ := hv
 refine ⟨c.args.toList.map a.eval ++ gs.map fun g => .pointer (some ⟨g, 0, none⟩), ?_, fun ⟨fn, h1, h2, h3⟩ => ?_⟩
 ·exact (vreps_map fun y hy => hxs y (by simp only [ho, Op.operands, Call.operands, Array.mem_append]; exact .inr (by simpa using hy))).append (caps_rep hg)
 ·have he : c.args.map a.eval ++ (gs.map fun g => Value.pointer (some ⟨g, 0, none⟩)).toArray = (c.args.toList.map a.eval ++ gs.map fun g => Value.pointer (some ⟨g, 0, none⟩)).toArray := by
   apply Array.ext'
   simp
  simp only [execOp, ho, resolve, hc, hv, Deferred.ofValue, Sem.run_bind, Sem.run_pure, Result.andThen_ok, invoke, callFunc, run_program, h1, h2, h3, Array.empty_append, Bool.false_eq_true, if_false, he]
theorem opRun_sound {X : Ctx} (hT : TOk P X.T) (hΓ : ΓOk P X.Γ) {kk : K β} {nx : Nat} (hk : opRun X o ρ bl nx kk = some r) : Sound P o ρ bl kk r := by
 unfold opRun at hk
 split at hk
 ·rename_i x ho
  cases hS : (X.S && isSubV (ρ x)) with
  | false => rw [hS, cond_false] at hk; exact sound_move (.inl ho) hk
  | true =>
   rw [hS, cond_true] at hk
   exact sound_frzAll (xs := [x]) (fun z hz => by simpa [ho, Op.operands] using hz) hk fun bl' kk' h => sound_move (ρ := fun x => frzV bl (ρ x)) (.inl ho) h
 ·rename_i x ho
  cases hD : (X.D && flatV bl (ρ x)) with
  | false => rw [hD, cond_false] at hk; exact sound_move (.inr ho) hk
  | true =>
   rw [hD, cond_true] at hk
   exact sound_frzAll (xs := [x]) (fun z hz => by simpa [ho, Op.operands] using hz) hk fun bl' kk' h => sound_move (ρ := fun x => frzV bl (ρ x)) (.inr ho) h
 ·rename_i c a b ho
  split at hk
  ·rename_i g hc; exact sound_pick ho hc hk
  ·cases hk
 ·rename_i t ho
  split at hk
  ·rename_i ti ht; exact sound_alloc hT ho ht hk
  ·cases hk
 ·rename_i t x ho
  split at hk
  ·rename_i cs hc; exact sound_box ho hc hk
  ·cases hk
 ·rename_i t parts ho
  split at hk
  ·rename_i ti ht
   cases hagg : ti.agg with
   | false => rw [hagg] at hk; cases hk
   | true =>
    simp only [hagg, cond_true] at hk
    split at hk
    ·rename_i ps hps
     split at hk
     ·rename_i cs hcs; exact sound_build hT ho ht hagg hps hcs hk
     ·cases hk
    ·cases hk
  ·cases hk
 ·rename_i t n parts ho
  cases hM : (X.M && isMatT X.T t) with
  | true => rw [hM, cond_true] at hk; exact sound_buildMat hT ho hk
  | false =>
  rw [hM, cond_false] at hk
  refine sound_frzAll (xs := parts.toList.map (·.2)) (fun x hx => by simpa [ho, Op.operands] using hx) (by rw [List.map_map]; exact hk) fun bl' kk' h => ?_
  exact sound_buildSlice (ρ := fun x => frzV bl (ρ x)) hT ho h
 ·rename_i t a ho
  split at hk
  ·exact sound_loadFrz hT ho hk
  ·exact sound_load hT ho hk
 ·rename_i t a x ho
  split at hk
  ·exact sound_frzAll (xs := [a, x]) (fun y hy => by simpa [ho, Op.operands] using hy) hk fun bl' kk' h => sound_store (ρ := fun x => frzV bl (ρ x)) hT ho h
  ·cases hD : (X.D && isAggV2 (ρ x)) with
   | false => rw [hD, cond_false] at hk; exact sound_store hT ho hk
   | true => rw [hD, cond_true] at hk; exact sound_frzAll (xs := [a, x]) (fun y hy => by simpa [ho, Op.operands] using hy) hk fun bl' kk' h => sound_store (ρ := fun x => frzV bl (ρ x)) hT ho h
 ·rename_i x ho
  split at hk
  ·rename_i b of hx; exact sound_nilCheck ho (.inl ⟨b, of, hx⟩) (by rw [hx]; exact hk)
  ·rename_i b ver i of hx; exact sound_nilCheck ho (.inr (.inl ⟨b, ver, i, of, hx⟩)) (by rw [hx]; exact hk)
  ·rename_i e y of hx; exact sound_nilCheck ho (.inr (.inr (.inl ⟨e, y, of, hx⟩))) (by rw [hx]; exact hk)
  ·rename_i b ver i hx; exact sound_nilCheck ho (.inr (.inr (.inr (.inr (.inl ⟨b, ver, i, hx⟩))))) (by rw [hx]; exact hk)
  ·rename_i b ver i j of hx; exact sound_nilCheck ho (.inr (.inr (.inr (.inr (.inr ⟨b, ver, i, j, of, hx⟩))))) (by rw [hx]; exact hk)
  ·rename_i f caps hx; exact sound_nilCheck ho (.inr (.inr (.inr (.inl ⟨f, caps, hx⟩)))) (by rw [hx]; exact hk)
  ·cases hk
 ·rename_i op t x y t' ho; exact sound_binOp2 hT ho hk
 ·rename_i op t x ho
  split at hk
  ·rename_i b hx; exact sound_not ho hx hk
  ·rename_i k n hx; exact sound_neg ho hx hk
  ·cases hk
 ·rename_i s t x ho
  split at hk
  ·rename_i si ti k0 n hs ht hx
   split at hk
   ·rename_i k hkd; exact sound_convInt hT ho hs ht hx hkd hk
   ·cases hk
  ·rename_i si ti l hs ht hx
   cases hstr : ti.isStr with
   | false => rw [hstr] at hk; cases hk
   | true => simp only [hstr, cond_true] at hk; exact sound_convStr hT ho hs ht hx hstr hk
  ·rename_i si ti hs ht _ _; exact sound_bytes hT ho hs ht hk
  ·cases hk
 ·rename_i f first caps ho
  split at hk
  ·rename_i hf
   split at hk
   ·rename_i bs hb; exact sound_makeFunc ho hf hb hk
   ·cases hk
  ·cases hk
 ·rename_i t n c ho
  cases hM : (X.M && isMatT X.T t) with
  | true => rw [hM, cond_true] at hk; exact sound_makeMat hT ho hk
  | false => rw [hM, cond_false] at hk; exact sound_make hT ho hk
 ·rename_i t ho; exact sound_makeMap ho hk
 ·rename_i t x i commaOk ho; exact sound_lookup hT ho hk
 ·rename_i t x i y ho
  exact sound_frzAll (xs := [x, i, y]) (fun z hz => by simpa [ho, Op.operands] using hz) hk fun bl' kk' h => sound_update (ρ := fun x => frzV bl (ρ x)) hT ho h
 ·rename_i t x hi ho
  cases hR : (X.R && isRowC (ρ x)) with
  | true => rw [hR, cond_true] at hk; exact sound_cut hT ho hk
  | false => rw [hR, cond_false] at hk; exact sound_slice (lo := none) hT ho hk
 ·rename_i t x lo hi _ ho
  cases hS : (X.S && isRowC (ρ x)) with
  | false => rw [hS, cond_false] at hk; exact sound_slice hT ho hk
  | true =>
   rw [hS, cond_true] at hk
   exact sound_frzAll (xs := x :: (lo.toList ++ hi.toList)) (fun z hz => by cases lo <;> cases hi <;> simpa [ho, Op.operands] using hz) hk fun bl' kk' h => sound_slice (ρ := fun x => frzV bl (ρ x)) hT ho h
 ·rename_i t x f ho; exact sound_fieldAddr hT ho hk
 ·rename_i t x f ho
  split at hk
  ·rename_i ti cs ht hx
   split at hk
   ·rename_i off n g hf
    cases h1 : (g || Nat.beq n 1) with
    | false => rw [h1] at hk; cases hk
    | true =>
     simp only [h1, cond_true] at hk
     split at hk
     ·rename_i rc hs; exact sound_field hT ho ht hx hf h1 hs hk
     ·cases hk
   ·cases hk
  ·cases hk
 ·rename_i t x i ho; exact sound_indexAddr hT ho hk
 ·rename_i t x i ho
  split at hk
  ·rename_i ti s k j ht hx hi
   cases hstr : ti.isStr with
   | false => rw [hstr] at hk; cases hk
   | true =>
    simp only [hstr, cond_true] at hk
    obtain ⟨hc, hk⟩ := given_some hk
    obtain ⟨c1, c2⟩ := andB hc
    exact sound_index hT ho ht hx hi hstr (of_decide_eq_true c1) (of_decide_eq_true c2) hk
  ·rename_i ti cs k j ht hx hi; exact sound_indexArr hT ho ht hx hi hk
  ·cases hk
 ·rename_i x i ho
  split at hk
  ·rename_i ts hx
   split at hk
   ·rename_i t ht; exact sound_extract ho hx ht hk
   ·cases hk
  ·cases hk
 ·rename_i c ho
  split at hk
  ·rename_i hc
   split at hk
   ·rename_i x t hx ht
    cases hargs : c.args.toList with
    | nil => rw [hargs] at hx; simp at hx
    | cons y ys =>
     rw [hargs] at hx
     cases ys with
     | cons _ _ => simp at hx
     | nil =>
      simp only [List.map_cons, List.map_nil, List.cons.injEq, and_true] at hx
      subst hx
      exact sound_len hT ho hc hargs ht hk
   ·cases hk
  ·rename_i hc
   split at hk
   ·rename_i v hm; exact sound_minmax (isMax := false) ho hc hm hk
   ·cases hk
  ·rename_i hc
   split at hk
   ·rename_i v hm; exact sound_minmax (isMax := true) ho hc hm hk
   ·cases hk
  ·rename_i hc
   split at hk
   ·rename_i x y t t' hx ht
    cases htt : Nat.beq t t' with
    | false =>
     simp only [htt, cond_false] at hk
     cases hargs : c.args.toList with
     | nil => rw [hargs] at hx; simp at hx
     | cons a as =>
      rw [hargs] at hx
      cases as with
      | nil => simp at hx
      | cons b bs =>
       cases bs with
       | cons _ _ => simp at hx
       | nil =>
        simp only [List.map_cons, List.map_nil, List.cons.injEq, and_true] at hx
        obtain ⟨h1, h2⟩ := hx
        subst h1 h2
        exact sound_appendMake hT ho hc hargs ht hk
    | true =>
     have := Nat.eq_of_beq_eq_true htt
     subst this
     simp only [htt, cond_true] at hk
     cases hargs : c.args.toList with
     | nil => rw [hargs] at hx; simp at hx
     | cons a as =>
      rw [hargs] at hx
      cases as with
      | nil => simp at hx
      | cons b bs =>
       cases bs with
       | cons _ _ => simp at hx
       | nil =>
        simp only [List.map_cons, List.map_nil, List.cons.injEq, and_true] at hx
        obtain ⟨h1, h2⟩ := hx
        subst h1 h2
        cases hM : (X.M && isMatT X.T t) with
        | true => rw [hM, cond_true] at hk; exact sound_appendMat hT ho hc hargs ht hk
        | false => rw [hM, cond_false] at hk; exact sound_append hT ho hc hargs ht hk
   ·cases hk
  ·rename_i hc
   split at hk
   ·rename_i x t hx ht
    cases hargs : c.args.toList with
    | nil => rw [hargs] at hx; simp at hx
    | cons y ys =>
     rw [hargs] at hx
     cases ys with
     | cons _ _ => simp at hx
     | nil =>
      simp only [List.map_cons, List.map_nil, List.cons.injEq, and_true] at hx
      subst hx
      exact sound_clear hT ho hc hargs ht hk
   ·cases hk
  ·rename_i hc
   split at hk
   ·rename_i x t hx ht
    cases hargs : c.args.toList with
    | nil => rw [hargs] at hx; simp at hx
    | cons y ys =>
     rw [hargs] at hx
     cases ys with
     | cons _ _ => simp at hx
     | nil =>
      simp only [List.map_cons, List.map_nil, List.cons.injEq, and_true] at hx
      subst hx
      exact sound_cap hT ho hc hargs ht hk
   ·cases hk
  ·rename_i hc
   split at hk
   ·rename_i x y t t' hx ht
    cases htt : Nat.beq t t' with
    | false => rw [htt] at hk; cases hk
    | true =>
     have := Nat.eq_of_beq_eq_true htt
     subst this
     simp only [htt, cond_true] at hk
     cases hargs : c.args.toList with
     | nil => rw [hargs] at hx; simp at hx
     | cons a as =>
      rw [hargs] at hx
      cases as with
      | nil => simp at hx
      | cons b bs =>
       cases bs with
       | cons _ _ => simp at hx
       | nil =>
        simp only [List.map_cons, List.map_nil, List.cons.injEq, and_true] at hx
        obtain ⟨h1, h2⟩ := hx
        subst h1 h2
        exact sound_copy hT ho hc hargs ht hk
   ·cases hk
  ·cases hk
  ·split at hk
   ·rename_i f caps hcal
    unfold calleeOf at hcal
    split at hcal
    ·rename_i x hc
     split at hcal
     ·rename_i f' bs hx
      simp only [Option.some.injEq, Prod.mk.injEq] at hcal
      obtain ⟨rfl, rfl⟩ := hcal
      exact sound_callFn hΓ ho hc hx hk
     ·cases hcal
    ·cases hcal
   ·cases hk
 ·cases hk
end
end Go.Lift
namespace Go.Lift
open Go.RowKit
structure Rel {P : Program} (n : Nat) (ok0 : OK0 P) (base : Nat) (pl : Nat → Option Pl) (tm : Nat → Option V) (bl : Nat → Option Blk) (a : Act) (w : World) : Prop where
 defers : a.defers = []
 size : a.tmps.size = n
 tmps : ∀ t v, tm t = some v → VRep (envOf ok0 base pl bl w) v (a.tmps.getD t undef)
 rel : RelB ok0 base pl bl w
def updD (tm : Nat → Option V) (dst : Option Nat) (v : V) : Nat → Option V :=
 match dst with
 | some d => upd tm d v
 | none => tm
theorem look_putD (tm : List (Nat × V)) (dst : Option Nat) (v : V) : look (putD tm dst v) = updD (look tm) dst v := by
 cases dst with
 | none => rfl
 | some d => funext j; simp only [putD, updD, look_put, upd]
def evalF (tm : Nat → Option V) : Operand → V
 | .tmp t =>
  match tm t with
  | some v => v
  | none => .junk
 | .const v => V.ofValue v
 | .global _ => .junk
 | .func f => .c (.fn f [])
theorem evalV_eq (tm : List (Nat × V)) : evalV tm = evalF (look tm) := by
 funext x
 cases x <;> rfl
theorem evalF_rep {P : Program} {n : Nat} {ok0 : OK0 P} {base : Nat} {pl : Nat → Option Pl} {tm : Nat → Option V} {bl : Nat → Option Blk} {a : Act} {w : World} (h : Rel n ok0 base pl tm bl a w) (x : Operand) : VRep (envOf ok0 base pl bl w) (evalF tm x) (a.eval x) := by
 cases x with
 | tmp t =>
  simp only [evalF, Act.eval]
  split
  ·rename_i v hv; exact h.tmps t v hv
  ·exact trivial
 | const v => exact V.ofValue_rep v
 | global g => exact trivial
 | func f => exact ⟨[], rfl, rfl⟩
section
variable {P : Program} {ops : Array Oper} {n : Nat}
def EOk (P : Program) (ops : Array Oper) (n : Nat) (e : LogE) (tmA : Nat → Option V) (blA : Nat → Option Blk) : Prop :=
 ∀ (tm : Nat → Option V) (bl : Nat → Option Blk), (∀ t ∈ e.tin, tm t = tmA t) → (∀ b ∈ e.rd, bl b = blA b) →
  ∀ (ok0 : OK0 P) (base : Nat) (pl : Nat → Option Pl) (a : Act) (w : World), Rel n ok0 base pl tm bl a w →
  ∀ (K : Act → World → Prop) (Q : Exit → Act → World → Prop),
   (∀ pl' a' w', Rel n ok0 base pl' (updD tm e.dst e.v) (updL bl e.wr) a' w' → Step pl bl w pl' (updL bl e.wr) w' → K a' w') → wpOp P ops Q e.i K a w
def Valid (P : Program) (ops : Array Oper) (n : Nat) : List LogE → (Nat → Option V) → (Nat → Option Blk) → Prop
 | [], _, _ => True
 | e :: es, tm, bl => EOk P ops n e tm bl ∧ Valid P ops n es (updD tm e.dst e.v) (updL bl e.wr)
def finT : List LogE → (Nat → Option V) → Nat → Option V
 | [], tm => tm
 | e :: es, tm => finT es (updD tm e.dst e.v)
def finB : List LogE → (Nat → Option Blk) → Nat → Option Blk
 | [], bl => bl
 | e :: es, bl => finB es (updL bl e.wr)
theorem EOk.agree {e : LogE} {tmA tmB : Nat → Option V} {blA blB : Nat → Option Blk} (h : EOk P ops n e tmA blA) (ht : ∀ t ∈ e.tin, tmB t = tmA t) (hb : ∀ b ∈ e.rd, blB b = blA b) : EOk P ops n e tmB blB :=
 fun tm bl h1 h2 => h tm bl (fun t hm => (h1 t hm).trans (ht t hm)) (fun b hm => (h2 b hm).trans (hb b hm))
theorem updD_other {tm : Nat → Option V} {dst : Option Nat} {v : V} {t : Nat} (h : dst ≠ some t) : updD tm dst v t = tm t := by
 cases dst with
 | none => rfl
 | some d =>
  have : t ≠ d := fun e => h (by rw [e])
  simp [updD, upd, this]
theorem meet_iff {a b : List Nat} : meet a b = false ↔ ∀ x ∈ a, x ∉ b := by
 induction a with
 | nil => simp [meet]
 | cons y r ih =>
  simp only [meet, Bool.or_eq_false_iff, ih, List.mem_cons, forall_eq_or_imp]
  constructor
  ·rintro ⟨h1, h2⟩
   exact ⟨fun hm => (by rw [memB_iff.2 hm] at h1; cases h1), h2⟩
  ·rintro ⟨h1, h2⟩
   refine ⟨?_, h2⟩
   cases hm : memB y b with
   | false => rfl
   | true => exact absurd (memB_iff.1 hm) h1
structure Apart (x y : LogE) : Prop where
 t1 : ∀ t ∈ y.tin, x.dst ≠ some t
 t2 : ∀ t ∈ x.tin, y.dst ≠ some t
 t3 : ∀ d, x.dst = some d → y.dst ≠ some d
 b1 : ∀ b ∈ y.rd, b ∉ wids x.wr
 b2 : ∀ b ∈ x.rd, b ∉ wids y.wr
 b3 : ∀ b ∈ wids x.wr, b ∉ wids y.wr
theorem apart_of_clash {x y : LogE} (h : clash x y = false) : Apart x y := by
 unfold clash at h
 simp only [Bool.or_eq_false_iff] at h
 obtain ⟨⟨⟨h1, h2⟩, h3⟩, h4⟩ := h
 have h3 := meet_iff.1 h3
 have h4 := meet_iff.1 h4
 refine ⟨fun t ht hd => ?_, fun t ht hd => ?_, fun d hd hd' => ?_, fun b hb hw => ?_, fun b hb hw => h4 b hw hb, fun b hb hw => ?_⟩
 ·rw [hd] at h1
  simp only [Bool.or_eq_false_iff] at h1
  rw [memB_iff.2 ht] at h1
  cases h1.1
 ·rw [hd] at h2
  simp only at h2
  rw [memB_iff.2 ht] at h2
  cases h2
 ·rw [hd, hd'] at h1
  simp only [Bool.or_eq_false_iff] at h1
  rw [beq_self] at h1
  cases h1.2
 ·exact h3 b hw (List.mem_append_left _ hb)
 ·exact h3 b hb (List.mem_append_right _ hw)
theorem upd_comm {x y : LogE} (h : Apart x y) (tm : Nat → Option V) (bl : Nat → Option Blk) :
  updD (updD tm x.dst x.v) y.dst y.v = updD (updD tm y.dst y.v) x.dst x.v ∧ updL (updL bl x.wr) y.wr = updL (updL bl y.wr) x.wr := by
 constructor
 ·cases hx : x.dst with
  | none => rfl
  | some d =>
   cases hy : y.dst with
   | none => rfl
   | some d' =>
    have hne : d ≠ d' := fun e => h.t3 d hx (by rw [hy, e])
    funext j
    simp only [updD, upd]
    by_cases h1 : j = d'
    ·by_cases h2 : j = d
     ·exact absurd (h2.symm.trans h1) hne
     ·simp [h1, Ne.symm hne]
    ·by_cases h2 : j = d <;> simp [h1, h2, hne]
 ·funext b
  by_cases h1 : b ∈ wids y.wr
  ·have h2 : b ∉ wids x.wr := fun h2 => h.b3 b h2 h1
   rw [updL_mem (bl' := bl) h1, updL_other (bl := updL bl y.wr) h2]
  ·rw [updL_other h1]
   by_cases h2 : b ∈ wids x.wr
   ·exact updL_mem h2
   ·rw [updL_other h2, updL_other h2, updL_other h1]
theorem Valid.bubble {e : LogE} {post : List LogE} : ∀ {pre : List LogE} {tm : Nat → Option V} {bl : Nat → Option Blk}, Valid P ops n (pre ++ e :: post) tm bl → (∀ x ∈ pre, Apart x e) →
  EOk P ops n e tm bl ∧ Valid P ops n (pre ++ post) (updD tm e.dst e.v) (updL bl e.wr) ∧ finT (pre ++ e :: post) tm = finT (pre ++ post) (updD tm e.dst e.v) ∧ finB (pre ++ e :: post) bl = finB (pre ++ post) (updL bl e.wr)
 | [], tm, bl, h, _ => ⟨h.1, h.2, rfl, rfl⟩
 | x :: pre, tm, bl, h, ha => by
  have hx := ha x (by simp)
  obtain ⟨h1, h2, h3, h4⟩ := Valid.bubble h.2 fun y hy => ha y (by simp [hy])
  obtain ⟨c1, c2⟩ := upd_comm hx tm bl
  refine ⟨h1.agree (fun t ht => (updD_other (hx.t1 t ht)).symm) (fun b hb => (updL_other (hx.b1 b hb)).symm), ⟨?_, ?_⟩, ?_, ?_⟩
  ·exact EOk.agree h.1 (fun t ht => updD_other (hx.t2 t ht)) (fun b hb => updL_other (hx.b2 b hb))
  ·show Valid P ops n (pre ++ post) (updD (updD tm e.dst e.v) x.dst x.v) (updL (updL bl e.wr) x.wr)
   rw [← c1, ← c2]
   exact h2
  ·show finT (pre ++ e :: post) (updD tm x.dst x.v) = finT (pre ++ post) (updD (updD tm e.dst e.v) x.dst x.v)
   rw [h3, c1]
  ·show finB (pre ++ e :: post) (updL bl x.wr) = finB (pre ++ post) (updL (updL bl e.wr) x.wr)
   rw [h4, c2]
theorem wpOps_valid {Q : Exit → Act → World → Prop} {ok0 : OK0 P} {base : Nat} : ∀ {es : List LogE} {pl : Nat → Option Pl} {tm : Nat → Option V} {bl : Nat → Option Blk} {a : Act} {w : World}, Valid P ops n es tm bl → Rel n ok0 base pl tm bl a w →
  (∀ pl' a' w', Rel n ok0 base pl' (finT es tm) (finB es bl) a' w' → Step pl bl w pl' (finB es bl) w' → Q .normal a' w') → wpOps P ops Q (es.map (·.i)) a w
 | [], pl, tm, bl, a, w, _, hr, hq => hq pl a w hr (Step.refl pl bl w)
 | e :: es, pl, tm, bl, a, w, hv, hr, hq => by
  rw [List.map_cons, wpOps_cons]
  refine hv.1 tm bl (fun _ _ => rfl) (fun _ _ => rfl) ok0 base pl a w hr _ Q fun pl' a' w' hr' hs' => ?_
  exact wpOps_valid hv.2 hr' fun pl2 a2 w2 hr2 hs2 => hq pl2 a2 w2 hr2 (hs'.trans hs2)
theorem maskOf_bit {ms : List Nat} : ∀ {es : List Edge} {i : Nat}, Nat.testBit (maskOf ms es) i = true → ∃ e ∈ es, Region.binds .any e = true ∧ (e.on = i ∨ Nat.testBit (ms.getD e.on 0) i = true)
 | [], i, h => by simp [maskOf] at h
 | e :: r, i, h => by
  simp only [maskOf] at h
  have h' : Nat.testBit (maskOf ms r) i = true ∨ Nat.testBit (bif Region.binds .any e then Nat.lor (Nat.shiftLeft 1 e.on) (ms.getD e.on 0) else 0) i = true := by
   have h2 : Nat.testBit (maskOf ms r ||| (bif Region.binds .any e then Nat.lor (Nat.shiftLeft 1 e.on) (ms.getD e.on 0) else 0)) i = true := h
   rwa [Nat.testBit_or, Bool.or_eq_true] at h2
  rcases h' with h' | h'
  ·obtain ⟨e', he, hb⟩ := maskOf_bit h'
   exact ⟨e', by simp [he], hb⟩
  ·cases hb : Region.binds .any e with
   | false => rw [hb] at h'; simp at h'
   | true =>
    simp only [hb, cond_true] at h'
    have h3 : Nat.testBit (1 <<< e.on ||| ms.getD e.on 0) i = true := h'
    rw [Nat.testBit_or, Bool.or_eq_true] at h3
    refine ⟨e, by simp, hb, ?_⟩
    rcases h3 with h3 | h3
    ·left
     rw [Nat.testBit_shiftLeft] at h3
     simp only [Bool.and_eq_true, decide_eq_true_eq, ge_iff_le] at h3
     obtain ⟨h4, h5⟩ := h3
     have h6 : i - e.on = 0 := by
      have := Nat.testBit_one_eq_true_iff_self_eq_zero.1 h5
      exact this
     omega
    ·exact .inr h3
theorem masks_get : ∀ {l : List Oper} {acc : List Nat} {j : Nat}, (masks l acc)[acc.length + j]? = (l[j]?).map fun o => maskOf ((masks l acc).take (acc.length + j)) o.after.toList
 | [], acc, j => by simp [masks]
 | o :: r, acc, 0 => by
  have h1 : ∀ (l : List Oper) (a : List Nat), ∃ x, masks l a = a ++ x := by
   intro l
   induction l with
   | nil => intro a; exact ⟨[], by simp [masks]⟩
   | cons o l ih => intro a; obtain ⟨x, hx⟩ := ih (a ++ [maskOf a o.after.toList]); exact ⟨maskOf a o.after.toList :: x, by simp only [masks]; rw [hx]; simp⟩
  obtain ⟨x, hx⟩ := h1 r (acc ++ [maskOf acc o.after.toList])
  simp only [masks, hx]
  simp
 | o :: r, acc, j + 1 => by
  have ih := masks_get (l := r) (acc := acc ++ [maskOf acc o.after.toList]) (j := j)
  simp only [masks]
  simp only [List.length_append, List.length_singleton] at ih
  have e : acc.length + (j + 1) = acc.length + 1 + j := by omega
  rw [e, ih]
  simp
theorem ready_iff {listed : Array Bool} {i : Nat} : i ∈ Region.ready .any ops listed ↔ ∃ o, ops[i]? = some o ∧ listed.getD i true = false ∧ ∀ e ∈ o.after, Region.binds .any e = true → listed.getD e.on false = true := by
 unfold Region.ready
 rw [List.mem_filter, List.mem_range]
 constructor
 ·rintro ⟨h1, h2⟩
  simp only [Bool.and_eq_true, Bool.not_eq_true'] at h2
  have ho : ops[i]? = some ops[i] := Array.getElem?_eq_getElem h1
  rw [ho] at h2
  simp only [Option.map_some, Option.getD_some, Array.all_eq_true_iff_forall_mem] at h2
  refine ⟨_, ho, h2.1, fun e he hb => ?_⟩
  have := h2.2 e he
  simpa [hb] using this
 ·rintro ⟨o, ho, h1, h2⟩
  refine ⟨(Array.getElem?_eq_some_iff.1 ho).1, ?_⟩
  simp only [Bool.and_eq_true, Bool.not_eq_true']
  refine ⟨h1, ?_⟩
  rw [ho]
  simp only [Option.map_some, Option.getD_some, Array.all_eq_true_iff_forall_mem]
  intro e he
  cases hb : Region.binds .any e with
  | false => rfl
  | true => simpa using h2 e he hb
def Closed (ops : Array Oper) (listed : Array Bool) : Prop := ∀ (j : Nat) (o : Oper), ops[j]? = some o → listed.getD j false = true → ∀ e ∈ o.after, Region.binds .any e = true → listed.getD e.on false = true
theorem anc_listed {listed : Array Bool} (hc : Closed ops listed) (hback : ∀ (j : Nat) (o : Oper), ops[j]? = some o → ∀ e ∈ o.after, Region.binds .any e = true → e.on < j) :
  ∀ (j i : Nat) (o : Oper), ops[j]? = some o → Nat.testBit ((masks ops.toList []).getD j 0) i = true → (∀ e ∈ o.after, Region.binds .any e = true → listed.getD e.on false = true) → listed.getD i false = true := by
 intro j
 induction j using Nat.strongRecOn with
 | _ j ih =>
  intro i o ho hbit hl
  have hm := masks_get (l := ops.toList) (acc := []) (j := j)
  simp only [List.length_nil, Nat.zero_add] at hm
  have ho' : ops.toList[j]? = some o := by simpa using ho
  rw [ho'] at hm
  simp only [Option.map_some] at hm
  rw [List.getD, hm] at hbit
  simp only [Option.getD_some] at hbit
  obtain ⟨e, he, hb, h⟩ := maskOf_bit hbit
  have he' : e ∈ o.after := by simpa using he
  have hlt := hback j o ho e he' hb
  have hle := hl e he' hb
  rcases h with h | h
  ·rw [← h]; exact hle
  ·have hon : e.on < ops.size := Nat.lt_trans hlt (Array.getElem?_eq_some_iff.1 ho).1
   have ho2 : ops[e.on]? = some ops[e.on] := Array.getElem?_eq_getElem hon
   refine ih e.on hlt i _ ho2 ?_ (hc e.on _ ho2 hle)
   rw [List.getD, List.getElem?_take_of_lt hlt] at h
   exact h
theorem wpAny_valid {Q : Exit → Act → World → Prop} {ok0 : OK0 P} {base : Nat} (hback : ∀ (j : Nat) (o : Oper), ops[j]? = some o → ∀ e ∈ o.after, Region.binds .any e = true → e.on < j) :
  ∀ (k : Nat) {es : List LogE} {listed : Array Bool} {pl : Nat → Option Pl} {tm : Nat → Option V} {bl : Nat → Option Blk} {a : Act} {w : World}, es.length = k → listed.size = ops.size → Closed ops listed →
  (∀ i, i < ops.size → (listed.getD i true = false ↔ ∃ e ∈ es, e.i = i)) → es.Pairwise (fun x y => x.i < y.i) → (∀ e ∈ es, e.i < ops.size) →
  es.Pairwise (fun x y => clash x y = false ∨ Nat.testBit ((masks ops.toList []).getD y.i 0) x.i = true) →
  Valid P ops n es tm bl → Rel n ok0 base pl tm bl a w →
  (∀ pl' a' w', Rel n ok0 base pl' (finT es tm) (finB es bl) a' w' → Step pl bl w pl' (finB es bl) w' → Q .normal a' w') → wpAny P .any ops Q k listed a w := by
 intro k
 induction k with
 | zero =>
  intro es listed pl tm bl a w hk hsz hc hl hs hlt hf hv hr hq
  have : es = [] := List.eq_nil_of_length_eq_zero hk
  subst this
  refine ⟨?_, hq pl a w hr (Step.refl pl bl w)⟩
  cases hrd : Region.ready .any ops listed with
  | nil => rfl
  | cons i r =>
   have hi : i ∈ Region.ready .any ops listed := by rw [hrd]; simp
   obtain ⟨o, ho, h1, _⟩ := ready_iff.1 hi
   obtain ⟨e, he, _⟩ := (hl i (Array.getElem?_eq_some_iff.1 ho).1).1 h1
   simp at he
 | succ k ih =>
  intro es listed pl tm bl a w hk hsz hc hl hs hlt hf hv hr hq
  refine ⟨fun hrd => ?_, fun i hi => ?_⟩
  ·
   exfalso
   cases es with
   | nil => simp at hk
   | cons e es =>
    have hei := hlt e (by simp)
    have ho : ops[e.i]? = some ops[e.i] := Array.getElem?_eq_getElem hei
    have : e.i ∈ Region.ready .any ops listed := by
     refine ready_iff.2 ⟨_, ho, (hl e.i hei).2 ⟨e, by simp, rfl⟩, fun d hd hb => ?_⟩
     have hdl := hback e.i _ ho d hd hb
     have hds : d.on < ops.size := by omega
     cases hg : listed.getD d.on true with
     | true =>
      have hdl' : d.on < listed.size := by omega
      simp only [Array.getD_eq_getD_getElem?, Array.getElem?_eq_getElem hdl', Option.getD_some] at hg ⊢
      exact hg
     | false =>
      obtain ⟨x, hx, hxi⟩ := (hl d.on hds).1 hg
      rcases List.mem_cons.1 hx with rfl | hx
      ·omega
      ·have := (List.pairwise_cons.1 hs).1 x hx
       omega
    rw [hrd] at this
    simp at this
  ·obtain ⟨o, ho, h1, h2⟩ := ready_iff.1 hi
   have hisz := (Array.getElem?_eq_some_iff.1 ho).1
   obtain ⟨e, he, hei⟩ := (hl i hisz).1 h1
   obtain ⟨pre, post, rfl⟩ := List.append_of_mem he
   have hpf := List.pairwise_append.1 hf
   have hps := List.pairwise_append.1 hs
   have hap : ∀ x ∈ pre, Apart x e := by
    intro x hx
    rcases hpf.2.2 x hx e (by simp) with h | h
    ·exact apart_of_clash h
    ·exfalso
     rw [hei] at h
     have hxl := anc_listed hc hback i x.i o ho h h2
     have hxs := hlt x (by simp [hx])
     have hxu := (hl x.i hxs).2 ⟨x, by simp [hx], rfl⟩
     have hxs' : x.i < listed.size := by omega
     simp only [Array.getD_eq_getD_getElem?, Array.getElem?_eq_getElem hxs', Option.getD_some] at hxl hxu
     rw [hxl] at hxu
     cases hxu
   obtain ⟨b1, b2, b3, b4⟩ := Valid.bubble hv hap
   subst hei
   refine b1 tm bl (fun _ _ => rfl) (fun _ _ => rfl) ok0 base pl a w hr _ Q fun pl' a' w' hr' hs' => ?_
   refine ih (es := pre ++ post) (by simp at hk ⊢; omega) (by simpa using hsz) ?_ ?_ ?_ ?_ ?_ b2 hr' ?_
   ·
    intro j oj hoj hj d hd hb
    have hget : ∀ q, listed.getD q false = true → (listed.setIfInBounds e.i true).getD q false = true := by
     intro q hq
     simp only [Array.getD_eq_getD_getElem?, Array.getElem?_setIfInBounds]
     split
     ·split <;> simp_all
     ·simpa [Array.getD_eq_getD_getElem?] using hq
    refine hget _ ?_
    by_cases hje : j = e.i
    ·subst hje
     rw [ho] at hoj
     injection hoj with hoj
     subst hoj
     exact h2 d hd hb
    ·refine hc j oj hoj ?_ d hd hb
     simp only [Array.getD_eq_getD_getElem?, Array.getElem?_setIfInBounds] at hj ⊢
     rw [if_neg (fun h => hje h.symm)] at hj
     exact hj
   ·intro q hq
    have hqs : q < listed.size := by omega
    have hes : e.i < listed.size := by omega
    by_cases hqe : q = e.i
    ·subst hqe
     constructor
     ·intro h
      simp [Array.getD_eq_getD_getElem?, hes] at h
     ·rintro ⟨x, hx, hxi⟩
      exfalso
      rcases List.mem_append.1 hx with hx | hx
      ·have := hps.2.2 x hx e (by simp); omega
      ·have := (List.pairwise_cons.1 hps.2.1).1 x hx; omega
    ·have h3 : (listed.setIfInBounds e.i true).getD q true = listed.getD q true := by
      simp only [Array.getD_eq_getD_getElem?, Array.getElem?_setIfInBounds]
      rw [if_neg (fun h => hqe h.symm)]
     rw [h3, hl q hq]
     constructor
     ·rintro ⟨x, hx, hxi⟩
      refine ⟨x, ?_, hxi⟩
      rcases List.mem_append.1 hx with hx | hx
      ·exact List.mem_append_left _ hx
      ·rcases List.mem_cons.1 hx with rfl | hx
       ·exact absurd hxi.symm hqe
       ·exact List.mem_append_right _ hx
     ·rintro ⟨x, hx, hxi⟩
      refine ⟨x, ?_, hxi⟩
      rcases List.mem_append.1 hx with hx | hx
      ·exact List.mem_append_left _ hx
      ·exact List.mem_append_right _ (List.mem_cons_of_mem _ hx)
   ·exact List.pairwise_append.2 ⟨hps.1, (List.pairwise_cons.1 hps.2.1).2, fun x hx y hy => hps.2.2 x hx y (by simp [hy])⟩
   ·intro x hx
    refine hlt x ?_
    rcases List.mem_append.1 hx with hx | hx
    ·exact List.mem_append_left _ hx
    ·exact List.mem_append_right _ (List.mem_cons_of_mem _ hx)
   ·exact List.pairwise_append.2 ⟨hpf.1, (List.pairwise_cons.1 hpf.2.1).2, fun x hx y hy => hpf.2.2 x hx y (by simp [hy])⟩
   ·intro pl2 a2 w2 hr2 hs2
    rw [← b3, ← b4] at hr2
    rw [← b4] at hs2
    exact hq pl2 a2 w2 hr2 (hs'.trans hs2)
end
end Go.Lift
namespace Go.Lift
open Go.RowKit
section
variable {P : Program} {ops : Array Oper} {n : Nat} {β : Type} {r : β}
theorem Rel.put {ok0 : OK0 P} {base : Nat} {pl pl' : Nat → Option Pl} {tm : Nat → Option V} {bl bl' : Nat → Option Blk} {a : Act} {w w' : World} (h : Rel n ok0 base pl tm bl a w)
  {dst : Option Nat} (hd : dstOk n dst = true) {v : V} {val : Value} (hr : RelB ok0 base pl' bl' w') (hs : Step pl bl w pl' bl' w') (hv : VRep (envOf ok0 base pl' bl' w') v val) : Rel n ok0 base pl' (updD tm dst v) bl' (a.put dst val) w' := by
 have hold : ∀ t v, tm t = some v → VRep (envOf ok0 base pl' bl' w') v (a.tmps.getD t undef) := fun t v ht => (h.tmps t v ht).mono hs.ext
 cases dst with
 | none => exact ⟨h.defers, h.size, hold, hr⟩
 | some d =>
  have hdn : d < n := blt_lt hd
  refine ⟨h.defers, by simp [Act.put, h.size], fun t v' ht => ?_, hr⟩
  simp only [updD, upd] at ht
  simp only [Act.put, Array.getD_eq_getD_getElem?, Array.getElem?_setIfInBounds]
  by_cases e : t = d
  ·subst e
   simp only [if_true, Option.some.injEq] at ht
   subst ht
   have : t < a.tmps.size := by rw [h.size]; exact hdn
   simp [this, hv]
  ·rw [if_neg e] at ht
   rw [if_neg (fun h => e h.symm)]
   have := hold t v' ht
   rwa [Array.getD_eq_getD_getElem?] at this
theorem mem_tmpsOf {t : Nat} : ∀ {l : List Operand}, Operand.tmp t ∈ l → t ∈ tmpsOf l
 | x :: l, h => by
  rcases List.mem_cons.1 h with h | h
  ·subst h; simp [tmpsOf]
  ·have := mem_tmpsOf h
   cases x <;> simp_all [tmpsOf]
theorem evalF_agree {tm tm' : Nat → Option V} {l : List Operand} (h : ∀ t ∈ tmpsOf l, tm t = tm' t) {x : Operand} (hx : x ∈ l) : evalF tm x = evalF tm' x := by
 cases x with
 | tmp t => simp only [evalF, h t (mem_tmpsOf hx)]
 | _ => rfl
theorem eok_take {i : Nat} {o : Oper} (ho : ops[i]? = some o) (hd : dstOk n o.dst = true) {σ : St} {v : V} {rd : List Nat} {wr : List (Nat × Blk)} {tin : List Nat}
  (hg : o.guard = none ∧ tin = tmpsOf o.op.operands.toList ∨ ∃ t want, guardTmp ops o = some (t, want) ∧ look σ.tm t = some (.c (.bool want)) ∧ tin = t :: tmpsOf o.op.operands.toList)
  (hs : ∀ bl2, (∀ b ∈ rd, bl2 b = look σ.bl b) → OpOk P o (evalV σ.tm) bl2 v wr) : EOk P ops n ⟨i, o.dst, v, tin, rd, wr⟩ (look σ.tm) (look σ.bl) := by
 intro tm bl ht hb ok0 base pl a w hr K Q hk
 have hin : ∀ t ∈ tmpsOf o.op.operands.toList, tm t = look σ.tm t := by
  intro t htm
  rcases hg with ⟨_, e⟩ | ⟨t', want, _, _, e⟩
  ·exact ht t (by rw [e]; exact htm)
  ·exact ht t (by rw [e]; exact List.mem_cons_of_mem _ htm)
 have hw : Region.wanted o (yielded ops a.tmps) = true := by
  unfold Region.wanted
  rcases hg with ⟨e, _⟩ | ⟨t', want, e1, e2, e3⟩
  ·rw [e]
  ·unfold guardTmp at e1
   split at e1
   ·cases e1
   ·rename_i j want' hgd
    rw [hgd]
    cases hj : (ops[j]?).bind (·.dst) with
    | none => rw [hj] at e1; cases e1
    | some t2 =>
     rw [hj] at e1
     simp only [Option.map_some, Option.some.injEq, Prod.mk.injEq] at e1
     obtain ⟨e4, e5⟩ := e1
     subst e4 e5
     have h1 := ht t2 (by rw [e3]; simp)
     rw [e2] at h1
     have h2 := hr.tmps t2 _ h1
     simp only [VRep, CRep] at h2
     simp only [yielded, hj, Option.bind_some]
     rw [Array.getD_eq_getD_getElem?] at h2
     cases h3 : a.tmps[t2]? with
     | none => rw [h3] at h2; simp [undef] at h2
     | some u =>
      rw [h3] at h2
      simp only [Option.getD_some] at h2
      subst h2
      simp
 unfold wpOp
 rw [ho]
 simp only [hw, if_true]
 refine .inl (hs bl hb ok0 base pl w a hr.rel (fun x hx => ?_) K Q fun val pl' w' hr' hst hv => hk pl' _ w' (hr.put hd hr' hst hv) hst)
 have hx' : x ∈ o.op.operands.toList := by simpa using hx
 rw [evalV_eq, ← evalF_agree hin hx']
 exact evalF_rep hr x
theorem eok_skip {i : Nat} {o : Oper} (ho : ops[i]? = some o) (hd : dstOk n o.dst = true) {tmA : Nat → Option V} {blA : Nat → Option Blk} {t : Nat} {want : Bool} (hg : guardTmp ops o = some (t, want)) {u : V}
  (ht : tmA t = some u) (hu : u = .tup [] ∨ u = .c (.bool (!want))) : EOk P ops n ⟨i, o.dst, .tup [], [t], [], []⟩ tmA blA := by
 intro tm bl htm hb ok0 base pl a w hr K Q hk
 have h1 := htm t (by simp)
 rw [ht] at h1
 have h2 := hr.tmps t _ h1
 have hw : Region.wanted o (yielded ops a.tmps) = false := by
  unfold Region.wanted
  unfold guardTmp at hg
  split at hg
  ·cases hg
  ·rename_i j want' hgd
   rw [hgd]
   cases hj : (ops[j]?).bind (·.dst) with
   | none => rw [hj] at hg; cases hg
   | some t2 =>
    rw [hj] at hg
    simp only [Option.map_some, Option.some.injEq, Prod.mk.injEq] at hg
    obtain ⟨e4, e5⟩ := hg
    subst e4 e5
    simp only [yielded, hj, Option.bind_some]
    rw [Array.getD_eq_getD_getElem?] at h2
    cases h3 : a.tmps[t2]? with
    | none => rfl
    | some u' =>
     rw [h3] at h2
     simp only [Option.getD_some] at h2
     rcases hu with e | e
     ·subst e
      obtain ⟨vs, h4, h5⟩ := h2
      simp only [TReps] at h5
      subst h5 h4
      rfl
     ·subst e
      simp only [VRep, CRep] at h2
      subst h2
      cases want' <;> rfl
 unfold wpOp
 rw [ho]
 simp only [hw, Bool.false_eq_true, if_false]
 have hundef : VRep (envOf ok0 base pl bl w) (.tup []) undef := ⟨[], rfl, rfl⟩
 exact hk pl _ w (hr.put hd hr.rel (Step.refl pl bl w) hundef) (Step.refl pl bl w)
theorem look_put_same {tm : List (Nat × V)} {t : Nat} {v : V} (h : look tm t = some v) : look (put tm t v) = look tm := by
 funext j
 rw [look_put]
 split
 ·rename_i e; rw [e, h]
 ·rfl
theorem regRun_sound {X : Ctx} (hT : TOk P X.T) (hΓ : ΓOk P X.Γ) {k : St → List LogE → Option β} : ∀ {l : List (Nat × Oper)} {σ : St} {log : List LogE}, (∀ p ∈ l, ops[p.1]? = some p.2) → regRun X n ops l σ log k = some r →
  ∃ es σ', k σ' (es.reverse ++ log) = some r ∧ es.map (·.i) = l.map (·.1) ∧ Valid P ops n es (look σ.tm) (look σ.bl) ∧ look σ'.tm = finT es (look σ.tm) ∧ look σ'.bl = finB es (look σ.bl)
 | [], σ, log, _, h => ⟨[], σ, h, rfl, trivial, rfl, rfl⟩
 | (i, o) :: rest, σ, log, hl, h => by
  have ho : ops[i]? = some o := hl (i, o) (by simp)
  have hl' : ∀ p ∈ rest, ops[p.1]? = some p.2 := fun p hp => hl p (by simp [hp])
  simp only [regRun] at h
  cases hd : dstOk n o.dst with
  | false => rw [hd] at h; cases h
  | true =>
   rw [hd] at h
   simp only [cond_true] at h
   have take : ∀ (σ1 : St) (tin : List Nat), look σ1.tm = look σ.tm → look σ1.bl = look σ.bl →
     (o.guard = none ∧ tin = tmpsOf o.op.operands.toList ∨ ∃ t want, guardTmp ops o = some (t, want) ∧ look σ1.tm t = some (.c (.bool want)) ∧ tin = t :: tmpsOf o.op.operands.toList) →
     (opRun X o (evalV σ1.tm) (look σ1.bl) σ1.nx fun v rd wr => regRun X n ops rest ⟨putD σ1.tm o.dst v, puts σ1.bl wr, nextId σ1.nx wr⟩ (⟨i, o.dst, v, tin, rd, wr⟩ :: log) k) = some r →
     ∃ es σ', k σ' (es.reverse ++ log) = some r ∧ es.map (·.i) = ((i, o) :: rest).map (·.1) ∧ Valid P ops n es (look σ.tm) (look σ.bl) ∧ look σ'.tm = finT es (look σ.tm) ∧ look σ'.bl = finB es (look σ.bl) := by
    intro σ1 tin et eb hg h
    obtain ⟨v, rd, wr, hk, hs⟩ := opRun_sound hT hΓ h
    obtain ⟨es, σ', h1, h2, h3, h4, h5⟩ := regRun_sound hT hΓ hl' hk
    refine ⟨⟨i, o.dst, v, tin, rd, wr⟩ :: es, σ', by simpa using h1, by simp [h2], ⟨?_, ?_⟩, ?_, ?_⟩
    ·rw [← et, ← eb]
     exact eok_take ho hd hg hs
    ·simp only [look_putD, look_puts, et, eb] at h3
     exact h3
    ·rw [h4]; simp only [look_putD, et, finT]
    ·rw [h5]; simp only [look_puts, eb, finB]
   have skip : ∀ (σ1 : St) (t : Nat) (want : Bool) (u : V), look σ1.tm = look σ.tm → look σ1.bl = look σ.bl → guardTmp ops o = some (t, want) → look σ.tm t = some u → (u = .tup [] ∨ u = .c (.bool (!want))) →
     (regRun X n ops rest ⟨putD σ1.tm o.dst (.tup []), σ1.bl, σ1.nx⟩ (⟨i, o.dst, .tup [], [t], [], []⟩ :: log) k) = some r →
     ∃ es σ', k σ' (es.reverse ++ log) = some r ∧ es.map (·.i) = ((i, o) :: rest).map (·.1) ∧ Valid P ops n es (look σ.tm) (look σ.bl) ∧ look σ'.tm = finT es (look σ.tm) ∧ look σ'.bl = finB es (look σ.bl) := by
    intro σ1 t want u et eb hg ht hu h
    obtain ⟨es, σ', h1, h2, h3, h4, h5⟩ := regRun_sound hT hΓ hl' h
    refine ⟨⟨i, o.dst, .tup [], [t], [], []⟩ :: es, σ', by simpa using h1, by simp [h2], ⟨eok_skip ho hd hg ht hu, ?_⟩, ?_, ?_⟩
    ·simp only [look_putD, et, eb] at h3
     exact h3
    ·rw [h4]; simp only [look_putD, et, finT]
    ·rw [h5]; simp only [eb, finB, updL]
   split at h
   ·rename_i hgd
    exact take σ _ rfl rfl (.inl ⟨hgd, rfl⟩) h
   ·split at h
    ·cases h
    ·rename_i t want hg
     split at h
     ·rename_i ht
      exact skip σ t want _ rfl rfl hg ht (.inl rfl) h
     ·rename_i g ht
      cases want <;> cases g <;> simp only [cond_true, cond_false, Bool.not_true, Bool.not_false] at h
      ·exact take ⟨put σ.tm t (.c (.bool false)), σ.bl, σ.nx⟩ _ (look_put_same ht) rfl (.inr ⟨t, false, hg, by rw [look_put_same ht, ht], rfl⟩) h
      ·exact skip ⟨put σ.tm t (.c (.bool true)), σ.bl, σ.nx⟩ t false _ (look_put_same ht) rfl hg ht (.inr rfl) h
      ·exact skip ⟨put σ.tm t (.c (.bool false)), σ.bl, σ.nx⟩ t true _ (look_put_same ht) rfl hg ht (.inr rfl) h
      ·exact take ⟨put σ.tm t (.c (.bool true)), σ.bl, σ.nx⟩ _ (look_put_same ht) rfl (.inr ⟨t, true, hg, by rw [look_put_same ht, ht], rfl⟩) h
     ·cases h
end
end Go.Lift
namespace Go.Lift
open Go.RowKit
def AExit.toExit : AExit → Exit
 | .normal => .normal
 | .exit id => .exit id
 | .ret => .ret
section
variable {P : Program} {n m : Nat} {β : Type} {r : β}
def Sim (P : Program) (n m : Nat) (c : Code) (σ : St) (k : Kx β) (r : β) : Prop :=
 ∃ e' σ', k e' σ' = some r ∧ ∀ (ok0 : OK0 P) (base : Nat) (pl : Nat → Option Pl) (a : Act) (w : World), Rel n ok0 base pl (look σ.tm) (look σ.bl) a w →
  c.wp P (fun e a' w' => e = e'.toExit ∧ ∃ pl', Rel n ok0 base pl' (look σ'.tm) (look σ'.bl) a' w' ∧ StepM m pl (look σ.bl) w pl' (look σ'.bl) w') a w
def CutOk (P : Program) (n m : Nat) (c : Code) (cut : Cut) : Prop :=
 ∀ {β : Type} (σ : St) (k : Kx β) (r : β), cut.run σ k = some r → Sim P n m c σ k r
def find (q : Nat) : Nat → Code → List Code
 | p, c =>
  let here : List Code := bif Nat.beq p q then [c] else []
  match c with
  | .seq a b => here ++ (find q (2 * p) a ++ find q (2 * p + 1) b)
  | .cond _ a b => here ++ (find q (2 * p) a ++ find q (2 * p + 1) b)
  | .block _ a => here ++ find q (2 * p) a
  | _ => here
theorem find_self (p : Nat) (c : Code) : c ∈ find p p c := by
 unfold find
 cases c <;> simp
theorem numbered_fst : ∀ (l : List Oper) (s : Nat), (numbered s l).map (·.1) = List.range' s l.length
 | [], _ => rfl
 | o :: l, s => by simp [numbered, numbered_fst l, List.range'_succ]
theorem numbered_get {ops : Array Oper} : ∀ (l : List Oper) (s : Nat), ops.toList.drop s = l → ∀ p ∈ numbered s l, ops[p.1]? = some p.2
 | [], _, _, p, hp => by simp [numbered] at hp
 | o :: l, s, h, p, hp => by
  have hs : s < ops.toList.length := by
   rcases Nat.lt_or_ge s ops.toList.length with h1 | h1
   ·exact h1
   ·rw [List.drop_eq_nil_of_le h1] at h; cases h
  rw [List.drop_eq_getElem_cons hs] at h
  injection h with h1 h2
  simp only [numbered, List.mem_cons] at hp
  rcases hp with e | hp
  ·subst e
   simp only [Array.getElem_toList] at h1
   rw [← h1]
   exact Array.getElem?_eq_getElem (by simpa using hs)
  ·exact numbered_get l (s + 1) h2 p hp
theorem edgesBack_spec : ∀ {l : List (Nat × Oper)}, edgesBack l = true → ∀ p ∈ l, ∀ e ∈ p.2.after, Region.binds .any e = true → e.on < p.1
 | [], _, p, hp => by simp at hp
 | (i, o) :: l, h, p, hp => by
  simp only [edgesBack, Bool.and_eq_true, List.all_eq_true] at h
  rcases List.mem_cons.1 hp with e | hp
  ·subst e
   intro e he hb
   have := h.1 e (by simpa using he)
   simp only [hb, Bool.not_true, Bool.false_or] at this
   exact blt_lt this
  ·exact edgesBack_spec h.2 p hp
theorem fine1_spec {m : Nat} {y : LogE} : ∀ {l : List LogE}, fine1 m y l = true → ∀ x ∈ l, clash x y = false ∨ Nat.testBit m x.i = true
 | [], _, x, hx => by simp at hx
 | z :: l, h, x, hx => by
  simp only [fine1, Bool.and_eq_true, Bool.or_eq_true, Bool.not_eq_true'] at h
  rcases List.mem_cons.1 hx with e | hx
  ·subst e; exact h.1
  ·exact fine1_spec h.2 x hx
theorem fine_spec {ms : List Nat} : ∀ {l : List LogE}, fine ms l = true → l.Pairwise (fun y x => clash x y = false ∨ Nat.testBit (ms.getD y.i 0) x.i = true)
 | [], _ => List.Pairwise.nil
 | y :: l, h => by
  simp only [fine, Bool.and_eq_true] at h
  exact List.pairwise_cons.2 ⟨fun x hx => fine1_spec h.1 x hx, fine_spec h.2⟩
theorem Rel.drawn {ok0 : OK0 P} {base : Nat} {pl : Nat → Option Pl} {tm : Nat → Option V} {bl : Nat → Option Blk} {a : Act} {w w' : World} (h : Rel n ok0 base pl tm bl a w) (hw : w'.heap = w.heap) : Rel n ok0 base pl tm bl a w' := by
 have hk : Ext (envOf ok0 base pl bl w) (envOf ok0 base pl bl w') :=
  ⟨Nat.le_refl _, fun g hg _ => ⟨hg, by show w'.heap[g]? = w.heap[g]?; rw [hw]⟩, fun _ _ h => h, fun _ sv svs h => ⟨sv, svs, h, KeepR.refl _ _ _⟩⟩
 refine ⟨h.defers, h.size, fun t v ht => (h.tmps t v ht).mono hk, by rw [hw]; exact h.rel.baseLe, fun i B hB => ?_, h.rel.sep, h.rel.fresh, h.rel.glob.out (by rw [hw]; exact Nat.le_refl _) (fun g _ ho => ⟨by rw [hw], ho⟩)⟩
 obtain ⟨p, hp, hb⟩ := h.rel.blks i B hB
 exact ⟨p, hp, hb.mono hk fun g _ => by show w'.heap[g]? = w.heap[g]?; rw [hw]⟩
theorem sim_region (hm : P.follows .mixedOrders = true) {X : Ctx} (hT : TOk P X.T) (hΓ : ΓOk P X.Γ) {id : Nat} {ops : Array Oper} {draw : Bool} {σ : St} {k : Kx β}
  (h : (regRun X n ops (numbered 0 ops.toList) σ [] fun σ' log => bif !draw || (edgesBack (numbered 0 ops.toList) && fine (masks ops.toList []) log) then k .normal σ' else none) = some r) : Sim P n m (.region id ops draw) σ k r := by
 obtain ⟨es, σ', h1, h2, h3, h4, h5⟩ := regRun_sound hT hΓ (numbered_get ops.toList 0 (by simp)) h
 rw [numbered_fst] at h2
 have h2' : es.map (·.i) = List.range ops.size := by rw [h2, List.range_eq_range']; simp
 simp only [List.append_nil] at h1
 have hc : (!draw || (edgesBack (numbered 0 ops.toList) && fine (masks ops.toList []) es.reverse)) = true ∧ k .normal σ' = some r := by
  cases hb : (!draw || (edgesBack (numbered 0 ops.toList) && fine (masks ops.toList []) es.reverse)) with
  | false => rw [hb] at h1; cases h1
  | true => rw [hb] at h1; exact ⟨rfl, h1⟩
 refine ⟨.normal, σ', hc.2, fun ok0 base pl a w hr => ?_⟩
 cases draw with
 | false =>
  refine wp_region ?_
  rw [← h2']
  refine wpOps_valid h3 hr fun pl' a' w' hr' hs' => ⟨rfl, pl', ?_, ?_⟩
  ·rw [h4, h5]; exact hr'
  ·rw [h5]; exact hs'.toM
 | true =>
  have hcc := hc.1
  simp only [Bool.not_true, Bool.false_or, Bool.and_eq_true] at hcc
  obtain ⟨hb, hf⟩ := hcc
  have hback : ∀ (j : Nat) (o : Oper), ops[j]? = some o → ∀ e ∈ o.after, Region.binds .any e = true → e.on < j := by
   intro j o ho
   have hj : j < ops.size := (Array.getElem?_eq_some_iff.1 ho).1
   have hmem : j ∈ (numbered 0 ops.toList).map (·.1) := by
    rw [numbered_fst]; simp only [Array.length_toList, List.mem_range'_1]; omega
   obtain ⟨p, hp, e⟩ := List.mem_map.1 hmem
   have h6 := numbered_get (ops := ops) ops.toList 0 (by simp) p hp
   rw [e, ho] at h6
   injection h6 with h6
   have := edgesBack_spec hb p hp
   rw [e, ← h6] at this
   exact this
  have hmap : ∀ i, (∃ e ∈ es, e.i = i) ↔ i < ops.size := by
   intro i
   rw [← List.mem_range, ← h2', List.mem_map]
  refine wp_region_any hm ?_
  refine wpAny_valid hback ops.size (es := es) ?_ (by simp) ?_ (fun i hi => ?_) ?_ (fun e he => (hmap e.i).1 ⟨e, he, rfl⟩) ?_ h3 (hr.drawn (w' := { w with drawn := w.drawn + 1 }) rfl) fun pl' a' w' hr' hs' => ⟨rfl, pl', ?_, ?_⟩
  ·have := congrArg List.length h2'
   simpa using this
  ·intro j o _ hj
   exfalso
   rw [Array.getD_eq_getD_getElem?] at hj
   rcases Nat.lt_or_ge j ops.size with h7 | h7
   ·simp [h7] at hj
   ·simp [Nat.not_lt.2 h7] at hj
  ·constructor
   ·intro _; exact (hmap i).2 hi
   ·intro _; simp [Array.getD_eq_getD_getElem?, hi]
  ·have : (es.map (·.i)).Pairwise (· < ·) := by rw [h2']; exact List.pairwise_lt_range
   exact List.pairwise_map.1 this
  ·have := fine_spec hf
   exact List.pairwise_reverse.1 this
  ·rw [h4, h5]; exact hr'
  ·rw [h5]
   exact ⟨hs'.os, hs'.tape, hs'.output, hs'.size, hs'.out, fun b g _ => hs'.cells b g, (hs'.toM (m := m)).rows⟩
theorem wp_mono' {c : Code} {Q Q' : Exit → Act → World → Prop} {a : Act} {w : World} (h : c.wp P Q a w) (hq : ∀ e a w, Q e a w → Q' e a w) : c.wp P Q' a w := by
 intro b k cs
 obtain ⟨e, a', w', h1, h2⟩ := h b k cs
 exact ⟨e, a', w', hq _ _ _ h1, h2⟩
theorem exec_sound (hm : P.follows .mixedOrders = true) {X : Ctx} (hT : TOk P X.T) (hΓ : ΓOk P X.Γ) {Λ : Nat → Option Cut} : ∀ {c : Code} {p : Nat} {σ : St} {k : Kx β}, (∀ q cut, Λ q = some cut → ∀ c' ∈ find q p c, CutOk P n m c' cut) →
  exec X n Λ p c σ k = some r → Sim P n m c σ k r := by
 intro c
 induction c with
 | region id ops draw =>
  intro p σ k hΛ h
  unfold exec at h
  split at h
  ·rename_i cut hc; exact hΛ p cut hc _ (find_self p _) σ k r h
  ·exact sim_region hm hT hΓ h
 | skip =>
  intro p σ k hΛ h
  unfold exec at h
  split at h
  ·rename_i cut hc; exact hΛ p cut hc _ (find_self p _) σ k r h
  ·exact ⟨.normal, σ, h, fun ok0 base pl a w hr => wp_skip ⟨rfl, pl, hr, StepM.refl _ _ _ _⟩⟩
 | exit id =>
  intro p σ k hΛ h
  unfold exec at h
  split at h
  ·rename_i cut hc; exact hΛ p cut hc _ (find_self p _) σ k r h
  ·exact ⟨.exit id, σ, h, fun ok0 base pl a w hr => wp_exit ⟨rfl, pl, hr, StepM.refl _ _ _ _⟩⟩
 | ret =>
  intro p σ k hΛ h
  unfold exec at h
  split at h
  ·rename_i cut hc; exact hΛ p cut hc _ (find_self p _) σ k r h
  ·exact ⟨.ret, σ, h, fun ok0 base pl a w hr => wp_ret ⟨rfl, pl, hr, StepM.refl _ _ _ _⟩⟩
 | seq x y ihx ihy =>
  intro p σ k hΛ h
  unfold exec at h
  split at h
  ·rename_i cut hc; exact hΛ p cut hc _ (find_self p _) σ k r h
  ·simp only at h
   obtain ⟨e1, σ1, h1, hw1⟩ := ihx (fun q cut hq c' hc' => hΛ q cut hq c' (by unfold find; simp [hc'])) h
   have hy : ∀ {k' : Kx β}, exec X n Λ (2 * p + 1) y σ1 k' = some r → Sim P n m y σ1 k' r := ihy (fun q cut hq c' hc' => hΛ q cut hq c' (by unfold find; simp [hc']))
   cases e1 with
   | normal =>
    simp only at h1
    obtain ⟨e2, σ2, h2, hw2⟩ := hy h1
    refine ⟨e2, σ2, h2, fun ok0 base pl a w hr => wp_seq (wp_mono' (hw1 ok0 base pl a w hr) fun e a' w' ⟨he, pl', hr', hs'⟩ => ?_)⟩
    subst he
    exact wp_mono' (hw2 ok0 base pl' a' w' hr') fun e a2 w2 ⟨he2, pl2, hr2, hs2⟩ => ⟨he2, pl2, hr2, hs'.trans hs2⟩
   | exit id =>
    refine ⟨.exit id, σ1, h1, fun ok0 base pl a w hr => wp_seq (wp_mono' (hw1 ok0 base pl a w hr) fun e a' w' hq => ?_)⟩
    have he := hq.1
    subst he
    exact hq
   | ret =>
    refine ⟨.ret, σ1, h1, fun ok0 base pl a w hr => wp_seq (wp_mono' (hw1 ok0 base pl a w hr) fun e a' w' hq => ?_)⟩
    have he := hq.1
    subst he
    exact hq
 | cond x a b iha ihb =>
  intro p σ k hΛ h
  unfold exec at h
  split at h
  ·rename_i cut hc; exact hΛ p cut hc _ (find_self p _) σ k r h
  ·simp only at h
   split at h
   ·rename_i g hg
    have hev : ∀ (ok0 : OK0 P) (base : Nat) (pl : Nat → Option Pl) (a : Act) (w : World), Rel n ok0 base pl (look σ.tm) (look σ.bl) a w → a.eval x = .bool g := by
     intro ok0 base pl a w hr
     have := evalF_rep hr x
     rw [← evalV_eq, hg] at this
     exact this
    cases g with
    | true =>
     obtain ⟨e1, σ1, h1, hw1⟩ := iha (fun q cut hq c' hc' => hΛ q cut hq c' (by unfold find; simp [hc'])) h
     exact ⟨e1, σ1, h1, fun ok0 base pl a w hr => wp_cond_true (hev ok0 base pl a w hr) (hw1 ok0 base pl a w hr)⟩
    | false =>
     obtain ⟨e1, σ1, h1, hw1⟩ := ihb (fun q cut hq c' hc' => hΛ q cut hq c' (by unfold find; simp [hc'])) h
     exact ⟨e1, σ1, h1, fun ok0 base pl a w hr => wp_cond_false (hev ok0 base pl a w hr) (hw1 ok0 base pl a w hr)⟩
   ·cases h
 | block id a iha =>
  intro p σ k hΛ h
  unfold exec at h
  split at h
  ·rename_i cut hc; exact hΛ p cut hc _ (find_self p _) σ k r h
  ·simp only at h
   obtain ⟨e1, σ1, h1, hw1⟩ := iha (fun q cut hq c' hc' => hΛ q cut hq c' (by unfold find; simp [hc'])) h
   cases e1 with
   | normal =>
    refine ⟨.normal, σ1, h1, fun ok0 base pl a w hr => wp_block (wp_mono' (hw1 ok0 base pl a w hr) fun e a' w' hq => ?_)⟩
    have he := hq.1
    subst he
    exact hq
   | ret =>
    refine ⟨.ret, σ1, h1, fun ok0 base pl a w hr => wp_block (wp_mono' (hw1 ok0 base pl a w hr) fun e a' w' hq => ?_)⟩
    have he := hq.1
    subst he
    exact hq
   | exit id' =>
    simp only at h1
    cases hid : Nat.beq id' id with
    | true =>
     rw [hid] at h1
     have hid := Nat.eq_of_beq_eq_true hid
     refine ⟨.normal, σ1, h1, fun ok0 base pl a w hr => wp_block (wp_mono' (hw1 ok0 base pl a w hr) fun e a' w' hq => ?_)⟩
     have he := hq.1
     subst he
     simp only [AExit.toExit, Exit.inBlock, hid, if_true]
     exact ⟨trivial, hq.2⟩
    | false =>
     rw [hid] at h1
     have hne : id' ≠ id := fun e => by rw [e, beq_self] at hid; cases hid
     refine ⟨.exit id', σ1, h1, fun ok0 base pl a w hr => wp_block (wp_mono' (hw1 ok0 base pl a w hr) fun e a' w' hq => ?_)⟩
     have he := hq.1
     subst he
     simp only [AExit.toExit, Exit.inBlock, hne, if_false]
     exact ⟨trivial, hq.2⟩
 | _ =>
  intro p σ k hΛ h
  unfold exec at h
  split at h
  ·rename_i cut hc; exact hΛ p cut hc _ (find_self p _) σ k r h
  ·cases h
end
end Go.Lift
namespace Go.Lift
open Go.RowKit
structure View where
 m : Nat
 slots : List Nat
 params : List (Bool × List CT)
 ins : List BT
abbrev View.den (v : View) : Type := ST.dens v.params × BT.dens v.ins
def idsB (bl : Nat → Option Blk) (nx : Nat) : List BT → Nat → List (Nat × Nat) → Option (List Nat)
 | [], _, _ => some []
 | t :: r, j, ps =>
  match look ps j with
  | some i =>
   match t, bl i with
   | .cells _ l, some (.cells _ cs) =>
    match idsB bl nx r (j + 1) (ps ++ idsOf l cs) with
    | some is => some (i :: is)
    | none => none
   | _, _ =>
    match idsB bl nx r (j + 1) ps with
    | some is => some (i :: is)
    | none => none
  | none =>
   match idsB bl (nx + 1) r (j + 1) ps with
   | some is => some (nx :: is)
   | none => none
def readBR (bl : Nat → Option Blk) (ids : List Nat) : (l : List BT) → List Nat → Option (BT.dens l)
 | [], [] => some ()
 | .cells t l :: r, i :: is =>
  match bl i with
  | some (.cells t' cs) =>
   bif Nat.beq t t' then
    match readC bl ids l cs with
    | none => none
    | some y =>
     match readBR bl ids r is with
     | none => none
     | some z => some (y, z)
   else none
  | _ => none
 | .row t e :: r, i :: is =>
  match bl i with
  | some (.row t' e' _ l) =>
   bif Nat.beq t t' then
    if h : e' = e then
     match readBR bl ids r is with
     | none => none
     | some z => some ((h ▸ l : List e.den), z)
    else none
   else none
  | none =>
   match readBR bl ids r is with
   | none => none
   | some z => some (([] : List e.den), z)
  | _ => none
 | .map t k v vg :: r, i :: is =>
  match bl i with
  | some (.map t' k' v' vg' l) =>
   bif Nat.beq t t' && (vg == vg') then
    if h : k' = k then
     if h2 : v' = v then
      match readBR bl ids r is with
      | none => none
      | some z => some ((h ▸ (h2 ▸ l : List (k'.den × v.den)) : List (k.den × v.den)), z)
     else none
    else none
   else none
  | _ => none
 | .mat t et e :: r, i :: is =>
  match bl i with
  | some (.mat t' et' e' _ _ none l) =>
   bif Nat.beq t t' && Nat.beq et et' then
    if h : e' = e then
     match readBR bl ids r is with
     | none => none
     | some z => some ((h ▸ l : List (List e.den)), z)
    else none
   else none
  | none =>
   match readBR bl ids r is with
   | none => none
   | some z => some (([] : List (List e.den)), z)
  | _ => none
 | _, _ => none
def datRows : List CT → List C → List Nat
 | .data τ :: l, cs => rowIds (cs.take τ.size) ++ datRows l (cs.drop τ.size)
 | _ :: l, _ :: cs => datRows l cs
 | _, _ => []
def datRowsS : List (Bool × List CT) → List V → List Nat
 | t :: l, v :: vs =>
  match v.cells with
  | some cs => datRows t.2 cs ++ datRowsS l vs
  | none => datRowsS l vs
 | _, _ => []
def datRowsB (bl : Nat → Option Blk) : List BT → List Nat → List Nat
 | .cells _ l :: r, i :: is =>
  match bl i with
  | some (.cells _ cs) => datRows l cs ++ datRowsB bl r is
  | _ => datRowsB bl r is
 | _ :: r, _ :: is => datRowsB bl r is
 | _, _ => []
def lookAll (tm : List (Nat × V)) : List Nat → Option (List V)
 | [] => some []
 | t :: r =>
  match look tm t with
  | some v =>
   match lookAll tm r with
   | some vs => some (v :: vs)
   | none => none
  | none => none
def idPairs (m : Nat) : List (Nat × Nat) := (upFrom 0 m).zip (upFrom 0 m)
def listEq : List Nat → List Nat → Bool
 | [], [] => true
 | x :: r, y :: s => Nat.beq x y && listEq r s
 | _, _ => false
def View.read (v : View) (σ : St) : Option v.den :=
 match lookAll σ.tm v.slots with
 | none => none
 | some vs =>
  match idsB (look σ.bl) σ.nx v.ins 0 (idPairs v.m ++ idsOfs v.params vs) with
  | none => none
  | some ids =>
   match readS (look σ.bl) ids v.params vs with
   | none => none
   | some x =>
    match readBR (look σ.bl) ids v.ins ids with
    | none => none
    | some y =>
     bif Nat.ble v.m v.ins.length && (listEq (ids.take v.m) (upFrom 0 v.m) && (nodupB ids && !meet (datRowsS v.params vs ++ datRowsB (look σ.bl) v.ins ids) ids)) then some (x, y) else none
def mkT (ids : List Nat) : List Nat → (l : List (Bool × List CT)) → ST.dens l → List (Nat × V)
 | s :: ss, t :: l, x => (s, V.mk t.1 (mkC ids t.2 x.1)) :: mkT ids ss l x.2
 | _, _, _ => []
def numberedB : Nat → List Blk → List (Nat × Blk)
 | _, [] => []
 | i, b :: r => (i, b) :: numberedB (i + 1) r
def View.mk' (v : View) (d : v.den) : St :=
 ⟨mkT (upFrom 0 v.ins.length) v.slots v.params d.1, numberedB 0 (mkB (upFrom 0 v.ins.length) v.ins d.2), v.ins.length⟩
theorem look_numberedB : ∀ (l : List Blk) (s i : Nat), look (numberedB s l) i = if s ≤ i then l[i - s]? else none
 | [], s, i => by simp [numberedB, look]
 | b :: l, s, i => by
  simp only [numberedB, look]
  by_cases h : s = i
  ·subst h; simp
  ·rw [beq_ne (fun e => h e.symm), cond_false, look_numberedB]
   by_cases h2 : s ≤ i
   ·have h3 : s + 1 ≤ i := by omega
    have h4 : i - s = (i - (s + 1)) + 1 := by omega
    simp [h2, h3, h4]
   ·have h3 : ¬ s + 1 ≤ i := by omega
    simp [h2, h3]
theorem look_mk_bl (v : View) (d : v.den) : look (v.mk' d).bl = fnBl (mkB (upFrom 0 v.ins.length) v.ins d.2) := by
 funext i
 simp [View.mk', look_numberedB, fnBl]
theorem pack_local {bl : Nat → Option Blk} : ∀ {τ : Ty} {cs : List C} {x : τ.den} {r : List C}, pack bl τ cs = some (x, r) → ∃ ds, cs = ds ++ r ∧ ds.length = τ.size ∧ pack bl τ ds = some (x, [])
 | .bool, cs, x, r, h => by
  cases cs with
  | nil => simp [pack] at h
  | cons c cs =>
   cases c <;> simp only [pack] at h <;> try (cases h; done)
   simp only [Option.some.injEq, Prod.mk.injEq] at h
   obtain ⟨h1, h2⟩ := h
   subst h1 h2
   exact ⟨[_], rfl, rfl, rfl⟩
 | .int k, cs, x, r, h => by
  cases cs with
  | nil => simp [pack] at h
  | cons c cs =>
   cases c <;> simp only [pack] at h <;> try (cases h; done)
   split at h
   ·rename_i hk
    subst hk
    simp only [Option.some.injEq, Prod.mk.injEq] at h
    obtain ⟨h1, h2⟩ := h
    subst h1 h2
    exact ⟨[_], rfl, rfl, by simp [pack]⟩
   ·cases h
 | .err, cs, x, r, h => by
  cases cs with
  | nil => simp [pack] at h
  | cons c cs =>
   cases c <;> simp only [pack] at h <;> try (cases h; done)
   simp only [Option.some.injEq, Prod.mk.injEq] at h
   obtain ⟨h1, h2⟩ := h
   subst h1 h2
   exact ⟨[_], rfl, rfl, rfl⟩
 | .str, cs, x, r, h => by
  cases cs with
  | nil => simp [pack] at h
  | cons c cs =>
   cases c <;> simp only [pack] at h <;> try (cases h; done)
   simp only [Option.some.injEq, Prod.mk.injEq] at h
   obtain ⟨h1, h2⟩ := h
   subst h1 h2
   exact ⟨[_], rfl, rfl, rfl⟩
 | .unit, cs, x, r, h => by
  simp only [pack, Option.some.injEq, Prod.mk.injEq] at h
  obtain ⟨_, h2⟩ := h
  subst h2
  exact ⟨[], rfl, rfl, rfl⟩
 | .prod a b, cs, x, r, h => by
  simp only [pack] at h
  split at h
  ·cases h
  ·rename_i x1 r1 h1
   split at h
   ·cases h
   ·rename_i x2 r2 h2
    simp only [Option.some.injEq, Prod.mk.injEq] at h
    obtain ⟨e1, e2⟩ := h
    subst e1 e2
    obtain ⟨ds, e3, e4, e5⟩ := pack_local h1
    obtain ⟨es, e6, e7, e8⟩ := pack_local h2
    refine ⟨ds ++ es, by rw [e3, e6, List.append_assoc], by simp [e4, e7, Ty.size], ?_⟩
    have := pack_append e5 (s := es)
    simp only [pack, this, List.nil_append, e8]
 | .slice e, cs, x, r, h => by
  cases cs with
  | nil => simp [pack] at h
  | cons c cs =>
   cases c <;> simp only [pack] at h <;> try (cases h; done)
   ·split at h
    ·rename_i e' l he
     subst he
     simp only [Option.some.injEq, Prod.mk.injEq] at h
     obtain ⟨h1, h2⟩ := h
     subst h1 h2
     exact ⟨[_], rfl, rfl, by simp [pack]⟩
    ·cases h
   ·simp only [Option.some.injEq, Prod.mk.injEq] at h
    obtain ⟨h1, h2⟩ := h
    subst h1 h2
    exact ⟨[_], rfl, rfl, rfl⟩
   ·split at h
    ·cases h
    ·rename_i l hl
     simp only [Option.some.injEq, Prod.mk.injEq] at h
     obtain ⟨h1, h2⟩ := h
     subst h1 h2
     exact ⟨[_], rfl, rfl, by simp [pack, hl]⟩
   ·split at h
    ·cases h
    ·rename_i l hl
     simp only [Option.some.injEq, Prod.mk.injEq] at h
     obtain ⟨h1, h2⟩ := h
     subst h1 h2
     exact ⟨[_], rfl, rfl, by simp [pack, hl]⟩
   ·split at h
    ·cases h
    ·rename_i l hl
     simp only [Option.some.injEq, Prod.mk.injEq] at h
     obtain ⟨h1, h2⟩ := h
     subst h1 h2
     exact ⟨[_], rfl, rfl, by simp [pack, hl]⟩
 where
 pack_append {bl : Nat → Option Blk} : ∀ {τ : Ty} {cs : List C} {x : τ.den} {r s : List C}, pack bl τ cs = some (x, r) → pack bl τ (cs ++ s) = some (x, r ++ s)
 | .bool, cs, x, r, s, h => by
  cases cs with
  | nil => simp [pack] at h
  | cons c cs => cases c <;> simp only [pack, List.cons_append] at h ⊢ <;> first | (cases h; done) | (simp_all; done)
 | .int k, cs, x, r, s, h => by
  cases cs with
  | nil => simp [pack] at h
  | cons c cs =>
   cases c <;> simp only [pack, List.cons_append] at h ⊢ <;> try (cases h; done)
   split at h
   ·rename_i hk; subst hk; simp_all
   ·cases h
 | .err, cs, x, r, s, h => by
  cases cs with
  | nil => simp [pack] at h
  | cons c cs => cases c <;> simp only [pack, List.cons_append] at h ⊢ <;> first | (cases h; done) | (simp_all; done)
 | .str, cs, x, r, s, h => by
  cases cs with
  | nil => simp [pack] at h
  | cons c cs => cases c <;> simp only [pack, List.cons_append] at h ⊢ <;> first | (cases h; done) | (simp_all; done)
 | .unit, cs, x, r, s, h => by simp only [pack] at h ⊢; simp_all
 | .prod a b, cs, x, r, s, h => by
  simp only [pack] at h ⊢
  split at h
  ·cases h
  ·rename_i x1 r1 h1
   split at h
   ·cases h
   ·rename_i x2 r2 h2
    rw [pack_append h1]
    simp only
    rw [pack_append h2]
    simp_all
 | .slice e, cs, x, r, s, h => by
  cases cs with
  | nil => simp [pack] at h
  | cons c cs =>
   cases c <;> simp only [pack, List.cons_append] at h ⊢ <;> try (cases h; done)
   ·split at h
    ·rename_i e' l he; subst he; simp_all
    ·cases h
   ·simp_all
   ·split at h
    ·cases h
    ·simp_all
   ·split at h
    ·cases h
    ·simp_all
   ·split at h
    ·cases h
    ·simp_all
end Go.Lift
namespace Go.Lift
open Go.RowKit
theorem readC_rep2 {E E' : Env} {ids ids' : List Nat} (hb : BlksOk E) (hw : E'.w = E.w) (hr : Ren E E' ids ids') : ∀ {l : List CT} {cs : List C} {vs : List Value} {y : CT.dens l},
  Rows E E.bl E'.ok (datRows l cs) → CReps E cs vs → readC E.bl ids l cs = some y → CReps E' (mkC ids' l y) vs
 | [], cs, vs, y, hrw, h, hp => by
  cases cs with
  | nil => exact h
  | cons c cs => simp [readC] at hp
 | .data τ :: l, cs, vs, y, hrw, h, hp => by
  simp only [readC] at hp
  split at hp
  ·cases hp
  ·rename_i x r hx
   split at hp
   ·cases hp
   ·rename_i y' hy
    simp only [Option.some.injEq] at hp
    subst hp
    obtain ⟨ds, e1, e2, e3⟩ := pack_local hx
    subst e1
    have hd : datRows (.data τ :: l) (ds ++ r) = rowIds ds ++ datRows l r := by
     simp only [datRows, ← e2, List.take_left, List.drop_left]
    rw [hd] at hrw
    obtain ⟨us, ws, e, h1, h2⟩ := CReps.split h
    subst e
    obtain ⟨us1, us2, e, d, c, _⟩ := pack_rep hb (hrw.sub fun b hbm => List.mem_append_left _ hbm) h1 e3
    simp only [CReps] at c
    subst c
    rw [List.append_nil] at e
    subst e
    exact CReps.append (cells_rep (by rw [hw]; exact d)) (readC_rep2 hb hw hr (hrw.sub fun b hbm => List.mem_append_right _ hbm) h2 hy)
 | .ptr b o :: l, cs, vs, y, hrw, h, hp => by
  cases cs with
  | nil => simp [readC] at hp
  | cons c cs =>
   have hrw' : Rows E E.bl E'.ok (datRows l cs) := hrw
   cases c <;> simp only [readC] at hp <;> try (cases hp; done)
   rename_i b' o'
   split at hp
   ·rename_i i hi
    cases hc : (Nat.beq i b' && Nat.beq o o') with
    | false => rw [hc] at hp; cases hp
    | true =>
     simp only [hc, cond_true] at hp
     obtain ⟨h1, h2⟩ := andB hc
     have h1 := Nat.eq_of_beq_eq_true h1
     have h2 := Nat.eq_of_beq_eq_true h2
     subst h1 h2
     obtain ⟨v, vs', e, ⟨g, hg, hv⟩, ht⟩ := h
     exact ⟨v, vs', e, ⟨g, hr.cells b i g hi hg, hv⟩, readC_rep2 hb hw hr hrw' ht hp⟩
   ·cases hp
 | .rowh b :: l, cs, vs, y, hrw, h, hp => by
  cases cs with
  | nil => simp [readC] at hp
  | cons c cs =>
   have hrw' : Rows E E.bl E'.ok (datRows l cs) := hrw
   cases c <;> simp only [readC] at hp <;> try (cases hp; done)
   ·split at hp
    ·rename_i i hi
     split at hp
     ·rename_i hn
      obtain ⟨v, vs', e, hv, ht⟩ := h
      simp only [CRep] at hv
      subst hv
      exact ⟨_, vs', e, ⟨rfl, _, _, hr.nil b i hi hn, fun _ _ _ _ _ => ⟨Nat.zero_le _, fun _ => rfl⟩⟩, readC_rep2 hb hw hr hrw' ht hp⟩
     ·cases hp
    ·cases hp
   ·rename_i b' ver
    split at hp
    ·rename_i i hi
     cases hc : Nat.beq i b' with
     | false => rw [hc] at hp; cases hp
     | true =>
      have := Nat.eq_of_beq_eq_true hc
      subst this
      simp only [hc, cond_true] at hp
      split at hp
      ·rename_i t e ver' l' hbl
       cases hv' : Nat.beq ver ver' with
       | false => rw [hv'] at hp; cases hp
       | true =>
        have := Nat.eq_of_beq_eq_true hv'
        subst this
        simp only [hv', cond_true] at hp
        obtain ⟨v, vs', ev, ⟨h1, sv, svs, hsv, hcur⟩, ht⟩ := h
        have hvs := (hcur t e ver l' hbl).2 rfl
        exact ⟨v, vs', ev, ⟨h1, sv, svs, hr.row b i sv svs t e ver l' hi hbl hsv, fun _ _ _ _ _ => ⟨Nat.zero_le _, fun _ => hvs⟩⟩, readC_rep2 hb hw hr hrw' ht hp⟩
      ·cases hp
    ·cases hp
 | .fn f caps :: l, cs, vs, y, hrw, h, hp => by
  cases cs with
  | nil => simp [readC] at hp
  | cons c cs =>
   have hrw' : Rows E E.bl E'.ok (datRows l cs) := hrw
   cases c <;> simp only [readC] at hp <;> try (cases hp; done)
   rename_i f' caps'
   cases hc : (Nat.beq f f' && decide (caps.map (ids[·]?) = caps'.map some)) with
   | false => rw [hc] at hp; cases hp
   | true =>
    simp only [hc, cond_true] at hp
    obtain ⟨h1, h2⟩ := andB hc
    have h1 := Nat.eq_of_beq_eq_true h1
    have h2 := of_decide_eq_true h2
    subst h1
    obtain ⟨v, vs', e, ⟨gs, hg, hv⟩, ht⟩ := h
    refine ⟨v, vs', e, ⟨gs, ?_, hv⟩, readC_rep2 hb hw hr hrw' ht hp⟩
    exact fnCaps hr caps caps' gs h2 hg
 | .bself b :: l, cs, vs, y, hrw, h, hp => by
  cases cs with
  | nil => simp [readC] at hp
  | cons c cs =>
   have hrw' : Rows E E.bl E'.ok (datRows l cs) := hrw
   cases c <;> simp only [readC] at hp <;> try (cases hp; done)
   ·obtain ⟨v, vs', e, hv, ht⟩ := h
    exact ⟨v, vs', e, .inl hv, readC_rep2 hb hw hr hrw' ht hp⟩
   ·rename_i b'
    split at hp
    ·rename_i i hi
     cases hc : Nat.beq i b' with
     | false => rw [hc] at hp; cases hp
     | true =>
      simp only [hc, cond_true] at hp
      have h1 := Nat.eq_of_beq_eq_true hc
      subst h1
      obtain ⟨v, vs', e, hg, ht⟩ := h
      refine ⟨v, vs', e, ?_, readC_rep2 hb hw hr hrw' ht hp⟩
      rcases hg with hg | ⟨g, hg, hv⟩
      ·exact .inl hg
      ·exact .inr ⟨g, hr.cells b i g hi hg, hv⟩
    ·cases hp
 | .maph b :: l, cs, vs, y, hrw, h, hp => by
  cases cs with
  | nil => simp [readC] at hp
  | cons c cs =>
   have hrw' : Rows E E.bl E'.ok (datRows l cs) := hrw
   cases c <;> simp only [readC] at hp <;> try (cases hp; done)
   rename_i b'
   split at hp
   ·rename_i i hi
    cases hc : Nat.beq i b' with
    | false => rw [hc] at hp; cases hp
    | true =>
     simp only [hc, cond_true] at hp
     have h1 := Nat.eq_of_beq_eq_true hc
     subst h1
     obtain ⟨v, vs', e, ⟨g, hg, hv⟩, ht⟩ := h
     exact ⟨v, vs', e, ⟨g, hr.cells b i g hi hg, hv⟩, readC_rep2 hb hw hr hrw' ht hp⟩
   ·cases hp
 | .math b :: l, cs, vs, y, hrw, h, hp => by
  cases cs with
  | nil => simp [readC] at hp
  | cons c cs =>
   have hrw' : Rows E E.bl E'.ok (datRows l cs) := hrw
   cases c <;> simp only [readC] at hp <;> try (cases hp; done)
   ·split at hp
    ·rename_i i hi
     split at hp
     ·rename_i hn
      obtain ⟨v, vs', e, hv, ht⟩ := h
      simp only [CRep] at hv
      subst hv
      exact ⟨_, vs', e, ⟨rfl, _, _, hr.nil b i hi hn, fun _ _ _ _ _ _ _ _ => ⟨Nat.zero_le _, fun _ => rfl⟩⟩, readC_rep2 hb hw hr hrw' ht hp⟩
     ·cases hp
    ·cases hp
   ·rename_i b' ver
    split at hp
    ·rename_i i hi
     cases hc : Nat.beq i b' with
     | false => rw [hc] at hp; cases hp
     | true =>
      have := Nat.eq_of_beq_eq_true hc
      subst this
      simp only [hc, cond_true] at hp
      split at hp
      ·rename_i t et e ver' iver l' hbl
       cases hv' : Nat.beq ver ver' with
       | false => rw [hv'] at hp; cases hp
       | true =>
        have := Nat.eq_of_beq_eq_true hv'
        subst this
        simp only [hv', cond_true] at hp
        obtain ⟨v, vs', ev, ⟨h1, sv, svs, hsv, hcur⟩, ht⟩ := h
        have hvs := (hcur _ _ _ _ _ _ _ hbl).2 rfl
        exact ⟨v, vs', ev, ⟨h1, sv, svs, hr.mat b i sv svs _ _ _ _ _ _ _ hi hbl hsv, fun _ _ _ _ _ _ _ _ => ⟨Nat.zero_le _, fun _ => hvs⟩⟩, readC_rep2 hb hw hr hrw' ht hp⟩
      ·cases hp
    ·cases hp
 | .nilc :: l, cs, vs, y, hrw, h, hp => by
  cases cs with
  | nil => simp [readC] at hp
  | cons c cs => cases c <;> simp [readC] at hp
 | .lsome _ :: l, cs, vs, y, hrw, h, hp => by
  cases cs with
  | nil => simp [readC] at hp
  | cons c cs => cases c <;> simp [readC] at hp
 | .nils :: l, cs, vs, y, hrw, h, hp => by
  cases cs with
  | nil => simp [readC] at hp
  | cons c cs =>
   have hrw' : Rows E E.bl E'.ok (datRows l cs) := hrw
   cases c <;> simp only [readC] at hp <;> first | (cases hp; done) | skip
   obtain ⟨v, vs', e, hv, ht⟩ := h
   exact ⟨v, vs', e, hv, readC_rep2 hb hw hr hrw' ht hp⟩
 | .junk :: l, cs, vs, y, hrw, h, hp => by
  cases cs with
  | nil => simp [readC] at hp
  | cons c cs =>
   have hrw' : Rows E E.bl E'.ok (datRows l cs) := hrw
   simp only [readC] at hp
   obtain ⟨v, vs', e, hv, ht⟩ := h
   exact ⟨v, vs', e, CRep.oneCell hv, readC_rep2 hb hw hr hrw' ht hp⟩
theorem readS_rep2 {E E' : Env} {ids ids' : List Nat} (hb : BlksOk E) (hw : E'.w = E.w) (hr : Ren E E' ids ids') : ∀ {l : List (Bool × List CT)} {vs : List V} {us : List Value} {y : ST.dens l},
  Rows E E.bl E'.ok (datRowsS l vs) → VReps E vs us → readS E.bl ids l vs = some y → TReps E' (mkS ids' l y) us
 | [], vs, us, y, hrw, h, hp => by
  cases vs with
  | nil => exact h
  | cons v vs => simp [readS] at hp
 | t :: l, vs, us, y, hrw, h, hp => by
  cases vs with
  | nil => simp [readS] at hp
  | cons v vs =>
   obtain ⟨u, us', e, hv, ht⟩ := h
   obtain ⟨agg, ct⟩ := t
   cases agg with
   | false =>
    cases v <;> simp only [readS] at hp <;> try (cases hp; done)
    rename_i x
    split at hp
    ·cases hp
    ·rename_i y1 h1
     split at hp
     ·cases hp
     ·rename_i z h2
      simp only [Option.some.injEq] at hp
      subst hp
      have hrow : datRowsS ((false, ct) :: l) (V.c x :: vs) = datRows ct [x] ++ datRowsS l vs := rfl
      rw [hrow] at hrw
      refine ⟨u, us', e, ⟨[u], ?_, by simp⟩, readS_rep2 hb hw hr (hrw.sub fun b hbm => List.mem_append_right _ hbm) ht h2⟩
      exact readC_rep2 hb hw hr (hrw.sub fun b hbm => List.mem_append_left _ hbm) (show CReps E [x] [u] from ⟨u, [], rfl, hv, rfl⟩) h1
   | true =>
    cases v <;> simp only [readS] at hp <;> try (cases hp; done)
    rename_i cs
    split at hp
    ·cases hp
    ·rename_i y1 h1
     split at hp
     ·cases hp
     ·rename_i z h2
      simp only [Option.some.injEq] at hp
      subst hp
      have hrow : datRowsS ((true, ct) :: l) (V.agg cs :: vs) = datRows ct cs ++ datRowsS l vs := rfl
      rw [hrow] at hrw
      obtain ⟨xs, hxs, hu⟩ := hv
      refine ⟨u, us', e, ⟨xs, ?_, hu⟩, readS_rep2 hb hw hr (hrw.sub fun b hbm => List.mem_append_right _ hbm) ht h2⟩
      exact readC_rep2 hb hw hr (hrw.sub fun b hbm => List.mem_append_left _ hbm) hxs h1
def plOf (E : Env) (i : Nat) : Pl :=
 match E.bl i with
 | some _ => (E.pl i).getD (.row (.slice none 0 0) [])
 | none => .row (.slice none 0 0) []
theorem readBR_rep {E E' : Env} {ids ids' : List Nat} (hb : BlksOk E) (hw : E'.w = E.w) (hbase : E'.base = E.base) (hr : Ren E E' ids ids') (hmono : ∀ g, E.ok g → E'.ok g) : ∀ {l : List BT} {is : List Nat} {y : BT.dens l},
  Rows E E.bl E'.ok (datRowsB E.bl l is) → readBR E.bl ids l is = some y →
  is.length = l.length ∧ ∀ (j i : Nat), is[j]? = some i → ∃ B, (mkB ids' l y)[j]? = some B ∧ BRep E' B (plOf E i) ∧ (∀ B0, E.bl i = some B0 → B0.live = true)
 | [], is, y, hrw, hp => by
  cases is with
  | nil => exact ⟨rfl, fun j i h => by simp at h⟩
  | cons i is => simp [readBR] at hp
 | .row t e :: r, is, y, hrw, hp => by
  cases is with
  | nil => simp [readBR] at hp
  | cons i is =>
   have hrw' : Rows E E.bl E'.ok (datRowsB E.bl r is) := hrw
   simp only [readBR] at hp
   split at hp
   ·rename_i t' e' ver l hbl
    cases ht : Nat.beq t t' with
    | false => rw [ht] at hp; cases hp
    | true =>
     have := Nat.eq_of_beq_eq_true ht
     subst this
     simp only [ht, cond_true] at hp
     split at hp
     ·rename_i he
      subst he
      split at hp
      ·cases hp
      ·rename_i z h2
       simp only [Option.some.injEq] at hp
       subst hp
       obtain ⟨hl, hrest⟩ := readBR_rep hb hw hbase hr hmono hrw' h2
       refine ⟨by simp [hl], fun j k hj => ?_⟩
       cases j with
       | zero =>
        simp only [List.getElem?_cons_zero, Option.some.injEq] at hj
        subst hj
        refine ⟨_, rfl, ?_, fun B0 h0 => by rw [hbl] at h0; injection h0 with h0; subst h0; rfl⟩
        obtain ⟨p, hp', hB⟩ := hb i _ hbl
        have hpl : plOf E i = p := by simp [plOf, hbl, hp']
        rw [hpl]
        cases p with
        | cells _ => exact hB.elim
        | row sv svs =>
         obtain ⟨h0, xs, h3, h4⟩ := hB
         refine ⟨h0, xs, h3.mono fun x u hu => ?_, by rw [hw, hbase]; exact h4⟩
         rw [hw]
         exact hu.mono fun g hg _ => ⟨hmono g hg, rfl⟩
       | succ j =>
        obtain ⟨B, h3, h4⟩ := hrest j k (by simpa using hj)
        exact ⟨B, by simpa [mkB] using h3, h4⟩
     ·cases hp
   ·rename_i hbl
    split at hp
    ·cases hp
    ·rename_i z h2
     simp only [Option.some.injEq] at hp
     subst hp
     obtain ⟨hl, hrest⟩ := readBR_rep hb hw hbase hr hmono hrw' h2
     refine ⟨by simp [hl], fun j k hj => ?_⟩
     cases j with
     | zero =>
      simp only [List.getElem?_cons_zero, Option.some.injEq] at hj
      subst hj
      refine ⟨_, rfl, ?_, fun B0 h0 => by rw [hbl] at h0; cases h0⟩
      have hpl : plOf E i = .row (.slice none 0 0) [] := by simp [plOf, hbl]
      rw [hpl]
      exact ⟨rfl, [], rfl, by simp, .inl ⟨rfl, rfl⟩⟩
     | succ j =>
      obtain ⟨B, h3, h4⟩ := hrest j k (by simpa using hj)
      exact ⟨B, by simpa [mkB] using h3, h4⟩
   ·cases hp
 | .mat t et e :: r, is, y, hrw, hp => by
  cases is with
  | nil => simp [readBR] at hp
  | cons i is =>
   have hrw' : Rows E E.bl E'.ok (datRowsB E.bl r is) := hrw
   simp only [readBR] at hp
   split at hp
   ·rename_i t' et' e' ver iver l hbl
    cases ht : (Nat.beq t t' && Nat.beq et et') with
    | false => rw [ht] at hp; cases hp
    | true =>
     obtain ⟨ht1, ht2⟩ := andB ht
     have := Nat.eq_of_beq_eq_true ht1
     subst this
     have := Nat.eq_of_beq_eq_true ht2
     subst this
     simp only [ht, cond_true] at hp
     split at hp
     ·rename_i he
      subst he
      split at hp
      ·cases hp
      ·rename_i z h2
       simp only [Option.some.injEq] at hp
       subst hp
       obtain ⟨hl, hrest⟩ := readBR_rep hb hw hbase hr hmono hrw' h2
       refine ⟨by simp [hl], fun j k hj => ?_⟩
       cases j with
       | zero =>
        simp only [List.getElem?_cons_zero, Option.some.injEq] at hj
        subst hj
        refine ⟨_, rfl, ?_, fun B0 h0 => by rw [hbl] at h0; injection h0 with h0; subst h0; rfl⟩
        obtain ⟨p, hp', hB⟩ := hb i _ hbl
        have hpl : plOf E i = p := by simp [plOf, hbl, hp']
        rw [hpl]
        cases p with
        | cells _ => exact hB.elim
        | row sv svs =>
         have hM : MatOk E t et e' none l sv svs := hB
         obtain ⟨vs, h3, h4⟩ := hM.outer
         refine ⟨⟨vs, by rw [hw, hbase]; exact h3, h4⟩, hM.len, hM.hole, fun i s x hs hx => ?_, hM.sep0, hM.sep⟩
         obtain ⟨xs, h5, h6⟩ := hM.inner i s x hs hx
         refine ⟨xs, h5.mono fun x u hu => ?_, by rw [hw, hbase]; exact h6⟩
         rw [hw]
         exact hu.mono fun g hg _ => ⟨hmono g hg, rfl⟩
       | succ j =>
        obtain ⟨B, h3, h4⟩ := hrest j k (by simpa using hj)
        exact ⟨B, by simpa [mkB] using h3, h4⟩
     ·cases hp
   ·rename_i hbl
    split at hp
    ·cases hp
    ·rename_i z h2
     simp only [Option.some.injEq] at hp
     subst hp
     obtain ⟨hl, hrest⟩ := readBR_rep hb hw hbase hr hmono hrw' h2
     refine ⟨by simp [hl], fun j k hj => ?_⟩
     cases j with
     | zero =>
      simp only [List.getElem?_cons_zero, Option.some.injEq] at hj
      subst hj
      refine ⟨_, rfl, ?_, fun B0 h0 => by rw [hbl] at h0; cases h0⟩
      have hpl : plOf E i = .row (.slice none 0 0) [] := by simp [plOf, hbl]
      rw [hpl]
      exact MatOk.nil E' t et e
     | succ j =>
      obtain ⟨B, h3, h4⟩ := hrest j k (by simpa using hj)
      exact ⟨B, by simpa [mkB] using h3, h4⟩
   ·cases hp
 | .map t k v vg :: r, is, y, hrw, hp => by
  cases is with
  | nil => simp [readBR] at hp
  | cons i is =>
   have hrw' : Rows E E.bl E'.ok (datRowsB E.bl r is) := hrw
   simp only [readBR] at hp
   split at hp
   ·rename_i t' k' v' vg' l hbl
    cases ht : (Nat.beq t t' && (vg == vg')) with
    | false => rw [ht] at hp; cases hp
    | true =>
     obtain ⟨ht1, ht2⟩ := andB ht
     have := Nat.eq_of_beq_eq_true ht1
     subst this
     have : vg = vg' := by simpa using ht2
     subst this
     simp only [ht, cond_true] at hp
     split at hp
     ·rename_i he
      subst he
      split at hp
      ·rename_i he
       subst he
       split at hp
       ·cases hp
       ·rename_i z h2
        simp only [Option.some.injEq] at hp
        subst hp
        obtain ⟨hl, hrest⟩ := readBR_rep hb hw hbase hr hmono hrw' h2
        refine ⟨by simp [hl], fun j k hj => ?_⟩
        cases j with
        | zero =>
         simp only [List.getElem?_cons_zero, Option.some.injEq] at hj
         subst hj
         refine ⟨_, rfl, ?_, fun B0 h0 => by rw [hbl] at h0; injection h0 with h0; subst h0; rfl⟩
         obtain ⟨p, hp', hB⟩ := hb i _ hbl
         have hpl : plOf E i = p := by simp [plOf, hbl, hp']
         rw [hpl]
         cases p with
         | row _ _ => exact hB.elim
         | cells g =>
          obtain ⟨es, clock, h3, h4⟩ := hB
          refine ⟨es, clock, by rw [hw]; exact h3, h4.mono (fun x u hu => ?_) (fun x u hu => ?_)⟩
          ·rw [hw]
           exact hu.mono fun g hg _ => ⟨hmono g hg, rfl⟩
          ·rw [hw]
           exact hu.mono fun g hg _ => ⟨hmono g hg, rfl⟩
        | succ j =>
         obtain ⟨B, h3, h4⟩ := hrest j k (by simpa using hj)
         exact ⟨B, by simpa [mkB] using h3, h4⟩
      ·cases hp
     ·cases hp
   ·cases hp
 | .cells t l :: r, is, y, hrw, hp => by
  cases is with
  | nil => simp [readBR] at hp
  | cons i is =>
   simp only [readBR] at hp
   split at hp
   ·rename_i t' cs hbl
    cases ht : Nat.beq t t' with
    | false => rw [ht] at hp; cases hp
    | true =>
     have := Nat.eq_of_beq_eq_true ht
     subst this
     simp only [ht, cond_true] at hp
     split at hp
     ·cases hp
     ·rename_i y1 h1
      split at hp
      ·cases hp
      ·rename_i z h2
       simp only [Option.some.injEq] at hp
       subst hp
       have hrow : datRowsB E.bl (.cells t l :: r) (i :: is) = datRows l cs ++ datRowsB E.bl r is := by simp [datRowsB, hbl]
       rw [hrow] at hrw
       obtain ⟨hl, hrest⟩ := readBR_rep hb hw hbase hr hmono (hrw.sub fun b hbm => List.mem_append_right _ hbm) h2
       refine ⟨by simp [hl], fun j k hj => ?_⟩
       cases j with
       | zero =>
        simp only [List.getElem?_cons_zero, Option.some.injEq] at hj
        subst hj
        refine ⟨_, rfl, ?_, fun B0 h0 => by rw [hbl] at h0; injection h0 with h0; subst h0; rfl⟩
        obtain ⟨p, hp', hB⟩ := hb i _ hbl
        have hpl : plOf E i = p := by simp [plOf, hbl, hp']
        rw [hpl]
        cases p with
        | row _ _ => exact hB.elim
        | cells g =>
         obtain ⟨vs, hh, hcs⟩ := hB
         refine ⟨vs, by rw [hw]; exact hh, ?_⟩
         exact readC_rep2 hb hw hr (hrw.sub fun b hbm => List.mem_append_left _ hbm) hcs h1
       | succ j =>
        obtain ⟨B, h3, h4⟩ := hrest j k (by simpa using hj)
        exact ⟨B, by simpa [mkB] using h3, h4⟩
   ·cases hp
theorem lookAll_rep {E : Env} {tm : List (Nat × V)} {tmps : Array Value} (h : ∀ t v, look tm t = some v → VRep E v (tmps.getD t undef)) : ∀ {l : List Nat} {vs : List V}, lookAll tm l = some vs → VReps E vs (l.map fun t => tmps.getD t undef)
 | [], vs, hl => by simp only [lookAll, Option.some.injEq] at hl; subst hl; rfl
 | t :: l, vs, hl => by
  simp only [lookAll] at hl
  split at hl
  ·rename_i v hv
   split at hl
   ·rename_i vs' hvs
    simp only [Option.some.injEq] at hl
    subst hl
    exact ⟨_, _, rfl, h t v hv, lookAll_rep h hvs⟩
   ·cases hl
  ·cases hl
theorem mkT_rep {E : Env} {ids : List Nat} {tmps : Array Value} : ∀ {slots : List Nat} {l : List (Bool × List CT)} {x : ST.dens l}, TReps E (mkS ids l x) (slots.map fun t => tmps.getD t undef) → ∀ t v, look (mkT ids slots l x) t = some v → VRep E v (tmps.getD t undef)
 | [], _, _, _, t, v, h => by simp [mkT, look] at h
 | _ :: _, [], _, _, t, v, h => by simp [mkT, look] at h
 | s :: ss, p :: l, x, hr, t, v, h => by
  obtain ⟨u, us, e, h1, h2⟩ := hr
  simp only [List.map_cons, List.cons.injEq] at e
  obtain ⟨e1, e2⟩ := e
  subst e1 e2
  simp only [mkT, look] at h
  by_cases hts : t = s
  ·subst hts
   rw [beq_self, cond_true, Option.some.injEq] at h
   subst h
   exact VRep.mk h1
  ·rw [beq_ne hts, cond_false] at h
   exact mkT_rep h2 t v h
theorem listEq_iff : ∀ {a b : List Nat}, listEq a b = true → a = b
 | [], [], _ => rfl
 | x :: r, y :: s, h => by
  simp only [listEq, Bool.and_eq_true] at h
  rw [Nat.eq_of_beq_eq_true h.1, listEq_iff h.2]
 | [], _ :: _, h => by simp [listEq] at h
 | _ :: _, [], h => by simp [listEq] at h
theorem View.weaken {P : Program} {n : Nat} {v : View} {σ : St} {d : v.den} (hd : v.read σ = some d) {ok0 : OK0 P} {base : Nat} {pl : Nat → Option Pl} {a : Act} {w : World} (hr : Rel n ok0 base pl (look σ.tm) (look σ.bl) a w) :
  ∃ plv, Rel n ok0 base plv (look (v.mk' d).tm) (look (v.mk' d).bl) a w ∧ StepM v.m pl (look σ.bl) w plv (look (v.mk' d).bl) w := by
 unfold View.read at hd
 split at hd
 ·cases hd
 rename_i vs hvs
 split at hd
 ·cases hd
 rename_i ids _
 split at hd
 ·cases hd
 rename_i x hx
 split at hd
 ·cases hd
 rename_i y hy
 cases hc : (Nat.ble v.m v.ins.length && (listEq (ids.take v.m) (upFrom 0 v.m) && (nodupB ids && !meet (datRowsS v.params vs ++ datRowsB (look σ.bl) v.ins ids) ids))) with
 | false => rw [hc] at hd; cases hd
 | true =>
  simp only [hc, cond_true, Option.some.injEq] at hd
  subst hd
  obtain ⟨c1, hc⟩ := andB hc
  obtain ⟨c2, hc⟩ := andB hc
  obtain ⟨c3, c4⟩ := andB hc
  have c1 := Nat.le_of_ble_eq_true c1
  have c2 := listEq_iff c2
  have c3 := nodupB_iff c3
  simp only [Bool.not_eq_true'] at c4
  have c4 := meet_iff.1 c4
  rw [look_mk_bl]
  generalize hbl : look σ.bl = bl at *
  let E : Env := envOf ok0 base pl bl w
  let plv : Nat → Option Pl := fun b => (ids[b]?).map (plOf E)
  let blv : Nat → Option Blk := fnBl (mkB (upFrom 0 v.ins.length) v.ins y)
  let Ev : Env := envOf ok0 base plv blv w
  have hblks : BlksOk E := hr.rel.blksOk
  have hplv : ∀ b p g, plv b = some p → p.has g → ∃ i B, ids[b]? = some i ∧ bl i = some B ∧ pl i = some p := by
   intro b p g hp hg
   cases hb : ids[b]? with
   | none => simp [plv, hb] at hp
   | some i =>
    simp only [plv, hb, Option.map_some, Option.some.injEq] at hp
    cases hbi : bl i with
    | none =>
     have : plOf E i = .row (.slice none 0 0) [] := by simp [plOf, E, envOf, hbi]
     rw [this] at hp
     subst hp
     have hg := Pl.has_row hg
     simp [Value.ownBlock] at hg
    | some B =>
     obtain ⟨q, hq, _⟩ := hr.rel.blks i B hbi
     have : plOf E i = q := by simp [plOf, E, envOf, hbi, hq]
     rw [this] at hp
     subst hp
     exact ⟨i, B, rfl, hbi, hq⟩
  have hlive : ∀ {l : List BT} {is : List Nat} {y : BT.dens l}, readBR bl ids l is = some y → ∀ i ∈ is, ∀ B, bl i = some B → B.live = true := by
   intro l
   induction l with
   | nil => intro is y h i hi; cases is with
    | nil => simp at hi
    | cons _ _ => simp [readBR] at h
   | cons t r ih =>
    intro is y h i hi B hB
    cases is with
    | nil => simp at hi
    | cons j is =>
     cases t with
     | cells t l =>
      simp only [readBR] at h
      split at h
      ·rename_i t' cs hbj
       cases ht : Nat.beq t t' with
       | false => rw [ht] at h; cases h
       | true =>
        simp only [ht, cond_true] at h
        split at h
        ·cases h
        ·split at h
         ·cases h
         ·rename_i z hz
          rcases List.mem_cons.1 hi with e | hi
          ·subst e; rw [hbj] at hB; injection hB with hB; subst hB; rfl
          ·exact ih hz i hi B hB
      ·cases h
     | map t k v vg =>
      simp only [readBR] at h
      split at h
      ·rename_i t' k' v' vg' l' hbj
       cases ht : (Nat.beq t t' && (vg == vg')) with
       | false => rw [ht] at h; cases h
       | true =>
        simp only [ht, cond_true] at h
        split at h
        ·split at h
         ·split at h
          ·cases h
          ·rename_i z hz
           rcases List.mem_cons.1 hi with e | hi
           ·subst e; rw [hbj] at hB; injection hB with hB; subst hB; rfl
           ·exact ih hz i hi B hB
         ·cases h
        ·cases h
      ·cases h
     | row t e =>
      simp only [readBR] at h
      split at h
      ·rename_i t' e' ver l' hbj
       cases ht : Nat.beq t t' with
       | false => rw [ht] at h; cases h
       | true =>
        simp only [ht, cond_true] at h
        split at h
        ·split at h
         ·cases h
         ·rename_i z hz
          rcases List.mem_cons.1 hi with e | hi
          ·subst e; rw [hbj] at hB; injection hB with hB; subst hB; rfl
          ·exact ih hz i hi B hB
        ·cases h
      ·rename_i hbj
       split at h
       ·cases h
       ·rename_i z hz
        rcases List.mem_cons.1 hi with e | hi
        ·subst e; rw [hbj] at hB; cases hB
        ·exact ih hz i hi B hB
      ·cases h
     | mat t et e =>
      simp only [readBR] at h
      split at h
      ·rename_i t' et' e' ver iver l' hbj
       cases ht : (Nat.beq t t' && Nat.beq et et') with
       | false => rw [ht] at h; cases h
       | true =>
        simp only [ht, cond_true] at h
        split at h
        ·split at h
         ·cases h
         ·rename_i z hz
          rcases List.mem_cons.1 hi with e | hi
          ·subst e; rw [hbj] at hB; injection hB with hB; subst hB; rfl
          ·exact ih hz i hi B hB
        ·cases h
      ·rename_i hbj
       split at h
       ·cases h
       ·rename_i z hz
        rcases List.mem_cons.1 hi with e | hi
        ·subst e; rw [hbj] at hB; cases hB
        ·exact ih hz i hi B hB
      ·cases h
  have hlive := hlive hy
  have hown : ∀ g, Own plv blv g → ∃ i B p, i ∈ ids ∧ bl i = some B ∧ B.live = true ∧ pl i = some p ∧ p.has g := by
   rintro g ⟨b, B, p, hB, hl, hp, hg⟩
   obtain ⟨i, B', h1, h2, h3⟩ := hplv b p g hp hg
   have hi := List.mem_of_getElem? h1
   exact ⟨i, B', p, hi, h2, hlive i hi B' h2, h3, hg⟩
  have hown' : ∀ g, Own plv blv g → Own pl bl g := fun g h => by
   obtain ⟨i, B, p, _, h1, h2, h3, h4⟩ := hown g h
   exact ⟨i, B, p, h1, h2, h3, h4⟩
  have hok : ∀ g, E.ok g → Ev.ok g := fun g h => ⟨h.1, fun ho => h.2 (hown' g ho)⟩
  have hrows : ∀ l : List Nat, (∀ b ∈ l, b ∉ ids) → Rows E E.bl Ev.ok l := fun l hl => ⟨hok, fun b hb t e ver l' hbl' => ⟨hbl', fun sv g hsv hg => by
   have hbl2 : bl b = some (.row t e ver l') := hbl'
   have hsv2 : pl b = some (.row sv []) := hsv
   refine ⟨.inr ?_, fun ho => ?_⟩
   ·obtain ⟨p, hp, hB⟩ := hr.rel.blks b _ hbl2
    rw [hsv2] at hp
    injection hp with hp
    subst hp
    obtain ⟨_, xs, _, ho⟩ := hB
    rcases ho.2 with ⟨h1, _⟩ | ⟨g', cap, cur, h1, h2, _⟩
    ·rw [h1] at hg; simp [Value.ownBlock] at hg
    ·rw [h1] at hg
     simp only [Value.ownBlock, Option.some.injEq] at hg
     subst hg
     exact h2
   ·obtain ⟨i, B, p, hi, h1, h2, h3, h4⟩ := hown g ho
    have hne : i ≠ b := by rintro rfl; exact hl i hb hi
    exact hr.rel.sep i b _ _ p (.row sv []) g hne h1 hbl2 h2 rfl h3 hsv2 h4 (.inl hg)⟩, fun b hb t et e ver iver hole l' hbl' => ⟨hbl', fun sv svs g hsv hg => by
   have hbl2 : bl b = some (.mat t et e ver iver hole l') := hbl'
   have hsv2 : pl b = some (.row sv svs) := hsv
   refine ⟨.inr ?_, fun ho => ?_⟩
   ·obtain ⟨p, hp, hB⟩ := hr.rel.blks b _ hbl2
    rw [hsv2] at hp
    injection hp with hp
    subst hp
    have hM : MatOk (envOf ok0 base pl bl w) t et e hole l' sv svs := hB
    rcases hg with hg | ⟨k, s, hks, hg⟩
    ·obtain ⟨vs, h1, _⟩ := hM.outer
     exact (h1.lt g hg).1
    ·have hlt : k < l'.length := by rw [← hM.len]; exact (List.getElem?_eq_some_iff.1 hks).1
     obtain ⟨xs, _, h2⟩ := hM.inner k s l'[k] hks (List.getElem?_eq_getElem hlt)
     exact (h2.lt g hg).1
   ·obtain ⟨i, B, p, hi, h1, h2, h3, h4⟩ := hown g ho
    have hne : i ≠ b := by rintro rfl; exact hl i hb hi
    exact hr.rel.sep i b _ _ p (.row sv svs) g hne h1 hbl2 h2 rfl h3 hsv2 h4 hg⟩⟩
  have hlen : ids.length = v.ins.length := by
   have : ∀ {l : List BT} {is : List Nat} {y : BT.dens l}, readBR bl ids l is = some y → is.length = l.length := by
    intro l
    induction l with
    | nil => intro is y h; cases is with
     | nil => rfl
     | cons _ _ => simp [readBR] at h
    | cons t r ih =>
     intro is y h
     cases is with
     | nil => cases t <;> simp [readBR] at h
     | cons j is =>
      cases t with
      | cells t l =>
       simp only [readBR] at h
       split at h
       ·rename_i t' cs hbj
        cases ht : Nat.beq t t' with
        | false => rw [ht] at h; cases h
        | true =>
         simp only [ht, cond_true] at h
         split at h
         ·cases h
         ·split at h
          ·cases h
          ·rename_i z hz; simp [ih hz]
       ·cases h
      | map t k v vg =>
       simp only [readBR] at h
       split at h
       ·rename_i t' k' v' vg' l' hbj
        cases ht : (Nat.beq t t' && (vg == vg')) with
        | false => rw [ht] at h; cases h
        | true =>
         simp only [ht, cond_true] at h
         split at h
         ·split at h
          ·split at h
           ·cases h
           ·rename_i z hz; simp [ih hz]
          ·cases h
         ·cases h
       ·cases h
      | row t e =>
       simp only [readBR] at h
       split at h
       ·rename_i t' e' ver l' hbj
        cases ht : Nat.beq t t' with
        | false => rw [ht] at h; cases h
        | true =>
         simp only [ht, cond_true] at h
         split at h
         ·split at h
          ·cases h
          ·rename_i z hz; simp [ih hz]
         ·cases h
       ·split at h
        ·cases h
        ·rename_i z hz; simp [ih hz]
       ·cases h
      | mat t et e =>
       simp only [readBR] at h
       split at h
       ·rename_i t' et' e' ver iver l' hbj
        cases ht : (Nat.beq t t' && Nat.beq et et') with
        | false => rw [ht] at h; cases h
        | true =>
         simp only [ht, cond_true] at h
         split at h
         ·split at h
          ·cases h
          ·rename_i z hz; simp [ih hz]
         ·cases h
       ·split at h
        ·cases h
        ·rename_i z hz; simp [ih hz]
       ·cases h
   exact this hy
  have hren : Ren E Ev ids (upFrom 0 v.ins.length) := by
   have key : ∀ b i, ids[b]? = some i → Ev.pl ((upFrom 0 v.ins.length).getD b 0) = some (plOf E i) := by
    intro b i hi
    have hlt : b < v.ins.length := by rw [← hlen]; exact (List.getElem?_eq_some_iff.1 hi).1
    rw [getD_upFrom hlt]
    simp [Ev, envOf, plv, hi]
   refine ⟨fun b i g hi h => ?_, fun b i sv svs t e ver l hi hb h => ?_, fun b i sv svs t et e ver iver hole l hi hb h => ?_, fun b i hi h => ?_⟩
   ·rw [key b i hi]
    have h' : pl i = some (.cells g) := h
    cases hbi : bl i with
    | none => rw [hr.rel.fresh i hbi] at h'; cases h'
    | some B => simp [plOf, E, envOf, hbi, h']
   ·rw [key b i hi]
    have h' : pl i = some (.row sv svs) := h
    have hb' : bl i = some _ := hb
    simp [plOf, E, envOf, hb', h']
   ·rw [key b i hi]
    have h' : pl i = some (.row sv svs) := h
    have hb' : bl i = some _ := hb
    simp [plOf, E, envOf, hb', h']
   ·rw [key b i hi]
    have h' : bl i = none := h
    simp [plOf, E, envOf, h']
  have hS := readS_rep2 hblks (show Ev.w = E.w from rfl) hren (hrows _ fun b hb => c4 b (List.mem_append_left _ hb)) (lookAll_rep hr.tmps hvs) hx
  obtain ⟨_, hB⟩ := readBR_rep hblks (show Ev.w = E.w from rfl) rfl hren hok (hrows _ fun b hb => c4 b (List.mem_append_right _ hb)) hy
  refine ⟨plv, ⟨hr.defers, hr.size, fun t v' ht => mkT_rep hS t v' ht, hr.rel.baseLe, fun i B hBi => ?_, fun i j B C p q g hij hBi hCj hl hlC hp hq hpg hqg => ?_, fun i hi => ?_, hr.rel.glob.mono hown'⟩, rfl, rfl, rfl, Nat.le_refl _, fun g _ ho => ⟨rfl, fun h => ho (hown' g h)⟩, fun b g hb hp => ?_, fun b sv svs hb hp => ?_⟩
  ·have hlt : i < ids.length := by
    have := (List.getElem?_eq_some_iff.1 (show (mkB (upFrom 0 v.ins.length) v.ins y)[i]? = some B from hBi)).1
    rw [length_mkB] at this
    omega
   obtain ⟨B', h1, h2, _⟩ := hB i ids[i] (List.getElem?_eq_getElem hlt)
   have h4 : (mkB (upFrom 0 v.ins.length) v.ins y)[i]? = some B := hBi
   rw [h1] at h4
   injection h4 with h4
   subst h4
   exact ⟨_, by simp [plv, List.getElem?_eq_getElem hlt], h2⟩
  ·obtain ⟨i', B', h1, h2, h3⟩ := hplv i p g hp hpg
   obtain ⟨j', C', h4, h5, h6⟩ := hplv j q g hq hqg
   have hne : i' ≠ j' := by
    rintro rfl
    have q1 := place_of c3 h1
    have q2 := place_of c3 h4
    rw [q1] at q2
    injection q2 with q2
    exact hij q2
   exact hr.rel.sep i' j' B' C' p q g hne h2 h5 (hlive i' (List.mem_of_getElem? h1) B' h2) (hlive j' (List.mem_of_getElem? h4) C' h5) h3 h6 hpg hqg
  ·have hge : ids.length ≤ i := by
    have h1 : (mkB (upFrom 0 v.ins.length) v.ins y)[i]? = none := hi
    rw [List.getElem?_eq_none_iff, length_mkB] at h1
    omega
   simp [plv, List.getElem?_eq_none hge]
  ·have hget : ids[b]? = some b := by
    have h1 : (ids.take v.m)[b]? = some b := by rw [c2]; simpa using get_upFrom (n := v.m) (s := 0) hb
    rwa [List.getElem?_take_of_lt hb] at h1
   cases hbi : bl b with
   | none => rw [hr.rel.fresh b hbi] at hp; cases hp
   | some B => simp [plv, hget, plOf, E, envOf, hbi, hp]
  ·have hget : ids[b]? = some b := by
    have h1 : (ids.take v.m)[b]? = some b := by rw [c2]; simpa using get_upFrom (n := v.m) (s := 0) hb
    rwa [List.getElem?_take_of_lt hb] at h1
   cases hbi : bl b with
   | none => rw [hr.rel.fresh b hbi] at hp; cases hp
   | some B => exact ⟨sv, svs, by simp [plv, hget, plOf, E, envOf, hbi, hp]⟩
end Go.Lift
namespace Go.Lift
open Go.RowKit
def eqE : AExit → AExit → Bool
 | .normal, .normal => true
 | .exit a, .exit b => Nat.beq a b
 | .ret, .ret => true
 | _, _ => false
theorem eqE_iff {a b : AExit} (h : eqE a b = true) : a = b := by
 cases a <;> cases b <;> simp only [eqE] at h <;> first | rfl | (cases h; done) | (rw [Nat.eq_of_beq_eq_true h])
@[reducible] def Outs.den : List (AExit × View) → Type
 | [] => Empty
 | x :: r => x.2.den ⊕ Outs.den r
@[reducible] def Outs.K (β : Type) : List (AExit × View) → Type
 | [] => Unit
 | x :: r => (x.2.den → Option β) × Outs.K β r
def outK {β : Type} : (outs : List (AExit × View)) → Outs.K β outs → Kx β
 | [], _, _, _ => none
 | x :: r, ks, e, σ =>
  bif eqE e x.1 then
   match x.2.read σ with
   | some d => ks.1 d
   | none => none
  else outK r ks.2 e σ
def Outs.app {β : Type} : (outs : List (AExit × View)) → Outs.K β outs → Outs.den outs → Option β
 | _ :: _, ks, .inl d => ks.1 d
 | _ :: r, ks, .inr o => Outs.app r ks.2 o
def mkK {β : Type} (k : Kx β) : (outs : List (AExit × View)) → Outs.K β outs
 | [] => ()
 | x :: r => (fun d => k x.1 (x.2.mk' d), mkK k r)
def exitOf : (outs : List (AExit × View)) → Outs.den outs → AExit × St
 | x :: _, .inl d => (x.1, x.2.mk' d)
 | _ :: r, .inr o => exitOf r o
def loopK {β : Type} (v : View) (g : v.den → Option β) (outs : List (AExit × View)) (kk : Outs.K β outs) : Kx β
 | .normal, σ =>
  match v.read σ with
  | some d => g d
  | none => none
 | e, σ => outK outs kk e σ
section
variable {P : Program} {n m : Nat}
structure PieceOk (P : Program) (n m : Nat) (c : Code) (v : View) (outs : List (AExit × View)) (G : {β : Type} → v.den → Outs.K β outs → Option β) : Prop where
 ok : ∀ {β : Type} (d : v.den) (kk : Outs.K β outs) (r : β), G d kk = some r → ∃ o, Outs.app outs kk o = some r ∧
  ∀ (ok0 : OK0 P) (base : Nat) (pl : Nat → Option Pl) (a : Act) (w : World), Rel n ok0 base pl (look (v.mk' d).tm) (look (v.mk' d).bl) a w →
   c.wp P (fun e a' w' => e = (exitOf outs o).1.toExit ∧ ∃ pl', Rel n ok0 base pl' (look (exitOf outs o).2.tm) (look (exitOf outs o).2.bl) a' w' ∧ StepM m pl (look (v.mk' d).bl) w pl' (look (exitOf outs o).2.bl) w') a w
def pieceCut (v : View) (outs : List (AExit × View)) (G : {β : Type} → v.den → Outs.K β outs → Option β) : Cut :=
 ⟨fun σ k =>
  match v.read σ with
  | some d => G d (mkK k outs)
  | none => none⟩
theorem app_mkK {β : Type} {k : Kx β} : ∀ {outs : List (AExit × View)} (o : Outs.den outs), Outs.app outs (mkK k outs) o = k (exitOf outs o).1 (exitOf outs o).2
 | [], o => o.elim
 | _ :: _, .inl _ => rfl
 | _ :: r, .inr o => app_mkK (outs := r) o
theorem pieceCut_ok {c : Code} {v : View} {outs : List (AExit × View)} {G : {β : Type} → v.den → Outs.K β outs → Option β} (hv : v.m = m) (h : PieceOk P n m c v outs G) : CutOk P n m c (pieceCut v outs G) := by
 intro β σ k r hr
 simp only [pieceCut] at hr
 split at hr
 ·rename_i d hd
  obtain ⟨o, ho, hw⟩ := h.ok d _ r hr
  rw [app_mkK] at ho
  refine ⟨_, _, ho, fun ok0 base pl a w hrel => ?_⟩
  obtain ⟨plv, h1, h2⟩ := View.weaken hd hrel
  rw [hv] at h2
  exact wp_mono' (hw ok0 base plv a w h1) fun e a' w' ⟨he, pl', h3, h4⟩ => ⟨he, pl', h3, h2.trans h4⟩
 ·cases hr
theorem outK_some {β : Type} {r : β} {e : AExit} {σ : St} : ∀ {outs : List (AExit × View)} {kk : Outs.K β outs}, (∀ x ∈ outs, x.2.m = m) → outK outs kk e σ = some r →
  ∃ o, Outs.app outs kk o = some r ∧ (exitOf outs o).1 = e ∧ ∀ (ok0 : OK0 P) (base : Nat) (pl : Nat → Option Pl) (a : Act) (w : World), Rel n ok0 base pl (look σ.tm) (look σ.bl) a w →
   ∃ plv, Rel n ok0 base plv (look (exitOf outs o).2.tm) (look (exitOf outs o).2.bl) a w ∧ StepM m pl (look σ.bl) w plv (look (exitOf outs o).2.bl) w
 | [], kk, _, h => by simp [outK] at h
 | x :: l, kk, hm, h => by
  simp only [outK] at h
  cases he : eqE e x.1 with
  | true =>
   rw [he, cond_true] at h
   split at h
   ·rename_i d hd
    refine ⟨.inl d, h, (eqE_iff he).symm, fun ok0 base pl a w hr => ?_⟩
    have := View.weaken hd hr
    rw [hm x (by simp)] at this
    exact this
   ·cases h
  | false =>
   rw [he, cond_false] at h
   obtain ⟨o, h1, h2, h3⟩ := outK_some (fun y hy => hm y (by simp [hy])) h
   exact ⟨.inr o, h1, h2, h3⟩
theorem sim_out {β : Type} {r : β} {c : Code} {σ : St} {outs : List (AExit × View)} {kk : Outs.K β outs} (hm : ∀ x ∈ outs, x.2.m = m) (h : Sim P n m c σ (outK outs kk) r) :
  ∃ o, Outs.app outs kk o = some r ∧ ∀ (ok0 : OK0 P) (base : Nat) (pl : Nat → Option Pl) (a : Act) (w : World), Rel n ok0 base pl (look σ.tm) (look σ.bl) a w →
   c.wp P (fun e a' w' => e = (exitOf outs o).1.toExit ∧ ∃ pl', Rel n ok0 base pl' (look (exitOf outs o).2.tm) (look (exitOf outs o).2.bl) a' w' ∧ StepM m pl (look σ.bl) w pl' (look (exitOf outs o).2.bl) w') a w := by
 obtain ⟨e', σ', h1, h2⟩ := h
 obtain ⟨o, h3, h4, h5⟩ := outK_some (n := n) hm h1
 refine ⟨o, h3, fun ok0 base pl a w hr => wp_mono' (h2 ok0 base pl a w hr) fun e a' w' ⟨he, pl', hr', hs'⟩ => ?_⟩
 obtain ⟨plv, h6, h7⟩ := h5 ok0 base pl' a' w' hr'
 exact ⟨by rw [he, h4], plv, h6, hs'.trans h7⟩
theorem outsM {outs : List (AExit × View)} (h : (outs.all fun x => Nat.beq x.2.m m) = true) : ∀ x ∈ outs, x.2.m = m := fun x hx => Nat.eq_of_beq_eq_true (List.all_eq_true.1 h x hx)
theorem piece_exec (hmx : P.follows .mixedOrders = true) {X : Ctx} (hT : TOk P X.T) (hΓ : ΓOk P X.Γ) {Λ : Nat → Option Cut} {p : Nat} {c : Code} {v : View} {outs : List (AExit × View)} {G : {β : Type} → v.den → Outs.K β outs → Option β}
  (hmB : (outs.all fun x => Nat.beq x.2.m m) = true) (hΛ : ∀ q cut, Λ q = some cut → ∀ c' ∈ find q p c, CutOk P n m c' cut)
  (h : ∀ {β : Type} (d : v.den) (kk : Outs.K β outs) (r : β), G d kk = some r → exec X n Λ p c (v.mk' d) (outK outs kk) = some r) : PieceOk P n m c v outs G :=
 ⟨fun d kk r hr => sim_out (outsM hmB) (exec_sound hmx hT hΓ hΛ (h d kk r hr))⟩
theorem piece_loop (hmx : P.follows .mixedOrders = true) {X : Ctx} (hT : TOk P X.T) (hΓ : ΓOk P X.Γ) {Λ : Nat → Option Cut} {p : Nat} {c : Code} {v : View} {outs : List (AExit × View)} {G : Nat → {β : Type} → v.den → Outs.K β outs → Option β}
  (hv : v.m = m) (hmB : (outs.all fun x => Nat.beq x.2.m m) = true) (hΛ : ∀ q cut, Λ q = some cut → ∀ c' ∈ find q p c, CutOk P n m c' cut)
  (h0 : ∀ {β : Type} (d : v.den) (kk : Outs.K β outs), G 0 d kk = none)
  (hs : ∀ (i : Nat) {β : Type} (d : v.den) (kk : Outs.K β outs) (r : β), G (i + 1) d kk = some r → exec X n Λ p c (v.mk' d) (loopK v (fun d' => G i d' kk) outs kk) = some r) :
  ∀ i, PieceOk P n m (.loop c) v outs (G i) := by
 have hm := outsM hmB
 have key : ∀ (i : Nat) {β : Type} (d : v.den) (kk : Outs.K β outs) (r : β), G i d kk = some r → ∃ o, Outs.app outs kk o = some r ∧
   ∀ (ok0 : OK0 P) (base : Nat) (pl : Nat → Option Pl) (a : Act) (w : World), Rel n ok0 base pl (look (v.mk' d).tm) (look (v.mk' d).bl) a w →
    Code.rounds P c (fun e a' w' => e = (exitOf outs o).1.toExit ∧ ∃ pl', Rel n ok0 base pl' (look (exitOf outs o).2.tm) (look (exitOf outs o).2.bl) a' w' ∧ StepM m pl (look (v.mk' d).bl) w pl' (look (exitOf outs o).2.bl) w') i a w := by
  intro i
  induction i with
  | zero => intro β d kk r h; rw [h0] at h; cases h
  | succ i ih =>
   intro β d kk r h
   obtain ⟨e', σ', h1, h2⟩ := exec_sound hmx hT hΓ hΛ (hs i d kk r h)
   have hb : (e' = .normal ∧ ∃ d', v.read σ' = some d' ∧ G i d' kk = some r) ∨ (e' ≠ .normal ∧ outK outs kk e' σ' = some r) := by
    cases e' with
    | normal =>
     simp only [loopK] at h1
     split at h1
     ·rename_i d' hd; exact .inl ⟨rfl, d', hd, h1⟩
     ·cases h1
    | exit id => exact .inr ⟨fun h => (by cases h), h1⟩
    | ret => exact .inr ⟨fun h => (by cases h), h1⟩
   rcases hb with ⟨he, d', hd, hg⟩ | ⟨he, hk⟩
   ·subst he
    obtain ⟨o, ho, hw⟩ := ih d' kk r hg
    refine ⟨o, ho, fun ok0 base pl a w hr => ?_⟩
    rw [rounds_succ]
    refine wp_mono' (h2 ok0 base pl a w hr) fun e a' w' ⟨he, pl', hr', hs'⟩ => ?_
    subst he
    obtain ⟨plv, h6, h7⟩ := View.weaken hd hr'
    rw [hv] at h7
    have hmono : ∀ (j : Nat) {Q Q' : Exit → Act → World → Prop} {a : Act} {w : World}, (∀ e a w, Q e a w → Q' e a w) → Code.rounds P c Q j a w → Code.rounds P c Q' j a w := by
     intro j
     induction j with
     | zero => intro _ _ _ _ _ h; exact h
     | succ j ihj =>
      intro Q Q' a w hq h
      rw [rounds_succ] at h ⊢
      refine wp_mono' h fun e a w h => ?_
      cases e with
      | normal => exact ihj hq h
      | _ => exact hq _ _ _ h
    exact hmono i (fun e a2 w2 ⟨q1, pl2, q2, q3⟩ => ⟨q1, pl2, q2, (hs'.trans h7).trans q3⟩) (hw ok0 base plv a' w' h6)
   ·obtain ⟨o, h3, h4, h5⟩ := outK_some (n := n) hm hk
    refine ⟨o, h3, fun ok0 base pl a w hr => ?_⟩
    rw [rounds_succ]
    refine wp_mono' (h2 ok0 base pl a w hr) fun e a' w' ⟨he', pl', hr', hs'⟩ => ?_
    obtain ⟨plv, h6, h7⟩ := h5 ok0 base pl' a' w' hr'
    subst he'
    have hQ : e'.toExit = (exitOf outs o).1.toExit ∧ ∃ pl', Rel n ok0 base pl' (look (exitOf outs o).2.tm) (look (exitOf outs o).2.bl) a' w' ∧ StepM m pl (look (v.mk' d).bl) w pl' (look (exitOf outs o).2.bl) w' :=
     ⟨by rw [h4], plv, h6, hs'.trans h7⟩
    cases e' with
    | normal => exact absurd rfl he
    | exit id => exact hQ
    | ret => exact hQ
 refine fun i => ⟨fun {β} d kk r h => ?_⟩
 obtain ⟨o, ho, hw⟩ := key i d kk r h
 exact ⟨o, ho, fun ok0 base pl a w hr => wp_loop_rounds i (hw ok0 base pl a w hr)⟩
def vIn (S : Spec) : View := { m := S.ins.length, slots := upFrom 0 S.params.length, params := S.params, ins := S.ins }
inductive RS where
 | tmp (t : Nat)
 | cell (a : Nat) (t : TypeId)
def RS.toVar : RS → ResultVar
 | .tmp t => .tmp t
 | .cell a t => .cell a t
def resV1 (T : TypeId → Option TI) (tm : List (Nat × V)) (bl : List (Nat × Blk)) : RS → Option V
 | .tmp t => look tm t
 | .cell a t =>
  match T t with
  | none => none
  | some ti =>
   bif ti.agg || Nat.beq ti.size 1 then
    match look tm a with
    | some (.c (.ptr b o)) =>
     match look bl b with
     | some (.cells _ cs) =>
      match sub cs o ti.size with
      | some rc => some (V.mk ti.agg rc)
      | none => none
     | _ => none
    | _ => none
   else none
def resVs (T : TypeId → Option TI) (tm : List (Nat × V)) (bl : List (Nat × Blk)) : List RS → Option (List V)
 | [] => some []
 | x :: r =>
  match resV1 T tm bl x with
  | none => none
  | some v =>
   match resVs T tm bl r with
   | none => none
   | some vs => some (v :: vs)
def numV : Nat → List V → List (Nat × V)
 | _, [] => []
 | i, v :: r => (i, v) :: numV (i + 1) r
def vRes (S : Spec) : View := { m := S.ins.length, slots := upFrom 0 S.res.length, params := S.res, ins := S.outs }
def retRun {β : Type} (T : TypeId → Option TI) (S : Spec) (rs : List RS) (k : ST.dens S.res × BT.dens S.outs → Option β) (σ : St) : Option β :=
 match resVs T σ.tm σ.bl rs with
 | none => none
 | some vs =>
  match (vRes S).read ⟨numV 0 vs, σ.bl, σ.nx⟩ with
  | some y => k y
  | none => none
def retK {β : Type} (T : TypeId → Option TI) (S : Spec) (rs : List RS) (k : ST.dens S.res × BT.dens S.outs → Option β) : Kx β
 | .exit _, _ => none
 | .normal, σ => retRun T S rs k σ
 | .ret, σ => retRun T S rs k σ
theorem mkT_upFrom_rep {E : Env} {ids : List Nat} {tmps : Array Value} : ∀ {l : List (Bool × List CT)} {x : ST.dens l} {us : List Value} {s : Nat}, TReps E (mkS ids l x) us → (∀ j, j < us.length → tmps.getD (s + j) undef = us.getD j undef) →
  ∀ t v, look (mkT ids (upFrom s l.length) l x) t = some v → VRep E v (tmps.getD t undef)
 | [], _, _, s, _, _, t, v, h => by simp [mkT, upFrom, look] at h
 | p :: l, x, us, s, hr, hg, t, v, h => by
  obtain ⟨u, us', e, h1, h2⟩ := hr
  subst e
  simp only [List.length_cons, upFrom, mkT, look] at h
  by_cases hts : t = s
  ·subst hts
   rw [beq_self, cond_true, Option.some.injEq] at h
   subst h
   have := hg 0 (by simp)
   simp only [Nat.add_zero, List.getD_cons_zero] at this
   rw [this]
   exact VRep.mk h1
  ·rw [beq_ne hts, cond_false] at h
   refine mkT_upFrom_rep h2 (fun j hj => ?_) t v h
   have := hg (j + 1) (by simpa using hj)
   rw [show s + 1 + j = s + (j + 1) by omega, this]
   simp
theorem TReps.length {E : Env} : ∀ {ts : List (Bool × List C)} {vs : List Value}, TReps E ts vs → vs.length = ts.length
 | [], vs, h => by simp only [TReps] at h; simp [h]
 | _ :: ts, vs, ⟨_, _, e, _, h⟩ => by rw [e, List.length_cons, List.length_cons, TReps.length h]
theorem length_mkS {ids : List Nat} : ∀ {l : List (Bool × List CT)} {x : ST.dens l}, (mkS ids l x).length = l.length
 | [], _ => rfl
 | _ :: l, x => by simp [mkS, length_mkS (l := l)]
def CT.count : List CT → Nat
 | [] => 0
 | .data τ :: r => τ.size + CT.count r
 | _ :: r => CT.count r + 1
def ST.tidy : List (Bool × List CT) → Bool
 | [] => true
 | p :: r => (p.1 || Nat.beq (CT.count p.2) 1) && ST.tidy r
theorem length_mkC {ids : List Nat} : ∀ {l : List CT} {x : CT.dens l}, (mkC ids l x).length = CT.count l
 | [], _ => rfl
 | .data τ :: l, x => by simp [mkC, CT.count, length_cells, length_mkC (l := l)]
 | .ptr _ _ :: l, x => by simp [mkC, CT.count, length_mkC (l := l)]
 | .rowh _ :: l, x => by simp [mkC, CT.count, length_mkC (l := l)]
 | .fn _ _ :: l, x => by simp [mkC, CT.count, length_mkC (l := l)]
 | .maph _ :: l, x => by simp [mkC, CT.count, length_mkC (l := l)]
 | .math _ :: l, x => by simp [mkC, CT.count, length_mkC (l := l)]
 | .bself _ :: l, x => by simp [mkC, CT.count, length_mkC (l := l)]
 | .nilc :: l, x => by simp [mkC, CT.count, length_mkC (l := l)]
 | .nils :: l, x => by simp [mkC, CT.count, length_mkC (l := l)]
 | .lsome _ :: l, x => by simp [mkC, CT.count, length_mkC (l := l)]
 | .junk :: l, x => by simp [mkC, CT.count, length_mkC (l := l)]
theorem look_mkT_mem {ids : List Nat} : ∀ {slots : List Nat} {l : List (Bool × List CT)} {x : ST.dens l} {t : Nat} {v : V}, look (mkT ids slots l x) t = some v → t ∈ slots
 | [], _, _, t, v, h => by simp [mkT, look] at h
 | _ :: _, [], _, t, v, h => by simp [mkT, look] at h
 | s :: ss, p :: l, x, t, v, h => by
  simp only [mkT, look] at h
  by_cases hts : t = s
  ·simp [hts]
  ·rw [beq_ne hts, cond_false] at h
   exact List.mem_cons_of_mem _ (look_mkT_mem h)
theorem mkT_back {E : Env} {ids : List Nat} {tmps : Array Value} : ∀ {slots : List Nat} {l : List (Bool × List CT)} {x : ST.dens l}, slots.length = l.length → (∀ t v, look (mkT ids slots l x) t = some v → VRep E v (tmps.getD t undef)) → slots.Nodup → ST.tidy l = true →
  TReps E (mkS ids l x) (slots.map fun t => tmps.getD t undef)
 | [], [], _, _, _, _, _ => rfl
 | [], _ :: _, _, hl, _, _, _ => by simp at hl
 | _ :: _, [], _, hl, _, _, _ => by simp at hl
 | s :: ss, p :: l, x, hl, h, hn, ht => by
  obtain ⟨t1, t2⟩ := andB (show ((p.1 || Nat.beq (CT.count p.2) 1) && ST.tidy l) = true from ht)
  obtain ⟨n1, n2⟩ := List.nodup_cons.1 hn
  have h1 := h s (V.mk p.1 (mkC ids p.2 x.1)) (by simp [mkT, look])
  refine ⟨_, _, rfl, ?_, mkT_back (by simpa using hl) (fun t v hv => h t v ?_) n2 t2⟩
  ·cases ha : p.1 with
   | true =>
    rw [ha] at h1
    exact h1
   | false =>
    rw [ha] at h1 t1
    simp only [Bool.false_or] at t1
    have hlen := length_mkC (ids := ids) (l := p.2) (x := x.1)
    rw [Nat.eq_of_beq_eq_true t1] at hlen
    show SRep E false (mkC ids p.2 x.1) _
    match hc : mkC ids p.2 x.1, hlen with
    | [y], _ =>
     rw [hc] at h1
     exact ⟨[_], ⟨_, _, rfl, h1, rfl⟩, by simp⟩
  ·have : t ∈ ss := look_mkT_mem hv
   have hne : t ≠ s := fun e => n1 (e ▸ this)
   rw [mkT, look, beq_ne hne, cond_false]
   exact hv
theorem VReps.length {E : Env} : ∀ {vs : List V} {us : List Value}, VReps E vs us → us.length = vs.length
 | [], us, h => by simp only [VReps] at h; simp [h]
 | _ :: vs, us, ⟨_, _, e, _, h⟩ => by rw [e, List.length_cons, List.length_cons, VReps.length h]
theorem VReps.get {E : Env} : ∀ {vs : List V} {us : List Value} {s t : Nat} {v : V}, VReps E vs us → look (numV s vs) t = some v → s ≤ t ∧ ∃ u, us[t - s]? = some u ∧ VRep E v u
 | [], us, s, t, v, h, hl => by simp [numV, look] at hl
 | x :: vs, us, s, t, v, ⟨u, us', e, h1, h2⟩, hl => by
  simp only [numV, look] at hl
  by_cases hts : t = s
  ·subst hts
   rw [beq_self, cond_true, Option.some.injEq] at hl
   subst hl
   exact ⟨Nat.le_refl _, u, by simp [e], h1⟩
  ·rw [beq_ne hts, cond_false] at hl
   obtain ⟨h3, u', h4, h5⟩ := VReps.get h2 hl
   refine ⟨by omega, u', ?_, h5⟩
   have h6 : t - s = (t - (s + 1)) + 1 := by omega
   rw [e, h6, List.getElem?_cons_succ]
   exact h4
theorem resV1_rep {P : Program} {n : Nat} {T : TypeId → Option TI} (hT : TOk P T) {tm : List (Nat × V)} {bl : List (Nat × Blk)} {x : RS} {v : V} (hv : resV1 T tm bl x = some v) {ok0 : OK0 P} {base : Nat} {pl : Nat → Option Pl} {a : Act} {w : World}
  (hr : Rel n ok0 base pl (look tm) (look bl) a w) : ∃ val, (match x.toVar with | .tmp t => (pure (a.tmps.getD t undef) : Sem Value) | .cell b t => do loadVar t (← asAddr (a.tmps.getD b undef))).run P w = .ok val w ∧ VRep (envOf ok0 base pl (look bl) w) v val := by
 cases x with
 | tmp t =>
  exact ⟨_, by simp only [RS.toVar, Sem.run_pure], hr.tmps t v hv⟩
 | cell b t =>
  simp only [resV1] at hv
  split at hv
  ·cases hv
  rename_i ti ht
  obtain ⟨i, d, z, f⟩ := hT.facts ht
  cases h1 : (ti.agg || Nat.beq ti.size 1) with
  | false => rw [h1] at hv; cases hv
  | true =>
   have h1' : ti.agg = true ∨ ti.size = 1 := by
    rcases (Bool.or_eq_true _ _).mp h1 with h | h
    ·exact .inl h
    ·exact .inr (Nat.eq_of_beq_eq_true h)
   simp only [h1, cond_true] at hv
   split at hv
   ·rename_i b' o hb
    split at hv
    ·rename_i t0 cs hbl
     split at hv
     ·rename_i rc hsub
      simp only [Option.some.injEq] at hv
      subst hv
      obtain ⟨g, hg, hav⟩ := hr.tmps b _ hb
      obtain ⟨p, hp, hB⟩ := hr.rel.blks b' _ hbl
      have : p = .cells g := by have h2 : pl b' = some (.cells g) := hg; rw [hp] at h2; injection h2
      subst this
      obtain ⟨vs, hh, hcs⟩ := hB
      obtain ⟨s1, s2, s3⟩ := sub_rep hcs hsub
      obtain ⟨val, hv1, hv2⟩ := run_loadVar_rep f s2 h1' (fun j u hj => cell_of_cells hh hj) s1
      refine ⟨val, ?_, hv2⟩
      simp only [RS.toVar, hav, asAddr, pure_bind]
      exact hv1
     ·cases hv
    ·cases hv
   ·cases hv
theorem results_rep {P : Program} {n : Nat} {T : TypeId → Option TI} (hT : TOk P T) {fn : Func} {rs : List RS} (h : fn.results.toList = rs.map RS.toVar) {tm : List (Nat × V)} {bl : List (Nat × Blk)} {vs : List V} (hv : resVs T tm bl rs = some vs)
  {ok0 : OK0 P} {base : Nat} {pl : Nat → Option Pl} {a : Act} {w : World} (hr : Rel n ok0 base pl (look tm) (look bl) a w) : ∃ vals, (results fn a.tmps).run P w = .ok (retVal vals) w ∧ VReps (envOf ok0 base pl (look bl) w) vs vals := by
 have h' : fn.results = (rs.map RS.toVar).toArray := by
  apply Array.ext'; simpa using h
 let F : ResultVar → Sem Value := fun x => match x with | .tmp t => pure (a.tmps.getD t undef) | .cell b t => do loadVar t (← asAddr (a.tmps.getD b undef))
 have hl : ∀ (rs : List RS) (vs : List V), resVs T tm bl rs = some vs → ∃ vals, ((rs.map RS.toVar).mapM F).run P w = .ok vals w ∧ VReps (envOf ok0 base pl (look bl) w) vs vals := by
  intro rs
  induction rs with
  | nil => intro vs h; simp only [resVs, Option.some.injEq] at h; subst h; exact ⟨[], by simp, rfl⟩
  | cons x rs ih =>
   intro vs h
   simp only [resVs] at h
   split at h
   ·cases h
   ·rename_i v hv1
    split at h
    ·cases h
    ·rename_i vs' hvs'
     simp only [Option.some.injEq] at h
     subst h
     obtain ⟨val, h1, h2⟩ := resV1_rep hT hv1 hr
     obtain ⟨vals, h3, h4⟩ := ih vs' hvs'
     refine ⟨val :: vals, ?_, val, vals, rfl, h2, h4⟩
     rw [List.map_cons, List.mapM_cons]
     simp only [Sem.run_bind]
     have h1' : (F x.toVar).run P w = .ok val w := h1
     rw [h1']
     simp only [Result.andThen_ok]
     rw [h3]
     simp
 obtain ⟨vals, h1, h2⟩ := hl rs vs hv
 refine ⟨vals, ?_, h2⟩
 have hm : (fn.results.mapM F).run P w = .ok vals.toArray w := by
  rw [h', List.mapM_toArray, map_eq_pure_bind, Sem.run_bind, h1]
  simp only [Result.andThen_ok, Sem.run_pure]
 have key : (results fn a.tmps).run P w = ((fn.results.mapM F) >>= fun vs => pure (if h : vs.size = 1 then vs[0] else .tuple vs)).run P w := rfl
 rw [key, Sem.run_bind, hm]
 simp only [Result.andThen_ok, Sem.run_pure]
 congr 1
 cases vals with
 | nil => simp [retVal]
 | cons s ss =>
  cases ss with
  | nil => simp [retVal]
  | cons _ _ => simp [retVal]
theorem map_upFrom_getD {us : List Value} : ∀ {l s : Nat} {pre : List Value}, pre.length = s → us.length = l → ((upFrom s l).map fun t => (pre ++ us).toArray.getD t undef) = us := by
 induction us with
 | nil => intro l s pre hp hl; simp at hl; subst hl; rfl
 | cons u us ih =>
  intro l s pre hp hl
  cases l with
  | zero => simp at hl
  | succ l =>
   simp only [upFrom, List.map_cons, List.cons.injEq]
   refine ⟨?_, ?_⟩
   ·simp [Array.getD_eq_getD_getElem?, ← hp]
   ·have := ih (l := l) (s := s + 1) (pre := pre ++ [u]) (by simp [hp]) (by simpa using hl)
    simpa [List.append_assoc] using this
theorem lookAll_length {tm : List (Nat × V)} : ∀ {l : List Nat} {vs : List V}, lookAll tm l = some vs → vs.length = l.length
 | [], vs, h => by simp only [lookAll, Option.some.injEq] at h; subst h; rfl
 | t :: l, vs, h => by
  simp only [lookAll] at h
  split at h
  ·split at h
   ·rename_i vs' hvs
    simp only [Option.some.injEq] at h
    subst h
    simp [lookAll_length hvs]
   ·cases h
  ·cases h
structure SpecOkB (P : Program) (f : FuncId) (S : Spec) : Prop where
 fn : ∃ fn, P.funcs[f]? = some fn ∧ (fn.name == "runtime.NumGoroutine") = false ∧ fn.body.isNone = false
 ok : ∀ {β : Type} (x : ST.dens S.params × BT.dens S.ins) (k : ST.dens S.res × BT.dens S.outs → Option β) (r : β), S.run x k = some r →
  ∃ y, k y = some r ∧ ∀ (ok0 : OK0 P) (base : Nat) (pl : Nat → Option Pl) (w : World) (args : List Value), base ≤ w.heap.size →
   RelB ok0 base pl (fnBl (mkB (upFrom 0 S.ins.length) S.ins x.2)) w →
   TReps (envOf ok0 base pl (fnBl (mkB (upFrom 0 S.ins.length) S.ins x.2)) w) (mkS (upFrom 0 S.ins.length) S.params x.1) args →
   Calls P f args.toArray w fun e w' => ∃ vals pl', e = .returned (retVal vals) ∧
    RelB ok0 base pl' (fnBl (mkB (upFrom 0 S.outs.length) S.outs y.2)) w' ∧
    StepM S.ins.length pl (fnBl (mkB (upFrom 0 S.ins.length) S.ins x.2)) w pl' (fnBl (mkB (upFrom 0 S.outs.length) S.outs y.2)) w' ∧
    TReps (envOf ok0 base pl' (fnBl (mkB (upFrom 0 S.outs.length) S.outs y.2)) w') (mkS (upFrom 0 S.outs.length) S.res y.1) vals
theorem SpecOkB.spec {P : Program} {f : FuncId} {S : Spec} (h : SpecOkB P f S) : SpecOk P f S :=
 ⟨h.fn, fun x k r hr => by
  obtain ⟨y, hy, hc⟩ := h.ok x k r hr
  exact ⟨y, hy, fun ok0 pl w args hrel hargs => hc ok0 w.heap.size pl w args (Nat.le_refl _) hrel hargs⟩⟩
theorem spec_execB {P : Program} (hmx : P.follows .mixedOrders = true) {X : Ctx} (hT : TOk P X.T) (hΓ : ΓOk P X.Γ) {Λ : Nat → Option Cut} {S : Spec} {f : FuncId} {fn : Func} {c : Code} {rs : List RS}
  (hf : P.funcs[f]? = some fn) (hname : (fn.name == "runtime.NumGoroutine") = false) (hb : fn.body = some c) (hres : fn.results.toList = rs.map RS.toVar)
  (hok : (Nat.beq rs.length S.res.length && (ST.tidy S.res && Nat.ble S.params.length fn.ntmps)) = true)
  (hΛ : ∀ q cut, Λ q = some cut → ∀ c' ∈ find q 1 c, CutOk P fn.ntmps S.ins.length c' cut)
  (h : ∀ {β : Type} (x : ST.dens S.params × BT.dens S.ins) (k : ST.dens S.res × BT.dens S.outs → Option β) (r : β), S.run x k = some r →
   exec X fn.ntmps Λ 1 c ((vIn S).mk' x) (retK X.T S rs k) = some r) : SpecOkB P f S := by
 obtain ⟨o2, hok⟩ := andB hok
 obtain ⟨o3, o4⟩ := andB hok
 have o2 := Nat.eq_of_beq_eq_true o2
 have o4 := Nat.le_of_ble_eq_true o4
 refine ⟨⟨fn, hf, hname, by rw [hb]; rfl⟩, fun x k r hr => ?_⟩
 obtain ⟨e', σ', hk, hw⟩ := exec_sound hmx hT hΓ (m := S.ins.length) hΛ (h x k r hr)
 have hk' : (e' = .normal ∨ e' = .ret) ∧ retRun X.T S rs k σ' = some r := by
  cases e' with
  | normal => exact ⟨.inl rfl, hk⟩
  | ret => exact ⟨.inr rfl, hk⟩
  | exit id => cases hk
 obtain ⟨he', hk⟩ := hk'
 unfold retRun at hk
 split at hk
 ·cases hk
 rename_i vs hvs
 split at hk
 ·rename_i y hy
  refine ⟨y, hk, fun ok0 base pl w args _hbase hrel hargs => ?_⟩
  have hlen : args.length = S.params.length := by rw [TReps.length hargs, length_mkS]
  refine calls_of_wp hf hb ?_
  have hstart : Rel fn.ntmps ok0 base pl (look ((vIn S).mk' x).tm) (look ((vIn S).mk' x).bl) { tmps := args.toArray ++ Array.replicate (fn.ntmps - args.toArray.size) undef, defers := [] } w := by
   have ebl : look ((vIn S).mk' x).bl = fnBl (mkB (upFrom 0 S.ins.length) S.ins x.2) := look_mk_bl (vIn S) x
   rw [ebl]
   refine ⟨rfl, by simp; omega, fun t v ht => ?_, hrel⟩
   refine mkT_upFrom_rep (s := 0) hargs (fun j hj => ?_) t v ht
   simp only [Nat.zero_add, Array.getD_eq_getD_getElem?]
   rw [Array.getElem?_append_left (by simpa using hj)]
   simp [List.getD]
  refine wp_mono' (hw ok0 base pl _ w hstart) fun e a' w' ⟨he, pl', hr', hs'⟩ => ?_
  obtain ⟨vals, hrun, hreps⟩ := results_rep hT hres hvs hr'
  have hsyn : Rel vals.length ok0 base pl' (look (numV 0 vs)) (look σ'.bl) { tmps := vals.toArray, defers := [] } w' := by
   refine ⟨rfl, by simp, fun t v ht => ?_, hr'.rel⟩
   obtain ⟨_, u, h1, h2⟩ := VReps.get hreps ht
   simp only [Nat.sub_zero] at h1
   simp only [Array.getD_eq_getD_getElem?, List.getElem?_toArray, h1, Option.getD_some]
   exact h2
  obtain ⟨plv, hv1, hv2⟩ := View.weaken (σ := ⟨numV 0 vs, σ'.bl, σ'.nx⟩) hy hsyn
  have hvlen : vals.length = S.res.length := by
   have : ∃ us, lookAll (numV 0 vs) (upFrom 0 S.res.length) = some us ∧ True := by
    unfold View.read at hy
    split at hy
    ·cases hy
    ·rename_i us hus; exact ⟨us, hus, trivial⟩
   rw [VReps.length hreps]
   have hres' : ∀ (rs : List RS) (vs : List V), resVs X.T σ'.tm σ'.bl rs = some vs → vs.length = rs.length := by
    intro rs
    induction rs with
    | nil => intro vs h; simp only [resVs, Option.some.injEq] at h; subst h; rfl
    | cons x rs ih =>
     intro vs h
     simp only [resVs] at h
     split at h
     ·cases h
     ·split at h
      ·cases h
      ·rename_i vs' hvs'
       simp only [Option.some.injEq] at h
       subst h
       simp [ih vs' hvs']
   rw [hres' rs vs hvs, o2]
  have ebl : look ((vIn S).mk' x).bl = fnBl (mkB (upFrom 0 S.ins.length) S.ins x.2) := look_mk_bl (vIn S) x
  have ebo : look ((vRes S).mk' y).bl = fnBl (mkB (upFrom 0 S.outs.length) S.outs y.2) := look_mk_bl (vRes S) y
  rw [ebo] at hv1 hv2
  rw [ebl] at hs'
  have hback := mkT_back (ids := upFrom 0 S.outs.length) (l := S.res) (x := y.1) length_upFrom hv1.tmps nodup_upFrom o3
  have hvals : ((upFrom 0 S.res.length).map fun t => vals.toArray.getD t undef) = vals := by
   have := map_upFrom_getD (us := vals) (l := S.res.length) (s := 0) (pre := []) rfl hvlen
   simpa using this
  have hpost : a'.defers = [] ∧ ∃ v, (results fn a'.tmps).run P w' = .ok v w' ∧ (∃ vals pl', Ending.returned v = .returned (retVal vals) ∧ RelB ok0 base pl' (fnBl (mkB (upFrom 0 S.outs.length) S.outs y.2)) w' ∧
     StepM S.ins.length pl (fnBl (mkB (upFrom 0 S.ins.length) S.ins x.2)) w pl' (fnBl (mkB (upFrom 0 S.outs.length) S.outs y.2)) w' ∧
     TReps (envOf ok0 base pl' (fnBl (mkB (upFrom 0 S.outs.length) S.outs y.2)) w') (mkS (upFrom 0 S.outs.length) S.res y.1) vals) := by
   refine ⟨hr'.defers, _, hrun, vals, plv, rfl, hv1.rel, hs'.trans hv2, ?_⟩
   rw [hvals] at hback
   exact hback
  rcases he' with e1 | e1 <;> rw [e1] at he <;> subst he <;> exact hpost
 ·cases hk
theorem spec_exec {P : Program} (hmx : P.follows .mixedOrders = true) {X : Ctx} (hT : TOk P X.T) (hΓ : ΓOk P X.Γ) {Λ : Nat → Option Cut} {S : Spec} {f : FuncId} {fn : Func} {c : Code} {rs : List RS}
  (hf : P.funcs[f]? = some fn) (hname : (fn.name == "runtime.NumGoroutine") = false) (hb : fn.body = some c) (hres : fn.results.toList = rs.map RS.toVar)
  (hok : (Nat.beq rs.length S.res.length && (ST.tidy S.res && Nat.ble S.params.length fn.ntmps)) = true)
  (hΛ : ∀ q cut, Λ q = some cut → ∀ c' ∈ find q 1 c, CutOk P fn.ntmps S.ins.length c' cut)
  (h : ∀ {β : Type} (x : ST.dens S.params × BT.dens S.ins) (k : ST.dens S.res × BT.dens S.outs → Option β) (r : β), S.run x k = some r →
   exec X fn.ntmps Λ 1 c ((vIn S).mk' x) (retK X.T S rs k) = some r) : SpecOk P f S :=
 (spec_execB hmx hT hΓ hf hname hb hres hok hΛ h).spec
theorem SpecOk.weaker {P : Program} {f : FuncId} {S : Spec} (h : SpecOk P f S) {run : {β : Type} → ST.dens S.params × BT.dens S.ins → (ST.dens S.res × BT.dens S.outs → Option β) → Option β}
  (hr : ∀ {β : Type} (x : ST.dens S.params × BT.dens S.ins) (k : ST.dens S.res × BT.dens S.outs → Option β) (r : β), run x k = some r → S.run x k = some r) :
  SpecOk P f { params := S.params, ins := S.ins, res := S.res, outs := S.outs, run } :=
 ⟨h.fn, fun x k r hrun => h.ok x k r (hr x k r hrun)⟩
end
end Go.Lift
namespace Go.Lift
open Go.RowKit
def pick1 {α : Type 1} : List (Nat × α) → Nat → Option α
 | [], _ => none
 | (j, x) :: r, i => bif Nat.beq i j then some x else pick1 r i
theorem look_mem {α : Type} : ∀ {l : List (Nat × α)} {i : Nat} {x : α}, look l i = some x → (i, x) ∈ l
 | [], _, _, h => by simp [look] at h
 | (j, y) :: r, i, x, h => by
  simp only [look] at h
  cases hb : Nat.beq i j with
  | true =>
   rw [hb, cond_true] at h
   injection h with h
   rw [Nat.eq_of_beq_eq_true hb, h]
   exact List.mem_cons_self
  | false =>
   rw [hb, cond_false] at h
   exact List.mem_cons_of_mem _ (look_mem h)
theorem TOk_of {P : Program} {tab : List (Nat × TI)} (h : tab.map (fun p => tiOf P p.1) = tab.map (fun p => some p.2)) : TOk P (look tab) := by
 intro t ti ht
 have hm := look_mem ht
 have key : ∀ {l : List (Nat × TI)}, l.map (fun p => tiOf P p.1) = l.map (fun p => some p.2) → ∀ p ∈ l, tiOf P p.1 = some p.2 := by
  intro l
  induction l with
  | nil => intro _ p hp; simp at hp
  | cons q l ih =>
   intro h p hp
   simp only [List.map_cons, List.cons.injEq] at h
   rcases List.mem_cons.1 hp with e | hp
   ·rw [e]; exact h.1
   ·exact ih h.2 p hp
 exact key h _ hm
theorem SpecOk.never {P : Program} {f : FuncId} {S : Spec} (hf : ∃ fn, P.funcs[f]? = some fn ∧ (fn.name == "runtime.NumGoroutine") = false ∧ fn.body.isNone = false)
  (h : ∀ {β : Type} (x : ST.dens S.params × BT.dens S.ins) (k : ST.dens S.res × BT.dens S.outs → Option β), S.run x k = none) : SpecOk P f S :=
 ⟨hf, fun x k r hr => by rw [h x k] at hr; cases hr⟩
theorem ΓOk_nil {P : Program} : ΓOk P (pick1 []) := ⟨fun _ _ h => by simp [pick1] at h, fun _ _ h => by simp [pick1] at h, fun _ _ h => by simp [pick1] at h⟩
theorem ΓOk_cons {P : Program} {f : Nat} {S : Spec} {l : List (Nat × Fun)} (h : SpecOk P f S) (hl : ΓOk P (pick1 l)) : ΓOk P (pick1 ((f, .spec S) :: l)) := by
 constructor
 all_goals
  intro g S' hg
  simp only [pick1] at hg
  cases hb : Nat.beq g f with
  | true =>
   rw [hb, cond_true] at hg
   first
   | (simp only [Option.some.injEq, Fun.spec.injEq] at hg; have hgf := Nat.eq_of_beq_eq_true hb; rw [hgf, ← hg]; exact h)
   | cases hg
  | false =>
   rw [hb, cond_false] at hg
   first | exact hl.spec g S' hg | exact hl.rows g S' hg | exact hl.bld g S' hg
theorem ΓOk_row {P : Program} {f : Nat} {F : RowF} {l : List (Nat × Fun)} (h : RowOk P f F) (hl : ΓOk P (pick1 l)) : ΓOk P (pick1 ((f, .rows F) :: l)) := by
 constructor
 all_goals
  intro g S' hg
  simp only [pick1] at hg
  cases hb : Nat.beq g f with
  | true =>
   rw [hb, cond_true] at hg
   first
   | (simp only [Option.some.injEq, Fun.rows.injEq] at hg; have hgf := Nat.eq_of_beq_eq_true hb; rw [hgf, ← hg]; exact h)
   | cases hg
  | false =>
   rw [hb, cond_false] at hg
   first | exact hl.spec g S' hg | exact hl.rows g S' hg | exact hl.bld g S' hg
theorem ΓOk_bld {P : Program} {f : Nat} {F : BldF} {l : List (Nat × Fun)} (h : BldOk P f F) (hl : ΓOk P (pick1 l)) : ΓOk P (pick1 ((f, .bld F) :: l)) := by
 constructor
 all_goals
  intro g S' hg
  simp only [pick1] at hg
  cases hb : Nat.beq g f with
  | true =>
   rw [hb, cond_true] at hg
   first
   | (simp only [Option.some.injEq, Fun.bld.injEq] at hg; have hgf := Nat.eq_of_beq_eq_true hb; rw [hgf, ← hg]; exact h)
   | cases hg
  | false =>
   rw [hb, cond_false] at hg
   first | exact hl.spec g S' hg | exact hl.rows g S' hg | exact hl.bld g S' hg
def CutsOk (P : Program) (n m p : Nat) (c : Code) (Λ : Nat → Option Cut) : Prop := ∀ q cut, Λ q = some cut → ∀ c' ∈ find q p c, CutOk P n m c' cut
theorem CutsOk_nil {P : Program} {n m p : Nat} {c : Code} : CutsOk P n m p c (pick1 []) := fun _ _ h => by simp [pick1] at h
theorem CutsOk_cons {P : Program} {n m p : Nat} {c c' : Code} {q : Nat} {v : View} {outs : List (AExit × View)} {G : {β : Type} → v.den → Outs.K β outs → Option β} {l : List (Nat × Cut)}
  (hf : find q p c = [c']) (hv : v.m = m) (h : PieceOk P n m c' v outs G) (hl : CutsOk P n m p c (pick1 l)) : CutsOk P n m p c (pick1 ((q, pieceCut v outs G) :: l)) := by
 intro q' cut hq c2 hc2
 simp only [pick1] at hq
 cases hb : Nat.beq q' q with
 | true =>
  rw [hb, cond_true] at hq
  injection hq with hq
  have hqq := Nat.eq_of_beq_eq_true hb
  rw [hqq, hf] at hc2
  simp only [List.mem_singleton] at hc2
  rw [hc2, ← hq]
  intro β σ k r hr
  exact pieceCut_ok hv h σ k r hr
 | false =>
  rw [hb, cond_false] at hq
  exact hl q' cut hq c2 hc2
def altCut (v : View) (outs : List (AExit × View)) (G : {β : Type} → v.den → Outs.K β outs → Option β) (rest : Cut) : Cut :=
 ⟨fun σ k =>
  match v.read σ with
  | some d => G d (mkK k outs)
  | none => rest.run σ k⟩
theorem altCut_ok {P : Program} {n m : Nat} {c : Code} {v : View} {outs : List (AExit × View)} {G : {β : Type} → v.den → Outs.K β outs → Option β} {rest : Cut} (hv : v.m = m) (h : PieceOk P n m c v outs G) (hr : CutOk P n m c rest) :
  CutOk P n m c (altCut v outs G rest) := by
 intro β σ k r hk
 simp only [altCut] at hk
 split at hk
 ·rename_i d hd
  refine pieceCut_ok hv h σ k r ?_
  simp only [pieceCut, hd]
  exact hk
 ·exact hr σ k r hk
theorem CutsOk_cut {P : Program} {n m p : Nat} {c c' : Code} {q : Nat} {cut0 : Cut} {l : List (Nat × Cut)}
  (hf : find q p c = [c']) (h : CutOk P n m c' cut0) (hl : CutsOk P n m p c (pick1 l)) : CutsOk P n m p c (pick1 ((q, cut0) :: l)) := by
 intro q' cut hq c2 hc2
 simp only [pick1] at hq
 cases hb : Nat.beq q' q with
 | true =>
  rw [hb, cond_true] at hq
  injection hq with hq
  have hqq := Nat.eq_of_beq_eq_true hb
  rw [hqq, hf] at hc2
  simp only [List.mem_singleton] at hc2
  rw [hc2, ← hq]
  intro β σ k r hr
  exact h σ k r hr
 | false =>
  rw [hb, cond_false] at hq
  exact hl q' cut hq c2 hc2
theorem CutsOk_two {P : Program} {n m p : Nat} {c c' : Code} {q : Nat} {v : View} {outs : List (AExit × View)} {G : {β : Type} → v.den → Outs.K β outs → Option β} {v2 : View} {outs2 : List (AExit × View)}
  {G2 : {β : Type} → v2.den → Outs.K β outs2 → Option β} {l : List (Nat × Cut)} (hf : find q p c = [c']) (hv : v.m = m) (h : PieceOk P n m c' v outs G) (hv2 : v2.m = m) (h2 : PieceOk P n m c' v2 outs2 G2)
  (hl : CutsOk P n m p c (pick1 l)) : CutsOk P n m p c (pick1 ((q, altCut v outs G (pieceCut v2 outs2 G2)) :: l)) :=
 CutsOk_cut hf (fun {_} σ k r hr => altCut_ok hv h (fun {_} σ k r hr => pieceCut_ok hv2 h2 σ k r hr) σ k r hr) hl
def bodyOf (fn : Func) : Code := fn.body.getD .skip
def codeAt (q : Nat) (c : Code) : Code :=
 match find q 1 c with
 | c' :: _ => c'
 | [] => .skip
def loopBody : Code → Code
 | .loop c => c
 | _ => .skip
structure Pc where
 n : Nat
 m : Nat
 c : Code
 v : View
 o : List (AExit × View)
abbrev Pc.G (p : Pc) := {β : Type} → p.v.den → Outs.K β p.o → Option β
abbrev Pc.Ok (P : Program) (p : Pc) (G : p.G) : Prop := PieceOk P p.n p.m p.c p.v p.o G
abbrev Pc.cut (p : Pc) (G : p.G) : Cut := pieceCut p.v p.o G
abbrev Pc.alt (p : Pc) (G : p.G) (rest : Cut) : Cut := altCut p.v p.o G rest
theorem pcE {P : Program} (hmx : P.follows .mixedOrders = true) (X : Ctx) (hT : TOk P X.T) (hΓ : ΓOk P X.Γ) (q : Nat) {p : Pc} {G : p.G} (Λ : Nat → Option Cut) (hm : (p.o.all fun x => Nat.beq x.2.m p.m) = true) (hΛ : CutsOk P p.n p.m q p.c Λ)
  (h : ∀ {β : Type} (d : p.v.den) (ks : Outs.K β p.o), exec X p.n Λ q p.c (p.v.mk' d) (outK p.o ks) = G d ks) : p.Ok P G :=
 piece_exec hmx hT hΓ hm hΛ fun d ks r hr => (h d ks).trans hr
theorem pcL {P : Program} (hmx : P.follows .mixedOrders = true) (X : Ctx) (hT : TOk P X.T) (hΓ : ΓOk P X.Γ) {p : Pc} {G : Nat → p.G} (Λ : Nat → Option Cut) (hc : p.c = .loop (loopBody p.c)) (hv : p.v.m = p.m) (hm : (p.o.all fun x => Nat.beq x.2.m p.m) = true)
  (hΛ : CutsOk P p.n p.m 1 (loopBody p.c) Λ) (h0 : ∀ {β : Type} (d : p.v.den) (ks : Outs.K β p.o), G 0 d ks = none)
  (h : ∀ (i : Nat) {β : Type} (d : p.v.den) (ks : Outs.K β p.o), exec X p.n Λ 1 (loopBody p.c) (p.v.mk' d) (loopK p.v (fun d' => G i d' ks) p.o ks) = G (i + 1) d ks) (i : Nat) : p.Ok P (G i) := by
 have key := piece_loop hmx hT hΓ hv hm hΛ (G := G) h0 (fun i β d ks r hr => (h i d ks).trans hr) i
 rw [← hc] at key
 exact key
theorem pcS {P : Program} (hmx : P.follows .mixedOrders = true) (X : Ctx) (hT : TOk P X.T) (hΓ : ΓOk P X.Γ) (Λ : Nat → Option Cut) {S : Spec} {f : FuncId} {fn : Func} (rs : List RS)
  (hf : P.funcs[f]? = some fn) (hname : (fn.name == "runtime.NumGoroutine") = false) (hb : fn.body = some (bodyOf fn)) (hres : fn.results.toList = rs.map RS.toVar)
  (hok : (Nat.beq rs.length S.res.length && (ST.tidy S.res && Nat.ble S.params.length fn.ntmps)) = true) (hΛ : CutsOk P fn.ntmps S.ins.length 1 (bodyOf fn) Λ)
  (h : ∀ {β : Type} (x : ST.dens S.params × BT.dens S.ins) (k : ST.dens S.res × BT.dens S.outs → Option β), exec X fn.ntmps Λ 1 (bodyOf fn) ((vIn S).mk' x) (retK X.T S rs k) = S.run x k) : SpecOk P f S :=
 spec_exec hmx hT hΓ hf hname hb hres hok hΛ fun x k r hr => (h x k).trans hr
end Go.Lift
namespace Go.Lift
open Go.RowKit
def env0 (P : Program) (w : World) : Env := envOf (P := P) ⟨fun _ => True⟩ w.heap.size (fun _ => none) (fun _ => none) w
theorem SpecOk.call0 {P : Program} {f : FuncId} {S : Spec} (h : SpecOk P f S) (hi : S.ins = []) (x : ST.dens S.params × BT.dens S.ins) (y : ST.dens S.res × BT.dens S.outs)
  (hy : S.run x (fun z => some z) = some y) (w : World) (hw : Opened P w) (args : List Value)
  (hargs : TReps (env0 P w) (mkS [] S.params x.1) args) :
  Calls P f args.toArray w fun e w' => ∃ vals pl', e = .returned (retVal vals) ∧ Below w.heap.size w w' ∧
   TReps (envOf (P := P) ⟨fun _ => True⟩ w.heap.size pl' (fnBl (mkB (upFrom 0 S.outs.length) S.outs y.2)) w') (mkS (upFrom 0 S.outs.length) S.res y.1) vals := by
 obtain ⟨y', hy', hcall⟩ := h.ok x (fun z => some z) y hy
 simp only [Option.some.injEq] at hy'
 subst hy'
 have hlen : S.ins.length = 0 := by rw [hi]; rfl
 have hmk : mkB (upFrom 0 S.ins.length) S.ins x.2 = [] := by
  have := length_mkB (ids := upFrom 0 S.ins.length) (l := S.ins) (y := x.2)
  rw [hlen] at this
  exact List.eq_nil_of_length_eq_zero (by rw [hlen]; exact this)
 have hbl : fnBl (mkB (upFrom 0 S.ins.length) S.ins x.2) = fun _ => none := by
  rw [hmk]; funext b; simp [fnBl]
 have hids : upFrom 0 S.ins.length = [] := by rw [hlen]; rfl
 have hrel : RelB (P := P) ⟨fun _ => True⟩ w.heap.size (fun _ => none) (fun _ => none) w :=
  ⟨Nat.le_refl _, fun i B h => (by cases h), fun i j B C p q g _ h => (by cases h), fun _ _ => rfl,
   w, hw, Nat.le_refl _, fun g _ => ⟨rfl, fun ⟨_, _, _, h, _⟩ => by cases h⟩⟩
 have := hcall ⟨fun _ => True⟩ (fun _ => none) w args (by rw [hbl]; exact hrel) (by rw [hbl, hids]; exact hargs)
 refine this.mono fun e w' ⟨vals, pl', he, _, hst, ht⟩ => ⟨vals, pl', he, ⟨hst.os, hst.tape, hst.output, hst.size, fun k hk => ?_⟩, ht⟩
 refine (hst.out k hk ?_).1
 rintro ⟨i, B, p, hB, _⟩
 rw [hbl] at hB
 cases hB
theorem TReps.bool {E : Env} {b : Bool} {vals : List Value} (h : TReps E [(false, [.bool b])] vals) : vals = [.bool b] := by
 obtain ⟨v, vs, e, ⟨us, ⟨u, us', e1, h1, h2⟩, h3⟩, h4⟩ := h
 simp only [TReps] at h4
 simp only [CReps] at h2
 simp only [CRep] at h1
 simp only [Bool.false_eq_true, if_false] at h3
 subst h4 h2 h1 e1
 simp only [List.cons.injEq, and_true] at h3
 subst h3
 exact e
theorem TReps.int {E : Env} {k : IntKind} {n : Int} {ts : List (Bool × List C)} {vals : List Value} (h : TReps E ts vals) : TReps E ((false, [.int k n]) :: ts) (.int k n :: vals) :=
 ⟨_, _, rfl, ⟨[_], ⟨_, _, rfl, rfl, rfl⟩, by simp⟩, h⟩
theorem TReps.data1 {E : Env} {τ : Ty} {x : τ.den} {v : Value} {ts : List (Bool × List C)} {vals : List Value} (hd : DRep E.w E.ok τ x [v]) (h : TReps E ts vals) : TReps E ((false, cells τ x ++ []) :: ts) (v :: vals) :=
 ⟨_, _, rfl, ⟨[v], by rw [List.append_nil]; exact cells_rep hd, by simp⟩, h⟩
end Go.Lift
namespace Go.Lift
open Go.RowKit Go.IntWalk
def fuel : Nat := 18446744073709551616
theorem lt_fuel {n : Nat} (h : n < 18446744073709551616) : n < fuel := h
end Go.Lift
namespace Go.Lift
open Go.RowKit Go.ChangeShapes Go.WideShapes Go.Deep
def fitF (P : Program) (F : TypeId → Ty → Bool) : List Field → Nat → Ty → Bool
 | [], _, .unit => true
 | [f], o, τ => Nat.beq f.offset o && (Nat.beq (P.cellsOf f.type) τ.size && F f.type τ)
 | f :: g :: r, o, .prod a b => Nat.beq f.offset o && (Nat.beq (P.cellsOf f.type) a.size && (F f.type a && fitF P F (g :: r) (o + a.size) b))
 | _, _, _ => false
def fitA (C : Nat) (F : Ty → Bool) : Nat → Ty → Bool
 | 0, .unit => true
 | 1, τ => Nat.beq C τ.size && F τ
 | m + 2, .prod a b => Nat.beq C a.size && (F a && fitA C F (m + 1) b)
 | _, _ => false
def tyFits (P : Program) : Nat → TypeId → Ty → Bool
 | 0, _, _ => false
 | n + 1, t, τ =>
  match P.underlying t with
  | some .bool => match τ with | .bool => true | _ => false
  | some (.int k) => match τ with | .int k' => decide (k = k') | _ => false
  | some .string => match τ with | .str => true | _ => false
  | some (.slice e) => match τ with | .slice ε => Nat.beq (P.cellsOf e) ε.size && tyFits P n e ε | _ => false
  | some (.struct fs) => Nat.beq (P.cellsOf t) τ.size && fitF P (tyFits P n) fs.toList 0 τ
  | some (.array m e) => Nat.beq (P.cellsOf t) τ.size && fitA (P.cellsOf e) (tyFits P n e) m τ
  | _ => false
def Wf : (τ : Ty) → τ.den → Prop
 | .int k, n => (Lit.int k n).wf = true
 | .str, s => s.length ≤ maxLen
 | .prod a b, x => Wf a x.1 ∧ Wf b x.2
 | .slice e, l => l.length ≤ maxLen ∧ ∀ x ∈ l, Wf e x
 | .bool, _ => True
 | .unit, _ => True
 | .err, _ => True
section
variable {H : Type} {enc : TypeId × Value → H} {P : Program} {w : World}
theorem open_fields {F : TypeId → Ty → Bool} {cs : List Value} (hF : ∀ {t : TypeId} {τ : Ty} {c : List Value}, F t τ = true → (∃ n sp hd y, DataW.trod enc P w 0 sp hd n t c = some y) → ∃ d : τ.den, DRep w (fun _ => True) τ d c ∧ Wf τ d) :
  ∀ (fs : List Field) (o : Nat) (τ : Ty), fitF P F fs o τ = true → (∀ f ∈ fs, ∃ n sp hd y, DataW.trod enc P w 0 sp hd n f.type ((cs.drop f.offset).take (P.cellsOf f.type)) = some y) → o + τ.size = cs.length →
   ∃ d : τ.den, DRep w (fun _ => True) τ d (cs.drop o) ∧ Wf τ d
 | [], o, τ, hf, _, hl => by
  cases τ <;> simp only [fitF] at hf <;> first | (cases hf; done) | skip
  refine ⟨(), ?_, trivial⟩
  simp only [DRep]
  simp only [Ty.size] at hl
  exact List.drop_eq_nil_of_le (by omega)
 | [f], o, τ, hf, h, hl => by
  simp only [fitF, Bool.and_eq_true] at hf
  obtain ⟨h1, h2, h3⟩ := hf
  have h1 := Nat.eq_of_beq_eq_true h1
  have h2 := Nat.eq_of_beq_eq_true h2
  obtain ⟨n, sp, hd, y, hy⟩ := h f (by simp)
  rw [h1, h2, List.take_of_length_le (by rw [List.length_drop]; omega)] at hy
  exact hF h3 ⟨n, sp, hd, y, hy⟩
 | f :: g :: r, o, τ, hf, h, hl => by
  cases τ with
  | prod a b =>
   simp only [fitF, Bool.and_eq_true] at hf
   obtain ⟨h1, h2, h3, h4⟩ := hf
   have h1 := Nat.eq_of_beq_eq_true h1
   have h2 := Nat.eq_of_beq_eq_true h2
   simp only [Ty.size] at hl
   obtain ⟨n, sp, hd, y, hy⟩ := h f (by simp)
   rw [h1, h2] at hy
   obtain ⟨d1, k1, w1⟩ := hF h3 ⟨n, sp, hd, y, hy⟩
   obtain ⟨d2, k2, w2⟩ := open_fields hF (g :: r) (o + a.size) b h4 (fun f' hf' => h f' (by simp at hf' ⊢; right; exact hf')) (by omega)
   refine ⟨(d1, d2), ?_, w1, w2⟩
   simp only [DRep]
   refine ⟨_, _, ?_, k1, k2⟩
   rw [← List.drop_drop, List.take_append_drop]
  | bool => simp [fitF] at hf
  | int k => simp [fitF] at hf
  | str => simp [fitF] at hf
  | unit => simp [fitF] at hf
  | err => simp [fitF] at hf
  | slice e => simp [fitF] at hf
theorem open_array {C : Nat} {e : TypeId} {F : Ty → Bool} {cs : List Value} (hF : ∀ {τ : Ty} {c : List Value}, F τ = true → (∃ n sp hd y, DataW.trod enc P w 0 sp hd n e c = some y) → ∃ d : τ.den, DRep w (fun _ => True) τ d c ∧ Wf τ d) :
  ∀ (m i : Nat) (τ : Ty), fitA C F m τ = true → (∀ j, i ≤ j → j < i + m → ∃ n sp hd y, DataW.trod enc P w 0 sp hd n e ((cs.drop (j * C)).take C) = some y) → i * C + τ.size = cs.length →
   ∃ d : τ.den, DRep w (fun _ => True) τ d (cs.drop (i * C)) ∧ Wf τ d
 | 0, i, τ, hf, _, hl => by
  cases τ <;> simp only [fitA] at hf <;> first | (cases hf; done) | skip
  refine ⟨(), ?_, trivial⟩
  simp only [DRep]
  simp only [Ty.size] at hl
  exact List.drop_eq_nil_of_le (by omega)
 | 1, i, τ, hf, h, hl => by
  simp only [fitA, Bool.and_eq_true] at hf
  obtain ⟨h2, h3⟩ := hf
  have h2 := Nat.eq_of_beq_eq_true h2
  obtain ⟨n, sp, hd, y, hy⟩ := h i (Nat.le_refl _) (by omega)
  rw [List.take_of_length_le (by rw [List.length_drop]; omega)] at hy
  exact hF h3 ⟨n, sp, hd, y, hy⟩
 | m + 2, i, τ, hf, h, hl => by
  cases τ with
  | prod a b =>
   simp only [fitA, Bool.and_eq_true] at hf
   obtain ⟨h2, h3, h4⟩ := hf
   have h2 := Nat.eq_of_beq_eq_true h2
   simp only [Ty.size] at hl
   obtain ⟨n, sp, hd, y, hy⟩ := h i (Nat.le_refl _) (by omega)
   obtain ⟨d1, k1, w1⟩ := hF h3 ⟨n, sp, hd, y, hy⟩
   have hs : (i + 1) * C = i * C + C := Nat.succ_mul _ _
   obtain ⟨d2, k2, w2⟩ := open_array hF (m + 1) (i + 1) b h4 (fun j hj hj' => h j (by omega) (by omega)) (by omega)
   refine ⟨(d1, d2), ?_, w1, w2⟩
   simp only [DRep]
   refine ⟨_, _, ?_, k1, k2⟩
   rw [hs, ← List.drop_drop, List.take_append_drop]
  | bool => simp [fitA] at hf
  | int k => simp [fitA] at hf
  | str => simp [fitA] at hf
  | unit => simp [fitA] at hf
  | err => simp [fitA] at hf
  | slice e => simp [fitA] at hf
theorem open_row {ε : Ty} {a : Addr} {C : Nat} (hC : C = ε.size) : ∀ (len : Nat), (∀ i, i < len → ∃ cs' : List Value, cs'.length = C ∧ (∀ j, j < C → w.cell? ((a.add (i * C)).add j) = cs'[j]?) ∧ ∃ d : ε.den, DRep w (fun _ => True) ε d cs' ∧ Wf ε d) →
  ∃ (l : List ε.den) (xs : List Value), l.length = len ∧ xs.length = len * C ∧ DList (fun x u => DRep w (fun _ => True) ε x u) l xs ∧ (∀ j v, xs[j]? = some v → w.cell? (a.add j) = some v) ∧ ∀ x ∈ l, Wf ε x
 | 0, _ => ⟨[], [], rfl, by simp, rfl, by simp, by simp⟩
 | len + 1, h => by
  obtain ⟨l, xs, h1, h2, h3, h4, h5⟩ := open_row hC len fun i hi => h i (by omega)
  obtain ⟨cs', k1, k2, d, k3, k4⟩ := h len (by omega)
  refine ⟨l ++ [d], xs ++ cs', by simp [h1], by rw [List.length_append, h2, k1, Nat.succ_mul], DList.append h3 ⟨cs', [], by simp, k3, rfl⟩, fun j v hj => ?_, ?_⟩
  ·rw [List.getElem?_append] at hj
   split at hj
   ·exact h4 j v hj
   ·rename_i hlt
    obtain ⟨hlt2, _⟩ := List.getElem?_eq_some_iff.1 hj
    have := k2 (j - xs.length) (by omega)
    rw [add_of_add, ← h2, show xs.length + (j - xs.length) = j by omega] at this
    rw [this, hj]
  ·intro x hx
   rcases List.mem_append.1 hx with hx | hx
   ·exact h5 x hx
   ·simp only [List.mem_singleton] at hx
    subst hx
    exact k4
theorem open_ty : ∀ (n : Nat) {t : TypeId} {τ : Ty} {cs : List Value}, tyFits P n t τ = true → (∃ m sp hd y, DataW.trod enc P w 0 sp hd m t cs = some y) → ∃ d : τ.den, DRep w (fun _ => True) τ d cs ∧ Wf τ d
 | 0, _, _, _, h, _ => by simp [tyFits] at h
 | n + 1, t, τ, cs, hf, ⟨m, sp, hd, y, hy⟩ => by
  simp only [tyFits] at hf
  split at hf
  ·rename_i hu
   cases τ <;> simp only at hf <;> first | (cases hf; done) | skip
   obtain ⟨b, rfl, -⟩ := DataW.trod_bool hu hy
   exact ⟨b, rfl, trivial⟩
  ·rename_i k hu
   cases τ <;> simp only at hf <;> first | (cases hf; done) | skip
   obtain rfl := of_decide_eq_true hf
   obtain ⟨b, rfl, -, hw⟩ := DataW.trod_int hu hy
   exact ⟨b, rfl, hw⟩
  ·rename_i hu
   cases τ <;> simp only at hf <;> first | (cases hf; done) | skip
   obtain ⟨s, rfl, -, hs⟩ := DataW.trod_string hu hy
   exact ⟨s.data.toList, by simp only [DRep], by show s.data.toList.length ≤ maxLen; rw [Array.length_toList]; exact hs⟩
  ·rename_i e hu
   cases τ <;> simp only at hf <;> first | (cases hf; done) | skip
   rename_i ε
   simp only [Bool.and_eq_true] at hf
   obtain ⟨h1, h2⟩ := hf
   have h1 := Nat.eq_of_beq_eq_true h1
   rcases open_slice hu hy with ⟨rfl, -⟩ | ⟨a, len, cap, m', n', D, Pl, rfl, hb, hl, hm, hmm, -, hi⟩
   ·refine ⟨[], ?_, Nat.zero_le _, by simp⟩
    simp only [DRep]
    exact ⟨none, 0, [], rfl, Nat.le_refl _, Nat.zero_le _, rfl, by simp⟩
   ·obtain ⟨l, xs, k1, k2, k3, k4, k5⟩ := open_row (w := w) (ε := ε) (a := a) h1 len (fun i hil => by
     have him : i < m' := by rw [hmm]; split <;> omega
     obtain ⟨cs', c1, c2⟩ := hi i him
     obtain ⟨-, q1, q2⟩ := World.cells?_some c1
     exact ⟨cs', q1, q2, open_ty n h2 ⟨_, _, _, _, c2⟩⟩)
    refine ⟨l, ?_, ?_, k5⟩
    ·simp only [DRep]
     exact ⟨some a, cap, xs, by rw [k1], by omega, hm, k3, fun j v hj => ⟨a, rfl, trivial, k4 j v hj⟩⟩
    ·show l.length ≤ maxLen
     omega
  ·rename_i fs hu
   simp only [Bool.and_eq_true] at hf
   obtain ⟨h1, h2⟩ := hf
   have h1 := Nat.eq_of_beq_eq_true h1
   obtain ⟨xs, m', -, -, hlen, hxs, hg⟩ := DataW.trod_struct hu hy
   have := open_fields (enc := enc) (P := P) (w := w) (cs := cs) (fun {t τ c} h1 h2 => open_ty n h1 h2) fs.toList 0 τ h2 (fun f hf => by
    obtain ⟨i, hi, rfl⟩ := List.getElem_of_mem hf
    have := hg i fs[i] (by simp at hi; simp [hi])
    simp at hi
    rw [List.getElem?_eq_getElem (by omega)] at this
    exact ⟨_, _, _, _, this⟩) (by omega)
   simpa using this
  ·rename_i k e hu
   simp only [Bool.and_eq_true] at hf
   obtain ⟨h1, h2⟩ := hf
   have h1 := Nat.eq_of_beq_eq_true h1
   obtain ⟨xs, m', -, -, hlen, hxs, hg⟩ := DataW.trod_array hu hy
   have := open_array (enc := enc) (P := P) (w := w) (C := P.cellsOf e) (e := e) (cs := cs) (fun {τ c} h1 h2 => open_ty n h1 h2) k 0 τ h2 (fun j _ hj => by
    have := hg j (by omega)
    rw [List.getElem?_eq_getElem (by omega)] at this
    exact ⟨_, _, _, _, this⟩) (by omega)
   simpa using this
  ·cases hf
def isAgg (P : Program) (t : TypeId) : Bool :=
 match P.underlying t with
 | some (.struct _) => true
 | some (.array _ _) => true
 | _ => false
def fitP (P : Program) : List TypeId → List (Bool × List CT) → Bool
 | [], [] => true
 | t :: ts, (g, [.data τ]) :: ps => (g == isAgg P t) && (tyFits P 12 t τ && fitP P ts ps)
 | _, _ => false
def WfC : (l : List CT) → CT.dens l → Prop
 | [], _ => True
 | .data τ :: r, x => Wf τ x.1 ∧ WfC r x.2
 | .ptr _ _ :: r, x => WfC r x
 | .rowh _ :: r, x => WfC r x
 | .fn _ _ :: r, x => WfC r x
 | .maph _ :: r, x => WfC r x
 | .math _ :: r, x => WfC r x
 | .bself _ :: r, x => WfC r x
 | .nilc :: r, x => WfC r x
 | .nils :: r, x => WfC r x
 | .lsome _ :: r, x => WfC r x.2
 | .junk :: r, x => WfC r x
def WfS : (l : List (Bool × List CT)) → ST.dens l → Prop
 | [], _ => True
 | p :: r, x => WfC p.2 x.1 ∧ WfS r x.2
theorem cells_of_okWide {n base : Nat} {t : TypeId} {v : Value} (h : Value.okWide P w .any base t v) (hf : ∃ τ, tyFits P (n + 1) t τ = true) : if isAgg P t = true then v = .agg v.cells.toList.toArray else v.cells.toList = [v] := by
 obtain ⟨τ, hf⟩ := hf
 simp only [tyFits] at hf
 split at hf
 ·rename_i hu
  rw [show isAgg P t = false by simp only [isAgg, hu]]
  simp only [Value.okWide, hu] at h
  cases v with
  | agg cs => simp only [Cell.okWide, Cell.ok, hu] at h
  | _ => rfl
 ·rename_i k hu
  rw [show isAgg P t = false by simp only [isAgg, hu]]
  simp only [Value.okWide, hu] at h
  cases v with
  | agg cs => simp only [Cell.okWide, Cell.ok, hu] at h
  | _ => rfl
 ·rename_i hu
  rw [show isAgg P t = false by simp only [isAgg, hu]]
  simp only [Value.okWide, hu] at h
  cases v with
  | agg cs => simp only [Cell.okWide, Cell.ok, hu] at h
  | _ => rfl
 ·rename_i e hu
  rw [show isAgg P t = false by simp only [isAgg, hu]]
  simp only [Value.okWide, hu] at h
  cases v with
  | agg cs => simp only [Cell.okWide, Cell.ok, hu] at h
  | _ => rfl
 ·rename_i fs hu
  rw [show isAgg P t = true by simp only [isAgg, hu]]
  simp only [Value.okWide, hu] at h
  obtain ⟨cs, rfl, -⟩ := h
  rfl
 ·rename_i k e hu
  rw [show isAgg P t = true by simp only [isAgg, hu]]
  simp only [Value.okWide, hu] at h
  obtain ⟨cs, rfl, -⟩ := h
  rfl
 ·cases hf
theorem open_all {base : Nat} : ∀ {ts : List TypeId} {ps : List (Bool × List CT)} {vs : List Value} {ds : List (DataW H)} {pl : List MemPlace}, fitP P ts ps = true → DataW.TrodAll enc P w 0 (fun _ => true) true ts vs ds pl →
  (∀ (j : Nat) t v, ts[j]? = some t → vs[j]? = some v → Value.okWide P w .any base t v) → ∃ x : ST.dens ps, TReps (env0 P w) (mkS [] ps x) vs ∧ WfS ps x
 | [], [], vs, ds, pl, _, h, _ => by
  cases vs with
  | nil => exact ⟨(), rfl, trivial⟩
  | cons v vs => cases ds <;> simp [DataW.TrodAll] at h
 | [], _ :: _, _, _, _, hf, _, _ => by simp [fitP] at hf
 | _ :: _, [], _, _, _, hf, _, _ => by simp [fitP] at hf
 | t :: ts, (g, cts) :: ps, vs, ds, pl, hf, h, hok => by
  match cts, hf with
  | [.data τ], hf =>
   simp only [fitP, Bool.and_eq_true, beq_iff_eq] at hf
   obtain ⟨hg, h1, h2⟩ := hf
   obtain ⟨v, vs', d, ds', p, q, rfl, rfl, rfl, hd, hrest⟩ := trodAll_cons h
   obtain ⟨x2, r2, w2⟩ := open_all (base := base) h2 hrest fun j t v hj hv => hok (j + 1) t v (by simpa using hj) (by simpa using hv)
   obtain ⟨m, hm⟩ := hd
   obtain ⟨x1, r1, w1⟩ := open_ty (enc := enc) (P := P) (w := w) 12 h1 ⟨m, _, _, _, hm⟩
   have hv := cells_of_okWide (n := 11) (hok 0 t v rfl rfl) ⟨τ, h1⟩
   refine ⟨((x1, ()), x2), ⟨v, vs', rfl, ?_, r2⟩, ⟨w1, trivial⟩, w2⟩
   have hreps : CReps (env0 P w) (cells τ x1 ++ []) v.cells.toList := by
    rw [List.append_nil]
    refine cells_rep ?_
    refine DRep.mono ?_ r1
    exact fun g hg hlt => ⟨⟨.inl trivial, fun ⟨i, B, p, hB, _⟩ => by cases hB⟩, rfl⟩
   refine ⟨v.cells.toList, hreps, ?_⟩
   rw [← hg] at hv
   exact hv
  | [], hf => simp [fitP] at hf
  | [.ptr _ _], hf => simp [fitP] at hf
  | [.rowh _], hf => simp [fitP] at hf
  | [.fn _ _], hf => simp [fitP] at hf
  | [.maph _], hf => simp [fitP] at hf
  | [.math _], hf => simp [fitP] at hf
  | [.bself _], hf => simp [fitP] at hf
  | [.nilc], hf => simp [fitP] at hf
  | [.nils], hf => simp [fitP] at hf
  | [.lsome _], hf => simp [fitP] at hf
  | [.junk], hf => simp [fitP] at hf
  | .data _ :: _ :: _, hf => simp [fitP] at hf
  | .ptr _ _ :: _ :: _, hf => simp [fitP] at hf
  | .rowh _ :: _ :: _, hf => simp [fitP] at hf
  | .fn _ _ :: _ :: _, hf => simp [fitP] at hf
  | .maph _ :: _ :: _, hf => simp [fitP] at hf
  | .math _ :: _ :: _, hf => simp [fitP] at hf
  | .bself _ :: _ :: _, hf => simp [fitP] at hf
  | .nilc :: _ :: _, hf => simp [fitP] at hf
  | .nils :: _ :: _, hf => simp [fitP] at hf
  | .lsome _ :: _ :: _, hf => simp [fitP] at hf
  | .junk :: _ :: _, hf => simp [fitP] at hf
theorem post_of_below {f : Func} {s : ChangeSpec} {apart fresh handsOn again : Bool} {W W' : World} {args : Array Value} {v : Value} {ds gs : List (DataW H)} {before pa pv : List MemPlace}
  (hW : DataW.Whole enc P f.params.toList s.vars apart W args.toList ds gs before)
  (hres : ∀ (b : Nat) (sp : Nat → Bool) (hd : Bool), DataW.TrodAll enc P W' b sp hd f.resultTypes.toList (v.resultList f.resultTypes.size) (s.fn H (ds ++ gs)).results [])
  (hargs : ∀ sp : Nat → Bool, (∀ p ∈ before, sp p.block = true) → DataW.TrodAll enc P W' 0 sp true f.params.toList args.toList (s.fn H (ds ++ gs)).args pa)
  (hvars : ∀ sp : Nat → Bool, (∀ p ∈ before, sp p.block = true) → DataW.TrodVars enc P W' sp s.vars (s.fn H (ds ++ gs)).vars pv)
  (hps : before = pa ++ pv) (hb : Below W.heap.size W W')
  (hok : ∀ (j : Nat) (t : TypeId) (r : Value), f.resultTypes[j]? = some t → (v.resultList f.resultTypes.size)[j]? = some r → Value.okWide P W' .any 0 t r) :
  s.post enc P f apart fresh handsOn again W args v W' := by
 have hlt : ∀ p ∈ before, p.block < W.heap.size := fun p hp => hW.lt p hp
 have hold : ∀ p ∈ before, (fun b => decide (b < W.heap.size)) p.block = true := fun p hp => by simpa using hlt p hp
 refine ⟨ds, gs, before, [], pa, pv, hW, hres _ _ _, hargs _ hold, hvars _ hold, World.keptBut_mono (fun p hp => ⟨hp, ?_⟩) (hb.frame (· ∈ before)), fun _ => ?_⟩
 ·rw [hps, List.mem_append] at hp
  exact Or.inr hp
 ·obtain ⟨_, _, _, _, _, hz, hn⟩ := hW
  refine ⟨hok, _, _, ([] ++ pa) ++ pv, ⟨[] ++ pa, pv, trodAll_append (hargs _ (fun _ _ => rfl)) (hres _ _ _), hvars _ (fun _ _ => rfl), rfl, ?_, ?_⟩, ?_⟩
  ·intro b off hp
   have hin : MemPlace.cell b off ∈ before := by rw [hps]; simpa using hp
   rw [hb.frozen (hlt _ hin)]
   exact hz b off hin
  ·intro ha
   have := hn ha
   rw [hps] at this
   simpa using this
  ·intro p hp _
   rw [hps]
   simpa using hp
theorem trodAll_stays (hl : laidOutB P = true) {W W' : World} {sp : Nat → Bool} : ∀ {ts : List TypeId} {vs : List Value} {ds : List (DataW H)} {ps : List MemPlace}, (ts.all fun t => P.readableRec t && Nat.blt t P.types.size) = true →
  DataW.TrodAll enc P W 0 (fun _ => true) true ts vs ds ps → Below W.heap.size W W' → (∀ x ∈ ps, x.block < W.heap.size) → (∀ x ∈ ps, sp x.block = true) → DataW.TrodAll enc P W' 0 sp true ts vs ds ps
 | [], vs, ds, ps, _, h, _, _, _ => by cases vs <;> cases ds <;> simp_all [DataW.TrodAll]
 | t :: ts, vs, ds, ps, hr, h, hb, hlt, hsp => by
  obtain ⟨v, vs', d, ds', p, q, rfl, rfl, rfl, hd, hrest⟩ := trodAll_cons h
  simp only [List.all_cons, Bool.and_eq_true] at hr
  refine ⟨p, q, WideElems.Trod_stays hl hr.1.1 (Nat.blt_eq ▸ hr.1.2) hd (fun x hx => hb.same (hlt x (by simp [hx]))) (fun x hx => hsp x (by simp [hx])), ?_, rfl⟩
  exact trodAll_stays hl (by simpa using hr.2) hrest hb (fun x hx => hlt x (by simp [hx])) (fun x hx => hsp x (by simp [hx]))
theorem law_calls {f : FuncId} {fn : Func} {s : ChangeSpec} {S : Spec} {apart fresh handsOn again : Bool} {tb : TypeId} (hS : SpecOk P f S) (hi : S.ins = []) (_hr : S.res = [(false, [.data .bool])]) (ho : S.outs = [])
  (hfit : fitP P fn.params.toList S.params = true) (hl : laidOutB P = true) (hrd : (fn.params.toList.all fun t => P.readableRec t && Nat.blt t P.types.size) = true)
  (hrt : fn.resultTypes = #[tb]) (htb : P.underlying tb = some .bool) (hvars : s.vars = [])
  (hfn : ∀ ds : List (DataW H), ds.length = fn.params.size → (s.fn H (ds ++ [])).results = [.lit (.bool true)] ∧ (s.fn H (ds ++ [])).args = ds ∧ (s.fn H (ds ++ [])).vars = [])
  (hlaw : ∀ {β : Type} (x : ST.dens S.params) (y : BT.dens S.ins) (k : ST.dens S.res × BT.dens S.outs → Option β), WfS S.params x → ∃ z, mkS [] S.res z.1 = [(false, [.bool true])] ∧ S.run (x, y) k = k z)
  {W : World} {base : Nat} {args : Array Value} {ds gs : List (DataW H)} {before : List MemPlace}
  (hval : ∀ (j : Nat) t v, fn.params[j]? = some t → args[j]? = some v → Value.okWide P W .any base t v)
  (hopen : Opened P W) (hW : DataW.Whole enc P fn.params.toList s.vars apart W args.toList ds gs before) :
  Calls P f args W fun e W' => ∃ v, e = .returned v ∧ s.post enc P fn apart fresh handsOn again W args v W' := by
 have hW' := hW
 obtain ⟨p, q, hA, hV, rfl, hfz, hnd⟩ := hW'
 rw [hvars] at hV
 obtain ⟨rfl, rfl⟩ : gs = [] ∧ q = [] := by
  cases gs with
  | nil => exact ⟨rfl, hV⟩
  | cons g gs => simp [DataW.TrodVars] at hV
 obtain ⟨x, hx, hwf⟩ := open_all (base := base) hfit hA (fun j t v hj hv => hval j t v (by simpa using hj) (by simpa using hv))
 have hy : BT.dens S.ins := by rw [hi]; exact ()
 obtain ⟨z, hz, hrun⟩ := hlaw x hy (fun z => some z) hwf
 have hc := hS.call0 hi (x, hy) z hrun W hopen args.toList hx
 have hlen : ds.length = fn.params.size := by
  have : ∀ {ts : List TypeId} {vs : List Value} {ds : List (DataW H)} {ps : List MemPlace}, DataW.TrodAll enc P W 0 (fun _ => true) true ts vs ds ps → ds.length = ts.length := by
   intro ts
   induction ts with
   | nil => intro vs ds ps h; cases vs <;> cases ds <;> simp_all [DataW.TrodAll]
   | cons t ts ih =>
    intro vs ds ps h
    obtain ⟨v, vs', d, ds', p, q, rfl, rfl, rfl, hd, hrest⟩ := trodAll_cons h
    simp [ih hrest]
  simpa using this hA
 obtain ⟨f1, f2, f3⟩ := hfn ds hlen
 refine hc.mono fun e W' ⟨vals, pl', he, hb, ht⟩ => ?_
 have hids : upFrom 0 S.outs.length = [] := by rw [ho]; rfl
 rw [hids, hz] at ht
 obtain rfl := TReps.bool ht
 refine ⟨.bool true, he, post_of_below (pa := p) (pv := []) hW (fun b sp hd => ?_) (fun sp hsp => ?_) (fun sp hsp => ?_) rfl hb ?_⟩
 ·rw [f1, hrt]
  exact trodAll_cons_mk (shut_bool htb _) trodAll_mk0
 ·rw [f2]
  exact trodAll_stays hl hrd hA hb (fun x hx => hW.lt x (by simpa using hx)) (fun x hx => hsp x (by simpa using hx))
 ·rw [f3, hvars]; rfl
 ·exact ok_one hrt rfl (okWide_bool_mk htb _)
end
theorem wf_u8 {n : Int} (h : (Lit.int .u8 n).wf = true) : 0 ≤ n ∧ n ≤ 255 := by
 simp [Lit.wf, IntKind.min, IntKind.max, IntKind.signed, IntKind.bits] at h; omega
theorem wf_u16 {n : Int} (h : (Lit.int .u16 n).wf = true) : 0 ≤ n ∧ n ≤ 65535 := by
 simp [Lit.wf, IntKind.min, IntKind.max, IntKind.signed, IntKind.bits] at h; omega
theorem wf_u32 {n : Int} (h : (Lit.int .u32 n).wf = true) : 0 ≤ n ∧ n ≤ 4294967295 := by
 simp [Lit.wf, IntKind.min, IntKind.max, IntKind.signed, IntKind.bits] at h; omega
theorem wf_i64 {n : Int} (h : (Lit.int .i64 n).wf = true) : -9223372036854775808 ≤ n ∧ n ≤ 9223372036854775807 := by
 simp [Lit.wf, IntKind.min, IntKind.max, IntKind.signed, IntKind.bits] at h; omega
theorem wf_u64 {n : Int} (h : (Lit.int .u64 n).wf = true) : 0 ≤ n ∧ n ≤ 18446744073709551615 := by
 simp [Lit.wf, IntKind.min, IntKind.max, IntKind.signed, IntKind.bits] at h; omega
end Go.Lift
