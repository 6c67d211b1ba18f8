/- The lifter, part T: pieces of code, loops, functions. -/
import Derived.Test.YtamnjokpncjbfaaLiftS
import Derived.LoopN
namespace Go.Lift
open Go.RowKit

def eqE : AExit → AExit → Bool
  | .normal, .normal => true
  | .exit a, .exit b => Nat.beq a b
  | .ret, .ret => true
  | _, _ => false

theorem eqE_iff {a b : AExit} (h : eqE a b = true) : a = b := by
  cases a <;> cases b <;> simp only [eqE] at h <;> first | rfl | (cases h; done) | (rw [Nat.eq_of_beq_eq_true h])

@[reducible] def Outs.den : List (AExit × View) → Type
  | [] => Empty
  | x :: r => x.2.den ⊕ Outs.den r

/-- A continuation for each way out. -/
@[reducible] def Outs.K (β : Type) : List (AExit × View) → Type
  | [] => Unit
  | x :: r => (x.2.den → Option β) × Outs.K β r

def outK {β : Type} : (outs : List (AExit × View)) → Outs.K β outs → Kx β
  | [], _, _, _ => none
  | x :: r, ks, e, σ =>
    bif eqE e x.1 then
      match x.2.read σ with
      | some d => ks.1 d
      | none => none
    else outK r ks.2 e σ

def Outs.app {β : Type} : (outs : List (AExit × View)) → Outs.K β outs → Outs.den outs → Option β
  | _ :: _, ks, .inl d => ks.1 d
  | _ :: r, ks, .inr o => Outs.app r ks.2 o

def mkK {β : Type} (k : Kx β) : (outs : List (AExit × View)) → Outs.K β outs
  | [] => ()
  | x :: r => (fun d => k x.1 (x.2.mk' d), mkK k r)

def exitOf : (outs : List (AExit × View)) → Outs.den outs → AExit × St
  | x :: _, .inl d => (x.1, x.2.mk' d)
  | _ :: r, .inr o => exitOf r o

def loopK {β : Type} (v : View) (g : v.den → Option β) (outs : List (AExit × View)) (kk : Outs.K β outs) : Kx β
  | .normal, σ =>
    match v.read σ with
    | some d => g d
    | none => none
  | e, σ => outK outs kk e σ

section
variable {P : Program} {n m : Nat}

/-- A piece of code turns a view's data into another's. -/
structure PieceOk (P : Program) (n m : Nat) (c : Code) (v : View) (outs : List (AExit × View)) (G : {β : Type} → v.den → Outs.K β outs → Option β) : Prop where
  ok : ∀ {β : Type} (d : v.den) (kk : Outs.K β outs) (r : β), G d kk = some r → ∃ o, Outs.app outs kk o = some r ∧
    ∀ (ok0 : Nat → Prop) (base : Nat) (pl : Nat → Option Pl) (a : Act) (w : World), Rel n ok0 base pl (look (v.mk' d).tm) (look (v.mk' d).bl) a w →
      c.wp P (fun e a' w' => e = (exitOf outs o).1.toExit ∧ ∃ pl', Rel n ok0 base pl' (look (exitOf outs o).2.tm) (look (exitOf outs o).2.bl) a' w' ∧ StepM m pl (look (v.mk' d).bl) w pl' (look (exitOf outs o).2.bl) w') a w

def pieceCut (v : View) (outs : List (AExit × View)) (G : {β : Type} → v.den → Outs.K β outs → Option β) : Cut :=
  ⟨fun σ k =>
    match v.read σ with
    | some d => G d (mkK k outs)
    | none => none⟩

theorem app_mkK {β : Type} {k : Kx β} : ∀ {outs : List (AExit × View)} (o : Outs.den outs), Outs.app outs (mkK k outs) o = k (exitOf outs o).1 (exitOf outs o).2
  | [], o => o.elim
  | _ :: _, .inl _ => rfl
  | _ :: r, .inr o => app_mkK (outs := r) o

theorem pieceCut_ok {c : Code} {v : View} {outs : List (AExit × View)} {G : {β : Type} → v.den → Outs.K β outs → Option β} (hv : v.m = m) (h : PieceOk P n m c v outs G) : CutOk P n m c (pieceCut v outs G) := by
  intro β σ k r hr
  simp only [pieceCut] at hr
  split at hr
  · rename_i d hd
    obtain ⟨o, ho, hw⟩ := h.ok d _ r hr
    rw [app_mkK] at ho
    refine ⟨_, _, ho, fun ok0 base pl a w hrel => ?_⟩
    obtain ⟨plv, h1, h2⟩ := View.weaken hd hrel
    rw [hv] at h2
    exact wp_mono' (hw ok0 base plv a w h1) fun e a' w' ⟨he, pl', h3, h4⟩ => ⟨he, pl', h3, h2.trans h4⟩
  · cases hr

theorem outK_some {β : Type} {r : β} {e : AExit} {σ : St} : ∀ {outs : List (AExit × View)} {kk : Outs.K β outs}, (∀ x ∈ outs, x.2.m = m) → outK outs kk e σ = some r →
    ∃ o, Outs.app outs kk o = some r ∧ (exitOf outs o).1 = e ∧ ∀ (ok0 : Nat → Prop) (base : Nat) (pl : Nat → Option Pl) (a : Act) (w : World), Rel n ok0 base pl (look σ.tm) (look σ.bl) a w →
      ∃ plv, Rel n ok0 base plv (look (exitOf outs o).2.tm) (look (exitOf outs o).2.bl) a w ∧ StepM m pl (look σ.bl) w plv (look (exitOf outs o).2.bl) w
  | [], kk, _, h => by simp [outK] at h
  | x :: l, kk, hm, h => by
    simp only [outK] at h
    cases he : eqE e x.1 with
    | true =>
      rw [he, cond_true] at h
      split at h
      · rename_i d hd
        refine ⟨.inl d, h, (eqE_iff he).symm, fun ok0 base pl a w hr => ?_⟩
        have := View.weaken hd hr
        rw [hm x (by simp)] at this
        exact this
      · cases h
    | false =>
      rw [he, cond_false] at h
      obtain ⟨o, h1, h2, h3⟩ := outK_some (fun y hy => hm y (by simp [hy])) h
      exact ⟨.inr o, h1, h2, h3⟩

theorem sim_out {β : Type} {r : β} {c : Code} {σ : St} {outs : List (AExit × View)} {kk : Outs.K β outs} (hm : ∀ x ∈ outs, x.2.m = m) (h : Sim P n m c σ (outK outs kk) r) :
    ∃ o, Outs.app outs kk o = some r ∧ ∀ (ok0 : Nat → Prop) (base : Nat) (pl : Nat → Option Pl) (a : Act) (w : World), Rel n ok0 base pl (look σ.tm) (look σ.bl) a w →
      c.wp P (fun e a' w' => e = (exitOf outs o).1.toExit ∧ ∃ pl', Rel n ok0 base pl' (look (exitOf outs o).2.tm) (look (exitOf outs o).2.bl) a' w' ∧ StepM m pl (look σ.bl) w pl' (look (exitOf outs o).2.bl) w') a w := by
  obtain ⟨e', σ', h1, h2⟩ := h
  obtain ⟨o, h3, h4, h5⟩ := outK_some (n := n) hm h1
  refine ⟨o, h3, fun ok0 base pl a w hr => wp_mono' (h2 ok0 base pl a w hr) fun e a' w' ⟨he, pl', hr', hs'⟩ => ?_⟩
  obtain ⟨plv, h6, h7⟩ := h5 ok0 base pl' a' w' hr'
  exact ⟨by rw [he, h4], plv, h6, hs'.trans h7⟩

theorem outsM {outs : List (AExit × View)} (h : (outs.all fun x => Nat.beq x.2.m m) = true) : ∀ x ∈ outs, x.2.m = m := fun x hx => Nat.eq_of_beq_eq_true (List.all_eq_true.1 h x hx)

/-- A piece, by the evaluator. -/
theorem piece_exec (hmx : P.follows .mixedOrders = true) {X : Ctx} (hT : TOk P X.T) (hΓ : ΓOk P X.Γ) {Λ : Nat → Option Cut} {p : Nat} {c : Code} {v : View} {outs : List (AExit × View)} {G : {β : Type} → v.den → Outs.K β outs → Option β}
    (hmB : (outs.all fun x => Nat.beq x.2.m m) = true) (hΛ : ∀ q cut, Λ q = some cut → ∀ c' ∈ find q p c, CutOk P n m c' cut)
    (h : ∀ {β : Type} (d : v.den) (kk : Outs.K β outs) (r : β), G d kk = some r → exec X n Λ p c (v.mk' d) (outK outs kk) = some r) : PieceOk P n m c v outs G :=
  ⟨fun d kk r hr => sim_out (outsM hmB) (exec_sound hmx hT hΓ hΛ (h d kk r hr))⟩

/-- A loop: 'i' bounds the rounds. -/
theorem piece_loop (hmx : P.follows .mixedOrders = true) {X : Ctx} (hT : TOk P X.T) (hΓ : ΓOk P X.Γ) {Λ : Nat → Option Cut} {p : Nat} {c : Code} {v : View} {outs : List (AExit × View)} {G : Nat → {β : Type} → v.den → Outs.K β outs → Option β}
    (hv : v.m = m) (hmB : (outs.all fun x => Nat.beq x.2.m m) = true) (hΛ : ∀ q cut, Λ q = some cut → ∀ c' ∈ find q p c, CutOk P n m c' cut)
    (h0 : ∀ {β : Type} (d : v.den) (kk : Outs.K β outs), G 0 d kk = none)
    (hs : ∀ (i : Nat) {β : Type} (d : v.den) (kk : Outs.K β outs) (r : β), G (i + 1) d kk = some r → exec X n Λ p c (v.mk' d) (loopK v (fun d' => G i d' kk) outs kk) = some r) :
    ∀ i, PieceOk P n m (.loop c) v outs (G i) := by
  have hm := outsM hmB
  have key : ∀ (i : Nat) {β : Type} (d : v.den) (kk : Outs.K β outs) (r : β), G i d kk = some r → ∃ o, Outs.app outs kk o = some r ∧
      ∀ (ok0 : Nat → Prop) (base : Nat) (pl : Nat → Option Pl) (a : Act) (w : World), Rel n ok0 base pl (look (v.mk' d).tm) (look (v.mk' d).bl) a w →
        Code.rounds P c (fun e a' w' => e = (exitOf outs o).1.toExit ∧ ∃ pl', Rel n ok0 base pl' (look (exitOf outs o).2.tm) (look (exitOf outs o).2.bl) a' w' ∧ StepM m pl (look (v.mk' d).bl) w pl' (look (exitOf outs o).2.bl) w') i a w := by
    intro i
    induction i with
    | zero => intro β d kk r h; rw [h0] at h; cases h
    | succ i ih =>
      intro β d kk r h
      obtain ⟨e', σ', h1, h2⟩ := exec_sound hmx hT hΓ hΛ (hs i d kk r h)
      have hb : (e' = .normal ∧ ∃ d', v.read σ' = some d' ∧ G i d' kk = some r) ∨ (e' ≠ .normal ∧ outK outs kk e' σ' = some r) := by
        cases e' with
        | normal =>
          simp only [loopK] at h1
          split at h1
          · rename_i d' hd; exact .inl ⟨rfl, d', hd, h1⟩
          · cases h1
        | exit id => exact .inr ⟨fun h => (by cases h), h1⟩
        | ret => exact .inr ⟨fun h => (by cases h), h1⟩
      rcases hb with ⟨he, d', hd, hg⟩ | ⟨he, hk⟩
      · subst he
        obtain ⟨o, ho, hw⟩ := ih d' kk r hg
        refine ⟨o, ho, fun ok0 base pl a w hr => ?_⟩
        rw [rounds_succ]
        refine wp_mono' (h2 ok0 base pl a w hr) fun e a' w' ⟨he, pl', hr', hs'⟩ => ?_
        subst he
        obtain ⟨plv, h6, h7⟩ := View.weaken hd hr'
        rw [hv] at h7
        have hmono : ∀ (j : Nat) {Q Q' : Exit → Act → World → Prop} {a : Act} {w : World}, (∀ e a w, Q e a w → Q' e a w) → Code.rounds P c Q j a w → Code.rounds P c Q' j a w := by
          intro j
          induction j with
          | zero => intro _ _ _ _ _ h; exact h
          | succ j ihj =>
            intro Q Q' a w hq h
            rw [rounds_succ] at h ⊢
            refine wp_mono' h fun e a w h => ?_
            cases e with
            | normal => exact ihj hq h
            | _ => exact hq _ _ _ h
        exact hmono i (fun e a2 w2 ⟨q1, pl2, q2, q3⟩ => ⟨q1, pl2, q2, (hs'.trans h7).trans q3⟩) (hw ok0 base plv a' w' h6)
      · obtain ⟨o, h3, h4, h5⟩ := outK_some (n := n) hm hk
        refine ⟨o, h3, fun ok0 base pl a w hr => ?_⟩
        rw [rounds_succ]
        refine wp_mono' (h2 ok0 base pl a w hr) fun e a' w' ⟨he', pl', hr', hs'⟩ => ?_
        obtain ⟨plv, h6, h7⟩ := h5 ok0 base pl' a' w' hr'
        subst he'
        have hQ : e'.toExit = (exitOf outs o).1.toExit ∧ ∃ pl', Rel n ok0 base pl' (look (exitOf outs o).2.tm) (look (exitOf outs o).2.bl) a' w' ∧ StepM m pl (look (v.mk' d).bl) w pl' (look (exitOf outs o).2.bl) w' :=
          ⟨by rw [h4], plv, h6, hs'.trans h7⟩
        cases e' with
        | normal => exact absurd rfl he
        | exit id => exact hQ
        | ret => exact hQ
  refine fun i => ⟨fun {β} d kk r h => ?_⟩
  obtain ⟨o, ho, hw⟩ := key i d kk r h
  exact ⟨o, ho, fun ok0 base pl a w hr => wp_loop_rounds i (hw ok0 base pl a w hr)⟩

/-! ### Functions -/
def vIn (S : Spec) : View := { m := S.ins.length, slots := upFrom 0 S.params.length, params := S.params, ins := S.ins }
/-- A result: a temporary's value, or what a cell holds at the end. -/
inductive RS where
  | tmp (t : Nat)
  | cell (a : Nat) (t : TypeId)

def RS.toVar : RS → ResultVar
  | .tmp t => .tmp t
  | .cell a t => .cell a t

def resV1 (T : TypeId → Option TI) (tm : List (Nat × V)) (bl : List (Nat × Blk)) : RS → Option V
  | .tmp t => look tm t
  | .cell a t =>
    match T t with
    | none => none
    | some ti =>
      bif ti.agg || Nat.beq ti.size 1 then
        match look tm a with
        | some (.c (.ptr b o)) =>
          match look bl b with
          | some (.cells _ cs) =>
            match sub cs o ti.size with
            | some rc => some (V.mk ti.agg rc)
            | none => none
          | _ => none
        | _ => none
      else none

def resVs (T : TypeId → Option TI) (tm : List (Nat × V)) (bl : List (Nat × Blk)) : List RS → Option (List V)
  | [] => some []
  | x :: r =>
    match resV1 T tm bl x with
    | none => none
    | some v =>
      match resVs T tm bl r with
      | none => none
      | some vs => some (v :: vs)

def numV : Nat → List V → List (Nat × V)
  | _, [] => []
  | i, v :: r => (i, v) :: numV (i + 1) r

def vRes (S : Spec) : View := { m := S.ins.length, slots := upFrom 0 S.res.length, params := S.res, ins := S.outs }

def retRun {β : Type} (T : TypeId → Option TI) (S : Spec) (rs : List RS) (k : ST.dens S.res × BT.dens S.outs → Option β) (σ : St) : Option β :=
  match resVs T σ.tm σ.bl rs with
  | none => none
  | some vs =>
    match (vRes S).read ⟨numV 0 vs, σ.bl, σ.nx⟩ with
    | some y => k y
    | none => none

def retK {β : Type} (T : TypeId → Option TI) (S : Spec) (rs : List RS) (k : ST.dens S.res × BT.dens S.outs → Option β) : Kx β
  | .exit _, _ => none
  | .normal, σ => retRun T S rs k σ
  | .ret, σ => retRun T S rs k σ

theorem mkT_upFrom_rep {E : Env} {ids : List Nat} {tmps : Array Value} : ∀ {l : List (Bool × List CT)} {x : ST.dens l} {us : List Value} {s : Nat}, TReps E (mkS ids l x) us → (∀ j, j < us.length → tmps.getD (s + j) undef = us.getD j undef) →
    ∀ t v, look (mkT ids (upFrom s l.length) l x) t = some v → VRep E v (tmps.getD t undef)
  | [], _, _, s, _, _, t, v, h => by simp [mkT, upFrom, look] at h
  | p :: l, x, us, s, hr, hg, t, v, h => by
    obtain ⟨u, us', e, h1, h2⟩ := hr
    subst e
    simp only [List.length_cons, upFrom, mkT, look] at h
    by_cases hts : t = s
    · subst hts
      rw [beq_self, cond_true, Option.some.injEq] at h
      subst h
      have := hg 0 (by simp)
      simp only [Nat.add_zero, List.getD_cons_zero] at this
      rw [this]
      exact VRep.mk h1
    · rw [beq_ne hts, cond_false] at h
      refine mkT_upFrom_rep h2 (fun j hj => ?_) t v h
      have := hg (j + 1) (by simpa using hj)
      rw [show s + 1 + j = s + (j + 1) by omega, this]
      simp

theorem TReps.length {E : Env} : ∀ {ts : List (Bool × List C)} {vs : List Value}, TReps E ts vs → vs.length = ts.length
  | [], vs, h => by simp only [TReps] at h; simp [h]
  | _ :: ts, vs, ⟨_, _, e, _, h⟩ => by rw [e, List.length_cons, List.length_cons, TReps.length h]

theorem length_mkS {ids : List Nat} : ∀ {l : List (Bool × List CT)} {x : ST.dens l}, (mkS ids l x).length = l.length
  | [], _ => rfl
  | _ :: l, x => by simp [mkS, length_mkS (l := l)]

def CT.count : List CT → Nat
  | [] => 0
  | .data τ :: r => τ.size + CT.count r
  | _ :: r => CT.count r + 1

def ST.tidy : List (Bool × List CT) → Bool
  | [] => true
  | p :: r => (p.1 || Nat.beq (CT.count p.2) 1) && ST.tidy r

theorem length_mkC {ids : List Nat} : ∀ {l : List CT} {x : CT.dens l}, (mkC ids l x).length = CT.count l
  | [], _ => rfl
  | .data τ :: l, x => by simp [mkC, CT.count, length_cells, length_mkC (l := l)]
  | .ptr _ _ :: l, x => by simp [mkC, CT.count, length_mkC (l := l)]
  | .rowh _ :: l, x => by simp [mkC, CT.count, length_mkC (l := l)]
  | .fn _ _ :: l, x => by simp [mkC, CT.count, length_mkC (l := l)]
  | .maph _ :: l, x => by simp [mkC, CT.count, length_mkC (l := l)]
  | .math _ :: l, x => by simp [mkC, CT.count, length_mkC (l := l)]
  | .nilc :: l, x => by simp [mkC, CT.count, length_mkC (l := l)]
  | .lsome _ :: l, x => by simp [mkC, CT.count, length_mkC (l := l)]
  | .junk :: l, x => by simp [mkC, CT.count, length_mkC (l := l)]

theorem look_mkT_mem {ids : List Nat} : ∀ {slots : List Nat} {l : List (Bool × List CT)} {x : ST.dens l} {t : Nat} {v : V}, look (mkT ids slots l x) t = some v → t ∈ slots
  | [], _, _, t, v, h => by simp [mkT, look] at h
  | _ :: _, [], _, t, v, h => by simp [mkT, look] at h
  | s :: ss, p :: l, x, t, v, h => by
    simp only [mkT, look] at h
    by_cases hts : t = s
    · simp [hts]
    · rw [beq_ne hts, cond_false] at h
      exact List.mem_cons_of_mem _ (look_mkT_mem h)

/-- The values of the result temporaries. -/
theorem mkT_back {E : Env} {ids : List Nat} {tmps : Array Value} : ∀ {slots : List Nat} {l : List (Bool × List CT)} {x : ST.dens l}, slots.length = l.length → (∀ t v, look (mkT ids slots l x) t = some v → VRep E v (tmps.getD t undef)) → slots.Nodup → ST.tidy l = true →
    TReps E (mkS ids l x) (slots.map fun t => tmps.getD t undef)
  | [], [], _, _, _, _, _ => rfl
  | [], _ :: _, _, hl, _, _, _ => by simp at hl
  | _ :: _, [], _, hl, _, _, _ => by simp at hl
  | s :: ss, p :: l, x, hl, h, hn, ht => by
    obtain ⟨t1, t2⟩ := andB (show ((p.1 || Nat.beq (CT.count p.2) 1) && ST.tidy l) = true from ht)
    obtain ⟨n1, n2⟩ := List.nodup_cons.1 hn
    have h1 := h s (V.mk p.1 (mkC ids p.2 x.1)) (by simp [mkT, look])
    refine ⟨_, _, rfl, ?_, mkT_back (by simpa using hl) (fun t v hv => h t v ?_) n2 t2⟩
    · cases ha : p.1 with
      | true =>
        rw [ha] at h1
        exact h1
      | false =>
        rw [ha] at h1 t1
        simp only [Bool.false_or] at t1
        have hlen := length_mkC (ids := ids) (l := p.2) (x := x.1)
        rw [Nat.eq_of_beq_eq_true t1] at hlen
        show SRep E false (mkC ids p.2 x.1) _
        match hc : mkC ids p.2 x.1, hlen with
        | [y], _ =>
          rw [hc] at h1
          exact ⟨[_], ⟨_, _, rfl, h1, rfl⟩, by simp⟩
    · have : t ∈ ss := look_mkT_mem hv
      have hne : t ≠ s := fun e => n1 (e ▸ this)
      rw [mkT, look, beq_ne hne, cond_false]
      exact hv

theorem VReps.length {E : Env} : ∀ {vs : List V} {us : List Value}, VReps E vs us → us.length = vs.length
  | [], us, h => by simp only [VReps] at h; simp [h]
  | _ :: vs, us, ⟨_, _, e, _, h⟩ => by rw [e, List.length_cons, List.length_cons, VReps.length h]

theorem VReps.get {E : Env} : ∀ {vs : List V} {us : List Value} {s t : Nat} {v : V}, VReps E vs us → look (numV s vs) t = some v → s ≤ t ∧ ∃ u, us[t - s]? = some u ∧ VRep E v u
  | [], us, s, t, v, h, hl => by simp [numV, look] at hl
  | x :: vs, us, s, t, v, ⟨u, us', e, h1, h2⟩, hl => by
    simp only [numV, look] at hl
    by_cases hts : t = s
    · subst hts
      rw [beq_self, cond_true, Option.some.injEq] at hl
      subst hl
      exact ⟨Nat.le_refl _, u, by simp [e], h1⟩
    · rw [beq_ne hts, cond_false] at hl
      obtain ⟨h3, u', h4, h5⟩ := VReps.get h2 hl
      refine ⟨by omega, u', ?_, h5⟩
      have h6 : t - s = (t - (s + 1)) + 1 := by omega
      rw [e, h6, List.getElem?_cons_succ]
      exact h4

theorem resV1_rep {P : Program} {n : Nat} {T : TypeId → Option TI} (hT : TOk P T) {tm : List (Nat × V)} {bl : List (Nat × Blk)} {x : RS} {v : V} (hv : resV1 T tm bl x = some v) {ok0 : Nat → Prop} {base : Nat} {pl : Nat → Option Pl} {a : Act} {w : World}
    (hr : Rel n ok0 base pl (look tm) (look bl) a w) : ∃ val, (match x.toVar with | .tmp t => (pure (a.tmps.getD t undef) : Sem Value) | .cell b t => do loadVar t (← asAddr (a.tmps.getD b undef))).run P w = .ok val w ∧ VRep (envOf ok0 base pl (look bl) w) v val := by
  cases x with
  | tmp t =>
    exact ⟨_, by simp only [RS.toVar, Sem.run_pure], hr.tmps t v hv⟩
  | cell b t =>
    simp only [resV1] at hv
    split at hv
    · cases hv
    rename_i ti ht
    obtain ⟨i, d, z, f⟩ := hT.facts ht
    cases h1 : (ti.agg || Nat.beq ti.size 1) with
    | false => rw [h1] at hv; cases hv
    | true =>
      have h1' : ti.agg = true ∨ ti.size = 1 := by
        rcases (Bool.or_eq_true _ _).mp h1 with h | h
        · exact .inl h
        · exact .inr (Nat.eq_of_beq_eq_true h)
      simp only [h1, cond_true] at hv
      split at hv
      · rename_i b' o hb
        split at hv
        · rename_i t0 cs hbl
          split at hv
          · rename_i rc hsub
            simp only [Option.some.injEq] at hv
            subst hv
            obtain ⟨g, hg, hav⟩ := hr.tmps b _ hb
            obtain ⟨p, hp, hB⟩ := hr.rel.blks b' _ hbl
            have : p = .cells g := by have h2 : pl b' = some (.cells g) := hg; rw [hp] at h2; injection h2
            subst this
            obtain ⟨vs, hh, hcs⟩ := hB
            obtain ⟨s1, s2, s3⟩ := sub_rep hcs hsub
            obtain ⟨val, hv1, hv2⟩ := run_loadVar_rep f s2 h1' (fun j u hj => cell_of_cells hh hj) s1
            refine ⟨val, ?_, hv2⟩
            simp only [RS.toVar, hav, asAddr, pure_bind]
            exact hv1
          · cases hv
        · cases hv
      · cases hv

theorem results_rep {P : Program} {n : Nat} {T : TypeId → Option TI} (hT : TOk P T) {fn : Func} {rs : List RS} (h : fn.results.toList = rs.map RS.toVar) {tm : List (Nat × V)} {bl : List (Nat × Blk)} {vs : List V} (hv : resVs T tm bl rs = some vs)
    {ok0 : Nat → Prop} {base : Nat} {pl : Nat → Option Pl} {a : Act} {w : World} (hr : Rel n ok0 base pl (look tm) (look bl) a w) : ∃ vals, (results fn a.tmps).run P w = .ok (retVal vals) w ∧ VReps (envOf ok0 base pl (look bl) w) vs vals := by
  have h' : fn.results = (rs.map RS.toVar).toArray := by
    apply Array.ext'; simpa using h
  let F : ResultVar → Sem Value := fun x => match x with | .tmp t => pure (a.tmps.getD t undef) | .cell b t => do loadVar t (← asAddr (a.tmps.getD b undef))
  have hl : ∀ (rs : List RS) (vs : List V), resVs T tm bl rs = some vs → ∃ vals, ((rs.map RS.toVar).mapM F).run P w = .ok vals w ∧ VReps (envOf ok0 base pl (look bl) w) vs vals := by
    intro rs
    induction rs with
    | nil => intro vs h; simp only [resVs, Option.some.injEq] at h; subst h; exact ⟨[], by simp, rfl⟩
    | cons x rs ih =>
      intro vs h
      simp only [resVs] at h
      split at h
      · cases h
      · rename_i v hv1
        split at h
        · cases h
        · rename_i vs' hvs'
          simp only [Option.some.injEq] at h
          subst h
          obtain ⟨val, h1, h2⟩ := resV1_rep hT hv1 hr
          obtain ⟨vals, h3, h4⟩ := ih vs' hvs'
          refine ⟨val :: vals, ?_, val, vals, rfl, h2, h4⟩
          rw [List.map_cons, List.mapM_cons]
          simp only [Sem.run_bind]
          have h1' : (F x.toVar).run P w = .ok val w := h1
          rw [h1']
          simp only [Result.andThen_ok]
          rw [h3]
          simp
  obtain ⟨vals, h1, h2⟩ := hl rs vs hv
  refine ⟨vals, ?_, h2⟩
  have hm : (fn.results.mapM F).run P w = .ok vals.toArray w := by
    rw [h', List.mapM_toArray, map_eq_pure_bind, Sem.run_bind, h1]
    simp only [Result.andThen_ok, Sem.run_pure]
  have key : (results fn a.tmps).run P w = ((fn.results.mapM F) >>= fun vs => pure (if h : vs.size = 1 then vs[0] else .tuple vs)).run P w := rfl
  rw [key, Sem.run_bind, hm]
  simp only [Result.andThen_ok, Sem.run_pure]
  congr 1
  cases vals with
  | nil => simp [retVal]
  | cons s ss =>
    cases ss with
    | nil => simp [retVal]
    | cons _ _ => simp [retVal]

theorem map_upFrom_getD {us : List Value} : ∀ {l s : Nat} {pre : List Value}, pre.length = s → us.length = l → ((upFrom s l).map fun t => (pre ++ us).toArray.getD t undef) = us := by
  induction us with
  | nil => intro l s pre hp hl; simp at hl; subst hl; rfl
  | cons u us ih =>
    intro l s pre hp hl
    cases l with
    | zero => simp at hl
    | succ l =>
      simp only [upFrom, List.map_cons, List.cons.injEq]
      refine ⟨?_, ?_⟩
      · simp [Array.getD_eq_getD_getElem?, ← hp]
      · have := ih (l := l) (s := s + 1) (pre := pre ++ [u]) (by simp [hp]) (by simpa using hl)
        simpa [List.append_assoc] using this

theorem lookAll_length {tm : List (Nat × V)} : ∀ {l : List Nat} {vs : List V}, lookAll tm l = some vs → vs.length = l.length
  | [], vs, h => by simp only [lookAll, Option.some.injEq] at h; subst h; rfl
  | t :: l, vs, h => by
    simp only [lookAll] at h
    split at h
    · split at h
      · rename_i vs' hvs
        simp only [Option.some.injEq] at h
        subst h
        simp [lookAll_length hvs]
      · cases h
    · cases h

theorem spec_exec {P : Program} (hmx : P.follows .mixedOrders = true) {X : Ctx} (hT : TOk P X.T) (hΓ : ΓOk P X.Γ) {Λ : Nat → Option Cut} {S : Spec} {f : FuncId} {fn : Func} {c : Code} {rs : List RS}
    (hf : P.funcs[f]? = some fn) (hname : (fn.name == "runtime.NumGoroutine") = false) (hb : fn.body = some c) (hres : fn.results.toList = rs.map RS.toVar)
    (hok : (Nat.beq rs.length S.res.length && (ST.tidy S.res && Nat.ble S.params.length fn.ntmps)) = true)
    (hΛ : ∀ q cut, Λ q = some cut → ∀ c' ∈ find q 1 c, CutOk P fn.ntmps S.ins.length c' cut)
    (h : ∀ {β : Type} (x : ST.dens S.params × BT.dens S.ins) (k : ST.dens S.res × BT.dens S.outs → Option β) (r : β), S.run x k = some r →
      exec X fn.ntmps Λ 1 c ((vIn S).mk' x) (retK X.T S rs k) = some r) : SpecOk P f S := by
  obtain ⟨o2, hok⟩ := andB hok
  obtain ⟨o3, o4⟩ := andB hok
  have o2 := Nat.eq_of_beq_eq_true o2
  have o4 := Nat.le_of_ble_eq_true o4
  refine ⟨⟨fn, hf, hname, by rw [hb]; rfl⟩, fun x k r hr => ?_⟩
  obtain ⟨e', σ', hk, hw⟩ := exec_sound hmx hT hΓ (m := S.ins.length) hΛ (h x k r hr)
  have hk' : (e' = .normal ∨ e' = .ret) ∧ retRun X.T S rs k σ' = some r := by
    cases e' with
    | normal => exact ⟨.inl rfl, hk⟩
    | ret => exact ⟨.inr rfl, hk⟩
    | exit id => cases hk
  obtain ⟨he', hk⟩ := hk'
  unfold retRun at hk
  split at hk
  · cases hk
  rename_i vs hvs
  split at hk
  · rename_i y hy
    refine ⟨y, hk, fun ok0 pl w args hrel hargs => ?_⟩
    have hlen : args.length = S.params.length := by rw [TReps.length hargs, length_mkS]
    refine calls_of_wp hf hb ?_
    have hstart : Rel fn.ntmps ok0 w.heap.size pl (look ((vIn S).mk' x).tm) (look ((vIn S).mk' x).bl) { tmps := args.toArray ++ Array.replicate (fn.ntmps - args.toArray.size) undef, defers := [] } w := by
      have ebl : look ((vIn S).mk' x).bl = fnBl (mkB (upFrom 0 S.ins.length) S.ins x.2) := look_mk_bl (vIn S) x
      rw [ebl]
      refine ⟨rfl, by simp; omega, fun t v ht => ?_, hrel⟩
      refine mkT_upFrom_rep (s := 0) hargs (fun j hj => ?_) t v ht
      simp only [Nat.zero_add, Array.getD_eq_getD_getElem?]
      rw [Array.getElem?_append_left (by simpa using hj)]
      simp [List.getD]
    refine wp_mono' (hw ok0 w.heap.size pl _ w hstart) fun e a' w' ⟨he, pl', hr', hs'⟩ => ?_
    obtain ⟨vals, hrun, hreps⟩ := results_rep hT hres hvs hr'
    -- the results as temporaries of a frame of their own
    have hsyn : Rel vals.length ok0 w.heap.size pl' (look (numV 0 vs)) (look σ'.bl) { tmps := vals.toArray, defers := [] } w' := by
      refine ⟨rfl, by simp, fun t v ht => ?_, hr'.rel⟩
      obtain ⟨_, u, h1, h2⟩ := VReps.get hreps ht
      simp only [Nat.sub_zero] at h1
      simp only [Array.getD_eq_getD_getElem?, List.getElem?_toArray, h1, Option.getD_some]
      exact h2
    obtain ⟨plv, hv1, hv2⟩ := View.weaken (σ := ⟨numV 0 vs, σ'.bl, σ'.nx⟩) hy hsyn
    have hvlen : vals.length = S.res.length := by
      have : ∃ us, lookAll (numV 0 vs) (upFrom 0 S.res.length) = some us ∧ True := by
        unfold View.read at hy
        split at hy
        · cases hy
        · rename_i us hus; exact ⟨us, hus, trivial⟩
      rw [VReps.length hreps]
      have hres' : ∀ (rs : List RS) (vs : List V), resVs X.T σ'.tm σ'.bl rs = some vs → vs.length = rs.length := by
        intro rs
        induction rs with
        | nil => intro vs h; simp only [resVs, Option.some.injEq] at h; subst h; rfl
        | cons x rs ih =>
          intro vs h
          simp only [resVs] at h
          split at h
          · cases h
          · split at h
            · cases h
            · rename_i vs' hvs'
              simp only [Option.some.injEq] at h
              subst h
              simp [ih vs' hvs']
      rw [hres' rs vs hvs, o2]
    have ebl : look ((vIn S).mk' x).bl = fnBl (mkB (upFrom 0 S.ins.length) S.ins x.2) := look_mk_bl (vIn S) x
    have ebo : look ((vRes S).mk' y).bl = fnBl (mkB (upFrom 0 S.outs.length) S.outs y.2) := look_mk_bl (vRes S) y
    rw [ebo] at hv1 hv2
    rw [ebl] at hs'
    have hback := mkT_back (ids := upFrom 0 S.outs.length) (l := S.res) (x := y.1) length_upFrom hv1.tmps nodup_upFrom o3
    have hvals : ((upFrom 0 S.res.length).map fun t => vals.toArray.getD t undef) = vals := by
      have := map_upFrom_getD (us := vals) (l := S.res.length) (s := 0) (pre := []) rfl hvlen
      simpa using this
    have hpost : a'.defers = [] ∧ ∃ v, (results fn a'.tmps).run P w' = .ok v w' ∧ (∃ vals pl', Ending.returned v = .returned (retVal vals) ∧ RelB ok0 w.heap.size pl' (fnBl (mkB (upFrom 0 S.outs.length) S.outs y.2)) w' ∧
          StepM S.ins.length pl (fnBl (mkB (upFrom 0 S.ins.length) S.ins x.2)) w pl' (fnBl (mkB (upFrom 0 S.outs.length) S.outs y.2)) w' ∧
          TReps (envOf ok0 w.heap.size pl' (fnBl (mkB (upFrom 0 S.outs.length) S.outs y.2)) w') (mkS (upFrom 0 S.outs.length) S.res y.1) vals) := by
      refine ⟨hr'.defers, _, hrun, vals, plv, rfl, hv1.rel, hs'.trans hv2, ?_⟩
      rw [hvals] at hback
      exact hback
    rcases he' with e1 | e1 <;> rw [e1] at he <;> subst he <;> exact hpost
  · cases hk

theorem SpecOk.weaker {P : Program} {f : FuncId} {S : Spec} (h : SpecOk P f S) {run : {β : Type} → ST.dens S.params × BT.dens S.ins → (ST.dens S.res × BT.dens S.outs → Option β) → Option β}
    (hr : ∀ {β : Type} (x : ST.dens S.params × BT.dens S.ins) (k : ST.dens S.res × BT.dens S.outs → Option β) (r : β), run x k = some r → S.run x k = some r) :
    SpecOk P f { params := S.params, ins := S.ins, res := S.res, outs := S.outs, run } :=
  ⟨h.fn, fun x k r hrun => h.ok x k r (hr x k r hrun)⟩
end
end Go.Lift
